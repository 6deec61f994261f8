/- Pc14 · Pc12 · Pc15 · Pc16 · Pa5 · Pd2 · Pd4 · Pd3 · Pd1 · Pd5 · Pe1 · Pa6 · K1 · K2 -/
import Derived.Test.YtakbenifinnpfaaGreatDoorYY2
import Derived.Test.YtakbenifinnpfaaGreatDoorYY3
import Derived.Deep.RegionLaw
import Derived.Test.YtakbenifinnpfaaGreatDoorYY1
import Derived.WalkKit
import Derived.WalkSpells
import Derived.WalkLawsBesides
import Derived.Lib.Hide
import Derived.Lib.Strings
import Derived.Test.YtakbenifinnpfaaGreatDoorProg
import Derived.Deep.QuietTactic
import Derived.BigQuiet
import Derived.Lib.Bytes2
import Derived.RangeFuncNested
import Derived.RangeFuncBound
import Derived.RangeFuncCalls
import Derived.RangeFuncLeaves
import Derived.Shelf.Abstract
import Derived.Shelf.RegionOpen
import Derived.OwnWalkIn
import Derived.TacticsInMore
import Derived.LoopNIn
import Derived.LoopIn
import Derived.Deep.RegionWith
import Derived.WalkSmall
import Derived.Outline
import Derived.Deep.DeepCutAuto
import Derived.Lib.TrimByte
import Derived.Lib.IndexLaws
import Derived.Laws.RangeAny
import Derived.Lib.IndexAny
import Derived.OneCell
import Derived.Laws.Rows
import Derived.RegionTactic
import Derived.BigRegion
import Derived.Laws.EntriesVeiled
import Derived.RegionIn
import Derived.Lib.TrimUEq
set_option linter.unusedSimpArgs false
set_option linter.unusedVariables false
set_option maxRecDepth 100000
set_option maxHeartbeats 64000000
namespace Go.Proofs.YtakbenifinnpfaaGreatDoor
open Go.RowKit Go.Sub
attribute [local go_sem] Instr.field asAgg
structure StH(R:POps)(w wr:World)(B:Nat)(q:Option Addr)(c:Nat)(L:List PTok)(f:Nat)(r:PRes)(p:PSt)(t:ByteArray)(l:List qb)(us:List Value)(pv:Option Addr)(cv f':Nat)(ks:List Fact):Prop where
 run:runP R L f' (.strL p (.mk 6 t l))=some r
 fuel:f'≤f
 fr:Fr (fun _=>False) w wr [⟨w.heap.size,78,[.slice q L.length c,.int .i64 (p.1:Int),.bool p.2]⟩,⟨w.heap.size+1,78,[.slice none 0 0,.int .i64 0,.bool false]⟩,⟨w.heap.size+1+1,24,[.int .i64 0,.string ⟨#[]⟩,.slice none 0 0]⟩,⟨B,24,[.int .i64 6,.string t,.slice pv l.length cv]⟩] [rowN (.slice pv l.length cv) l us] ks
 kn:KN l us ks
 len:l.length≤1000000000
def qaV(p:PSt)(n:Nat):Nat:=if p.2=true then 0 else 1+(n-p.1)
theorem qkJ{L:List PTok}{p q:PSt}{k:Int}(h:oneP L p k=some q):q.2=true∨(p.2=false∧p.1<L.length∧q=(p.1+1,false)):=by
 unfold oneP qcN at h
 obtain⟨⟨q',s⟩,hk,rfl⟩:=Option.map_eq_some_iff.1 h
 split at hk
 ·obtain⟨rfl,rfl⟩:=Prod.mk.inj (Option.some.inj hk)
  exact .inl rfl
 ·rw[if_pos (Nat.zero_le _)] at hk
  obtain⟨x,hx,e⟩:=Option.map_eq_some_iff.1 hk
  obtain⟨rfl,_⟩:=Prod.mk.inj e
  cases hp:p.2 with
  |true=>
   unfold qs at hx
   rw[if_pos hp] at hx
   obtain rfl:=Option.some.inj hx
   exact .inl hp
  |false=>exact .inr ⟨rfl,qbK hx hp⟩
theorem str_fmt{R:POps}{q:Option Addr}{c:Nat}{L:List PTok}{f:Nat}(ih:PAll R q c L (f+1))(hl:L.length≤1000000000)(p p0 p1:PSt)(r:PRes)(k12:(tokP L p).1=12)(h0:qs L p=some p0)(h1:oneP L p0 7=some p1)(hr:runP R L f (.strL p1 (.mk 6 (tokP L p).2 []))=some r):qn q c L (.str p) r:=by
 intro w h
 have H0:=qh (qD w q c L p)
 have QT:=qh (fun U (hU:Below w.heap.size w U)=>qu q c L p U (h.below hU))
 have IH:=qh ih
 have HR:=qh hr
 have HP:=qh h
 have QN:=qh (fun U (hU:Below w.heap.size w U)=>qq q c L p p0 U hl h0)
 have Q7:=qh (fun U (hU:Below w.heap.size w U)=>qbf q c L p0 7 p1 U (h.below hU) h1)
 clear h ih hr h0 h1
 generalize tokP L p=tok at*
 obtain⟨tk,tt0⟩:=tok
 dsimp only at k12 QT HR
 subst k12
 obtain⟨at',bad⟩:=p
 obtain⟨at0,bad0⟩:=p0
 obtain⟨at1,bad1⟩:=p1
 go_enter Tryz.func95,Tryz.ntmps95
 go_upto_region 2 with(fail)
 obtain⟨w1,hW,hj⟩:=qd (by have hx:=H0.out.lay [.int .i64 6,.string ⟨#[]⟩,.slice none 0 0] 24;rw[World.size_alloc,World.size_alloc,World.size_alloc] at hx;exact hx)
 rewrite[←hW]
 (try simp only[nn] at hj)
 have H1:=qh hj
 clear hj hW H0
 replace c_a:=(H1.out).ccCCCC
 go_upto_region 4 with(first|(go_at_call 93;with_reducible refine fx QT H1 ?_;clear H1;intro w2 H2;replace c_a:=(H2.out).ccCCCC)|(go_at_call 93;with_reducible refine fx QT H2 ?_;clear H2;intro w3 H3;replace c_a:=(H3.out).ccCCCC))
 obtain⟨w4,hW,hj⟩:=qd (H3.out.set 3 1 rfl (.string tt0))
 rewrite[←hW]
 (try simp only[nn] at hj)
 have H4:=qh hj
 clear hj hW H3 QT
 replace c_a:=(H4.out).ccCCCC
 go_upto_region 5 with(go_at_call 94;with_reducible refine fx QN H4 ?_;clear QN H4;intro w5 H5;replace c_a:=(H5.out).ccCCCC)
 obtain⟨w6,hW,H6⟩:=ab3 H5 0 (.slice q L.length c) (.int .i64 (at0:Int)) (.bool bad0) rfl;rewrite[←hW];(try simp only[nn] at H6);clear hW H5
 replace c_a:=(H6.out).ccCCCC
 go_wp2_with(go_at_call 117;with_reducible refine fx Q7 H6 ?_;clear Q7 H6;intro w7 H7;replace c_a:=(H7.out).ccCCCC)
 have h8:=Fr.set3 (x:=.slice q L.length c) (y:=.int .i64 (at1:Int)) (z:=.bool bad1) H7.out 0 rfl
 (try simp only[nn] at h8)
 have H8:=qh (h8.rowNil 24 3)
 clear h8 H7
 generalize w.heap.size+1+1+1=B at*
 go_loopw [] (fun wr=>∃(f':Nat) (p:PSt) (l:List qb) (us:List Value) (pv:Option Addr) (cv:Nat) (ks:List Fact),Hid (StH R w wr B q c L f r p tt0 l us pv cv f' ks)) (fun wr=>qd0 wr w.heap.size L.length)
 case atStart=>exact⟨f,(at1,bad1),[],[],none,0,_,qh ⟨HR.out,Nat.le_refl _,H8.out,KN.nil _,Nat.zero_le _⟩⟩
 case round=>
  clear HR H8
  obtain⟨f',p,l,us,pv,cv,ks,HH⟩:=hrel
  obtain⟨g,rfl⟩:∃g,f'=g+1:=by
   cases f' with
   |zero=>have:=HH.out.run;rw[runP] at this;cases this
   |succ g=>exact⟨g,rfl⟩
  have hrun:=HH.out.run
  have hgf:=HH.out.fuel
  rw[runP] at hrun
  have H1:=qh HH.out.fr
  have KN1:=qh HH.out.kn
  have HLEN:=qh HH.out.kn.1
  obtain⟨at2,bad2⟩:=p
  by_cases hbad:bad2=true
  ·subst hbad
   rw[if_pos (.inl rfl)] at hrun
   obtain⟨p9,hp9,hr9⟩:=Option.bind_eq_some_iff.1 hrun
   have er:=(Option.some.inj hr9).symm
   subst er
   have QD:=qh (fun U (hU:Below w.heap.size w U)=>qbf q c L (at2,true) 11 p9 U (HP.out.below hU) hp9)
   clear hrun hr9 hp9
   obtain⟨at9,bad9⟩:=p9
   replace c_a:=(H1.out).ccCCCC
   have e_a:=(H1.out).ff4
   go_upto_region 13 with(fail)
   have H2:=qh (H1.out.give1 KN1.out (by have:=HH.out.len;omega))
   clear H1
   have QD2:=qh (fun U (hU:Below wr.heap.size wr U)=>QD.out U (H2.out.low.trans (hU.mono H2.out.low.size)))
   obtain⟨u1,u2,u3,u4,u5,u6,u7,hb0,hb1⟩:=Fr.held (S:=(fun w'=>B1 (w.heap.size) ((.slice q L.length c)) ((.int .i64 (at2:Int))) ((.bool true)) w'∧B1 (B) ((.int .i64 6)) ((.string tt0)) ((.slice pv l.length cv)) w')) H2.out 1 2 (fun U bs' h e=>⟨((h).c3 0 (e 0 rfl)).1,((h).c3 3 (e 3 rfl)).1⟩) rfl rfl
   go_region_held3 ((fun w'=>B1 (w.heap.size) ((.slice q L.length c)) ((.int .i64 (at2:Int))) ((.bool true)) w'∧B1 (B) ((.int .i64 6)) ((.string tt0)) ((.slice pv l.length cv)) w'))
    (with_reducible first|exact HS4.out|exact HS5.out _|assumption|(first|apply u7.out|apply u4.out|apply u5.out|apply u6.out|apply u3.out|apply u2.out|apply u1.out);(with_reducible first|exact hb0|assumption|exact hb1 _|exact qc hb0 _|exact qc (by assumption) _))
    (first|(go_at_call 117;with_reducible refine(QD2.out _ (by(with_reducible first|exact hb0|assumption|exact hb1 _|exact qc hb0 _|exact qc (by assumption) _))).mono ?_;rintro _ U ⟨rfl,bu⟩;have bb:Below wr.heap.size wr U:=Below.trans (by(with_reducible first|exact hb0|assumption|exact hb1 _|exact qc hb0 _|exact qc (by assumption) _)) (bu.mono (Below.size (show Below wr.heap.size wr _ by(with_reducible first|exact hb0|assumption|exact hb1 _|exact qc hb0 _|exact qc (by assumption) _))));replace c_a:=((H2.out.stays bb)).cc3;have e_a:=((H2.out.stays bb)).ff3;have BU:=qh bu;clear bu))
   all_goals
    have hbu:Below wr.heap.size wr U:=by assumption
    have HU:=qh (H2.out.stays hbu)
    obtain⟨Wf,hA,hB,hf⟩:=sets HU 1 2 q c L at9 bad9 6 tt0 (.slice pv l.length cv) rfl rfl
    first|rewrite[←hA]|rewrite[←hB]
    (try simp only[nn] at hf);clear hA hB
    have r0:=And.intro (hf.c3 1 rfl).1 (hf.c3 2 rfl).1
    have HF:=qh (And.intro (Fr.toldH q c L ⟨(at9,bad9),.mk 6 tt0 l,[],false⟩ hf) (Fr.toldH q c L ⟨(at9,bad9),.mk 6 tt0 l,[],false⟩ hf.drew))
    clear hf
    (try go_wp2)
    first
     |exact bodyPost_ret (by simp[results,Tryz.results95,go_sem,r0]) rfl HF.out.1
     |exact bodyPost_ret (by simp[results,Tryz.results95,go_sem,r0]) rfl HF.out.2
  ·have hbf:bad2=false:=by simpa using hbad
   subst hbf
   clear hbad
   have QT:=qh (fun U (hU:Below w.heap.size w U)=>qu q c L (at2,false) U (HP.out.below hU))
   by_cases k11:(tokP L (at2,false)).1=11
   ·rw[if_pos (.inr k11)] at hrun
    obtain⟨p9,hp9,hr9⟩:=Option.bind_eq_some_iff.1 hrun
    have er:=(Option.some.inj hr9).symm
    subst er
    have QD:=qh (fun U (hU:Below w.heap.size w U)=>qbf q c L (at2,false) 11 p9 U (HP.out.below hU) hp9)
    clear hrun hr9 hp9
    generalize tokP L (at2,false)=tok at*
    obtain⟨tk,tt⟩:=tok
    dsimp only at k11 QT
    subst k11
    obtain⟨at9,bad9⟩:=p9
    replace c_a:=(H1.out).ccCCCC
    have e_a:=(H1.out).ff4
    go_upto_region 13 with(go_at_call 93;with_reducible refine fx QT H1 ?_;clear H1;intro w2 H2a;replace c_a:=(H2a.out).ccCCCC)
    have H2:=qh (H2a.out.give1 KN1.out (by have:=HH.out.len;omega))
    clear H2a
    have QD2:=qh (fun U (hU:Below w2.heap.size w2 U)=>QD.out U (H2.out.low.trans (hU.mono H2.out.low.size)))
    obtain⟨u1,u2,u3,u4,u5,u6,u7,hb0,hb1⟩:=Fr.held (S:=(fun w'=>B1 (w.heap.size) ((.slice q L.length c)) ((.int .i64 (at2:Int))) ((.bool false)) w'∧B1 (B) ((.int .i64 6)) ((.string tt0)) ((.slice pv l.length cv)) w')) H2.out 1 2 (fun U bs' h e=>⟨((h).c3 0 (e 0 rfl)).1,((h).c3 3 (e 3 rfl)).1⟩) rfl rfl
    go_region_held3 ((fun w'=>B1 (w.heap.size) ((.slice q L.length c)) ((.int .i64 (at2:Int))) ((.bool false)) w'∧B1 (B) ((.int .i64 6)) ((.string tt0)) ((.slice pv l.length cv)) w'))
     (with_reducible first|exact HS4.out|exact HS5.out _|assumption|(first|apply u7.out|apply u4.out|apply u5.out|apply u6.out|apply u3.out|apply u2.out|apply u1.out);(with_reducible first|exact hb0|assumption|exact hb1 _|exact qc hb0 _|exact qc (by assumption) _))
     (first|(go_at_call 117;with_reducible refine(QD2.out _ (by(with_reducible first|exact hb0|assumption|exact hb1 _|exact qc hb0 _|exact qc (by assumption) _))).mono ?_;rintro _ U ⟨rfl,bu⟩;have bb:Below w2.heap.size w2 U:=Below.trans (by(with_reducible first|exact hb0|assumption|exact hb1 _|exact qc hb0 _|exact qc (by assumption) _)) (bu.mono (Below.size (show Below w2.heap.size w2 _ by(with_reducible first|exact hb0|assumption|exact hb1 _|exact qc hb0 _|exact qc (by assumption) _))));replace c_a:=((H2.out.stays bb)).cc3;have e_a:=((H2.out.stays bb)).ff3;have BU:=qh bu;clear bu))
    all_goals
     have hbu:Below w2.heap.size w2 U:=by assumption
     have HU:=qh (H2.out.stays hbu)
     obtain⟨Wf,hA,hB,hf⟩:=sets HU 1 2 q c L at9 bad9 6 tt0 (.slice pv l.length cv) rfl rfl
     first|rewrite[←hA]|rewrite[←hB]
     (try simp only[nn] at hf);clear hA hB
     have r0:=And.intro (hf.c3 1 rfl).1 (hf.c3 2 rfl).1
     have HF:=qh (And.intro (Fr.toldH q c L ⟨(at9,bad9),.mk 6 tt0 l,[],false⟩ hf) (Fr.toldH q c L ⟨(at9,bad9),.mk 6 tt0 l,[],false⟩ hf.drew))
     clear hf
     (try go_wp2)
     first
      |exact bodyPost_ret (by simp[results,Tryz.results95,go_sem,r0]) rfl HF.out.1
      |exact bodyPost_ret (by simp[results,Tryz.results95,go_sem,r0]) rfl HF.out.2
   ·rw[if_neg (by simp[k11])] at hrun
    by_cases k8:(tokP L (at2,false)).1=8
    ·rw[if_pos k8] at hrun
     obtain⟨l1,hl1,hr2⟩:=Option.bind_eq_some_iff.1 hrun
     obtain⟨p1',hp1,hr3⟩:=Option.bind_eq_some_iff.1 hr2
     clear hrun hr2
     obtain⟨hlen,rfl⟩:=qW hl1
     have hnext:=qbK hp1 rfl
     have QN:=qh (fun U (hU:Below w.heap.size w U)=>qq q c L (at2,false) p1' U hl hp1)
     clear hl1 hp1 k11
     generalize tokP L (at2,false)=tok at*
     obtain⟨tk,tt⟩:=tok
     dsimp only[qb.kids,qb.kind,qb.text] at k8 QT hr3 hlen
     subst k8
     have HRUN:=qh hr3
     have HN:=qh hnext
     have HLN:=qh hlen
     clear hr3 hnext hlen
     obtain⟨at3,bad3⟩:=p1'
     replace c_a:=(H1.out).ccCCCC
     have e_a:=(H1.out).ff4
     go_upto_region 8 with(first
      |(go_at_call 93;with_reducible refine fx QT H1 ?_;clear H1;intro w2 H2;replace c_a:=(H2.out).ccCCCC)
      |(go_at_call 93;with_reducible refine fx QT H2 ?_;clear H2;intro w3 H3;replace c_a:=(H3.out).ccCCCC))
     have QT2:=qh (fun U (hU:Below w3.heap.size w3 U)=>QT.out U (H3.out.low.trans (hU.mono H3.out.low.size)))
     have hlen:=HLN.out
     go_region_law (first
      |(refine qd1 H3c.out 0 rfl HLEN.out (.mk 7 tt []) List.mem_cons_self (World.alloc_heap_new U _) (by omega) rfl _ _ rfl rfl rfl ?_;intro g4 c4 w4 hf;(try simp only[nn] at hf);have H4:=qh hf;clear hf;replace c_a:=(H4.out).ccCCCC)
      |(go_simp;go_at_call 93;go_loud((with_reducible refine(QT.out _ H3.out.drew.low).mono ?_);rintro e U ⟨rfl,hb⟩;have H3b:=qh ((H3.out.drew.stays hb).nilN);have H3c:=qh (H3b.out.skip (.cells #[.int .i64 7,.string tt,.slice none 0 0] 24));replace c_a:=(H3b.out).ccCCCC;have e_a:=(H3b.out).ff4;replace k_3:=(H3c.out).c3 3 rfl;clear hb)))
     all_goals
      obtain⟨w5,hW,hj⟩:=qd (H4.out.set 3 2 rfl (.slice (some ⟨g4,0,none⟩) (l.length+1) c4))
      rewrite[←hW]
      (try simp only[nn] at hj)
      have H5:=qh hj
      clear hW hj
      have KN4:=qh ((KN1.out.more (F:=qk (.slice none 0 0) [])).snoc (x:=.mk 7 tt []) (u:=.slice none 0 0) List.mem_cons_self)
      replace c_a:=(H5.out).ccCCCC
      go_wp2_with(go_at_call 94;with_reducible refine fx QN H5 ?_;clear QN H5;intro w6 H6;replace c_a:=(H6.out).ccCCCC)
      have h7:=Fr.set3 (x:=.slice q L.length c) (y:=.int .i64 (at3:Int)) (z:=.bool bad3) H6.out 0 rfl
      (try simp only[nn] at h7)
      have H7:=qh h7.drop4
      clear h7
      go_roundw
      case rel=>exact⟨g,(at3,bad3),l++[.mk 7 tt []],us++[.slice none 0 0],some ⟨g4,0,none⟩,c4,_,qh ⟨HRUN.out,by omega,by rw[List.length_append];exact H7.out,KN4.out,by rw[List.length_append,List.length_singleton];omega⟩⟩
      case measure=>
       rw[H7.out.leftB 0 rfl,HH.out.fr.leftB 0 rfl]
       have hn:=HN.out
       obtain⟨e1,e2⟩:=Prod.mk.inj hn.2
       subst e1
       subst e2
       have:=hn.1
       simp only[Bool.false_eq_true,if_false] at this⊢
       omega
    ·rw[if_neg k8] at hrun
     obtain⟨p1',hp1,hr2⟩:=Option.bind_eq_some_iff.1 hrun
     obtain⟨a,ha,hr3⟩:=Option.bind_eq_some_iff.1 hr2
     obtain⟨l1,hl1,hr4⟩:=Option.bind_eq_some_iff.1 hr3
     obtain⟨p3,hp3,hr5⟩:=Option.bind_eq_some_iff.1 hr4
     obtain⟨u0,hon,hr6⟩:=Option.bind_eq_some_iff.1 hr5
     clear hrun hr2 hr3 hr4 hr5
     obtain⟨hlen,el⟩:=qW hl1
     have hon2:=qaK hon
     have hor:=qkJ hp3
     have Q9:=qh (fun U (hU:Below w.heap.size w U)=>qbf q c L (at2,false) 9 p1' U (HP.out.below hU) hp1)
     have QP:=qh (fun U (hU:Below w.heap.size w U)=>qB q c L p1' a (IH.out g (by omega) _ _ ha) U (HP.out.below hU))
     have Q10:=qh (fun U (hU:Below w.heap.size w U)=>qbf q c L a.st 10 p3 U (HP.out.below hU) hp3)
     have HM:Hid (qaV p3 L.length<qaV (at2,false) L.length):=qh (by
      unfold qaV
      dsimp only at hon2⊢
      rcases hor with hx|⟨hx,hy,hz⟩
      ·rw[hx];simp only[if_true,Bool.false_eq_true,if_false];omega
      ·rw[hz] at hon2⊢
       dsimp only at hon2⊢
       rcases hon2 with h1|h1
       ·cases h1
       ·simp only[Bool.false_eq_true,if_false];omega)
     clear hl1 hon hon2 hor hp1 hp3 ha
     generalize tokP L (at2,false)=tok at*
     obtain⟨tk,tt⟩:=tok
     dsimp only[qb.kids,qb.kind,qb.text] at k8 k11 QT hr6 hlen el
     subst el
     have ya_8:(tk==8)=false:=beq_eq_false_iff_ne.2 k8;have yb_8:(tk=8)=False:=eq_false k8;have yc_8:(tk != 8)=true:=by simpa using k8
     have ya_11:(tk==11)=false:=beq_eq_false_iff_ne.2 k11;have yb_11:(tk=11)=False:=eq_false k11;have yc_11:(tk != 11)=true:=by simpa using k11
     have HRUN:=qh hr6
     have HLN:=qh hlen
     clear hr6 hlen k8 k11
     obtain⟨at3,bad3⟩:=p3
     obtain⟨at4,bad4⟩:=p1'
     obtain⟨⟨ata,bada⟩,na,la,ba⟩:=a
     replace c_a:=(H1.out).ccCCCC
     have e_a:=(H1.out).ff4
     go_upto_region 11 with(first
      |(go_at_call 93;with_reducible refine fx QT H1 ?_;clear H1;intro w2 H2;replace c_a:=(H2.out).ccCCCC)
      |(go_at_call 93;with_reducible refine fx QT H2 ?_;clear H2;intro w3 H3;replace c_a:=(H3.out).ccCCCC)
      |(go_at_call 117;with_reducible refine fx Q9 H3 ?_;clear Q9 H3;intro w4 H4;replace c_a:=(H4.out).ccCCCC)
      |(go_at_call 67;with_reducible refine fm QP H4 ?_;clear QP H4;intro w5 pu_1 cu_1 hj;have e_a:=(hj).ff4;have H5:=hj.layM (q:=q) (c:=c) (L:=L) ata bada na (.slice pu_1 na.kids.length cu_1);(try simp only[nn] at H5);replace c_a:=(H5.out).ccCCCCCC;clear hj))
     obtain⟨w6,hW,H6⟩:=fr_w H5;rewrite[←hW];(try simp only[nn] at H6);clear hW H5
     replace c_a:=(H6.out).ccCCCCCC
     have e_0:=(H6.out).far 0 rfl;have e_1:=(H6.out).far 1 rfl;have e_2:=(H6.out).far 2 rfl;replace e_3:=(H6.out).far 3 rfl;replace e_5:=(H6.out).far 5 rfl
     have hlen:=HLN.out
     go_upto_region 12 with(at_builtin;go_loud(refine q8 (H6.out.skip _) 0 rfl HLEN.out na (by simp) (World.alloc_heap_new w6 _) (by omega) rfl _ _ rfl rfl rfl ?_;intro p7 c7 w7 hf;have H7:=qh hf;clear hf;replace c_a:=(H7.out).ccCCCCCC))
     obtain⟨w8,hW,hj⟩:=qd (H7.out.set 3 2 rfl (.slice p7 (l.length+1) c7))
     rewrite[←hW]
     (try simp only[nn] at hj)
     have H8:=qh hj
     clear hW hj
     have KN4:=qh ((KN1.out.more (F:=qk (.slice pu_1 na.kids.length cu_1) na.kids)).snoc (x:=na) (u:=.slice pu_1 na.kids.length cu_1) List.mem_cons_self)
     replace c_a:=(H8.out).ccCCCCCC
     go_wp2_with(go_at_call 117;with_reducible refine fx Q10 H8 ?_;clear Q10 H8;intro w9 H9;replace c_a:=(H9.out).ccCCCCCC)
     have h7:=Fr.set3 (x:=.slice q L.length c) (y:=.int .i64 (at3:Int)) (z:=.bool bad3) H9.out 0 rfl
     (try simp only[nn] at h7)
     have H10:=qh h7.drop4
     clear h7
     go_roundw
     case rel=>exact⟨g,(at3,bad3),l++[na],us++[.slice pu_1 na.kids.length cu_1],p7,c7,_,qh ⟨HRUN.out,by omega,by rw[List.length_append];exact H10.out,KN4.out,by rw[List.length_append,List.length_singleton];omega⟩⟩
     case measure=>
      rw[H10.out.leftB 0 rfl,HH.out.fr.leftB 0 rfl]
      exact HM.out
theorem qlw{R:POps}{q:Option Addr}{c:Nat}{L:List PTok}{f:Nat}(ih:PAll R q c L (f+1))(hl:L.length≤1000000000)(p p1:PSt)(r:PRes)(k12:(tokP L p).1≠12)(h1:oneP L p 7=some p1)(hr:runP R L f (.strL p1 (.mk 6 ⟨#[]⟩ []))=some r):qn q c L (.str p) r:=by
 intro w h
 have H0:=qh (qD w q c L p)
 have QT:=qh (fun U (hU:Below w.heap.size w U)=>qu q c L p U (h.below hU))
 have IH:=qh ih
 have HR:=qh hr
 have HP:=qh h
 have Q7:=qh (fun U (hU:Below w.heap.size w U)=>qbf q c L p 7 p1 U (h.below hU) h1)
 clear h ih hr h1
 generalize tokP L p=tok at*
 obtain⟨tk,tt0⟩:=tok
 dsimp only at k12 QT
 have ya_12:(tk==12)=false:=beq_eq_false_iff_ne.2 k12;have yb_12:(tk=12)=False:=eq_false k12;have yc_12:(tk != 12)=true:=by simpa using k12
 clear k12
 obtain⟨at',bad⟩:=p
 obtain⟨at1,bad1⟩:=p1
 go_enter Tryz.func95,Tryz.ntmps95
 go_upto_region 2 with(fail)
 obtain⟨w1,hW,hj⟩:=qd (by have hx:=H0.out.lay [.int .i64 6,.string ⟨#[]⟩,.slice none 0 0] 24;rw[World.size_alloc,World.size_alloc,World.size_alloc] at hx;exact hx)
 rewrite[←hW]
 (try simp only[nn] at hj)
 have H1:=qh hj
 clear hj hW H0
 replace c_a:=(H1.out).ccCCCC
 go_wp2_with(first|(go_at_call 93;with_reducible refine fx QT H1 ?_;clear H1;intro w2 H6;replace c_a:=(H6.out).ccCCCC)|(go_at_call 117;with_reducible refine fx Q7 H6 ?_;clear Q7 H6;intro w7 H7;replace c_a:=(H7.out).ccCCCC))
 have h8:=Fr.set3 (x:=.slice q L.length c) (y:=.int .i64 (at1:Int)) (z:=.bool bad1) H7.out 0 rfl
 (try simp only[nn] at h8)
 have H8:=qh (h8.rowNil 24 3)
 clear h8 H7 QT
 generalize w.heap.size+1+1+1=B at*
 go_loopw [] (fun wr=>∃(f':Nat) (p:PSt) (l:List qb) (us:List Value) (pv:Option Addr) (cv:Nat) (ks:List Fact),Hid (StH R w wr B q c L f r p ⟨#[]⟩ l us pv cv f' ks)) (fun wr=>qd0 wr w.heap.size L.length)
 case atStart=>exact⟨f,(at1,bad1),[],[],none,0,_,qh ⟨HR.out,Nat.le_refl _,H8.out,KN.nil _,Nat.zero_le _⟩⟩
 case round=>
  clear HR H8
  obtain⟨f',p,l,us,pv,cv,ks,HH⟩:=hrel
  obtain⟨g,rfl⟩:∃g,f'=g+1:=by
   cases f' with
   |zero=>have:=HH.out.run;rw[runP] at this;cases this
   |succ g=>exact⟨g,rfl⟩
  have hrun:=HH.out.run
  have hgf:=HH.out.fuel
  rw[runP] at hrun
  have H1:=qh HH.out.fr
  have KN1:=qh HH.out.kn
  have HLEN:=qh HH.out.kn.1
  obtain⟨at2,bad2⟩:=p
  by_cases hbad:bad2=true
  ·subst hbad
   rw[if_pos (.inl rfl)] at hrun
   obtain⟨p9,hp9,hr9⟩:=Option.bind_eq_some_iff.1 hrun
   have er:=(Option.some.inj hr9).symm
   subst er
   have QD:=qh (fun U (hU:Below w.heap.size w U)=>qbf q c L (at2,true) 11 p9 U (HP.out.below hU) hp9)
   clear hrun hr9 hp9
   obtain⟨at9,bad9⟩:=p9
   replace c_a:=(H1.out).ccCCCC
   have e_a:=(H1.out).ff4
   go_upto_region 13 with(fail)
   have H2:=qh (H1.out.give1 KN1.out (by have:=HH.out.len;omega))
   clear H1
   have QD2:=qh (fun U (hU:Below wr.heap.size wr U)=>QD.out U (H2.out.low.trans (hU.mono H2.out.low.size)))
   obtain⟨u1,u2,u3,u4,u5,u6,u7,hb0,hb1⟩:=Fr.held (S:=(fun w'=>B1 (w.heap.size) ((.slice q L.length c)) ((.int .i64 (at2:Int))) ((.bool true)) w'∧B1 (B) ((.int .i64 6)) ((.string ⟨#[]⟩)) ((.slice pv l.length cv)) w')) H2.out 1 2 (fun U bs' h e=>⟨((h).c3 0 (e 0 rfl)).1,((h).c3 3 (e 3 rfl)).1⟩) rfl rfl
   go_region_held3 ((fun w'=>B1 (w.heap.size) ((.slice q L.length c)) ((.int .i64 (at2:Int))) ((.bool true)) w'∧B1 (B) ((.int .i64 6)) ((.string ⟨#[]⟩)) ((.slice pv l.length cv)) w'))
    (with_reducible first|exact HS4.out|exact HS5.out _|assumption|(first|apply u7.out|apply u4.out|apply u5.out|apply u6.out|apply u3.out|apply u2.out|apply u1.out);(with_reducible first|exact hb0|assumption|exact hb1 _|exact qc hb0 _|exact qc (by assumption) _))
    (first|(go_at_call 117;with_reducible refine(QD2.out _ (by(with_reducible first|exact hb0|assumption|exact hb1 _|exact qc hb0 _|exact qc (by assumption) _))).mono ?_;rintro _ U ⟨rfl,bu⟩;have bb:Below wr.heap.size wr U:=Below.trans (by(with_reducible first|exact hb0|assumption|exact hb1 _|exact qc hb0 _|exact qc (by assumption) _)) (bu.mono (Below.size (show Below wr.heap.size wr _ by(with_reducible first|exact hb0|assumption|exact hb1 _|exact qc hb0 _|exact qc (by assumption) _))));replace c_a:=((H2.out.stays bb)).cc3;have e_a:=((H2.out.stays bb)).ff3;have BU:=qh bu;clear bu))
   all_goals
    have hbu:Below wr.heap.size wr U:=by assumption
    have HU:=qh (H2.out.stays hbu)
    obtain⟨Wf,hA,hB,hf⟩:=sets HU 1 2 q c L at9 bad9 6 ⟨#[]⟩ (.slice pv l.length cv) rfl rfl
    first|rewrite[←hA]|rewrite[←hB]
    (try simp only[nn] at hf);clear hA hB
    have r0:=And.intro (hf.c3 1 rfl).1 (hf.c3 2 rfl).1
    have HF:=qh (And.intro (Fr.toldH q c L ⟨(at9,bad9),.mk 6 ⟨#[]⟩ l,[],false⟩ hf) (Fr.toldH q c L ⟨(at9,bad9),.mk 6 ⟨#[]⟩ l,[],false⟩ hf.drew))
    clear hf
    (try go_wp2)
    first
     |exact bodyPost_ret (by simp[results,Tryz.results95,go_sem,r0]) rfl HF.out.1
     |exact bodyPost_ret (by simp[results,Tryz.results95,go_sem,r0]) rfl HF.out.2
  ·have hbf:bad2=false:=by simpa using hbad
   subst hbf
   clear hbad
   have QT:=qh (fun U (hU:Below w.heap.size w U)=>qu q c L (at2,false) U (HP.out.below hU))
   by_cases k11:(tokP L (at2,false)).1=11
   ·rw[if_pos (.inr k11)] at hrun
    obtain⟨p9,hp9,hr9⟩:=Option.bind_eq_some_iff.1 hrun
    have er:=(Option.some.inj hr9).symm
    subst er
    have QD:=qh (fun U (hU:Below w.heap.size w U)=>qbf q c L (at2,false) 11 p9 U (HP.out.below hU) hp9)
    clear hrun hr9 hp9
    generalize tokP L (at2,false)=tok at*
    obtain⟨tk,tt⟩:=tok
    dsimp only at k11 QT
    subst k11
    obtain⟨at9,bad9⟩:=p9
    replace c_a:=(H1.out).ccCCCC
    have e_a:=(H1.out).ff4
    go_upto_region 13 with(go_at_call 93;with_reducible refine fx QT H1 ?_;clear H1;intro w2 H2a;replace c_a:=(H2a.out).ccCCCC)
    have H2:=qh (H2a.out.give1 KN1.out (by have:=HH.out.len;omega))
    clear H2a
    have QD2:=qh (fun U (hU:Below w2.heap.size w2 U)=>QD.out U (H2.out.low.trans (hU.mono H2.out.low.size)))
    obtain⟨u1,u2,u3,u4,u5,u6,u7,hb0,hb1⟩:=Fr.held (S:=(fun w'=>B1 (w.heap.size) ((.slice q L.length c)) ((.int .i64 (at2:Int))) ((.bool false)) w'∧B1 (B) ((.int .i64 6)) ((.string ⟨#[]⟩)) ((.slice pv l.length cv)) w')) H2.out 1 2 (fun U bs' h e=>⟨((h).c3 0 (e 0 rfl)).1,((h).c3 3 (e 3 rfl)).1⟩) rfl rfl
    go_region_held3 ((fun w'=>B1 (w.heap.size) ((.slice q L.length c)) ((.int .i64 (at2:Int))) ((.bool false)) w'∧B1 (B) ((.int .i64 6)) ((.string ⟨#[]⟩)) ((.slice pv l.length cv)) w'))
     (with_reducible first|exact HS4.out|exact HS5.out _|assumption|(first|apply u7.out|apply u4.out|apply u5.out|apply u6.out|apply u3.out|apply u2.out|apply u1.out);(with_reducible first|exact hb0|assumption|exact hb1 _|exact qc hb0 _|exact qc (by assumption) _))
     (first|(go_at_call 117;with_reducible refine(QD2.out _ (by(with_reducible first|exact hb0|assumption|exact hb1 _|exact qc hb0 _|exact qc (by assumption) _))).mono ?_;rintro _ U ⟨rfl,bu⟩;have bb:Below w2.heap.size w2 U:=Below.trans (by(with_reducible first|exact hb0|assumption|exact hb1 _|exact qc hb0 _|exact qc (by assumption) _)) (bu.mono (Below.size (show Below w2.heap.size w2 _ by(with_reducible first|exact hb0|assumption|exact hb1 _|exact qc hb0 _|exact qc (by assumption) _))));replace c_a:=((H2.out.stays bb)).cc3;have e_a:=((H2.out.stays bb)).ff3;have BU:=qh bu;clear bu))
    all_goals
     have hbu:Below w2.heap.size w2 U:=by assumption
     have HU:=qh (H2.out.stays hbu)
     obtain⟨Wf,hA,hB,hf⟩:=sets HU 1 2 q c L at9 bad9 6 ⟨#[]⟩ (.slice pv l.length cv) rfl rfl
     first|rewrite[←hA]|rewrite[←hB]
     (try simp only[nn] at hf);clear hA hB
     have r0:=And.intro (hf.c3 1 rfl).1 (hf.c3 2 rfl).1
     have HF:=qh (And.intro (Fr.toldH q c L ⟨(at9,bad9),.mk 6 ⟨#[]⟩ l,[],false⟩ hf) (Fr.toldH q c L ⟨(at9,bad9),.mk 6 ⟨#[]⟩ l,[],false⟩ hf.drew))
     clear hf
     (try go_wp2)
     first
      |exact bodyPost_ret (by simp[results,Tryz.results95,go_sem,r0]) rfl HF.out.1
      |exact bodyPost_ret (by simp[results,Tryz.results95,go_sem,r0]) rfl HF.out.2
   ·rw[if_neg (by simp[k11])] at hrun
    by_cases k8:(tokP L (at2,false)).1=8
    ·rw[if_pos k8] at hrun
     obtain⟨l1,hl1,hr2⟩:=Option.bind_eq_some_iff.1 hrun
     obtain⟨p1',hp1,hr3⟩:=Option.bind_eq_some_iff.1 hr2
     clear hrun hr2
     obtain⟨hlen,rfl⟩:=qW hl1
     have hnext:=qbK hp1 rfl
     have QN:=qh (fun U (hU:Below w.heap.size w U)=>qq q c L (at2,false) p1' U hl hp1)
     clear hl1 hp1 k11
     generalize tokP L (at2,false)=tok at*
     obtain⟨tk,tt⟩:=tok
     dsimp only[qb.kids,qb.kind,qb.text] at k8 QT hr3 hlen
     subst k8
     have HRUN:=qh hr3
     have HN:=qh hnext
     have HLN:=qh hlen
     clear hr3 hnext hlen
     obtain⟨at3,bad3⟩:=p1'
     replace c_a:=(H1.out).ccCCCC
     have e_a:=(H1.out).ff4
     go_upto_region 8 with(first
      |(go_at_call 93;with_reducible refine fx QT H1 ?_;clear H1;intro w2 H2;replace c_a:=(H2.out).ccCCCC)
      |(go_at_call 93;with_reducible refine fx QT H2 ?_;clear H2;intro w3 H3;replace c_a:=(H3.out).ccCCCC))
     have QT2:=qh (fun U (hU:Below w3.heap.size w3 U)=>QT.out U (H3.out.low.trans (hU.mono H3.out.low.size)))
     have hlen:=HLN.out
     go_region_law (first
      |(refine qd1 H3c.out 0 rfl HLEN.out (.mk 7 tt []) List.mem_cons_self (World.alloc_heap_new U _) (by omega) rfl _ _ rfl rfl rfl ?_;intro g4 c4 w4 hf;(try simp only[nn] at hf);have H4:=qh hf;clear hf;replace c_a:=(H4.out).ccCCCC)
      |(go_simp;go_at_call 93;go_loud((with_reducible refine(QT.out _ H3.out.drew.low).mono ?_);rintro e U ⟨rfl,hb⟩;have H3b:=qh ((H3.out.drew.stays hb).nilN);have H3c:=qh (H3b.out.skip (.cells #[.int .i64 7,.string tt,.slice none 0 0] 24));replace c_a:=(H3b.out).ccCCCC;have e_a:=(H3b.out).ff4;replace k_3:=(H3c.out).c3 3 rfl;clear hb)))
     all_goals
      obtain⟨w5,hW,hj⟩:=qd (H4.out.set 3 2 rfl (.slice (some ⟨g4,0,none⟩) (l.length+1) c4))
      rewrite[←hW]
      (try simp only[nn] at hj)
      have H5:=qh hj
      clear hW hj
      have KN4:=qh ((KN1.out.more (F:=qk (.slice none 0 0) [])).snoc (x:=.mk 7 tt []) (u:=.slice none 0 0) List.mem_cons_self)
      replace c_a:=(H5.out).ccCCCC
      go_wp2_with(go_at_call 94;with_reducible refine fx QN H5 ?_;clear QN H5;intro w6 H6;replace c_a:=(H6.out).ccCCCC)
      have h7:=Fr.set3 (x:=.slice q L.length c) (y:=.int .i64 (at3:Int)) (z:=.bool bad3) H6.out 0 rfl
      (try simp only[nn] at h7)
      have H7:=qh h7.drop4
      clear h7
      go_roundw
      case rel=>exact⟨g,(at3,bad3),l++[.mk 7 tt []],us++[.slice none 0 0],some ⟨g4,0,none⟩,c4,_,qh ⟨HRUN.out,by omega,by rw[List.length_append];exact H7.out,KN4.out,by rw[List.length_append,List.length_singleton];omega⟩⟩
      case measure=>
       rw[H7.out.leftB 0 rfl,HH.out.fr.leftB 0 rfl]
       have hn:=HN.out
       obtain⟨e1,e2⟩:=Prod.mk.inj hn.2
       subst e1
       subst e2
       have:=hn.1
       simp only[Bool.false_eq_true,if_false] at this⊢
       omega
    ·rw[if_neg k8] at hrun
     obtain⟨p1',hp1,hr2⟩:=Option.bind_eq_some_iff.1 hrun
     obtain⟨a,ha,hr3⟩:=Option.bind_eq_some_iff.1 hr2
     obtain⟨l1,hl1,hr4⟩:=Option.bind_eq_some_iff.1 hr3
     obtain⟨p3,hp3,hr5⟩:=Option.bind_eq_some_iff.1 hr4
     obtain⟨u0,hon,hr6⟩:=Option.bind_eq_some_iff.1 hr5
     clear hrun hr2 hr3 hr4 hr5
     obtain⟨hlen,el⟩:=qW hl1
     have hon2:=qaK hon
     have hor:=qkJ hp3
     have Q9:=qh (fun U (hU:Below w.heap.size w U)=>qbf q c L (at2,false) 9 p1' U (HP.out.below hU) hp1)
     have QP:=qh (fun U (hU:Below w.heap.size w U)=>qB q c L p1' a (IH.out g (by omega) _ _ ha) U (HP.out.below hU))
     have Q10:=qh (fun U (hU:Below w.heap.size w U)=>qbf q c L a.st 10 p3 U (HP.out.below hU) hp3)
     have HM:Hid (qaV p3 L.length<qaV (at2,false) L.length):=qh (by
      unfold qaV
      dsimp only at hon2⊢
      rcases hor with hx|⟨hx,hy,hz⟩
      ·rw[hx];simp only[if_true,Bool.false_eq_true,if_false];omega
      ·rw[hz] at hon2⊢
       dsimp only at hon2⊢
       rcases hon2 with h1|h1
       ·cases h1
       ·simp only[Bool.false_eq_true,if_false];omega)
     clear hl1 hon hon2 hor hp1 hp3 ha
     generalize tokP L (at2,false)=tok at*
     obtain⟨tk,tt⟩:=tok
     dsimp only[qb.kids,qb.kind,qb.text] at k8 k11 QT hr6 hlen el
     subst el
     have ya_8:(tk==8)=false:=beq_eq_false_iff_ne.2 k8;have yb_8:(tk=8)=False:=eq_false k8;have yc_8:(tk != 8)=true:=by simpa using k8
     have ya_11:(tk==11)=false:=beq_eq_false_iff_ne.2 k11;have yb_11:(tk=11)=False:=eq_false k11;have yc_11:(tk != 11)=true:=by simpa using k11
     have HRUN:=qh hr6
     have HLN:=qh hlen
     clear hr6 hlen k8 k11
     obtain⟨at3,bad3⟩:=p3
     obtain⟨at4,bad4⟩:=p1'
     obtain⟨⟨ata,bada⟩,na,la,ba⟩:=a
     replace c_a:=(H1.out).ccCCCC
     have e_a:=(H1.out).ff4
     go_upto_region 11 with(first
      |(go_at_call 93;with_reducible refine fx QT H1 ?_;clear H1;intro w2 H2;replace c_a:=(H2.out).ccCCCC)
      |(go_at_call 93;with_reducible refine fx QT H2 ?_;clear H2;intro w3 H3;replace c_a:=(H3.out).ccCCCC)
      |(go_at_call 117;with_reducible refine fx Q9 H3 ?_;clear Q9 H3;intro w4 H4;replace c_a:=(H4.out).ccCCCC)
      |(go_at_call 67;with_reducible refine fm QP H4 ?_;clear QP H4;intro w5 pu_1 cu_1 hj;have e_a:=(hj).ff4;have H5:=hj.layM (q:=q) (c:=c) (L:=L) ata bada na (.slice pu_1 na.kids.length cu_1);(try simp only[nn] at H5);replace c_a:=(H5.out).ccCCCCCC;clear hj))
     obtain⟨w6,hW,H6⟩:=fr_w H5;rewrite[←hW];(try simp only[nn] at H6);clear hW H5
     replace c_a:=(H6.out).ccCCCCCC
     have e_0:=(H6.out).far 0 rfl;have e_1:=(H6.out).far 1 rfl;have e_2:=(H6.out).far 2 rfl;replace e_3:=(H6.out).far 3 rfl;replace e_5:=(H6.out).far 5 rfl
     have hlen:=HLN.out
     go_upto_region 12 with(at_builtin;go_loud(refine q8 (H6.out.skip _) 0 rfl HLEN.out na (by simp) (World.alloc_heap_new w6 _) (by omega) rfl _ _ rfl rfl rfl ?_;intro p7 c7 w7 hf;have H7:=qh hf;clear hf;replace c_a:=(H7.out).ccCCCCCC))
     obtain⟨w8,hW,hj⟩:=qd (H7.out.set 3 2 rfl (.slice p7 (l.length+1) c7))
     rewrite[←hW]
     (try simp only[nn] at hj)
     have H8:=qh hj
     clear hW hj
     have KN4:=qh ((KN1.out.more (F:=qk (.slice pu_1 na.kids.length cu_1) na.kids)).snoc (x:=na) (u:=.slice pu_1 na.kids.length cu_1) List.mem_cons_self)
     replace c_a:=(H8.out).ccCCCCCC
     go_wp2_with(go_at_call 117;with_reducible refine fx Q10 H8 ?_;clear Q10 H8;intro w9 H9;replace c_a:=(H9.out).ccCCCCCC)
     have h7:=Fr.set3 (x:=.slice q L.length c) (y:=.int .i64 (at3:Int)) (z:=.bool bad3) H9.out 0 rfl
     (try simp only[nn] at h7)
     have H10:=qh h7.drop4
     clear h7
     go_roundw
     case rel=>exact⟨g,(at3,bad3),l++[na],us++[.slice pu_1 na.kids.length cu_1],p7,c7,_,qh ⟨HRUN.out,by omega,by rw[List.length_append];exact H10.out,KN4.out,by rw[List.length_append,List.length_singleton];omega⟩⟩
     case measure=>
      rw[H10.out.leftB 0 rfl,HH.out.fr.leftB 0 rfl]
      exact HM.out
theorem qm0{R:POps}{q:Option Addr}{c:Nat}{L:List PTok}{f:Nat}(ih:PAll R q c L (f+1))(hl:L.length≤1000000000)(p:PSt)(r:PRes)(hr:runP R L (f+1) (.str p)=some r):qn q c L (.str p) r:=by
 rw[runP] at hr
 obtain⟨⟨p0,t⟩,h0,hr1⟩:=Option.bind_eq_some_iff.1 hr
 obtain⟨p1,h1,hr2⟩:=Option.bind_eq_some_iff.1 hr1
 clear hr hr1
 by_cases k12:(tokP L p).1=12
 ·rw[if_pos k12] at h0
  obtain⟨x,hx,e⟩:=Option.map_eq_some_iff.1 h0
  obtain⟨rfl,rfl⟩:=Prod.mk.inj e
  exact str_fmt ih hl p x p1 r k12 hx h1 hr2
 ·rw[if_neg k12] at h0
  obtain⟨rfl,rfl⟩:=Prod.mk.inj (Option.some.inj h0)
  exact qlw ih hl p p1 r k12 h1 hr2
theorem Fr.mores{R:Nat→Prop}{w W:World}{bs:List Bx}{rs:List Rw}{ks:List Fact}(h:Fr R w W bs rs ks)(Fs:List Fact)(hF:∀F∈Fs,∃S:Nat→Prop,F.holds W S∧∀c,S c→c<W.heap.size→(R c∨w.heap.size≤c)∧¬Tk bs rs c):Fr R w W bs rs (Fs++ks):=by
 refine⟨h.low,h.box,h.row,fun k hk=>?_,h.nb,h.nr,h.nx,h.old⟩
 rcases List.mem_append.1 hk with hk|hk
 ·obtain⟨S,h1,h2⟩:=hF k hk
  exact k.mono (k.within h1) fun c hc=>h2 c hc.1 hc.2
 ·exact h.fact k hk
theorem Fr.callRow{R:Nat→Prop}{w W U:World}{bs:List Bx}{rs:List Rw}{ks:List Fact}(h:Fr R w W bs rs ks)(hb:Below W.heap.size W U){v:Value}{l:List qb}{us:List Value}(hk:KRow W.heap.size (fun b=>W.heap.size≤b) U v l us):
  Fr R w U bs (rs++[rowN v l us]) (qe3 l us++ks)∧KN l us (qe3 l us++ks):=by
 have hrow:U.ownsRow w.heap.size 24 3 v l.length (qF l us):=by
  have:=hk.own
  refine⟨this.1,?_⟩
  rcases this.2 with h0|⟨g,cap,cur,e1,e2,rest⟩
  ·exact .inl h0
  ·exact .inr ⟨g,cap,cur,e1,Nat.le_trans h.low.size e2,rest⟩
 have h1:=h.addRow hb (rowN v l us) hrow (fun g hg=>(hk.own.lt g hg.symm).1)
 refine⟨h1.mores _ fun F hF=>?_,hk.len,fun i y t hy ht=>List.mem_append_left _ (qk7 hy ht)⟩
 obtain⟨i,hi⟩:=List.mem_iff_getElem?.1 hF
 unfold qe3 at hi
 rw[List.getElem?_zipWith] at hi
 cases hx:l[i]? with
 |none=>rw[hx] at hi;cases hi
 |some x=>
  cases hu:us[i]? with
  |none=>rw[hx,hu] at hi;cases hi
  |some u=>
   rw[hx,hu] at hi
   obtain rfl:=Option.some.inj hi
   refine⟨_,hk.kids i x u hx hu,fun c hc _=>⟨.inr (Nat.le_trans h.low.size hc.1),fun ht=>?_⟩⟩
   rcases ht with ht|ht
   ·have:=h.num_lt ht;have:=hc.1;omega
   ·unfold Rw.owns at ht
    rw[List.map_append,List.mem_append] at ht
    rcases ht with ht|ht
    ·have:=h.own_lt ht;have:=hc.1;omega
    ·simp[rowN] at ht
     exact hc.2.2 ht
theorem Fr.rowNilN{R:Nat→Prop}{w W:World}{bs:List Bx}{rs:List Rw}{ks:List Fact}(h:Fr R w W bs rs ks){l:List qb}(e:l=[]):Fr R w W bs (rs++[rowN (.slice none 0 0) l []]) ks:=by subst e;exact h.rowNil 24 3
theorem KN.nilE{l:List qb}(e:l=[])(ks:List Fact):KN l [] ks:=by subst e;exact KN.nil ks
def DPar(q:Option Addr)(c:Nat)(L:List PTok)(p1 pq:PSt)(pl:List qb):Prop:=(opP L p1 ⟨#[40]⟩=false∧pq=p1∧pl=[])∨(opP L p1 ⟨#[40]⟩=true∧∃p2 pn pb,qs L p1=some p2∧qn q c L (.params p2 []) ⟨pq,pn,pl,pb⟩)
inductive DWay(q:Option Addr)(c:Nat)(L:List PTok)(s:ByteArray)(p4:PSt)(l1:List qb):Bool→PRes→Prop
 |last (hg:p4.2=false) (he:p4.1=L.length) (l2:List qb) (hl2:qae l1 qj=some l2):DWay q c L s p4 l1 true ⟨p4,.mk 29 s l2,[],false⟩
 |more (top:Bool) (a:PRes) (l2:List qb) (hl2:qae l1 a.n=some l2) (hd:(top=false∧qn q c L (.exp p4 1) a)∨((top=true∧p4.2=true)∧qn q c L (.exp p4 1) a)∨((top=true∧p4.2=false∧p4.1≠L.length∧qv L p4 ⟨#[100,101,102]⟩=true)∧qn q c L (.defn p4 true) a)∨((top=true∧p4.2=false∧p4.1≠L.length∧qv L p4 ⟨#[100,101,102]⟩=false)∧qn q c L (.exp p4 1) a)):DWay q c L s p4 l1 top ⟨a.st,.mk 29 s l2,[],false⟩
theorem qb1{R:POps}(hR:ROps R){q:Option Addr}{c:Nat}{L:List PTok}(hL:qan L)(hl:L.length≤1000000000)(p:PSt)(top:Bool)(p0 p1:PSt)(s:ByteArray)(h0:qs L p=some p0)(h1:qdd R L p0=some (p1,s))(pq:PSt)(pl:List qb)(hpar:DPar q c L p1 pq pl)(p3:PSt)(h3:q7 L pq ⟨#[58]⟩=some p3)(b:PRes)(hb:qn q c L (.exp p3 1) b)(p4:PSt)(h4:q7 L b.st ⟨#[59]⟩=some p4)(l1:List qb)(hl1:qae pl b.n=some l1)(r:PRes)(hway:DWay q c L s p4 l1 top r):qn q c L (.defn p top) r:=by
 intro w h
 have H0:=qh (qD w q c L p)
 have HP:=qh h
 have HPAR:=qh hpar
 have HWAY:=qh hway
 have QN:=qh (fun U (hU:Below w.heap.size w U)=>qq q c L p p0 U hl h0)
 have QM:Hid (∀U,Below w.heap.size w U→Calls Tryz.prog 97 #[pV q c L p0] U fun e w'=>e=.returned (.tuple #[pV q c L p1,.string s])∧Below U.heap.size U w'):=qh (fun U hU=>qfR hR q c L hL p0 (p1,s) U (h.below hU) h1)
 have QO:=qh (fun U hU=>qp q c L p1 ⟨#[40]⟩ U (h.below hU))
 have QD3:=qh (fun U hU=>qt q c L pq p3 ⟨#[58]⟩ U (h.below hU) h3)
 have QB:=qh (fun U hU=>qB q c L p3 b hb U (h.below hU))
 have QD4:=qh (fun U hU=>qt q c L b.st p4 ⟨#[59]⟩ U (h.below hU) h4)
 obtain⟨hlen,el1⟩:=qW hl1
 have HLEN:=qh hlen
 have EL1:=qh el1
 clear h0 h1 hpar h3 hb h4 hl1 hway h hL hlen el1
 obtain⟨at',bad⟩:=p
 obtain⟨at0,bad0⟩:=p0
 obtain⟨at1,bad1⟩:=p1
 obtain⟨atp,badp⟩:=pq
 obtain⟨at3,bad3⟩:=p3
 obtain⟨at4,bad4⟩:=p4
 obtain⟨⟨atb,badb⟩,nb,lb,bb⟩:=b
 go_enter Tryz.func66,Tryz.ntmps66
 go_upto_region 2 with(first
  |(go_at_call 94;with_reducible refine fx QN H0 ?_;clear QN H0;intro W1 H1;replace c_a:=(H1.out).cc3)
  |(go_at_call 97;with_reducible refine fx QM H1 ?_;clear QM H1;intro W2 hj;have e_a:=(hj.out).ff3;have H2:=hj.out.layP q c L at1 bad1;(try simp only[nn] at H2);replace c_a:=(H2.out).ccCCCC;clear hj))
 obtain⟨W3,hW,H3⟩:=fr_w H2;rewrite[←hW];(try simp only[nn] at H3);clear hW H2
 replace c_a:=(H3.out).ccCCCC
 have e_a:=(H3.out).ff4
 have hp:=HPAR.out
 clear HPAR
 rcases hp with⟨ho,e1,e2⟩|⟨ho,p2,pn,pb,h2,hpa⟩
 case' inl=>
  rw[ho] at QO
  obtain⟨rfl,rfl⟩:=Prod.mk.inj e1
  clear ho e1
  go_upto_region 7 with(go_at_call 98;with_reducible refine fx QO H3 ?_;clear QO H3;intro W4 H4;replace c_a:=(H4.out).ccCCCC)
  have H7:=qh (H4.out.rowNilN e2)
  have KN7:=qh (KN.nilE e2 [])
  clear H4 e2
 case' inr=>
  rw[ho] at QO
  have QN2:=qh (fun U (hU:Below w.heap.size w U)=>qq q c L (at1,bad1) p2 U hl h2)
  have QPA:Hid (∀U,Below w.heap.size w U→Calls Tryz.prog 99 #[pV q c L p2] U (qdl q c L U ⟨(atp,badp),pn,pl,pb⟩)):=qh (fun U hU=>hpa U (HP.out.below hU))
  obtain⟨at2,bad2⟩:=p2
  clear ho h2 hpa
  go_upto_region 5 with(first
   |(go_at_call 98;with_reducible refine fx QO H3 ?_;clear QO H3;intro W4 H4;replace c_a:=(H4.out).ccCCCC)
   |(go_at_call 94;with_reducible refine fx QN2 H4 ?_;clear QN2 H4;intro W5 H5;replace c_a:=(H5.out).ccCCCC)
   |(go_at_call 99;go_loud((with_reducible refine(QPA.out _ H5.out.low).mono ?_);rintro e W6 ⟨v,us,rfl,hkr,hb⟩;obtain⟨hj,hkn⟩:=H5.out.callRow hb hkr;obtain⟨pv,cv,rfl⟩:=qea (hj.row _ (List.mem_singleton_self _));have KN7:=qh hkn;have e_a:=(hj).ff4;have H6:=hj.layP q c L atp badp;(try simp only[nn] at H6);replace c_a:=(H6.out).ccCCCCC;clear hj hb hkr hkn H5)))
  obtain⟨W6b,hW,H6b⟩:=fr_w H6;rewrite[←hW];(try simp only[nn] at H6b);clear hW H6
  replace c_a:=(H6b.out).ccCCCC
  replace c_4:=((H6b.out).c3 4 rfl).1
  go_upto_region 6 with(fail)
  obtain⟨W6c,hW,H6c⟩:=ab3 H6b 3 (.slice q L.length c) (.int .i64 (atp:Int)) (.bool badp) rfl;rewrite[←hW];(try simp only[nn] at H6c);clear hW H6b
  have H7:=qh H6c.out.drop4
  clear H6c
  replace c_a:=(H7.out).ccCCCC
  have e_a:=(H7.out).ff4
 all_goals
  go_upto_region 8 with(first
   |(go_at_call 96;with_reducible refine fx QD3 H7 ?_;clear QD3 H7;intro W8 H8;replace c_a:=(H8.out).ccCCCC)
   |(go_at_call 67;with_reducible refine fm QB H8 ?_;clear QB H8;intro W9 pu_1 cu_1 hj;have e_a:=(hj).ff4;have H9:=hj.layM (q:=q) (c:=c) (L:=L) atb badb nb (.slice pu_1 nb.kids.length cu_1);(try simp only[nn] at H9);replace c_a:=(H9.out).ccCCCCCC;clear hj))
  obtain⟨W10,hW,H10⟩:=fr_w H9;rewrite[←hW];(try simp only[nn] at H10);clear hW H9
  replace c_a:=(H10.out).ccCCCCCC
  go_upto_region 9 with(go_at_call 96;with_reducible refine fx QD4 H10 ?_;clear QD4 H10;intro W11 H11;replace c_a:=(H11.out).ccCCCCCC)
  obtain⟨W12,hW,H12⟩:=ab3 H11 4 (.slice q L.length c) (.int .i64 (at4:Int)) (.bool bad4) rfl;rewrite[←hW];(try simp only[nn] at H12);clear hW H11
  replace c_a:=(H12.out).ccCCCCCC
  have e_a:=(H12.out).ff6
  go_upto_region 10 with(at_builtin;go_loud(refine q8 (H12.out.skip _) 0 rfl KN7.out.1 nb (by simp) (World.alloc_heap_new W12 _) (Nat.lt_of_lt_of_le HLEN.out (by decide)) rfl _ _ rfl rfl rfl ?_;intro p13 c13 W13 hf;rw[show pl++[nb]=l1 from EL1.out.symm] at hf;(try simp only[nn] at hf);generalize hz13:pl.length+1=z13 at hf⊢;clear hz13;have H13:=qh hf;clear hf;replace c_a:=(H13.out).ccCCCCCC))
  have KN13:=qh ((KN7.out.more (F:=qk (.slice pu_1 nb.kids.length cu_1) nb.kids)).snoc (x:=nb) (u:=.slice pu_1 nb.kids.length cu_1) List.mem_cons_self)
  rw[show pl++[nb]=l1 from EL1.out.symm] at KN13
  have e_a:=(H13.out).ff6
  go_upto_region 11 with(fail)
  obtain⟨W14,hW,hj⟩:=qd (H13.out.nilN.lay [.int .i64 0,.string ⟨#[]⟩,.slice none 0 0] 24)
  rewrite[←hW]
  (try simp only[nn] at hj)
  have H14:=qh hj
  clear hj hW H13
  replace c_a:=(H14.out).ccCCCCCCC
  have e_a:=(H14.out).ff7
  have hway:=HWAY.out
  clear HWAY
  cases hway with
  |last hg he l2 hl2=>
   obtain⟨hlen2,el2⟩:=qW hl2
   have HLEN2:=qh hlen2
   have EL2:=qh el2
   clear hl2 hlen2 el2
   dsimp only at hg he
   subst hg
   subst he
   go_upto_region 13 with(at_builtin;go_loud(refine q8 (H14.out.skip _) 0 rfl KN13.out.1 qj (by simp[show qj.kids=[] from rfl]) (World.alloc_heap_new W14 _) (Nat.lt_of_lt_of_le HLEN2.out (by decide)) rfl _ _ rfl rfl rfl ?_;intro p15 c15 W15 hf;rw[show l1++[qj]=l2 from EL2.out.symm] at hf;(try simp only[nn] at hf);generalize hz15:l1.length+1=z15 at hf⊢;clear hz15;have H15:=qh hf;clear hf;replace c_a:=(H15.out).ccCCCCCCC))
   have KN15:=qh ((KN13.out.more (F:=qk (.slice none 0 0) [])).snoc (x:=qj) (u:=.slice none 0 0) List.mem_cons_self)
   rw[show l1++[qj]=l2 from EL2.out.symm] at KN15
   have H16:=qh (H15.out.give1 KN15.out (by have:=HLEN2.out;have e:=EL2.out;rw[e,List.length_append,List.length_singleton];exact Nat.le_trans (Nat.succ_le_of_lt this) (by decide)))
   clear H15
   go_wp2
   obtain⟨Wf,hA,hB,hf⟩:=sets H16 1 2 q c L L.length false 29 s (.slice p15 z15 c15) rfl rfl
   first|rewrite[←hA]|rewrite[←hB]
   (try simp only[nn] at hf);clear hA hB
   have r0:=And.intro (hf.c3 1 rfl).1 (hf.c3 2 rfl).1
   have HF:=qh (And.intro (Fr.toldH q c L ⟨(L.length,false),.mk 29 s l2,[],false⟩ hf) (Fr.toldH q c L ⟨(L.length,false),.mk 29 s l2,[],false⟩ hf.drew))
   clear hf
   (try go_wp2)
   first
    |exact bodyPost_ret (by simp[results,Tryz.results66,go_sem,r0]) rfl HF.out.1
    |exact bodyPost_ret (by simp[results,Tryz.results66,go_sem,r0]) rfl HF.out.2
  |more _ a l2 hl2 hd=>
   obtain⟨hlen2,el2⟩:=qW hl2
   have HLEN2:=qh hlen2
   have EL2:=qh el2
   clear hl2 hlen2 el2
   obtain⟨⟨ata,bada⟩,na,la,ba⟩:=a
   rcases hd with hd|hd|hd|hd
   case' inl=>
    obtain⟨rfl,ha⟩:=hd
    have QA:=qh (fun U hU=>qB q c L (at4,bad4) _ ha U (HP.out.below hU))
    clear ha
    have H15:=qh H14.out
    clear H14
    go_upto_region 19 with(go_at_call 67;with_reducible refine fm QA H15 ?_;clear QA H15;intro W16 pu_2 cu_2 hj;have e_a:=(hj).ff7;have H16:=hj.layM (q:=q) (c:=c) (L:=L) ata bada na (.slice pu_2 na.kids.length cu_2);(try simp only[nn] at H16);replace c_a:=(H16.out).ccCCCCCCCCC;clear hj)
    obtain⟨W17,hW,H17⟩:=fr_w H16;rewrite[←hW];(try simp only[nn] at H17);clear hW H16
    replace c_a:=(H17.out).ccCCCCCCCCC
    go_upto_region 20 with(fail)
    obtain⟨W18,hW,H18⟩:=ab3 H17 4 (.slice q L.length c) (.int .i64 (ata:Int)) (.bool bada) rfl;rewrite[←hW];(try simp only[nn] at H18);clear hW H17
    replace c_a:=(H18.out).ccCCCCCCCCC
   case' inr.inl=>
    obtain⟨hx,ha⟩:=hd
    obtain⟨rfl,hg⟩:=hx
    dsimp only at hg
    subst hg
    have hw:qv L (at4,true) ⟨#[100,101,102]⟩=false:=by unfold qv tokP;simp
    have QA:=qh (fun U hU=>qB q c L (at4,true) _ ha U (HP.out.below hU))
    have QW:=qh (fun U hU=>qC q c L (at4,true) ⟨#[100,101,102]⟩ U (HP.out.below hU))
    rw[hw] at QW
    clear hw
    clear ha
    go_upto_region 19 with(first
     |(go_at_call 64;with_reducible refine fx QW H14 ?_;clear QW H14;intro W15 H15;replace c_a:=(H15.out).ccCCCCCCC)
     |(go_at_call 67;with_reducible refine fm QA H15 ?_;clear QA H15;intro W16 pu_2 cu_2 hj;have e_a:=(hj).ff7;have H16:=hj.layM (q:=q) (c:=c) (L:=L) ata bada na (.slice pu_2 na.kids.length cu_2);(try simp only[nn] at H16);replace c_a:=(H16.out).ccCCCCCCCCC;clear hj))
    obtain⟨W17,hW,H17⟩:=fr_w H16;rewrite[←hW];(try simp only[nn] at H17);clear hW H16
    replace c_a:=(H17.out).ccCCCCCCCCC
    go_upto_region 20 with(fail)
    obtain⟨W18,hW,H18⟩:=ab3 H17 4 (.slice q L.length c) (.int .i64 (ata:Int)) (.bool bada) rfl;rewrite[←hW];(try simp only[nn] at H18);clear hW H17
    replace c_a:=(H18.out).ccCCCCCCCCC
   case' inr.inr.inl=>
    obtain⟨hx,ha⟩:=hd
    obtain⟨rfl,hg,he,hw⟩:=hx
    dsimp only at hg he
    subst hg
    have ye:((at4:Int)==(L.length:Int))=false:=beq_eq_false_iff_ne.2 (by omega)
    have yf:((at4:Int)=(L.length:Int))=False:=eq_false (by omega)
    have yg:(at4=L.length)=False:=eq_false he
    clear he
    have QA:=qh (fun U hU=>ha U (HP.out.below hU))
    have QW:=qh (fun U hU=>qC q c L (at4,false) ⟨#[100,101,102]⟩ U (HP.out.below hU))
    rw[hw] at QW
    clear hw
    clear ha
    go_upto_region 16 with(first
     |(go_at_call 64;with_reducible refine fx QW H14 ?_;clear QW H14;intro W15 H15;replace c_a:=(H15.out).ccCCCCCCC)
     |(go_at_call 66;with_reducible refine fm QA H15 ?_;clear QA H15;intro W16 pu_2 cu_2 hj;have e_a:=(hj).ff7;have H16:=hj.layM (q:=q) (c:=c) (L:=L) ata bada na (.slice pu_2 na.kids.length cu_2);(try simp only[nn] at H16);replace c_a:=(H16.out).ccCCCCCCCCC;clear hj))
    obtain⟨W17,hW,H17⟩:=fr_w H16;rewrite[←hW];(try simp only[nn] at H17);clear hW H16
    replace c_a:=(H17.out).ccCCCCCCCCC
    go_upto_region 17 with(fail)
    obtain⟨W18,hW,H18⟩:=ab3 H17 4 (.slice q L.length c) (.int .i64 (ata:Int)) (.bool bada) rfl;rewrite[←hW];(try simp only[nn] at H18);clear hW H17
    replace c_a:=(H18.out).ccCCCCCCCCC
   case' inr.inr.inr=>
    obtain⟨hx,ha⟩:=hd
    obtain⟨rfl,hg,he,hw⟩:=hx
    dsimp only at hg he
    subst hg
    have ye:((at4:Int)==(L.length:Int))=false:=beq_eq_false_iff_ne.2 (by omega)
    have yf:((at4:Int)=(L.length:Int))=False:=eq_false (by omega)
    have yg:(at4=L.length)=False:=eq_false he
    clear he
    have QA:=qh (fun U hU=>qB q c L (at4,false) _ ha U (HP.out.below hU))
    have QW:=qh (fun U hU=>qC q c L (at4,false) ⟨#[100,101,102]⟩ U (HP.out.below hU))
    rw[hw] at QW
    clear hw
    clear ha
    go_upto_region 19 with(first
     |(go_at_call 64;with_reducible refine fx QW H14 ?_;clear QW H14;intro W15 H15;replace c_a:=(H15.out).ccCCCCCCC)
     |(go_at_call 67;with_reducible refine fm QA H15 ?_;clear QA H15;intro W16 pu_2 cu_2 hj;have e_a:=(hj).ff7;have H16:=hj.layM (q:=q) (c:=c) (L:=L) ata bada na (.slice pu_2 na.kids.length cu_2);(try simp only[nn] at H16);replace c_a:=(H16.out).ccCCCCCCCCC;clear hj))
    obtain⟨W17,hW,H17⟩:=fr_w H16;rewrite[←hW];(try simp only[nn] at H17);clear hW H16
    replace c_a:=(H17.out).ccCCCCCCCCC
    go_upto_region 20 with(fail)
    obtain⟨W18,hW,H18⟩:=ab3 H17 4 (.slice q L.length c) (.int .i64 (ata:Int)) (.bool bada) rfl;rewrite[←hW];(try simp only[nn] at H18);clear hW H17
    replace c_a:=(H18.out).ccCCCCCCCCC
   all_goals
    go_upto_region 21 with(fail)
    obtain⟨W19,hW,H19⟩:=ab3 H18 6 (.int .i64 na.kind) (.string na.text) (.slice pu_2 na.kids.length cu_2) rfl;rewrite[←hW];(try simp only[nn] at H19);clear hW H18
    replace c_a:=(H19.out).ccCCCCCCCCC
    have e_a:=(H19.out).ff7
    go_upto_region 22 with(at_builtin;go_loud(refine q8 (H19.out.skip _) 0 rfl KN13.out.1 na (by simp) (World.alloc_heap_new W19 _) (Nat.lt_of_lt_of_le HLEN2.out (by decide)) rfl _ _ rfl rfl rfl ?_;intro p20 c20 W20 hf;rw[show l1++[na]=l2 from EL2.out.symm] at hf;(try simp only[nn] at hf);generalize hz20:l1.length+1=z20 at hf⊢;clear hz20;have H20:=qh hf;clear hf;replace c_a:=(H20.out).ccCCCCCCCCC))
    have KN20:=qh (((KN13.out.more (F:=qk (.slice none 0 0) [])).more (F:=qk (.slice pu_2 na.kids.length cu_2) na.kids)).snoc (x:=na) (u:=.slice pu_2 na.kids.length cu_2) List.mem_cons_self)
    rw[show l1++[na]=l2 from EL2.out.symm] at KN20
    have H21:=qh (H20.out.give1 KN20.out (by have:=HLEN2.out;have e:=EL2.out;rw[e,List.length_append,List.length_singleton];exact Nat.le_trans (Nat.succ_le_of_lt this) (by decide)))
    clear H20
    go_wp2
    obtain⟨Wf,hA,hB,hf⟩:=sets H21 1 2 q c L ata bada 29 s (.slice p20 z20 c20) rfl rfl
    first|rewrite[←hA]|rewrite[←hB]
    (try simp only[nn] at hf);clear hA hB
    have r0:=And.intro (hf.c3 1 rfl).1 (hf.c3 2 rfl).1
    have HF:=qh (And.intro (Fr.toldH q c L ⟨(ata,bada),.mk 29 s l2,[],false⟩ hf) (Fr.toldH q c L ⟨(ata,bada),.mk 29 s l2,[],false⟩ hf.drew))
    clear hf
    (try go_wp2)
    first
     |exact bodyPost_ret (by simp[results,Tryz.results66,go_sem,r0]) rfl HF.out.1
     |exact bodyPost_ret (by simp[results,Tryz.results66,go_sem,r0]) rfl HF.out.2
end Go.Proofs.YtakbenifinnpfaaGreatDoor
namespace Go.Proofs.YtakbenifinnpfaaGreatDoor
open Go.RowKit Go.Sub
theorem qm5{R:POps}(hR:ROps R){q:Option Addr}{c:Nat}{L:List PTok}(hL:qan L){f:Nat}(ih:PAll R q c L (f+1))(hl:L.length≤1000000000)(p:PSt)(top:Bool)(r:PRes)(hr:runP R L (f+1) (.defn p top)=some r):qn q c L (.defn p top) r:=by
 rw[runP] at hr
 have gi:=fun cm a (h:runP R L f cm=some a)=>ih f (Nat.lt_succ_self f) cm a h
 obtain⟨p0,h0,hr1⟩:=Option.bind_eq_some_iff.1 hr
 obtain⟨⟨p1,s⟩,h1,hr2⟩:=Option.bind_eq_some_iff.1 hr1
 obtain⟨⟨q0,l0⟩,hq,hr3⟩:=Option.bind_eq_some_iff.1 hr2
 obtain⟨p3,h3,hr4⟩:=Option.bind_eq_some_iff.1 hr3
 obtain⟨b,hb,hr5⟩:=Option.bind_eq_some_iff.1 hr4
 obtain⟨p4,h4,hr6⟩:=Option.bind_eq_some_iff.1 hr5
 obtain⟨l1,hl1,hr7⟩:=Option.bind_eq_some_iff.1 hr6
 clear hr hr1 hr2 hr3 hr4 hr5 hr6
 have hr:=hr7
 clear hr7
 (try dsimp only at hq h3 hl1)
 by_cases ho:opP L p1 ⟨#[40]⟩=true
 ·rw[if_pos ho] at hq
  obtain⟨p2,h2,hq2⟩:=Option.bind_eq_some_iff.1 hq
  obtain⟨pa,hpa,hq3⟩:=Option.bind_eq_some_iff.1 hq2
  clear hq hq2
  obtain⟨rfl,rfl⟩:=Prod.mk.inj (Option.some.inj hq3)
  by_cases he:top=true∧p4.2=false∧p4.1=L.length
  ·rw[if_pos he] at hr
   obtain⟨l2,hl2,hr⟩:=Option.bind_eq_some_iff.1 hr
   cases hr
   obtain⟨rfl,hg,he⟩:=he
   exact qb1 hR hL hl p _ p0 p1 s h0 h1 _ _ (.inr ⟨ho,p2,_,_,h2,gi _ _ hpa⟩) p3 h3 b (gi _ _ hb) p4 h4 l1 hl1 _ (.last hg he l2 hl2)
  ·rw[if_neg he] at hr
   obtain⟨a,ha,hr⟩:=Option.bind_eq_some_iff.1 hr
   obtain⟨l2,hl2,hr⟩:=Option.bind_eq_some_iff.1 hr
   cases hr
   cases top with
   |false=>
    rw[if_neg (by simp)] at ha
    exact qb1 hR hL hl p _ p0 p1 s h0 h1 _ _ (.inr ⟨ho,p2,_,_,h2,gi _ _ hpa⟩) p3 h3 b (gi _ _ hb) p4 h4 l1 hl1 _ (.more _ a l2 hl2 (.inl ⟨rfl,gi _ _ ha⟩))
   |true=>
    by_cases hg:p4.2=true
    ·have hw:qv L p4 ⟨#[100,101,102]⟩=false:=by unfold qv tokP;simp[hg]
     rw[if_neg (by simp[hw])] at ha
     exact qb1 hR hL hl p _ p0 p1 s h0 h1 _ _ (.inr ⟨ho,p2,_,_,h2,gi _ _ hpa⟩) p3 h3 b (gi _ _ hb) p4 h4 l1 hl1 _ (.more _ a l2 hl2 (.inr (.inl ⟨⟨rfl,hg⟩,gi _ _ ha⟩)))
    ·have hg':p4.2=false:=by simpa using hg
     have hne:p4.1≠L.length:=fun e=>he ⟨rfl,hg',e⟩
     by_cases hw:qv L p4 ⟨#[100,101,102]⟩=true
     ·rw[if_pos ⟨rfl,hw⟩] at ha
      exact qb1 hR hL hl p _ p0 p1 s h0 h1 _ _ (.inr ⟨ho,p2,_,_,h2,gi _ _ hpa⟩) p3 h3 b (gi _ _ hb) p4 h4 l1 hl1 _ (.more _ a l2 hl2 (.inr (.inr (.inl ⟨⟨rfl,hg',hne,hw⟩,gi _ _ ha⟩))))
     ·rw[if_neg (fun e=>hw e.2)] at ha
      exact qb1 hR hL hl p _ p0 p1 s h0 h1 _ _ (.inr ⟨ho,p2,_,_,h2,gi _ _ hpa⟩) p3 h3 b (gi _ _ hb) p4 h4 l1 hl1 _ (.more _ a l2 hl2 (.inr (.inr (.inr ⟨⟨rfl,hg',hne,by simpa using hw⟩,gi _ _ ha⟩))))
 ·rw[if_neg ho] at hq
  have ho':opP L p1 ⟨#[40]⟩=false:=by simpa using ho
  obtain⟨rfl,rfl⟩:=Prod.mk.inj (Option.some.inj hq)
  by_cases he:top=true∧p4.2=false∧p4.1=L.length
  ·rw[if_pos he] at hr
   obtain⟨l2,hl2,hr⟩:=Option.bind_eq_some_iff.1 hr
   cases hr
   obtain⟨rfl,hg,he⟩:=he
   exact qb1 hR hL hl p _ p0 p1 s h0 h1 _ _ (.inl ⟨ho',rfl,rfl⟩) p3 h3 b (gi _ _ hb) p4 h4 l1 hl1 _ (.last hg he l2 hl2)
  ·rw[if_neg he] at hr
   obtain⟨a,ha,hr⟩:=Option.bind_eq_some_iff.1 hr
   obtain⟨l2,hl2,hr⟩:=Option.bind_eq_some_iff.1 hr
   cases hr
   cases top with
   |false=>
    rw[if_neg (by simp)] at ha
    exact qb1 hR hL hl p _ p0 p1 s h0 h1 _ _ (.inl ⟨ho',rfl,rfl⟩) p3 h3 b (gi _ _ hb) p4 h4 l1 hl1 _ (.more _ a l2 hl2 (.inl ⟨rfl,gi _ _ ha⟩))
   |true=>
    by_cases hg:p4.2=true
    ·have hw:qv L p4 ⟨#[100,101,102]⟩=false:=by unfold qv tokP;simp[hg]
     rw[if_neg (by simp[hw])] at ha
     exact qb1 hR hL hl p _ p0 p1 s h0 h1 _ _ (.inl ⟨ho',rfl,rfl⟩) p3 h3 b (gi _ _ hb) p4 h4 l1 hl1 _ (.more _ a l2 hl2 (.inr (.inl ⟨⟨rfl,hg⟩,gi _ _ ha⟩)))
    ·have hg':p4.2=false:=by simpa using hg
     have hne:p4.1≠L.length:=fun e=>he ⟨rfl,hg',e⟩
     by_cases hw:qv L p4 ⟨#[100,101,102]⟩=true
     ·rw[if_pos ⟨rfl,hw⟩] at ha
      exact qb1 hR hL hl p _ p0 p1 s h0 h1 _ _ (.inl ⟨ho',rfl,rfl⟩) p3 h3 b (gi _ _ hb) p4 h4 l1 hl1 _ (.more _ a l2 hl2 (.inr (.inr (.inl ⟨⟨rfl,hg',hne,hw⟩,gi _ _ ha⟩))))
     ·rw[if_neg (fun e=>hw e.2)] at ha
      exact qb1 hR hL hl p _ p0 p1 s h0 h1 _ _ (.inl ⟨ho',rfl,rfl⟩) p3 h3 b (gi _ _ hb) p4 h4 l1 hl1 _ (.more _ a l2 hl2 (.inr (.inr (.inr ⟨⟨rfl,hg',hne,by simpa using hw⟩,gi _ _ ha⟩))))
theorem qmn{R:POps}(hR:ROps R){q:Option Addr}{c:Nat}{L:List PTok}(hL:qan L)(hl:L.length≤1000000000):∀F,PAll R q c L F:=by
 intro F
 induction F with
 |zero=>intro f hf;omega
 |succ F ihF=>
  intro f hf cm r hr
  by_cases hlt:f<F
  ·exact ihF f hlt cm r hr
  ·obtain rfl:f=F:=by omega
   cases f with
   |zero=>rw[runP] at hr;cases hr
   |succ f=>
    cases cm with
    |exp p least=>exact qm9 hR ihF hl p least r hr
    |expL p n barred least=>trivial
    |operand p=>exact qhF ihF hl p r hr
    |params p out=>
     cases out with
     |nil=>exact qjn hR hL ihF hl p r hr
     |cons x l=>trivial
    |defn p top=>exact qm5 hR hL ihF hl p top r hr
    |within p n dot=>exact qjs ihF hl p n dot r hr
    |post p=>exact ql4 ihF hl p r hr
    |postL p n=>trivial
    |str p=>exact qm0 ihF hl p r hr
    |strL p n=>trivial
    |term p=>exact ql6 ihF hl p r hr
    |bracket p=>exact qis ihF hl p r hr
    |objL p l=>trivial
    |worded p=>exact qiM hR hL ihF hl p r hr
    |argsL p t l=>trivial
    |ifs p=>exact qmc ihF hl p r hr
    |ifsL p l=>trivial
    |fold p kind most=>exact qla ihF hl p kind most r hr
    |key p pat=>exact qlR ihF hl p pat r hr
    |pair p=>exact qkY ihF p r hr
    |value p=>exact qk3 ihF hl p r hr
    |unit p=>exact qkR ihF hl p r hr
    |keypat p=>exact qiO ihF p r hr
    |pattern p=>exact qh9 ihF hl p r hr
    |patL p kind l=>trivial
theorem qcs{R:POps}(hR:ROps R){q:Option Addr}{c:Nat}{L:List PTok}(hL:qan L)(hl:L.length≤1000000000){f:Nat}{cm:PCmd}{r:PRes}(h:runP R L f cm=some r):qn q c L cm r:=qmn hR hL hl (f+1) f (Nat.lt_succ_self f) cm r h
end Go.Proofs.YtakbenifinnpfaaGreatDoor
namespace Go.Sub
def openT(t:PTok):Bool:=decide (t.1=9)||(decide (t.1=13)&&(decide (t.2=⟨#[40]⟩)||decide (t.2=⟨#[91]⟩)||decide (t.2=⟨#[123]⟩)))
def qin(t:PTok):Bool:=decide (t.1=10)||(decide (t.1=13)&&(decide (t.2=⟨#[41]⟩)||decide (t.2=⟨#[93]⟩)||decide (t.2=⟨#[125]⟩)))
def qa4(n:Int)(t:PTok):Int:=if openT t=true then n+1 else if qin t=true then max (n-1) 0 else n
def depL:List PTok→Nat→Int→Int
 |[],_,_=> -1
 |t::ts,i,n=>if 256<qa4 n t then(i:Int) else depL ts (i+1) (qa4 n t)
def depP(L:List PTok):Int:=depL L 0 0
def qbx(L:List PTok):Nat→Nat→Option Nat
 |0,_=>none
 |f+1,k=>match L[k]? with
  |none=>none
  |some t=>if t.1=11 then none else if t.1=8 then qbx L f (k+1) else some k
def qdr(R:POps)(L:List PTok)(F:Nat)(p:PSt):Option (PSt×qb):=do
 let q ←qs L p
 if(tokP L q).1≠7 then some (qR q,.mk 33 (tokP L p).2 [])
 else match qbx L (L.length- (q.1+1)) (q.1+1) with
  |some k=>some ((k,true),.mk 33 (tokP L p).2 [])
  |none=>do
   let a ←runP R L F (.str q)
   if(tokP L p).2=⟨#[105,110,99,108,117,100,101]⟩ then do
    let r ←q7 L a.st ⟨#[59]⟩
    some (r,.mk 33 (tokP L p).2 [a.n])
   else do
    let q2 ←q7 L a.st ⟨#[97,115]⟩
    if(tokP L q2).1=5 then do
     let h ←qbq L q2
     let q3 ←qs L q2
     let r ←q7 L q3 ⟨#[59]⟩
     some (r,.mk 33 (tokP L p).2 [a.n,.mk 4 h []])
    else do
     let(q3,s) ←qdd R L q2
     let r ←q7 L q3 ⟨#[59]⟩
     some (r,.mk 33 (tokP L p).2 [a.n,.mk 31 s []])
def qbA(L:List PTok)(p:PSt):Bool:=qv L p ⟨#[105,109,112,111,114,116]⟩||qv L p ⟨#[105,110,99,108,117,100,101]⟩
def qbJ(R:POps)(L:List PTok)(F:Nat):Nat→PSt→List qb→Option (PSt×List qb)
 |0,_,_=>none
 |g+1,p,l=>
  if qbA L p=true then do
   let(q,n) ←qdr R L F p
   let l' ←qae l n
   onP p q
   qbJ R L F g q l'
  else some (p,l)
def qcq(R:POps)(L:List PTok)(F:Nat):Option (PSt×qb):=do
 let(p,l) ←qbJ R L F (L.length+1) (0,false) []
 let(q,n) ←(if l=[]∨p.2=true∨p.1<L.length then do
   let a ←runP R L F (if qv L p ⟨#[100,101,102]⟩=true then .defn p true else .exp p 1)
   some (a.st,a.n)
  else some (p,qj))
 let r:=if q.2=false∧q.1<L.length then qR q else q
 if l=[] then some (r,n) else do
  let l' ←qae l n
  some (r,.mk 34 ⟨#[]⟩ l')
def qcx(R:POps)(L:List PTok)(F:Nat):Option (qb×Int×Int):=
 if 0≤depP L then some (qj,21,depP L) else(qcq R L F).map fun x=>if x.1.2=true then(qj,22,(x.1.1:Int)) else(x.2,0,0)
end Go.Sub
namespace Go.Proofs.YtakbenifinnpfaaGreatDoor
open Go.RowKit Go.Sub
attribute [local go_sem] Instr.field asAgg
theorem tok7{L:List PTok}{p:PSt}(h:(tokP L p).1=7):p.2=false∧p.1<L.length:=by
 unfold tokP at h
 cases hp:p.2 with
 |true=>simp[hp] at h
 |false=>
  refine⟨rfl,?_⟩
  by_cases hl:p.1<L.length
  ·exact hl
  ·rw[hp] at h
   simp[List.getElem?_eq_none (Nat.le_of_not_lt hl)] at h
theorem qfk{L:List PTok}{k:Nat}{t:PTok}(hk:k<L.length)(ht:L[k]? =some t):qbx L (L.length-k) k=if t.1=11 then none else if t.1=8 then qbx L (L.length- (k+1)) (k+1) else some k:=by
 rw[show L.length-k=(L.length- (k+1))+1 by omega,qbx,ht]
theorem qem{L:List PTok}{k:Nat}(hk:L.length≤k):qbx L (L.length-k) k=none:=by
 rw[show L.length-k=0 by omega,qbx]
structure ScH(L:List PTok)(res:Option Nat)(a k:Nat):Prop where
 run:qbx L (L.length-k) k=res
 lo:a<k
 hi:k≤L.length
theorem qmu{R:POps}(hR:ROps R){q:Option Addr}{c:Nat}{L:List PTok}(hL:qan L)(hl:L.length≤1000000000)(p p1:PSt)(w:World)(h:PRow w q L)(hp1:qs L p=some p1)(h7:(tokP L p1).1≠7):Calls Tryz.prog 65 #[pV q c L p] w (qar q c L w ⟨qR p1,.mk 33 (tokP L p).2 [],[],false⟩):=by
 have H0:=qh (qD w q c L p)
 have QT:=qh (fun U hU=>qu q c L p U (h.below hU))
 have QN:=qh (fun U (hU:Below w.heap.size w U)=>qq q c L p p1 U hl hp1)
 have QT1:=qh (fun U hU=>qu q c L p1 U (h.below hU))
 have HP:=qh h
 clear h hp1
 generalize tokP L p=tok at*
 obtain⟨tk0,tt⟩:=tok
 dsimp only at QT⊢
 generalize tokP L p1=tok at*
 obtain⟨tk,tu⟩:=tok
 dsimp only at h7 QT1
 have ya_7:(tk==7)=false:=beq_eq_false_iff_ne.2 h7;have yb_7:(tk=7)=False:=eq_false h7;have yc_7:(tk != 7)=true:=by simpa using h7
 clear h7
 obtain⟨at',bad⟩:=p
 obtain⟨at1,bad1⟩:=p1
 have QW:Hid (∀U,Calls Tryz.prog 68 #[.agg #[.slice q L.length c,.int .i64 (at1:Int),.bool bad1]] U fun e w'=>e=.returned (.agg #[.slice q L.length c,.int .i64 (at1:Int),.bool true])∧Below U.heap.size U w'):=qh (fun U=>qX q c L (at1,bad1) U)
 go_enter Tryz.func65,Tryz.ntmps65
 go_upto_region 2 with(go_at_call 93;with_reducible refine fx QT H0 ?_;clear H0;intro w1 H1;replace c_a:=(H1.out).cc3)
 obtain⟨w2,hW,hj⟩:=qd (H1.out.lay [.int .i64 33,.string tt,.slice none 0 0] 24)
 rewrite[←hW]
 (try simp only[nn] at hj)
 have H2:=qh hj
 have e_a:=(H1.out).ff3
 clear hW hj H1
 replace c_a:=(H2.out).ccCCCC
 have e_a:=(H2.out).ff4
 go_upto_region 3 with(go_at_call 94;with_reducible refine fx QN H2 ?_;clear QN H2;intro w3 hj;have e_a:=(hj.out).ff4;have H3:=hj.out.layP q c L at1 bad1;(try simp only[nn] at H3);replace c_a:=(H3.out).ccCCCCC;clear hj)
 obtain⟨w4,hW,H4⟩:=fr_w H3;rewrite[←hW];(try simp only[nn] at H4);clear hW H3
 replace c_a:=(H4.out).ccCCCCC
 have e_a:=(H4.out).ff5
 go_upto_region 4 with(go_at_call 93;with_reducible refine fx QT1 H4 ?_;clear H4;intro w5 H5;replace c_a:=(H5.out).ccCCCCC)
 obtain⟨u1,u2,u3,u4,u5,u6,u7,hb0,hb1⟩:=Fr.held (S:=(fun w'=>B1 (w3.heap.size) ((.slice q L.length c)) ((.int .i64 (at1:Int))) ((.bool bad1)) w'∧B1 (w1.heap.size) ((.int .i64 33)) ((.string tt)) ((.slice none 0 0)) w')) H5.out 1 2 (fun U bs' h e=>⟨((h).c3 4 (e 4 rfl)).1,((h).c3 3 (e 3 rfl)).1⟩) rfl rfl
 go_region_held3 ((fun w'=>B1 (w3.heap.size) ((.slice q L.length c)) ((.int .i64 (at1:Int))) ((.bool bad1)) w'∧B1 (w1.heap.size) ((.int .i64 33)) ((.string tt)) ((.slice none 0 0)) w'))
  (with_reducible first|exact HS4.out|exact HS5.out _|assumption|(first|apply u7.out|apply u4.out|apply u5.out|apply u6.out|apply u3.out|apply u2.out|apply u1.out);(with_reducible first|exact hb0|assumption|exact hb1 _|exact qc hb0 _|exact qc (by assumption) _))
  (first|(go_at_call 68;with_reducible refine(QW.out _).mono ?_;rintro _ U ⟨rfl,bu⟩;have bb:Below w5.heap.size w5 U:=Below.trans (by(with_reducible first|exact hb0|assumption|exact hb1 _|exact qc hb0 _|exact qc (by assumption) _)) (bu.mono (Below.size (show Below w5.heap.size w5 _ by(with_reducible first|exact hb0|assumption|exact hb1 _|exact qc hb0 _|exact qc (by assumption) _))));replace c_a:=((H5.out.stays bb)).cc3;have e_a:=((H5.out.stays bb)).ff3;have BU:=qh bu;clear bu))
 all_goals
  have hbu:Below w5.heap.size w5 U:=by assumption
  have HU:=qh (H5.out.stays hbu)
  obtain⟨Wf,hA,hB,hf⟩:=sets HU 1 2 q c L at1 true 33 tt (.slice none 0 0) rfl rfl
  first|rewrite[←hA]|rewrite[←hB]
  (try simp only[nn] at hf);clear hA hB
  have hf:=hf.nilN
  have r0:=And.intro (hf.c3 1 rfl).1 (hf.c3 2 rfl).1
  have HF:=qh (And.intro (hf.told q c L ⟨(at1,true),.mk 33 tt [],[],false⟩ (.slice none 0 0) (by simp[qb.kids])) (hf.drew.told q c L ⟨(at1,true),.mk 33 tt [],[],false⟩ (.slice none 0 0) (by simp[qb.kids])))
  clear hf
  (try go_wp2)
  refine bodyPost_ret (v:=(.tuple #[pV q c L (at1,true),.agg #[.int .i64 33,.string tt,.slice none 0 0]])) (by simp[results,Tryz.results65,go_sem,r0]) rfl ?_
  first|exact HF.out.1|exact HF.out.2
theorem qjL{R:POps}(hR:ROps R){q:Option Addr}{c:Nat}{L:List PTok}(hL:qan L)(hl:L.length≤1000000000)(p p1:PSt)(w:World)(h:PRow w q L)(hp1:qs L p=some p1)(k0:Nat)(h7:(tokP L p1).1=7)(hs:qbx L (L.length- (p1.1+1)) (p1.1+1)=some k0):Calls Tryz.prog 65 #[pV q c L p] w (qar q c L w ⟨(k0,true),.mk 33 (tokP L p).2 [],[],false⟩):=by
 have H0:=qh (qD w q c L p)
 have QT:=qh (fun U hU=>qu q c L p U (h.below hU))
 have QN:=qh (fun U (hU:Below w.heap.size w U)=>qq q c L p p1 U hl hp1)
 have QT1:=qh (fun U hU=>qu q c L p1 U (h.below hU))
 have HP:=qh h
 clear h hp1
 generalize tokP L p=tok at*
 obtain⟨tk0,tt⟩:=tok
 dsimp only at QT⊢
 have h7s:=tok7 h7
 generalize tokP L p1=tok at*
 obtain⟨tk,tu⟩:=tok
 dsimp only at h7 QT1
 subst h7
 obtain⟨at',bad⟩:=p
 obtain⟨at1,bad1⟩:=p1
 dsimp only at h7s hs
 obtain⟨h7b,h7l⟩:=h7s
 subst h7b
 go_enter Tryz.func65,Tryz.ntmps65
 go_upto_region 2 with(go_at_call 93;with_reducible refine fx QT H0 ?_;clear H0;intro w1 H1;replace c_a:=(H1.out).cc3)
 obtain⟨w2,hW,hj⟩:=qd (H1.out.lay [.int .i64 33,.string tt,.slice none 0 0] 24)
 rewrite[←hW]
 (try simp only[nn] at hj)
 have H2:=qh hj
 have e_a:=(H1.out).ff3
 clear hW hj H1
 replace c_a:=(H2.out).ccCCCC
 have e_a:=(H2.out).ff4
 go_upto_region 3 with(go_at_call 94;with_reducible refine fx QN H2 ?_;clear QN H2;intro w3 hj;have e_a:=(hj.out).ff4;have H3:=hj.out.layP q c L at1 false;(try simp only[nn] at H3);replace c_a:=(H3.out).ccCCCCC;clear hj)
 obtain⟨w4,hW,H4⟩:=fr_w H3;rewrite[←hW];(try simp only[nn] at H4);clear hW H3
 replace c_a:=(H4.out).ccCCCCC
 have e_a:=(H4.out).ff5
 have x1:IntKind.i64.wrap ((at1:Int)+1)=(at1:Int)+1:=IntWalk.i64_in _ (by omega)
 have HS:=qh hs
 clear hs
 go_wp2_with(go_at_call 93;with_reducible refine fx QT1 H4 ?_;clear H4;intro w5 H5;replace c_a:=(H5.out).ccCCCCC)
 go_loop [6] (fun i=>∃k:Nat,i=.int .i64 (k:Int)∧Hid (ScH L (some k0) at1 k)) (fun i=>L.length+1- (intOf i).toNat)
 case atStart=>exact⟨at1+1,by go_num,qh ⟨HS.out,by omega,by omega⟩⟩
 case round=>
  clear HS x1
  obtain⟨k,rfl,HH⟩:=hrel
  have hlo:=HH.out.lo
  have hhi:=HH.out.hi
  have hrun:=HH.out.run
  by_cases hk:k<L.length
  ·have hx:=List.getElem?_eq_getElem hk
   rw[qfk hk hx] at hrun
   obtain⟨blk,ofs,eq,k0,k1⟩:=(HP.out.below H5.out.low).2 _ _ hx
   have y1:decide ((k:Int)<(L.length:Int))=true:=decide_eq_true (by omega)
   have y2:((k:Int)<(L.length:Int))=True:=eq_true (by omega)
   have y3:(0:Int)≤(k:Int):=by omega
   generalize L[k]=t at*
   obtain⟨tk,tv⟩:=t
   dsimp only at k0 k1 hrun
   clear hx
   subst eq
   by_cases k11:tk=11
   ·subst k11
    rw[if_pos rfl] at hrun
    cases hrun
   ·rw[if_neg k11] at hrun
    have ya_11:(tk==11)=false:=beq_eq_false_iff_ne.2 k11
    have yb_11:(tk=11)=False:=eq_false k11
    have yc_11:(tk != 11)=true:=by simpa using k11
    by_cases k8:tk=8
    ·subst k8
     rw[if_pos rfl] at hrun
     have HRUN:=qh hrun
     clear hrun
     go_wp2
     go_round
     case rel=>exact⟨k+1,by go_num,qh ⟨HRUN.out,by omega,by omega⟩⟩
     case measure=>simp[intOf];omega
    ·rw[if_neg k8] at hrun
     have ya_8:(tk==8)=false:=beq_eq_false_iff_ne.2 k8
     have yb_8:(tk=8)=False:=eq_false k8
     have yc_8:(tk != 8)=true:=by simpa using k8
     obtain rfl:=Option.some.inj hrun
     clear hrun k11 k8
     go_upto_region 9 with(fail)
     clear k0 k1
     generalize hq:(some (⟨blk,ofs,none⟩:Addr))=q at*
     have HQ:=qh hq
     clear hq
     go_upto_region 10 with(fail)
     obtain⟨w6,hW,hj⟩:=qd (H5.out.set 4 1 rfl (.int .i64 (k:Int)))
     rewrite[←hW]
     (try simp only[nn] at hj)
     have H6:=qh hj
     clear hW hj H5
     have QW:Hid (∀U,Calls Tryz.prog 68 #[.agg #[.slice q L.length c,.int .i64 (k:Int),.bool false]] U fun e w'=>e=.returned (.agg #[.slice q L.length c,.int .i64 (k:Int),.bool true])∧Below U.heap.size U w'):=qh (fun U=>qX q c L (k,false) U)
     replace c_a:=(H6.out).ccCCCCC
     obtain⟨u1,u2,u3,u4,u5,u6,u7,hb0,hb1⟩:=Fr.held (S:=(fun w'=>B1 (w3.heap.size) ((.slice q L.length c)) ((.int .i64 (k:Int))) ((.bool false)) w'∧B1 (w1.heap.size) ((.int .i64 33)) ((.string tt)) ((.slice none 0 0)) w')) H6.out 1 2 (fun U bs' h e=>⟨((h).c3 4 (e 4 rfl)).1,((h).c3 3 (e 3 rfl)).1⟩) rfl rfl
     go_region_held3 ((fun w'=>B1 (w3.heap.size) ((.slice q L.length c)) ((.int .i64 (k:Int))) ((.bool false)) w'∧B1 (w1.heap.size) ((.int .i64 33)) ((.string tt)) ((.slice none 0 0)) w'))
      (with_reducible first|exact HS4.out|exact HS5.out _|assumption|(first|apply u7.out|apply u4.out|apply u5.out|apply u6.out|apply u3.out|apply u2.out|apply u1.out);(with_reducible first|exact hb0|assumption|exact hb1 _|exact qc hb0 _|exact qc (by assumption) _))
      (first|(go_at_call 68;with_reducible refine(QW.out _).mono ?_;rintro _ U ⟨rfl,bu⟩;have bb:Below w6.heap.size w6 U:=Below.trans (by(with_reducible first|exact hb0|assumption|exact hb1 _|exact qc hb0 _|exact qc (by assumption) _)) (bu.mono (Below.size (show Below w6.heap.size w6 _ by(with_reducible first|exact hb0|assumption|exact hb1 _|exact qc hb0 _|exact qc (by assumption) _))));replace c_a:=((H6.out.stays bb)).cc3;have e_a:=((H6.out.stays bb)).ff3;have BU:=qh bu;clear bu))
     all_goals
      have hbu:Below w6.heap.size w6 U:=by assumption
      have HU:=qh (H6.out.stays hbu)
      obtain⟨Wf,hA,hB,hf⟩:=sets HU 1 2 q c L k true 33 tt (.slice none 0 0) rfl rfl
      first|rewrite[←hA]|rewrite[←hB]
      (try simp only[nn] at hf);clear hA hB
      have hf:=hf.nilN
      obtain⟨⟨r0,r1,r2⟩,-⟩:=hf.c3 1 rfl
      obtain⟨⟨s0,s1,s2⟩,-⟩:=hf.c3 2 rfl
      have HF:=qh (Fr.toldH q c L ⟨(k,true),.mk 33 tt [],[],false⟩ hf)
      clear hf
      have hq:=HQ.out
      subst hq
      (try go_wp2)
      exact bodyPost_ret (by simp[results,Tryz.results65,go_sem,r0,r1,r2,s0,s1,s2]) rfl HF.out
  ·rw[qem (by omega)] at hrun
   have y1:decide ((k:Int)<(L.length:Int))=false:=decide_eq_false (by omega)
   have y2:((k:Int)<(L.length:Int))=False:=eq_false (by omega)
   cases hrun
theorem qhv{R:POps}(hR:ROps R){q:Option Addr}{c:Nat}{L:List PTok}(hL:qan L)(hl:L.length≤1000000000)(p p1:PSt)(w:World)(h:PRow w q L)(hp1:qs L p=some p1)(h7:(tokP L p1).1=7)(hs:qbx L (L.length- (p1.1+1)) (p1.1+1)=none)(F:Nat)(a:PRes)(ha:runP R L F (.str p1)=some a)(p9:PSt)(hi:(tokP L p).2=⟨#[105,110,99,108,117,100,101]⟩)(h9:q7 L a.st ⟨#[59]⟩=some p9):Calls Tryz.prog 65 #[pV q c L p] w (qar q c L w ⟨p9,.mk 33 ⟨#[105,110,99,108,117,100,101]⟩ [a.n],[],false⟩):=by
 have H0:=qh (qD w q c L p)
 have QT:=qh (fun U hU=>qu q c L p U (h.below hU))
 have QN:=qh (fun U (hU:Below w.heap.size w U)=>qq q c L p p1 U hl hp1)
 have QT1:=qh (fun U hU=>qu q c L p1 U (h.below hU))
 have HP:=qh h
 have QS:=qh (fun U hU=>qcs hR (q:=q) (c:=c) hL hl ha U (h.below hU))
 have QD:=qh (fun U hU=>qt q c L a.st p9 ⟨#[59]⟩ U (h.below hU) h9)
 clear h hp1 ha h9
 generalize tokP L p=tok at*
 obtain⟨tk0,tt⟩:=tok
 dsimp only at QT hi⊢
 have h7s:=tok7 h7
 generalize tokP L p1=tok at*
 obtain⟨tk,tu⟩:=tok
 dsimp only at h7 QT1
 subst h7
 obtain⟨at',bad⟩:=p
 obtain⟨at1,bad1⟩:=p1
 dsimp only at h7s hs
 obtain⟨h7b,h7l⟩:=h7s
 subst h7b
 subst hi
 obtain⟨at9,bad9⟩:=p9
 obtain⟨⟨ata,bada⟩,na,la,ba⟩:=a
 go_enter Tryz.func65,Tryz.ntmps65
 go_upto_region 2 with(go_at_call 93;with_reducible refine fx QT H0 ?_;clear H0;intro w1 H1;replace c_a:=(H1.out).cc3)
 obtain⟨w2,hW,hj⟩:=qd (H1.out.lay [.int .i64 33,.string ⟨#[105,110,99,108,117,100,101]⟩,.slice none 0 0] 24)
 rewrite[←hW]
 (try simp only[nn] at hj)
 have H2:=qh hj
 have e_a:=(H1.out).ff3
 clear hW hj H1
 replace c_a:=(H2.out).ccCCCC
 have e_a:=(H2.out).ff4
 go_upto_region 3 with(go_at_call 94;with_reducible refine fx QN H2 ?_;clear QN H2;intro w3 hj;have e_a:=(hj.out).ff4;have H3:=hj.out.layP q c L at1 false;(try simp only[nn] at H3);replace c_a:=(H3.out).ccCCCCC;clear hj)
 obtain⟨w4,hW,H4⟩:=fr_w H3;rewrite[←hW];(try simp only[nn] at H4);clear hW H3
 replace c_a:=(H4.out).ccCCCCC
 have e_a:=(H4.out).ff5
 have x1:IntKind.i64.wrap ((at1:Int)+1)=(at1:Int)+1:=IntWalk.i64_in _ (by omega)
 have HS:=qh hs
 clear hs
 go_wp2_with(go_at_call 93;with_reducible refine fx QT1 H4 ?_;clear H4;intro w5 H5;replace c_a:=(H5.out).ccCCCCC)
 go_loop [6] (fun i=>∃k:Nat,i=.int .i64 (k:Int)∧Hid (ScH L none at1 k)) (fun i=>L.length+1- (intOf i).toNat)
 case atStart=>exact⟨at1+1,by go_num,qh ⟨HS.out,by omega,by omega⟩⟩
 case round=>
  clear HS x1
  obtain⟨k,rfl,HH⟩:=hrel
  have hlo:=HH.out.lo
  have hhi:=HH.out.hi
  have hrun:=HH.out.run
  by_cases hk:k<L.length
  ·have hx:=List.getElem?_eq_getElem hk
   rw[qfk hk hx] at hrun
   obtain⟨blk,ofs,eq,k0,k1⟩:=(HP.out.below H5.out.low).2 _ _ hx
   have y1:decide ((k:Int)<(L.length:Int))=true:=decide_eq_true (by omega)
   have y2:((k:Int)<(L.length:Int))=True:=eq_true (by omega)
   have y3:(0:Int)≤(k:Int):=by omega
   generalize L[k]=t at*
   obtain⟨tk,tv⟩:=t
   dsimp only at k0 k1 hrun
   clear hx
   subst eq
   by_cases k11:tk=11
   ·subst k11
    rw[if_pos rfl] at hrun
    go_upto_region 11 with(fail)
    clear k0 k1 hrun
    generalize (some (⟨blk,ofs,none⟩:Addr))=q at*
    replace c_a:=(H5.out).ccCCCCC
    have e_a:=(H5.out).ff5
    go_upto_region 12 with(go_at_call 95;go_loud((with_reducible refine(QS.out _ H5.out.low).mono ?_);rintro e w6 ⟨u,rfl,hk,hb⟩;obtain⟨pu_1,cu_1,rfl,lu⟩:=hk.shape;have hj:=H5.out.call hb (qk _ _) hk;have e_a:=(hj).ff5;have hl:=hj.lay [.int .i64 0,.string ⟨#[]⟩,.slice none 0 0] 24;have hm:=(Fr.set3 (x:=.int .i64 na.kind) (y:=.string na.text) (z:=.slice pu_1 na.kids.length cu_1) (Fr.set3 (x:=.slice q L.length c) (y:=.int .i64 (ata:Int)) (z:=.bool bada) hl 4 rfl) 5 rfl);(try simp only[nn] at hm);have H6:=qh hm;replace c_a:=(H6.out).ccCCCCCC;replace k_4:=(hl).c3 4 rfl;clear hm hj hk hb lu hl;(try clear H5);(try clear QS)))
    obtain⟨w7,hW,H7⟩:=fr_w H6;rewrite[←hW];(try simp only[nn] at H7);clear hW H6
    replace c_a:=(H7.out).ccCCCCCC
    have e_a:=(H7.out).ff6
    have H8:=qh (H7.out.lit1 na (u:=.slice pu_1 na.kids.length cu_1) List.mem_cons_self)
    replace k_3:=(H8.out).c3 3 rfl
    go_upto_region 13 with(fail)
    obtain⟨w9,hW,hj⟩:=qd (H8.out.set 3 2 rfl (.slice (some ⟨w7.heap.size,0,none⟩) 1 1))
    rewrite[←hW]
    (try simp only[nn] at hj)
    have H9:=qh hj
    clear hW hj H7 H8
    replace c_a:=(H9.out).ccCCCCCC
    go_upto_region 14 with(fail)
    have QD2:=qh (fun U (hU:Below w9.heap.size w9 U)=>QD.out U (H9.out.low.trans (hU.mono H9.out.low.size)))
    obtain⟨u1,u2,u3,u4,u5,u6,u7,hb0,hb1⟩:=Fr.held (S:=(fun w'=>B1 (w3.heap.size) ((.slice q L.length c)) ((.int .i64 (ata:Int))) ((.bool bada)) w'∧B1 (w1.heap.size) ((.int .i64 33)) ((.string ⟨#[105,110,99,108,117,100,101]⟩)) ((.slice (some ⟨w7.heap.size,0,none⟩) 1 1)) w')) H9.out 1 2 (fun U bs' h e=>⟨((h).c3 4 (e 4 rfl)).1,((h).c3 3 (e 3 rfl)).1⟩) rfl rfl
    go_region_held3 ((fun w'=>B1 (w3.heap.size) ((.slice q L.length c)) ((.int .i64 (ata:Int))) ((.bool bada)) w'∧B1 (w1.heap.size) ((.int .i64 33)) ((.string ⟨#[105,110,99,108,117,100,101]⟩)) ((.slice (some ⟨w7.heap.size,0,none⟩) 1 1)) w'))
     (with_reducible first|exact HS4.out|exact HS5.out _|assumption|(first|apply u7.out|apply u4.out|apply u5.out|apply u6.out|apply u3.out|apply u2.out|apply u1.out);(with_reducible first|exact hb0|assumption|exact hb1 _|exact qc hb0 _|exact qc (by assumption) _))
     (first|(go_at_call 96;with_reducible refine(QD2.out _ (by(with_reducible first|exact hb0|assumption|exact hb1 _|exact qc hb0 _|exact qc (by assumption) _))).mono ?_;rintro _ U ⟨rfl,bu⟩;have bb:Below w9.heap.size w9 U:=Below.trans (by(with_reducible first|exact hb0|assumption|exact hb1 _|exact qc hb0 _|exact qc (by assumption) _)) (bu.mono (Below.size (show Below w9.heap.size w9 _ by(with_reducible first|exact hb0|assumption|exact hb1 _|exact qc hb0 _|exact qc (by assumption) _))));replace c_a:=((H9.out.stays bb)).cc3;have e_a:=((H9.out.stays bb)).ff3;have BU:=qh bu;clear bu))
    all_goals
     have hbu:Below w9.heap.size w9 U:=by assumption
     have HU:=qh (H9.out.stays hbu)
     obtain⟨Wf,hA,hB,hf⟩:=sets HU 1 2 q c L at9 bad9 33 ⟨#[105,110,99,108,117,100,101]⟩ (.slice (some ⟨w7.heap.size,0,none⟩) 1 1) rfl rfl
     first|rewrite[←hA]|rewrite[←hB]
     (try simp only[nn] at hf);clear hA hB
     have r0:=And.intro (hf.c3 1 rfl).1 (hf.c3 2 rfl).1
     have HF:=qh (And.intro (Fr.toldH q c L ⟨(at9,bad9),.mk 33 ⟨#[105,110,99,108,117,100,101]⟩ [na],[],false⟩ hf) (Fr.toldH q c L ⟨(at9,bad9),.mk 33 ⟨#[105,110,99,108,117,100,101]⟩ [na],[],false⟩ hf.drew))
     clear hf
     (try go_wp2)
     first
      |exact bodyPost_ret (by simp[results,Tryz.results65,go_sem,r0]) rfl HF.out.1
      |exact bodyPost_ret (by simp[results,Tryz.results65,go_sem,r0]) rfl HF.out.2
   ·rw[if_neg k11] at hrun
    have ya_11:(tk==11)=false:=beq_eq_false_iff_ne.2 k11
    have yb_11:(tk=11)=False:=eq_false k11
    have yc_11:(tk != 11)=true:=by simpa using k11
    by_cases k8:tk=8
    ·subst k8
     rw[if_pos rfl] at hrun
     have HRUN:=qh hrun
     clear hrun
     go_wp2
     go_round
     case rel=>exact⟨k+1,by go_num,qh ⟨HRUN.out,by omega,by omega⟩⟩
     case measure=>simp[intOf];omega
    ·rw[if_neg k8] at hrun
     have ya_8:(tk==8)=false:=beq_eq_false_iff_ne.2 k8
     have yb_8:(tk=8)=False:=eq_false k8
     have yc_8:(tk != 8)=true:=by simpa using k8
     cases hrun
  ·rw[qem (by omega)] at hrun
   have y1:decide ((k:Int)<(L.length:Int))=false:=decide_eq_false (by omega)
   have y2:((k:Int)<(L.length:Int))=False:=eq_false (by omega)
   clear hrun
   go_upto_region 11 with(fail)
   replace c_a:=(H5.out).ccCCCCC
   have e_a:=(H5.out).ff5
   go_upto_region 12 with(go_at_call 95;go_loud((with_reducible refine(QS.out _ H5.out.low).mono ?_);rintro e w6 ⟨u,rfl,hk,hb⟩;obtain⟨pu_1,cu_1,rfl,lu⟩:=hk.shape;have hj:=H5.out.call hb (qk _ _) hk;have e_a:=(hj).ff5;have hl:=hj.lay [.int .i64 0,.string ⟨#[]⟩,.slice none 0 0] 24;have hm:=(Fr.set3 (x:=.int .i64 na.kind) (y:=.string na.text) (z:=.slice pu_1 na.kids.length cu_1) (Fr.set3 (x:=.slice q L.length c) (y:=.int .i64 (ata:Int)) (z:=.bool bada) hl 4 rfl) 5 rfl);(try simp only[nn] at hm);have H6:=qh hm;replace c_a:=(H6.out).ccCCCCCC;replace k_4:=(hl).c3 4 rfl;clear hm hj hk hb lu hl;(try clear H5);(try clear QS)))
   obtain⟨w7,hW,H7⟩:=fr_w H6;rewrite[←hW];(try simp only[nn] at H7);clear hW H6
   replace c_a:=(H7.out).ccCCCCCC
   have e_a:=(H7.out).ff6
   have H8:=qh (H7.out.lit1 na (u:=.slice pu_1 na.kids.length cu_1) List.mem_cons_self)
   replace k_3:=(H8.out).c3 3 rfl
   go_upto_region 13 with(fail)
   obtain⟨w9,hW,hj⟩:=qd (H8.out.set 3 2 rfl (.slice (some ⟨w7.heap.size,0,none⟩) 1 1))
   rewrite[←hW]
   (try simp only[nn] at hj)
   have H9:=qh hj
   clear hW hj H7 H8
   replace c_a:=(H9.out).ccCCCCCC
   go_upto_region 14 with(fail)
   have QD2:=qh (fun U (hU:Below w9.heap.size w9 U)=>QD.out U (H9.out.low.trans (hU.mono H9.out.low.size)))
   obtain⟨u1,u2,u3,u4,u5,u6,u7,hb0,hb1⟩:=Fr.held (S:=(fun w'=>B1 (w3.heap.size) ((.slice q L.length c)) ((.int .i64 (ata:Int))) ((.bool bada)) w'∧B1 (w1.heap.size) ((.int .i64 33)) ((.string ⟨#[105,110,99,108,117,100,101]⟩)) ((.slice (some ⟨w7.heap.size,0,none⟩) 1 1)) w')) H9.out 1 2 (fun U bs' h e=>⟨((h).c3 4 (e 4 rfl)).1,((h).c3 3 (e 3 rfl)).1⟩) rfl rfl
   go_region_held3 ((fun w'=>B1 (w3.heap.size) ((.slice q L.length c)) ((.int .i64 (ata:Int))) ((.bool bada)) w'∧B1 (w1.heap.size) ((.int .i64 33)) ((.string ⟨#[105,110,99,108,117,100,101]⟩)) ((.slice (some ⟨w7.heap.size,0,none⟩) 1 1)) w'))
    (with_reducible first|exact HS4.out|exact HS5.out _|assumption|(first|apply u7.out|apply u4.out|apply u5.out|apply u6.out|apply u3.out|apply u2.out|apply u1.out);(with_reducible first|exact hb0|assumption|exact hb1 _|exact qc hb0 _|exact qc (by assumption) _))
    (first|(go_at_call 96;with_reducible refine(QD2.out _ (by(with_reducible first|exact hb0|assumption|exact hb1 _|exact qc hb0 _|exact qc (by assumption) _))).mono ?_;rintro _ U ⟨rfl,bu⟩;have bb:Below w9.heap.size w9 U:=Below.trans (by(with_reducible first|exact hb0|assumption|exact hb1 _|exact qc hb0 _|exact qc (by assumption) _)) (bu.mono (Below.size (show Below w9.heap.size w9 _ by(with_reducible first|exact hb0|assumption|exact hb1 _|exact qc hb0 _|exact qc (by assumption) _))));replace c_a:=((H9.out.stays bb)).cc3;have e_a:=((H9.out.stays bb)).ff3;have BU:=qh bu;clear bu))
   all_goals
    have hbu:Below w9.heap.size w9 U:=by assumption
    have HU:=qh (H9.out.stays hbu)
    obtain⟨Wf,hA,hB,hf⟩:=sets HU 1 2 q c L at9 bad9 33 ⟨#[105,110,99,108,117,100,101]⟩ (.slice (some ⟨w7.heap.size,0,none⟩) 1 1) rfl rfl
    first|rewrite[←hA]|rewrite[←hB]
    (try simp only[nn] at hf);clear hA hB
    have r0:=And.intro (hf.c3 1 rfl).1 (hf.c3 2 rfl).1
    have HF:=qh (And.intro (Fr.toldH q c L ⟨(at9,bad9),.mk 33 ⟨#[105,110,99,108,117,100,101]⟩ [na],[],false⟩ hf) (Fr.toldH q c L ⟨(at9,bad9),.mk 33 ⟨#[105,110,99,108,117,100,101]⟩ [na],[],false⟩ hf.drew))
    clear hf
    (try go_wp2)
    first
     |exact bodyPost_ret (by simp[results,Tryz.results65,go_sem,r0]) rfl HF.out.1
     |exact bodyPost_ret (by simp[results,Tryz.results65,go_sem,r0]) rfl HF.out.2
theorem qiL{R:POps}(hR:ROps R){q:Option Addr}{c:Nat}{L:List PTok}(hL:qan L)(hl:L.length≤1000000000)(p p1:PSt)(w:World)(h:PRow w q L)(hp1:qs L p=some p1)(h7:(tokP L p1).1=7)(hs:qbx L (L.length- (p1.1+1)) (p1.1+1)=none)(F:Nat)(a:PRes)(ha:runP R L F (.str p1)=some a)(hi:(tokP L p).2≠⟨#[105,110,99,108,117,100,101]⟩)(p2:PSt)(h2:q7 L a.st ⟨#[97,115]⟩=some p2)(t5:ByteArray)(p3 p9:PSt)(h5:(tokP L p2).1=5)(ht:qbq L p2=some t5)(h3:qs L p2=some p3)(h9:q7 L p3 ⟨#[59]⟩=some p9):Calls Tryz.prog 65 #[pV q c L p] w (qar q c L w ⟨p9,.mk 33 (tokP L p).2 [a.n,.mk 4 t5 []],[],false⟩):=by
 have H0:=qh (qD w q c L p)
 have QT:=qh (fun U hU=>qu q c L p U (h.below hU))
 have QN:=qh (fun U (hU:Below w.heap.size w U)=>qq q c L p p1 U hl hp1)
 have QT1:=qh (fun U hU=>qu q c L p1 U (h.below hU))
 have HP:=qh h
 have QS:=qh (fun U hU=>qcs hR (q:=q) (c:=c) hL hl ha U (h.below hU))
 have QD:=qh (fun U hU=>qt q c L a.st p2 ⟨#[97,115]⟩ U (h.below hU) h2)
 have QT2:=qh (fun U hU=>qu q c L p2 U (h.below hU))
 have QN3:=qh (fun U=>qq q c L p2 p3 U hl h3)
 have QD9:=qh (fun U hU=>qt q c L p3 p9 ⟨#[59]⟩ U (h.below hU) h9)
 unfold qbq at ht
 clear h hp1 ha h2 h3 h9
 generalize tokP L p=tok at*
 obtain⟨tk0,tt⟩:=tok
 dsimp only at QT hi⊢
 have h7s:=tok7 h7
 generalize tokP L p1=tok at*
 obtain⟨tk,tu⟩:=tok
 dsimp only at h7 QT1
 subst h7
 obtain⟨at',bad⟩:=p
 obtain⟨at1,bad1⟩:=p1
 dsimp only at h7s hs
 obtain⟨h7b,h7l⟩:=h7s
 subst h7b
 obtain⟨zi_a,zi_b⟩:=qa8 (l:=[105,110,99,108,117,100,101]) hi
 clear hi
 generalize tokP L p2=tok at*
 obtain⟨tk2,t2v⟩:=tok
 dsimp only at h5 ht QT2
 subst h5
 have hs5:1≤t2v.size:=by
  by_cases hs5:1≤t2v.size
  ·exact hs5
  ·rw[if_neg hs5] at ht;cases ht
 rw[if_pos hs5] at ht
 have et:t5=cutB t2v 1:=(Option.some.inj ht).symm
 subst et
 have hcut:=qb3 t2v 1
 have u2:(1:Int)≤(t2v.size:Int):=by omega
 clear ht
 obtain⟨at3,bad3⟩:=p3
 obtain⟨at9,bad9⟩:=p9
 obtain⟨at2,bad2⟩:=p2
 obtain⟨⟨ata,bada⟩,na,la,ba⟩:=a
 go_enter Tryz.func65,Tryz.ntmps65
 go_upto_region 2 with(go_at_call 93;with_reducible refine fx QT H0 ?_;clear H0;intro w1 H1;replace c_a:=(H1.out).cc3)
 obtain⟨w2,hW,hj⟩:=qd (H1.out.lay [.int .i64 33,.string tt,.slice none 0 0] 24)
 rewrite[←hW]
 (try simp only[nn] at hj)
 have H2:=qh hj
 have e_a:=(H1.out).ff3
 clear hW hj H1
 replace c_a:=(H2.out).ccCCCC
 have e_a:=(H2.out).ff4
 go_upto_region 3 with(go_at_call 94;with_reducible refine fx QN H2 ?_;clear QN H2;intro w3 hj;have e_a:=(hj.out).ff4;have H3:=hj.out.layP q c L at1 false;(try simp only[nn] at H3);replace c_a:=(H3.out).ccCCCCC;clear hj)
 obtain⟨w4,hW,H4⟩:=fr_w H3;rewrite[←hW];(try simp only[nn] at H4);clear hW H3
 replace c_a:=(H4.out).ccCCCCC
 have e_a:=(H4.out).ff5
 have x1:IntKind.i64.wrap ((at1:Int)+1)=(at1:Int)+1:=IntWalk.i64_in _ (by omega)
 have HS:=qh hs
 clear hs
 go_wp2_with(go_at_call 93;with_reducible refine fx QT1 H4 ?_;clear H4;intro w5 H5;replace c_a:=(H5.out).ccCCCCC)
 go_loop [6] (fun i=>∃k:Nat,i=.int .i64 (k:Int)∧Hid (ScH L none at1 k)) (fun i=>L.length+1- (intOf i).toNat)
 case atStart=>exact⟨at1+1,by go_num,qh ⟨HS.out,by omega,by omega⟩⟩
 case round=>
  clear HS x1
  obtain⟨k,rfl,HH⟩:=hrel
  have hlo:=HH.out.lo
  have hhi:=HH.out.hi
  have hrun:=HH.out.run
  by_cases hk:k<L.length
  ·have hx:=List.getElem?_eq_getElem hk
   rw[qfk hk hx] at hrun
   obtain⟨blk,ofs,eq,k0,k1⟩:=(HP.out.below H5.out.low).2 _ _ hx
   have y1:decide ((k:Int)<(L.length:Int))=true:=decide_eq_true (by omega)
   have y2:((k:Int)<(L.length:Int))=True:=eq_true (by omega)
   have y3:(0:Int)≤(k:Int):=by omega
   generalize L[k]=t at*
   obtain⟨tk,tv⟩:=t
   dsimp only at k0 k1 hrun
   clear hx
   subst eq
   by_cases k11:tk=11
   ·subst k11
    rw[if_pos rfl] at hrun
    go_upto_region 11 with(fail)
    clear k0 k1 hrun
    generalize (some (⟨blk,ofs,none⟩:Addr))=q at*
    replace c_a:=(H5.out).ccCCCCC
    have e_a:=(H5.out).ff5
    go_upto_region 12 with(go_at_call 95;go_loud((with_reducible refine(QS.out _ H5.out.low).mono ?_);rintro e w6 ⟨u,rfl,hk,hb⟩;obtain⟨pu_1,cu_1,rfl,lu⟩:=hk.shape;have hj:=H5.out.call hb (qk _ _) hk;have e_a:=(hj).ff5;have hl:=hj.lay [.int .i64 0,.string ⟨#[]⟩,.slice none 0 0] 24;have hm:=(Fr.set3 (x:=.int .i64 na.kind) (y:=.string na.text) (z:=.slice pu_1 na.kids.length cu_1) (Fr.set3 (x:=.slice q L.length c) (y:=.int .i64 (ata:Int)) (z:=.bool bada) hl 4 rfl) 5 rfl);(try simp only[nn] at hm);have H6:=qh hm;replace c_a:=(H6.out).ccCCCCCC;replace k_4:=(hl).c3 4 rfl;clear hm hj hk hb lu hl;(try clear H5);(try clear QS)))
    obtain⟨w7,hW,H7⟩:=fr_w H6;rewrite[←hW];(try simp only[nn] at H7);clear hW H6
    replace c_a:=(H7.out).ccCCCCCC
    have e_a:=(H7.out).ff6
    have H8:=qh (H7.out.rowOne na (.slice pu_1 na.kids.length cu_1))
    replace k_3:=(H8.out).c3 3 rfl
    go_upto_region 13 with(fail)
    obtain⟨w9,hW,hj⟩:=qd (H8.out.set 3 2 rfl (.slice (some ⟨w7.heap.size,0,none⟩) 1 1))
    rewrite[←hW]
    (try simp only[nn] at hj)
    have H9:=qh hj
    clear hW hj H7 H8
    replace c_a:=(H9.out).ccCCCCCC
    go_upto_region 16 with(go_at_call 96;with_reducible refine fx QD H9 ?_;clear QD H9;intro w10 H10;replace c_a:=(H10.out).ccCCCCCC)
    obtain⟨w11,hW,H11⟩:=ab3 H10 4 (.slice q L.length c) (.int .i64 (at2:Int)) (.bool bad2) rfl;rewrite[←hW];(try simp only[nn] at H11);clear hW H10
    replace c_a:=(H11.out).ccCCCCCC
    have e_a:=(H11.out).ff6
    go_upto_region 17 with(go_at_call 93;with_reducible refine fx QT2 H11 ?_;clear H11;intro w12 H12;replace c_a:=(H12.out).ccCCCCCC)
    go_region_law (first
     |(refine qd1 H12c.out 0 rfl rfl (.mk 4 (cutB t2v 1) []) List.mem_cons_self (World.alloc_heap_new U _) (by simp) rfl _ _ rfl rfl rfl ?_;intro g4 c4 w13 hf;(try simp only[nn] at hf);have H13:=qh hf;clear hf;replace c_a:=(H13.out).ccCCCCCC)
     |(go_simp;go_at_call 93;go_loud((with_reducible refine(QT2.out _ H12.out.drew.low).mono ?_);rintro e U ⟨rfl,hb⟩;have H12b:=qh ((H12.out.drew.stays hb).nilN);have H12c:=qh (H12b.out.skip (.cells #[.int .i64 4,.string (cutB t2v 1),.slice none 0 0] 24));replace c_a:=(H12b.out).ccCCCCCC;have e_a:=(H12b.out).ff6;replace k_3:=(H12c.out).c3 3 rfl;clear hb)))
    all_goals
     simp only[List.length_cons,List.length_nil,Nat.reduceAdd] at H13⊢
     obtain⟨w14,hW,hj⟩:=qd (H13.out.set 3 2 rfl (.slice (some ⟨g4,0,none⟩) 2 c4))
     rewrite[←hW]
     (try simp only[nn] at hj)
     have H14:=qh (hj.give1 (l:=[na,.mk 4 (cutB t2v 1) []]) (us:=[.slice pu_1 na.kids.length cu_1,.slice none 0 0]) (.two (by simp) (by simp[qb.kids])) (by simp))
     clear hW hj
     replace c_a:=(H14.out).ccCCCCCC
     go_upto_region 18 with(fail)
     have QDX:=qh (fun U (hU:Below w14.heap.size w14 U)=>QD9.out U (H14.out.low.trans (hU.mono H14.out.low.size)))
     obtain⟨u1,u2,u3,u4,u5,u6,u7,hb0,hb1⟩:=Fr.held (S:=(fun w'=>B1 (w3.heap.size) ((.slice q L.length c)) ((.int .i64 (at2:Int))) ((.bool bad2)) w'∧B1 (w1.heap.size) ((.int .i64 33)) ((.string tt)) ((.slice (some ⟨g4,0,none⟩) 2 c4)) w')) H14.out 1 2 (fun U bs' h e=>⟨((h).c3 4 (e 4 rfl)).1,((h).c3 3 (e 3 rfl)).1⟩) rfl rfl
     go_region_held3 ((fun w'=>B1 (w3.heap.size) ((.slice q L.length c)) ((.int .i64 (at2:Int))) ((.bool bad2)) w'∧B1 (w1.heap.size) ((.int .i64 33)) ((.string tt)) ((.slice (some ⟨g4,0,none⟩) 2 c4)) w'))
      (with_reducible first|exact HS4.out|exact HS5.out _|assumption|(first|apply u7.out|apply u4.out|apply u5.out|apply u6.out|apply u3.out|apply u2.out|apply u1.out);(with_reducible first|exact hb0|assumption|exact hb1 _|exact qc hb0 _|exact qc (by assumption) _))
      (first|(go_at_call 94;with_reducible refine(QN3.out _).mono ?_;rintro _ U ⟨rfl,bu⟩;have bb:Below w14.heap.size w14 U:=Below.trans (by(with_reducible first|exact hb0|assumption|exact hb1 _|exact qc hb0 _|exact qc (by assumption) _)) (bu.mono (Below.size (show Below w14.heap.size w14 _ by(with_reducible first|exact hb0|assumption|exact hb1 _|exact qc hb0 _|exact qc (by assumption) _))));replace c_a:=((H14.out.stays bb)).cc3;have e_a:=((H14.out.stays bb)).ff3;have BU:=qh bu;clear bu)|(go_at_call 96;with_reducible refine(QDX.out _ (by(with_reducible first|exact hb0|assumption|exact hb1 _|exact qc hb0 _|exact qc (by assumption) _))).mono ?_;rintro _ U ⟨rfl,bu⟩;have bb:Below w14.heap.size w14 U:=Below.trans (by(with_reducible first|exact hb0|assumption|exact hb1 _|exact qc hb0 _|exact qc (by assumption) _)) (bu.mono (Below.size (show Below w14.heap.size w14 _ by(with_reducible first|exact hb0|assumption|exact hb1 _|exact qc hb0 _|exact qc (by assumption) _))));replace c_a:=((H14.out.stays bb)).cc3;have e_a:=((H14.out.stays bb)).ff3;have BU:=qh bu;clear bu))
     all_goals
      have hbu:Below w14.heap.size w14 U:=by assumption
      have HU:=qh (H14.out.stays hbu)
      obtain⟨Wf,hA,hB,hf⟩:=sets HU 1 2 q c L at9 bad9 33 tt (.slice (some ⟨g4,0,none⟩) 2 c4) rfl rfl
      first|rewrite[←hA]|rewrite[←hB]
      (try simp only[nn] at hf);clear hA hB
      have r0:=And.intro (hf.c3 1 rfl).1 (hf.c3 2 rfl).1
      have HF:=qh (And.intro (Fr.toldH q c L ⟨(at9,bad9),.mk 33 tt [na,.mk 4 (cutB t2v 1) []],[],false⟩ hf) (Fr.toldH q c L ⟨(at9,bad9),.mk 33 tt [na,.mk 4 (cutB t2v 1) []],[],false⟩ hf.drew))
      clear hf
      (try go_wp2)
      first
       |exact bodyPost_ret (by simp[results,Tryz.results65,go_sem,r0]) rfl HF.out.1
       |exact bodyPost_ret (by simp[results,Tryz.results65,go_sem,r0]) rfl HF.out.2
   ·rw[if_neg k11] at hrun
    have ya_11:(tk==11)=false:=beq_eq_false_iff_ne.2 k11
    have yb_11:(tk=11)=False:=eq_false k11
    have yc_11:(tk != 11)=true:=by simpa using k11
    by_cases k8:tk=8
    ·subst k8
     rw[if_pos rfl] at hrun
     have HRUN:=qh hrun
     clear hrun
     go_wp2
     go_round
     case rel=>exact⟨k+1,by go_num,qh ⟨HRUN.out,by omega,by omega⟩⟩
     case measure=>simp[intOf];omega
    ·rw[if_neg k8] at hrun
     have ya_8:(tk==8)=false:=beq_eq_false_iff_ne.2 k8
     have yb_8:(tk=8)=False:=eq_false k8
     have yc_8:(tk != 8)=true:=by simpa using k8
     cases hrun
  ·rw[qem (by omega)] at hrun
   have y1:decide ((k:Int)<(L.length:Int))=false:=decide_eq_false (by omega)
   have y2:((k:Int)<(L.length:Int))=False:=eq_false (by omega)
   clear hrun
   go_upto_region 11 with(fail)
   replace c_a:=(H5.out).ccCCCCC
   have e_a:=(H5.out).ff5
   go_upto_region 12 with(go_at_call 95;go_loud((with_reducible refine(QS.out _ H5.out.low).mono ?_);rintro e w6 ⟨u,rfl,hk,hb⟩;obtain⟨pu_1,cu_1,rfl,lu⟩:=hk.shape;have hj:=H5.out.call hb (qk _ _) hk;have e_a:=(hj).ff5;have hl:=hj.lay [.int .i64 0,.string ⟨#[]⟩,.slice none 0 0] 24;have hm:=(Fr.set3 (x:=.int .i64 na.kind) (y:=.string na.text) (z:=.slice pu_1 na.kids.length cu_1) (Fr.set3 (x:=.slice q L.length c) (y:=.int .i64 (ata:Int)) (z:=.bool bada) hl 4 rfl) 5 rfl);(try simp only[nn] at hm);have H6:=qh hm;replace c_a:=(H6.out).ccCCCCCC;replace k_4:=(hl).c3 4 rfl;clear hm hj hk hb lu hl;(try clear H5);(try clear QS)))
   obtain⟨w7,hW,H7⟩:=fr_w H6;rewrite[←hW];(try simp only[nn] at H7);clear hW H6
   replace c_a:=(H7.out).ccCCCCCC
   have e_a:=(H7.out).ff6
   have H8:=qh (H7.out.rowOne na (.slice pu_1 na.kids.length cu_1))
   replace k_3:=(H8.out).c3 3 rfl
   go_upto_region 13 with(fail)
   obtain⟨w9,hW,hj⟩:=qd (H8.out.set 3 2 rfl (.slice (some ⟨w7.heap.size,0,none⟩) 1 1))
   rewrite[←hW]
   (try simp only[nn] at hj)
   have H9:=qh hj
   clear hW hj H7 H8
   replace c_a:=(H9.out).ccCCCCCC
   go_upto_region 16 with(go_at_call 96;with_reducible refine fx QD H9 ?_;clear QD H9;intro w10 H10;replace c_a:=(H10.out).ccCCCCCC)
   obtain⟨w11,hW,H11⟩:=ab3 H10 4 (.slice q L.length c) (.int .i64 (at2:Int)) (.bool bad2) rfl;rewrite[←hW];(try simp only[nn] at H11);clear hW H10
   replace c_a:=(H11.out).ccCCCCCC
   have e_a:=(H11.out).ff6
   go_upto_region 17 with(go_at_call 93;with_reducible refine fx QT2 H11 ?_;clear H11;intro w12 H12;replace c_a:=(H12.out).ccCCCCCC)
   go_region_law (first
    |(refine qd1 H12c.out 0 rfl rfl (.mk 4 (cutB t2v 1) []) List.mem_cons_self (World.alloc_heap_new U _) (by simp) rfl _ _ rfl rfl rfl ?_;intro g4 c4 w13 hf;(try simp only[nn] at hf);have H13:=qh hf;clear hf;replace c_a:=(H13.out).ccCCCCCC)
    |(go_simp;go_at_call 93;go_loud((with_reducible refine(QT2.out _ H12.out.drew.low).mono ?_);rintro e U ⟨rfl,hb⟩;have H12b:=qh ((H12.out.drew.stays hb).nilN);have H12c:=qh (H12b.out.skip (.cells #[.int .i64 4,.string (cutB t2v 1),.slice none 0 0] 24));replace c_a:=(H12b.out).ccCCCCCC;have e_a:=(H12b.out).ff6;replace k_3:=(H12c.out).c3 3 rfl;clear hb)))
   all_goals
    simp only[List.length_cons,List.length_nil,Nat.reduceAdd] at H13⊢
    obtain⟨w14,hW,hj⟩:=qd (H13.out.set 3 2 rfl (.slice (some ⟨g4,0,none⟩) 2 c4))
    rewrite[←hW]
    (try simp only[nn] at hj)
    have H14:=qh (hj.give1 (l:=[na,.mk 4 (cutB t2v 1) []]) (us:=[.slice pu_1 na.kids.length cu_1,.slice none 0 0]) (.two (by simp) (by simp[qb.kids])) (by simp))
    clear hW hj
    replace c_a:=(H14.out).ccCCCCCC
    go_upto_region 18 with(fail)
    have QDX:=qh (fun U (hU:Below w14.heap.size w14 U)=>QD9.out U (H14.out.low.trans (hU.mono H14.out.low.size)))
    obtain⟨u1,u2,u3,u4,u5,u6,u7,hb0,hb1⟩:=Fr.held (S:=(fun w'=>B1 (w3.heap.size) ((.slice q L.length c)) ((.int .i64 (at2:Int))) ((.bool bad2)) w'∧B1 (w1.heap.size) ((.int .i64 33)) ((.string tt)) ((.slice (some ⟨g4,0,none⟩) 2 c4)) w')) H14.out 1 2 (fun U bs' h e=>⟨((h).c3 4 (e 4 rfl)).1,((h).c3 3 (e 3 rfl)).1⟩) rfl rfl
    go_region_held3 ((fun w'=>B1 (w3.heap.size) ((.slice q L.length c)) ((.int .i64 (at2:Int))) ((.bool bad2)) w'∧B1 (w1.heap.size) ((.int .i64 33)) ((.string tt)) ((.slice (some ⟨g4,0,none⟩) 2 c4)) w'))
     (with_reducible first|exact HS4.out|exact HS5.out _|assumption|(first|apply u7.out|apply u4.out|apply u5.out|apply u6.out|apply u3.out|apply u2.out|apply u1.out);(with_reducible first|exact hb0|assumption|exact hb1 _|exact qc hb0 _|exact qc (by assumption) _))
     (first|(go_at_call 94;with_reducible refine(QN3.out _).mono ?_;rintro _ U ⟨rfl,bu⟩;have bb:Below w14.heap.size w14 U:=Below.trans (by(with_reducible first|exact hb0|assumption|exact hb1 _|exact qc hb0 _|exact qc (by assumption) _)) (bu.mono (Below.size (show Below w14.heap.size w14 _ by(with_reducible first|exact hb0|assumption|exact hb1 _|exact qc hb0 _|exact qc (by assumption) _))));replace c_a:=((H14.out.stays bb)).cc3;have e_a:=((H14.out.stays bb)).ff3;have BU:=qh bu;clear bu)|(go_at_call 96;with_reducible refine(QDX.out _ (by(with_reducible first|exact hb0|assumption|exact hb1 _|exact qc hb0 _|exact qc (by assumption) _))).mono ?_;rintro _ U ⟨rfl,bu⟩;have bb:Below w14.heap.size w14 U:=Below.trans (by(with_reducible first|exact hb0|assumption|exact hb1 _|exact qc hb0 _|exact qc (by assumption) _)) (bu.mono (Below.size (show Below w14.heap.size w14 _ by(with_reducible first|exact hb0|assumption|exact hb1 _|exact qc hb0 _|exact qc (by assumption) _))));replace c_a:=((H14.out.stays bb)).cc3;have e_a:=((H14.out.stays bb)).ff3;have BU:=qh bu;clear bu))
    all_goals
     have hbu:Below w14.heap.size w14 U:=by assumption
     have HU:=qh (H14.out.stays hbu)
     obtain⟨Wf,hA,hB,hf⟩:=sets HU 1 2 q c L at9 bad9 33 tt (.slice (some ⟨g4,0,none⟩) 2 c4) rfl rfl
     first|rewrite[←hA]|rewrite[←hB]
     (try simp only[nn] at hf);clear hA hB
     have r0:=And.intro (hf.c3 1 rfl).1 (hf.c3 2 rfl).1
     have HF:=qh (And.intro (Fr.toldH q c L ⟨(at9,bad9),.mk 33 tt [na,.mk 4 (cutB t2v 1) []],[],false⟩ hf) (Fr.toldH q c L ⟨(at9,bad9),.mk 33 tt [na,.mk 4 (cutB t2v 1) []],[],false⟩ hf.drew))
     clear hf
     (try go_wp2)
     first
      |exact bodyPost_ret (by simp[results,Tryz.results65,go_sem,r0]) rfl HF.out.1
      |exact bodyPost_ret (by simp[results,Tryz.results65,go_sem,r0]) rfl HF.out.2
theorem qjG{R:POps}(hR:ROps R){q:Option Addr}{c:Nat}{L:List PTok}(hL:qan L)(hl:L.length≤1000000000)(p p1:PSt)(w:World)(h:PRow w q L)(hp1:qs L p=some p1)(h7:(tokP L p1).1=7)(hs:qbx L (L.length- (p1.1+1)) (p1.1+1)=none)(F:Nat)(a:PRes)(ha:runP R L F (.str p1)=some a)(hi:(tokP L p).2≠⟨#[105,110,99,108,117,100,101]⟩)(p2:PSt)(h2:q7 L a.st ⟨#[97,115]⟩=some p2)(t5:ByteArray)(p3 p9:PSt)(h5:(tokP L p2).1≠5)(h3:qdd R L p2=some (p3,t5))(h9:q7 L p3 ⟨#[59]⟩=some p9):Calls Tryz.prog 65 #[pV q c L p] w (qar q c L w ⟨p9,.mk 33 (tokP L p).2 [a.n,.mk 31 t5 []],[],false⟩):=by
 have H0:=qh (qD w q c L p)
 have QT:=qh (fun U hU=>qu q c L p U (h.below hU))
 have QN:=qh (fun U (hU:Below w.heap.size w U)=>qq q c L p p1 U hl hp1)
 have QT1:=qh (fun U hU=>qu q c L p1 U (h.below hU))
 have HP:=qh h
 have QS:=qh (fun U hU=>qcs hR (q:=q) (c:=c) hL hl ha U (h.below hU))
 have QD:=qh (fun U hU=>qt q c L a.st p2 ⟨#[97,115]⟩ U (h.below hU) h2)
 have QT2:=qh (fun U hU=>qu q c L p2 U (h.below hU))
 have QM:Hid (∀U,Below w.heap.size w U→Calls Tryz.prog 97 #[pV q c L p2] U fun e w'=>e=.returned (.tuple #[pV q c L p3,.string t5])∧Below U.heap.size U w'):=qh (fun U hU=>qfR hR q c L hL p2 (p3,t5) U (h.below hU) h3)
 have QD9:=qh (fun U hU=>qt q c L p3 p9 ⟨#[59]⟩ U (h.below hU) h9)
 clear h hp1 ha h2 h3 h9
 generalize tokP L p=tok at*
 obtain⟨tk0,tt⟩:=tok
 dsimp only at QT hi⊢
 have h7s:=tok7 h7
 generalize tokP L p1=tok at*
 obtain⟨tk,tu⟩:=tok
 dsimp only at h7 QT1
 subst h7
 obtain⟨at',bad⟩:=p
 obtain⟨at1,bad1⟩:=p1
 dsimp only at h7s hs
 obtain⟨h7b,h7l⟩:=h7s
 subst h7b
 obtain⟨zi_a,zi_b⟩:=qa8 (l:=[105,110,99,108,117,100,101]) hi
 clear hi
 generalize tokP L p2=tok at*
 obtain⟨tk2,t2v⟩:=tok
 dsimp only at h5 QT2
 have yd_5:(tk2==5)=false:=beq_eq_false_iff_ne.2 h5
 have ye_5:(tk2=5)=False:=eq_false h5
 clear h5
 obtain⟨at3,bad3⟩:=p3
 obtain⟨at9,bad9⟩:=p9
 obtain⟨at2,bad2⟩:=p2
 obtain⟨⟨ata,bada⟩,na,la,ba⟩:=a
 go_enter Tryz.func65,Tryz.ntmps65
 go_upto_region 2 with(go_at_call 93;with_reducible refine fx QT H0 ?_;clear H0;intro w1 H1;replace c_a:=(H1.out).cc3)
 obtain⟨w2,hW,hj⟩:=qd (H1.out.lay [.int .i64 33,.string tt,.slice none 0 0] 24)
 rewrite[←hW]
 (try simp only[nn] at hj)
 have H2:=qh hj
 have e_a:=(H1.out).ff3
 clear hW hj H1
 replace c_a:=(H2.out).ccCCCC
 have e_a:=(H2.out).ff4
 go_upto_region 3 with(go_at_call 94;with_reducible refine fx QN H2 ?_;clear QN H2;intro w3 hj;have e_a:=(hj.out).ff4;have H3:=hj.out.layP q c L at1 false;(try simp only[nn] at H3);replace c_a:=(H3.out).ccCCCCC;clear hj)
 obtain⟨w4,hW,H4⟩:=fr_w H3;rewrite[←hW];(try simp only[nn] at H4);clear hW H3
 replace c_a:=(H4.out).ccCCCCC
 have e_a:=(H4.out).ff5
 have x1:IntKind.i64.wrap ((at1:Int)+1)=(at1:Int)+1:=IntWalk.i64_in _ (by omega)
 have HS:=qh hs
 clear hs
 go_wp2_with(go_at_call 93;with_reducible refine fx QT1 H4 ?_;clear H4;intro w5 H5;replace c_a:=(H5.out).ccCCCCC)
 go_loop [6] (fun i=>∃k:Nat,i=.int .i64 (k:Int)∧Hid (ScH L none at1 k)) (fun i=>L.length+1- (intOf i).toNat)
 case atStart=>exact⟨at1+1,by go_num,qh ⟨HS.out,by omega,by omega⟩⟩
 case round=>
  clear HS x1
  obtain⟨k,rfl,HH⟩:=hrel
  have hlo:=HH.out.lo
  have hhi:=HH.out.hi
  have hrun:=HH.out.run
  by_cases hk:k<L.length
  ·have hx:=List.getElem?_eq_getElem hk
   rw[qfk hk hx] at hrun
   obtain⟨blk,ofs,eq,k0,k1⟩:=(HP.out.below H5.out.low).2 _ _ hx
   have y1:decide ((k:Int)<(L.length:Int))=true:=decide_eq_true (by omega)
   have y2:((k:Int)<(L.length:Int))=True:=eq_true (by omega)
   have y3:(0:Int)≤(k:Int):=by omega
   generalize L[k]=t at*
   obtain⟨tk,tv⟩:=t
   dsimp only at k0 k1 hrun
   clear hx
   subst eq
   by_cases k11:tk=11
   ·subst k11
    rw[if_pos rfl] at hrun
    go_upto_region 11 with(fail)
    clear k0 k1 hrun
    generalize (some (⟨blk,ofs,none⟩:Addr))=q at*
    replace c_a:=(H5.out).ccCCCCC
    have e_a:=(H5.out).ff5
    go_upto_region 12 with(go_at_call 95;go_loud((with_reducible refine(QS.out _ H5.out.low).mono ?_);rintro e w6 ⟨u,rfl,hk,hb⟩;obtain⟨pu_1,cu_1,rfl,lu⟩:=hk.shape;have hj:=H5.out.call hb (qk _ _) hk;have e_a:=(hj).ff5;have hl:=hj.lay [.int .i64 0,.string ⟨#[]⟩,.slice none 0 0] 24;have hm:=(Fr.set3 (x:=.int .i64 na.kind) (y:=.string na.text) (z:=.slice pu_1 na.kids.length cu_1) (Fr.set3 (x:=.slice q L.length c) (y:=.int .i64 (ata:Int)) (z:=.bool bada) hl 4 rfl) 5 rfl);(try simp only[nn] at hm);have H6:=qh hm;replace c_a:=(H6.out).ccCCCCCC;replace k_4:=(hl).c3 4 rfl;clear hm hj hk hb lu hl;(try clear H5);(try clear QS)))
    obtain⟨w7,hW,H7⟩:=fr_w H6;rewrite[←hW];(try simp only[nn] at H7);clear hW H6
    replace c_a:=(H7.out).ccCCCCCC
    have e_a:=(H7.out).ff6
    have H8:=qh (H7.out.rowOne na (.slice pu_1 na.kids.length cu_1))
    replace k_3:=(H8.out).c3 3 rfl
    go_upto_region 13 with(fail)
    obtain⟨w9,hW,hj⟩:=qd (H8.out.set 3 2 rfl (.slice (some ⟨w7.heap.size,0,none⟩) 1 1))
    rewrite[←hW]
    (try simp only[nn] at hj)
    have H9:=qh hj
    clear hW hj H7 H8
    replace c_a:=(H9.out).ccCCCCCC
    go_upto_region 16 with(go_at_call 96;with_reducible refine fx QD H9 ?_;clear QD H9;intro w10 H10;replace c_a:=(H10.out).ccCCCCCC)
    obtain⟨w11,hW,H11⟩:=ab3 H10 4 (.slice q L.length c) (.int .i64 (at2:Int)) (.bool bad2) rfl;rewrite[←hW];(try simp only[nn] at H11);clear hW H10
    replace c_a:=(H11.out).ccCCCCCC
    have e_a:=(H11.out).ff6
    go_upto_region 20 with(first
     |(go_at_call 93;with_reducible refine fx QT2 H11 ?_;clear H11;intro w12 H12;replace c_a:=(H12.out).ccCCCCCC)
     |(go_at_call 97;go_loud((with_reducible refine(QM.out _ H12.out.low).mono ?_);rintro e w13 ⟨rfl,hb⟩;have hj:=H12.out.stays hb;have e_a:=(hj).ff6;have hm:=hj.lay [.slice q L.length c,.int .i64 (at3:Int),.bool bad3] 78;(try simp only[nn] at hm);have H13:=qh hm;replace c_a:=(H13.out).ccCCCCCCC;clear hm hj hb H12)))
    obtain⟨w14,hW,hj⟩:=qd H13.out.nilN
    rewrite[←hW]
    (try simp only[nn] at hj)
    have H14:=qh hj
    clear hj hW H13
    replace c_a:=(H14.out).ccCCCCCCC
    have e_a:=(H14.out).ff6
    go_upto_region 21 with(at_builtin;go_loud(refine q8 (H14.out.skip _) 0 rfl rfl (.mk 31 t5 []) List.mem_cons_self (World.alloc_heap_new w14 _) (by simp) rfl _ _ rfl rfl rfl ?_;intro p15 c15 w15 hf;simp only[List.length_cons,List.length_nil,Nat.reduceAdd] at hf⊢;have H15:=qh hf;clear hf;replace c_a:=(H15.out).ccCCCCCCC))
    obtain⟨w16,hW,hj⟩:=qd (H15.out.set 3 2 rfl (.slice p15 2 c15))
    rewrite[←hW]
    (try simp only[nn] at hj)
    have H16:=qh (hj.give1 (l:=[na,.mk 31 t5 []]) (us:=[.slice pu_1 na.kids.length cu_1,.slice none 0 0]) (.two (by simp) (by simp[qb.kids])) (by simp))
    clear hW hj H15
    replace c_a:=(H16.out).ccCCCCCCC
    have QDX:=qh (fun U (hU:Below w16.heap.size w16 U)=>QD9.out U (H16.out.low.trans (hU.mono H16.out.low.size)))
    obtain⟨u1,u2,u3,u4,u5,u6,u7,hb0,hb1⟩:=Fr.held (S:=(fun w'=>B1 (w13.heap.size) ((.slice q L.length c)) ((.int .i64 (at3:Int))) ((.bool bad3)) w'∧B1 (w1.heap.size) ((.int .i64 33)) ((.string tt)) ((.slice p15 2 c15)) w')) H16.out 1 2 (fun U bs' h e=>⟨((h).c3 6 (e 6 rfl)).1,((h).c3 3 (e 3 rfl)).1⟩) rfl rfl
    go_region_held3 ((fun w'=>B1 (w13.heap.size) ((.slice q L.length c)) ((.int .i64 (at3:Int))) ((.bool bad3)) w'∧B1 (w1.heap.size) ((.int .i64 33)) ((.string tt)) ((.slice p15 2 c15)) w'))
     (with_reducible first|exact HS4.out|exact HS5.out _|assumption|(first|apply u7.out|apply u4.out|apply u5.out|apply u6.out|apply u3.out|apply u2.out|apply u1.out);(with_reducible first|exact hb0|assumption|exact hb1 _|exact qc hb0 _|exact qc (by assumption) _))
     (first|(go_at_call 96;with_reducible refine(QDX.out _ (by(with_reducible first|exact hb0|assumption|exact hb1 _|exact qc hb0 _|exact qc (by assumption) _))).mono ?_;rintro _ U ⟨rfl,bu⟩;have bb:Below w16.heap.size w16 U:=Below.trans (by(with_reducible first|exact hb0|assumption|exact hb1 _|exact qc hb0 _|exact qc (by assumption) _)) (bu.mono (Below.size (show Below w16.heap.size w16 _ by(with_reducible first|exact hb0|assumption|exact hb1 _|exact qc hb0 _|exact qc (by assumption) _))));replace c_a:=((H16.out.stays bb)).cc3;have e_a:=((H16.out.stays bb)).ff3;have BU:=qh bu;clear bu))
    all_goals
     have hbu:Below w16.heap.size w16 U:=by assumption
     have HU:=qh (H16.out.stays hbu)
     obtain⟨Wf,hA,hB,hf⟩:=sets HU 1 2 q c L at9 bad9 33 tt (.slice p15 2 c15) rfl rfl
     first|rewrite[←hA]|rewrite[←hB]
     (try simp only[nn] at hf);clear hA hB
     have r0:=And.intro (hf.c3 1 rfl).1 (hf.c3 2 rfl).1
     have HF:=qh (And.intro (Fr.toldH q c L ⟨(at9,bad9),.mk 33 tt [na,.mk 31 t5 []],[],false⟩ hf) (Fr.toldH q c L ⟨(at9,bad9),.mk 33 tt [na,.mk 31 t5 []],[],false⟩ hf.drew))
     clear hf
     (try go_wp2)
     first
      |exact bodyPost_ret (by simp[results,Tryz.results65,go_sem,r0]) rfl HF.out.1
      |exact bodyPost_ret (by simp[results,Tryz.results65,go_sem,r0]) rfl HF.out.2
   ·rw[if_neg k11] at hrun
    have ya_11:(tk==11)=false:=beq_eq_false_iff_ne.2 k11
    have yb_11:(tk=11)=False:=eq_false k11
    have yc_11:(tk != 11)=true:=by simpa using k11
    by_cases k8:tk=8
    ·subst k8
     rw[if_pos rfl] at hrun
     have HRUN:=qh hrun
     clear hrun
     go_wp2
     go_round
     case rel=>exact⟨k+1,by go_num,qh ⟨HRUN.out,by omega,by omega⟩⟩
     case measure=>simp[intOf];omega
    ·rw[if_neg k8] at hrun
     have ya_8:(tk==8)=false:=beq_eq_false_iff_ne.2 k8
     have yb_8:(tk=8)=False:=eq_false k8
     have yc_8:(tk != 8)=true:=by simpa using k8
     cases hrun
  ·rw[qem (by omega)] at hrun
   have y1:decide ((k:Int)<(L.length:Int))=false:=decide_eq_false (by omega)
   have y2:((k:Int)<(L.length:Int))=False:=eq_false (by omega)
   clear hrun
   go_upto_region 11 with(fail)
   replace c_a:=(H5.out).ccCCCCC
   have e_a:=(H5.out).ff5
   go_upto_region 12 with(go_at_call 95;go_loud((with_reducible refine(QS.out _ H5.out.low).mono ?_);rintro e w6 ⟨u,rfl,hk,hb⟩;obtain⟨pu_1,cu_1,rfl,lu⟩:=hk.shape;have hj:=H5.out.call hb (qk _ _) hk;have e_a:=(hj).ff5;have hl:=hj.lay [.int .i64 0,.string ⟨#[]⟩,.slice none 0 0] 24;have hm:=(Fr.set3 (x:=.int .i64 na.kind) (y:=.string na.text) (z:=.slice pu_1 na.kids.length cu_1) (Fr.set3 (x:=.slice q L.length c) (y:=.int .i64 (ata:Int)) (z:=.bool bada) hl 4 rfl) 5 rfl);(try simp only[nn] at hm);have H6:=qh hm;replace c_a:=(H6.out).ccCCCCCC;replace k_4:=(hl).c3 4 rfl;clear hm hj hk hb lu hl;(try clear H5);(try clear QS)))
   obtain⟨w7,hW,H7⟩:=fr_w H6;rewrite[←hW];(try simp only[nn] at H7);clear hW H6
   replace c_a:=(H7.out).ccCCCCCC
   have e_a:=(H7.out).ff6
   have H8:=qh (H7.out.rowOne na (.slice pu_1 na.kids.length cu_1))
   replace k_3:=(H8.out).c3 3 rfl
   go_upto_region 13 with(fail)
   obtain⟨w9,hW,hj⟩:=qd (H8.out.set 3 2 rfl (.slice (some ⟨w7.heap.size,0,none⟩) 1 1))
   rewrite[←hW]
   (try simp only[nn] at hj)
   have H9:=qh hj
   clear hW hj H7 H8
   replace c_a:=(H9.out).ccCCCCCC
   go_upto_region 16 with(go_at_call 96;with_reducible refine fx QD H9 ?_;clear QD H9;intro w10 H10;replace c_a:=(H10.out).ccCCCCCC)
   obtain⟨w11,hW,H11⟩:=ab3 H10 4 (.slice q L.length c) (.int .i64 (at2:Int)) (.bool bad2) rfl;rewrite[←hW];(try simp only[nn] at H11);clear hW H10
   replace c_a:=(H11.out).ccCCCCCC
   have e_a:=(H11.out).ff6
   go_upto_region 20 with(first
    |(go_at_call 93;with_reducible refine fx QT2 H11 ?_;clear H11;intro w12 H12;replace c_a:=(H12.out).ccCCCCCC)
    |(go_at_call 97;go_loud((with_reducible refine(QM.out _ H12.out.low).mono ?_);rintro e w13 ⟨rfl,hb⟩;have hj:=H12.out.stays hb;have e_a:=(hj).ff6;have hm:=hj.lay [.slice q L.length c,.int .i64 (at3:Int),.bool bad3] 78;(try simp only[nn] at hm);have H13:=qh hm;replace c_a:=(H13.out).ccCCCCCCC;clear hm hj hb H12)))
   obtain⟨w14,hW,hj⟩:=qd H13.out.nilN
   rewrite[←hW]
   (try simp only[nn] at hj)
   have H14:=qh hj
   clear hj hW H13
   replace c_a:=(H14.out).ccCCCCCCC
   have e_a:=(H14.out).ff6
   go_upto_region 21 with(at_builtin;go_loud(refine q8 (H14.out.skip _) 0 rfl rfl (.mk 31 t5 []) List.mem_cons_self (World.alloc_heap_new w14 _) (by simp) rfl _ _ rfl rfl rfl ?_;intro p15 c15 w15 hf;simp only[List.length_cons,List.length_nil,Nat.reduceAdd] at hf⊢;have H15:=qh hf;clear hf;replace c_a:=(H15.out).ccCCCCCCC))
   obtain⟨w16,hW,hj⟩:=qd (H15.out.set 3 2 rfl (.slice p15 2 c15))
   rewrite[←hW]
   (try simp only[nn] at hj)
   have H16:=qh (hj.give1 (l:=[na,.mk 31 t5 []]) (us:=[.slice pu_1 na.kids.length cu_1,.slice none 0 0]) (.two (by simp) (by simp[qb.kids])) (by simp))
   clear hW hj H15
   replace c_a:=(H16.out).ccCCCCCCC
   have QDX:=qh (fun U (hU:Below w16.heap.size w16 U)=>QD9.out U (H16.out.low.trans (hU.mono H16.out.low.size)))
   obtain⟨u1,u2,u3,u4,u5,u6,u7,hb0,hb1⟩:=Fr.held (S:=(fun w'=>B1 (w13.heap.size) ((.slice q L.length c)) ((.int .i64 (at3:Int))) ((.bool bad3)) w'∧B1 (w1.heap.size) ((.int .i64 33)) ((.string tt)) ((.slice p15 2 c15)) w')) H16.out 1 2 (fun U bs' h e=>⟨((h).c3 6 (e 6 rfl)).1,((h).c3 3 (e 3 rfl)).1⟩) rfl rfl
   go_region_held3 ((fun w'=>B1 (w13.heap.size) ((.slice q L.length c)) ((.int .i64 (at3:Int))) ((.bool bad3)) w'∧B1 (w1.heap.size) ((.int .i64 33)) ((.string tt)) ((.slice p15 2 c15)) w'))
    (with_reducible first|exact HS4.out|exact HS5.out _|assumption|(first|apply u7.out|apply u4.out|apply u5.out|apply u6.out|apply u3.out|apply u2.out|apply u1.out);(with_reducible first|exact hb0|assumption|exact hb1 _|exact qc hb0 _|exact qc (by assumption) _))
    (first|(go_at_call 96;with_reducible refine(QDX.out _ (by(with_reducible first|exact hb0|assumption|exact hb1 _|exact qc hb0 _|exact qc (by assumption) _))).mono ?_;rintro _ U ⟨rfl,bu⟩;have bb:Below w16.heap.size w16 U:=Below.trans (by(with_reducible first|exact hb0|assumption|exact hb1 _|exact qc hb0 _|exact qc (by assumption) _)) (bu.mono (Below.size (show Below w16.heap.size w16 _ by(with_reducible first|exact hb0|assumption|exact hb1 _|exact qc hb0 _|exact qc (by assumption) _))));replace c_a:=((H16.out.stays bb)).cc3;have e_a:=((H16.out.stays bb)).ff3;have BU:=qh bu;clear bu))
   all_goals
    have hbu:Below w16.heap.size w16 U:=by assumption
    have HU:=qh (H16.out.stays hbu)
    obtain⟨Wf,hA,hB,hf⟩:=sets HU 1 2 q c L at9 bad9 33 tt (.slice p15 2 c15) rfl rfl
    first|rewrite[←hA]|rewrite[←hB]
    (try simp only[nn] at hf);clear hA hB
    have r0:=And.intro (hf.c3 1 rfl).1 (hf.c3 2 rfl).1
    have HF:=qh (And.intro (Fr.toldH q c L ⟨(at9,bad9),.mk 33 tt [na,.mk 31 t5 []],[],false⟩ hf) (Fr.toldH q c L ⟨(at9,bad9),.mk 33 tt [na,.mk 31 t5 []],[],false⟩ hf.drew))
    clear hf
    (try go_wp2)
    first
     |exact bodyPost_ret (by simp[results,Tryz.results65,go_sem,r0]) rfl HF.out.1
     |exact bodyPost_ret (by simp[results,Tryz.results65,go_sem,r0]) rfl HF.out.2
end Go.Proofs.YtakbenifinnpfaaGreatDoor
namespace Go.Proofs.YtakbenifinnpfaaGreatDoor
open Go.RowKit Go.Sub
theorem qiU{R:POps}(hR:ROps R){q:Option Addr}{c:Nat}{L:List PTok}(hL:qan L)(hl:L.length≤1000000000)(F:Nat)(p:PSt)(r:PSt×qb)(w:World)(h:PRow w q L)(hr:qdr R L F p=some r):Calls Tryz.prog 65 #[pV q c L p] w (qar q c L w ⟨r.1,r.2,[],false⟩):=by
 unfold qdr at hr
 obtain⟨p1,h1,hr1⟩:=Option.bind_eq_some_iff.1 hr
 clear hr
 by_cases h7:(tokP L p1).1≠7
 ·rw[if_pos h7] at hr1
  obtain rfl:=Option.some.inj hr1
  exact qmu hR hL hl p p1 w h h1 h7
 ·rw[if_neg h7] at hr1
  have h7':(tokP L p1).1=7:=by simpa using h7
  cases hs:qbx L (L.length- (p1.1+1)) (p1.1+1) with
  |some k=>
   rw[hs] at hr1
   obtain rfl:=Option.some.inj hr1
   exact qjL hR hL hl p p1 w h h1 k h7' hs
  |none=>
   rw[hs] at hr1
   dsimp only at hr1
   obtain⟨a,ha,hr2⟩:=Option.bind_eq_some_iff.1 hr1
   by_cases hi:(tokP L p).2=⟨#[105,110,99,108,117,100,101]⟩
   ·rw[if_pos hi] at hr2
    obtain⟨p9,h9,hr3⟩:=Option.bind_eq_some_iff.1 hr2
    obtain rfl:=Option.some.inj hr3
    have:=qhv (c:=c) hR hL hl p p1 w h h1 h7' hs F a ha p9 hi h9
    rw[←hi] at this
    exact this
   ·rw[if_neg hi] at hr2
    obtain⟨p2,h2,hr3⟩:=Option.bind_eq_some_iff.1 hr2
    by_cases h5:(tokP L p2).1=5
    ·rw[if_pos h5] at hr3
     obtain⟨t,ht,hr4⟩:=Option.bind_eq_some_iff.1 hr3
     obtain⟨p3,h3,hr5⟩:=Option.bind_eq_some_iff.1 hr4
     obtain⟨p9,h9,hr6⟩:=Option.bind_eq_some_iff.1 hr5
     obtain rfl:=Option.some.inj hr6
     exact qiL hR hL hl p p1 w h h1 h7' hs F a ha hi p2 h2 t p3 p9 h5 ht h3 h9
    ·rw[if_neg h5] at hr3
     obtain⟨⟨p3,s⟩,h3,hr4⟩:=Option.bind_eq_some_iff.1 hr3
     obtain⟨p9,h9,hr5⟩:=Option.bind_eq_some_iff.1 hr4
     obtain rfl:=Option.some.inj hr5
     exact qjG hR hL hl p p1 w h h1 h7' hs F a ha hi p2 h2 s p3 p9 h5 h3 h9
end Go.Proofs.YtakbenifinnpfaaGreatDoor
namespace Go.Proofs.YtakbenifinnpfaaGreatDoor
open Go.RowKit Go.Sub
attribute [local go_sem] Instr.field asAgg
structure PgH(R:POps)(w wr:World)(B:Nat)(q:Option Addr)(c:Nat)(L:List PTok)(F:Nat)(res:PSt×List qb)(p:PSt)(l:List qb)(us:List Value)(pv:Option Addr)(cv g:Nat)(ks:List Fact):Prop where
 run:qbJ R L F g p l=some res
 fr:Fr (fun _=>False) w wr [⟨w.heap.size,78,[.slice q L.length c,.int .i64 (p.1:Int),.bool p.2]⟩,⟨w.heap.size+1,78,[.slice none 0 0,.int .i64 0,.bool false]⟩,⟨w.heap.size+1+1,24,[.int .i64 0,.string ⟨#[]⟩,.slice none 0 0]⟩,⟨B,24,[.int .i64 34,.string ⟨#[]⟩,.slice pv l.length cv]⟩] [rowN (.slice pv l.length cv) l us] ks
 kn:KN l us ks
 len:l.length≤1000000000
inductive PWay(R:POps)(L:List PTok)(F:Nat)(pE:PSt)(lE:List qb):PRes→Prop
 |plain (hE:lE=[]) (a:PRes) (hd:(qv L pE ⟨#[100,101,102]⟩=true∧runP R L F (.defn pE true)=some a)∨(qv L pE ⟨#[100,101,102]⟩=false∧runP R L F (.exp pE 1)=some a)) (pf:PSt) (hpf:pf=if a.st.2=false∧a.st.1<L.length then qR a.st else a.st):PWay R L F pE lE ⟨pf,a.n,[],false⟩
 |skip (hE:lE≠[]) (hsk:pE.2=false∧¬pE.1<L.length) (l2:List qb) (hl2:qae lE qj=some l2):PWay R L F pE lE ⟨pE,.mk 34 ⟨#[]⟩ l2,[],false⟩
 |mods (hE:lE≠[]) (a:PRes) (hd:((pE.2=false∧pE.1<L.length)∧qv L pE ⟨#[100,101,102]⟩=true∧runP R L F (.defn pE true)=some a)∨((pE.2=false∧pE.1<L.length)∧qv L pE ⟨#[100,101,102]⟩=false∧runP R L F (.exp pE 1)=some a)∨(pE.2=true∧qv L pE ⟨#[100,101,102]⟩=false∧runP R L F (.exp pE 1)=some a)) (pf:PSt) (hpf:pf=if a.st.2=false∧a.st.1<L.length then qR a.st else a.st) (l2:List qb) (hl2:qae lE a.n=some l2):PWay R L F pE lE ⟨pf,.mk 34 ⟨#[]⟩ l2,[],false⟩
theorem qbC{R:POps}(hR:ROps R){q:Option Addr}{c:Nat}{L:List PTok}(hL:qan L)(hl:L.length≤1000000000)(F:Nat)(w:World)(h:PRow w q L)(pE:PSt)(lE:List qb)(hb:qbJ R L F (L.length+1) (0,false) []=some (pE,lE))(r:PRes)(hway:PWay R L F pE lE r):Calls Tryz.prog 49 #[pV q c L (0,false)] w (qar q c L w r):=by
 have H0:=qh (qD w q c L (0,false))
 have HP:=qh h
 have HBR:=qh hb
 have HWAY:=qh hway
 clear h hb hway
 go_enter Tryz.func49,Tryz.ntmps49
 go_wp2_with fail
 have h1:=(Fr.lay (W:=_) H0.out [.int .i64 34,.string ⟨#[]⟩,.slice none 0 0] 24)
 rw[World.size_alloc,World.size_alloc,World.size_alloc] at h1
 have H1:=qh (h1.rowNil 24 3)
 clear h1 H0
 go_loopw [] (fun wr=>∃(g:Nat) (p:PSt) (l:List qb) (us:List Value) (pv:Option Addr) (cv:Nat) (ks:List Fact),Hid (PgH R w wr (w.heap.size+1+1+1) q c L F (pE,lE) p l us pv cv g ks)) (fun wr=>qd0 wr w.heap.size L.length)
 case atStart=>exact⟨L.length+1,(0,false),[],[],none,0,_,qh ⟨HBR.out,H1.out,KN.nil _,Nat.zero_le _⟩⟩
 case round=>
  clear HBR H1
  obtain⟨g,p,l,us,pv,cv,ks,HH⟩:=hrel
  obtain⟨g,rfl⟩:∃g',g=g'+1:=by
   cases g with
   |zero=>have:=HH.out.run;unfold qbJ at this;cases this
   |succ g=>exact⟨g,rfl⟩
  have hrun:=HH.out.run
  unfold qbJ at hrun
  have H1:=qh HH.out.fr
  have KN1:=qh HH.out.kn
  have HLEN:=qh HH.out.kn.1
  have QI:=qh (fun U hU=>qC q c L p ⟨#[105,109,112,111,114,116]⟩ U (HP.out.below hU))
  have QU:=qh (fun U hU=>qC q c L p ⟨#[105,110,99,108,117,100,101]⟩ U (HP.out.below hU))
  by_cases hi:qbA L p=true
  ·rw[if_pos hi] at hrun
   obtain⟨⟨pa,na⟩,ha,hr1⟩:=Option.bind_eq_some_iff.1 hrun
   obtain⟨l1,hl1,hr2⟩:=Option.bind_eq_some_iff.1 hr1
   obtain⟨u0,hon,hr3⟩:=Option.bind_eq_some_iff.1 hr2
   clear hrun hr1 hr2
   obtain⟨hlen,el⟩:=qW hl1
   subst el
   have hon2:=qaK hon
   have hwl:p.2=false∧p.1<L.length:=by
    unfold qbA at hi
    rcases Bool.or_eq_true_iff.1 hi with hx|hx
    ·exact qfc hx
    ·exact qfc hx
   have HM:Hid ((if pa.2=true then 0 else 1+(L.length-pa.1))<(if p.2=true then 0 else 1+(L.length-p.1))):=qh (by
    rw[hwl.1]
    simp only[Bool.false_eq_true,if_false]
    split
    ·omega
    ·rename_i hz;rcases hon2 with hx|hx
     ·exact absurd hx hz
     ·have:=hwl.2;omega)
   have HRUN:=qh hr3
   have HLN:=qh hlen
   have QB:=qh (fun U (hU:Below w.heap.size w U)=>qiU hR (q:=q) (c:=c) hL hl F p (pa,na) U (HP.out.below hU) ha)
   clear hr3 hlen hon hon2 hwl ha hl1
   obtain⟨at2,bad2⟩:=p
   obtain⟨ata,bada⟩:=pa
   by_cases h1:qv L (at2,bad2) ⟨#[105,109,112,111,114,116]⟩=true
   ·rw[h1] at QI
    clear h1 hi
    replace c_a:=(H1.out).ccCCCC
    have e_a:=(H1.out).ff4
    go_upto_region 4 with(first
     |(go_at_call 64;with_reducible refine fx QI H1 ?_;clear QI H1;intro w2 H2;replace c_a:=(H2.out).ccCCCC)
     |(go_at_call 64;with_reducible refine fx QU H2 ?_;clear QU H2;intro w3 H3;replace c_a:=(H3.out).ccCCCC)
     |(go_at_call 65;with_reducible refine fm QB H2 ?_;clear QB H2;intro w4 pu_1 cu_1 hj;have e_a:=(hj).ff4;have H4:=hj.layM (q:=q) (c:=c) (L:=L) ata bada na (.slice pu_1 na.kids.length cu_1);(try simp only[nn] at H4);replace c_a:=(H4.out).ccCCCCCC;clear hj))
    obtain⟨w5,hW,H5⟩:=fr_w H4;rewrite[←hW];(try simp only[nn] at H5);clear hW H4
    replace c_a:=(H5.out).ccCCCCCC
    have e_0:=(H5.out).far 0 rfl;have e_1:=(H5.out).far 1 rfl;have e_2:=(H5.out).far 2 rfl;replace e_3:=(H5.out).far 3 rfl;replace e_5:=(H5.out).far 5 rfl
    go_upto_region 5 with(fail)
    obtain⟨w6,hW,H6⟩:=ab3 H5 0 (.slice q L.length c) (.int .i64 (ata:Int)) (.bool bada) rfl;rewrite[←hW];(try simp only[nn] at H6);clear hW H5
    replace c_a:=(H6.out).ccCCCCCC
    have e_0:=(H6.out).far 0 rfl;have e_1:=(H6.out).far 1 rfl;have e_2:=(H6.out).far 2 rfl;replace e_3:=(H6.out).far 3 rfl;replace e_5:=(H6.out).far 5 rfl
    go_wp2_with(at_builtin;go_loud(refine q8 (H6.out.skip _) 0 rfl HLEN.out na (by simp) (World.alloc_heap_new w6 _) (by have:=HLN.out;omega) rfl _ _ rfl rfl rfl ?_;intro p7 c7 w7 hf;have H7:=qh hf;clear hf;replace c_a:=(H7.out).ccCCCCCC))
    have h8:=H7.out.set 3 2 rfl (.slice p7 (l.length+1) c7)
    (try simp only[nn] at h8)
    have H8:=qh h8.drop4
    clear h8
    have KN4:=qh ((KN1.out.more (F:=qk (.slice pu_1 na.kids.length cu_1) na.kids)).snoc (x:=na) (u:=.slice pu_1 na.kids.length cu_1) List.mem_cons_self)
    go_roundw
    case rel=>exact⟨g,(ata,bada),l++[na],us++[.slice pu_1 na.kids.length cu_1],p7,c7,_,qh ⟨HRUN.out,by rw[List.length_append];exact H8.out,KN4.out,by have:=HLN.out;rw[List.length_append,List.length_singleton];omega⟩⟩
    case measure=>
     rw[H8.out.leftB 0 rfl,HH.out.fr.leftB 0 rfl]
     exact HM.out
   ·have h1':qv L (at2,bad2) ⟨#[105,109,112,111,114,116]⟩=false:=by simpa using h1
    have h2:qv L (at2,bad2) ⟨#[105,110,99,108,117,100,101]⟩=true:=by unfold qbA at hi;rw[h1'] at hi;simpa using hi
    rw[h1'] at QI
    rw[h2] at QU
    clear h1 h1' h2 hi
    replace c_a:=(H1.out).ccCCCC
    have e_a:=(H1.out).ff4
    go_upto_region 4 with(first
     |(go_at_call 64;with_reducible refine fx QI H1 ?_;clear QI H1;intro w2 H2;replace c_a:=(H2.out).ccCCCC)
     |(go_at_call 64;with_reducible refine fx QU H2 ?_;clear QU H2;intro w3 H3;replace c_a:=(H3.out).ccCCCC)
     |(go_at_call 65;with_reducible refine fm QB H3 ?_;clear QB H3;intro w4 pu_1 cu_1 hj;have e_a:=(hj).ff4;have H4:=hj.layM (q:=q) (c:=c) (L:=L) ata bada na (.slice pu_1 na.kids.length cu_1);(try simp only[nn] at H4);replace c_a:=(H4.out).ccCCCCCC;clear hj))
    obtain⟨w5,hW,H5⟩:=fr_w H4;rewrite[←hW];(try simp only[nn] at H5);clear hW H4
    replace c_a:=(H5.out).ccCCCCCC
    have e_0:=(H5.out).far 0 rfl;have e_1:=(H5.out).far 1 rfl;have e_2:=(H5.out).far 2 rfl;replace e_3:=(H5.out).far 3 rfl;replace e_5:=(H5.out).far 5 rfl
    go_upto_region 5 with(fail)
    obtain⟨w6,hW,H6⟩:=ab3 H5 0 (.slice q L.length c) (.int .i64 (ata:Int)) (.bool bada) rfl;rewrite[←hW];(try simp only[nn] at H6);clear hW H5
    replace c_a:=(H6.out).ccCCCCCC
    have e_0:=(H6.out).far 0 rfl;have e_1:=(H6.out).far 1 rfl;have e_2:=(H6.out).far 2 rfl;replace e_3:=(H6.out).far 3 rfl;replace e_5:=(H6.out).far 5 rfl
    go_wp2_with(at_builtin;go_loud(refine q8 (H6.out.skip _) 0 rfl HLEN.out na (by simp) (World.alloc_heap_new w6 _) (by have:=HLN.out;omega) rfl _ _ rfl rfl rfl ?_;intro p7 c7 w7 hf;have H7:=qh hf;clear hf;replace c_a:=(H7.out).ccCCCCCC))
    have h8:=H7.out.set 3 2 rfl (.slice p7 (l.length+1) c7)
    (try simp only[nn] at h8)
    have H8:=qh h8.drop4
    clear h8
    have KN4:=qh ((KN1.out.more (F:=qk (.slice pu_1 na.kids.length cu_1) na.kids)).snoc (x:=na) (u:=.slice pu_1 na.kids.length cu_1) List.mem_cons_self)
    go_roundw
    case rel=>exact⟨g,(ata,bada),l++[na],us++[.slice pu_1 na.kids.length cu_1],p7,c7,_,qh ⟨HRUN.out,by rw[List.length_append];exact H8.out,KN4.out,by have:=HLN.out;rw[List.length_append,List.length_singleton];omega⟩⟩
    case measure=>
     rw[H8.out.leftB 0 rfl,HH.out.fr.leftB 0 rfl]
     exact HM.out
  ·rw[if_neg hi] at hrun
   have hn:qv L p ⟨#[105,109,112,111,114,116]⟩=false∧qv L p ⟨#[105,110,99,108,117,100,101]⟩=false:=by
    unfold qbA at hi
    constructor
    ·cases hx:qv L p ⟨#[105,109,112,111,114,116]⟩ with
     |true=>exact absurd (by rw[hx];rfl) hi
     |false=>rfl
    ·cases hx:qv L p ⟨#[105,110,99,108,117,100,101]⟩ with
     |true=>exact absurd (by rw[hx];simp) hi
     |false=>rfl
   rw[hn.1] at QI
   rw[hn.2] at QU
   obtain⟨e1,e2⟩:=Prod.mk.inj (Option.some.inj hrun)
   subst e1
   subst e2
   clear hrun hn hi
   obtain⟨at2,bad2⟩:=p
   replace c_a:=(H1.out).ccCCCC
   have e_a:=(H1.out).ff4
   go_upto_region 6 with(first
    |(go_at_call 64;with_reducible refine fx QI H1 ?_;clear QI H1;intro w2 H2;replace c_a:=(H2.out).ccCCCC)
    |(go_at_call 64;with_reducible refine fx QU H2 ?_;clear QU H2;intro w3 H3;replace c_a:=(H3.out).ccCCCC))
   have e_a:=(H3.out).ff4
   go_upto_region 7 with(fail)
   obtain⟨w4,hW,hj⟩:=qd (H3.out.nilN.lay [.int .i64 0,.string ⟨#[]⟩,.slice none 0 0] 24)
   rewrite[←hW]
   (try simp only[nn] at hj)
   have H4:=qh hj
   clear hW hj H3
   replace c_a:=(H4.out).ccCCCCC
   have e_a:=(H4.out).ff5
   have hway:=HWAY.out
   clear HWAY
   cases hway with
   |plain hE a hd pf hpf=>
    subst hE
    have HPF:=qh hpf
    obtain⟨⟨ata,bada⟩,na,la,ba⟩:=a
    clear hpf
    rcases hd with hd|hd
    case' inl=>
     obtain⟨hw,ha⟩:=hd
     have QW:=qh (fun U hU=>qC q c L (at2,bad2) ⟨#[100,101,102]⟩ U (HP.out.below hU))
     rw[hw] at QW
     have QA:=qh (fun U hU=>qcs hR (q:=q) (c:=c) hL hl ha U (HP.out.below hU))
     clear hw ha
     go_upto_region 10 with(first
      |(go_at_call 64;with_reducible refine fx QW H4 ?_;clear QW H4;intro w5 H5;replace c_a:=(H5.out).ccCCCCC)
      |(go_at_call 66;with_reducible refine fm QA H5 ?_;clear QA H5;intro w6 pu_2 cu_2 hj;have e_a:=(hj).ff5;have H6:=hj.layM (q:=q) (c:=c) (L:=L) ata bada na (.slice pu_2 na.kids.length cu_2);(try simp only[nn] at H6);replace c_a:=(H6.out).ccCCCCCCC;clear hj))
     obtain⟨w7,hW,H7⟩:=fr_w H6;rewrite[←hW];(try simp only[nn] at H7);clear hW H6
     replace c_a:=(H7.out).ccCCCCCCC
     go_upto_region 11 with(fail)
     obtain⟨w8,hW,H8⟩:=ab3 H7 0 (.slice q L.length c) (.int .i64 (ata:Int)) (.bool bada) rfl;rewrite[←hW];(try simp only[nn] at H8);clear hW H7
     replace c_a:=(H8.out).ccCCCCCCC
    case' inr=>
     obtain⟨hw,ha⟩:=hd
     have QW:=qh (fun U hU=>qC q c L (at2,bad2) ⟨#[100,101,102]⟩ U (HP.out.below hU))
     rw[hw] at QW
     have QA:=qh (fun U hU=>qB q c L (at2,bad2) _ (qcs hR hL hl ha) U (HP.out.below hU))
     clear hw ha
     go_upto_region 13 with(first
      |(go_at_call 64;with_reducible refine fx QW H4 ?_;clear QW H4;intro w5 H5;replace c_a:=(H5.out).ccCCCCC)
      |(go_at_call 67;with_reducible refine fm QA H5 ?_;clear QA H5;intro w6 pu_2 cu_2 hj;have e_a:=(hj).ff5;have H6:=hj.layM (q:=q) (c:=c) (L:=L) ata bada na (.slice pu_2 na.kids.length cu_2);(try simp only[nn] at H6);replace c_a:=(H6.out).ccCCCCCCC;clear hj))
     obtain⟨w7,hW,H7⟩:=fr_w H6;rewrite[←hW];(try simp only[nn] at H7);clear hW H6
     replace c_a:=(H7.out).ccCCCCCCC
     go_upto_region 14 with(fail)
     obtain⟨w8,hW,H8⟩:=ab3 H7 0 (.slice q L.length c) (.int .i64 (ata:Int)) (.bool bada) rfl;rewrite[←hW];(try simp only[nn] at H8);clear hW H7
     replace c_a:=(H8.out).ccCCCCCCC
    all_goals
     go_upto_region 15 with(fail)
     obtain⟨w9,hW,H9⟩:=ab3 H8 4 (.int .i64 na.kind) (.string na.text) (.slice pu_2 na.kids.length cu_2) rfl;rewrite[←hW];(try simp only[nn] at H9);clear hW H8
     replace c_a:=(H9.out).ccCCCCCCC
     have e_a:=(H9.out).ff5
     cases bada
     case' true=>
      obtain rfl:pf=(ata,true):=by rw[HPF.out,if_neg (by simp)]
      have H10b:=H9
      clear H9
     case' false=>
      by_cases hlt:ata<L.length
      case' pos=>
       have y1:decide ((ata:Int)<(L.length:Int))=true:=decide_eq_true (by omega)
       have y2:((ata:Int)<(L.length:Int))=True:=eq_true (by omega)
       have y3:(ata<L.length)=True:=eq_true hlt
       have QX:Hid (∀U,Below w.heap.size w U→Calls Tryz.prog 68 #[.agg #[.slice q L.length c,.int .i64 (ata:Int),.bool false]] U fun e w'=>e=.returned (.agg #[.slice q L.length c,.int .i64 (ata:Int),.bool true])∧Below U.heap.size U w'):=qh (fun U _=>qX q c L (ata,false) U)
       obtain rfl:pf=(ata,true):=by rw[HPF.out,if_pos ⟨rfl,hlt⟩];rfl
       clear hlt
       go_upto_region 17 with(go_at_call 68;with_reducible refine fx QX H9 ?_;clear QX H9;intro w10 H10;replace c_a:=(H10.out).ccCCCCCCC)
       obtain⟨w10b,hW,H10b⟩:=ab3 H10 0 (.slice q L.length c) (.int .i64 (ata:Int)) (.bool true) rfl;rewrite[←hW];(try simp only[nn] at H10b);clear hW H10
       replace c_a:=(H10b.out).ccCCCCCCC
      case' neg=>
       have y1:decide ((ata:Int)<(L.length:Int))=false:=decide_eq_false (by omega)
       have y2:((ata:Int)<(L.length:Int))=False:=eq_false (by omega)
       have y3:(ata<L.length)=False:=eq_false hlt
       obtain rfl:pf=(ata,false):=by rw[HPF.out,if_neg (fun e=>hlt e.2)]
       clear hlt
       have H10b:=H9
       clear H9
     all_goals
      go_upto_region 18 with(fail)
      have H11:=qh (H10b.out.give1 KN1.out.more.more (by simp))
      clear H10b
      go_region
      all_goals
       obtain⟨Wf,hA,hB,hf⟩:=sets0 H11 1 2 q c L na.kind na.text (.slice pu_2 na.kids.length cu_2) rfl rfl rfl
       first|rewrite[←hA]|rewrite[←hB]
       (try simp only[nn] at hf);clear hA hB
       have r0:=And.intro (hf.c3 1 rfl).1 (hf.c3 2 rfl).1
       have HF:=qh hf
       clear hf
       (try go_wp2)
       first
        |exact bodyPost_ret (by simp[results,Tryz.results49,go_sem,r0]) rfl (HF.out.told q c L _ (.slice pu_2 na.kids.length cu_2) (by simp))
        |exact bodyPost_ret (by simp[results,Tryz.results49,go_sem,r0]) rfl (HF.out.drew.told q c L _ (.slice pu_2 na.kids.length cu_2) (by simp))
   |skip hE hsk l2 hl2=>
    have HNE:=qh hE
    obtain⟨hlen2,el2⟩:=qW hl2
    have HLEN2:=qh hlen2
    have EL2:=qh el2
    clear hE hl2 hlen2 el2
    have yl1:(((l.length:Nat):Int)==0)=false:=beq_eq_false_iff_ne.2 (by have:=List.length_pos_iff.2 HNE.out;omega)
    have yl2:(((l.length:Nat):Int)=0)=False:=eq_false (by have:=List.length_pos_iff.2 HNE.out;omega)
    have yl3:(l=[])=False:=eq_false HNE.out
    have yl4:(l.length=0)=False:=eq_false (by have:=List.length_pos_iff.2 HNE.out;omega)
    obtain⟨hx1,hx2⟩:=hsk
    (try dsimp only at hx1 hx2)
    subst hx1
    have y1:decide ((at2:Int)<(L.length:Int))=false:=decide_eq_false (by omega)
    have y2:((at2:Int)<(L.length:Int))=False:=eq_false (by omega)
    have y3:(at2<L.length)=False:=eq_false hx2
    clear hx2
    go_upto_region 20 with(at_builtin;go_loud(refine q8 (H4.out.skip _) 0 rfl KN1.out.1 qj (by simp[show qj.kids=[] from rfl]) (World.alloc_heap_new _ _) (Nat.lt_of_lt_of_le HLEN2.out (by decide)) rfl _ _ rfl rfl rfl ?_;intro p15 c15 w15 hf;rw[show l++[qj]=l2 from EL2.out.symm] at hf;(try simp only[nn] at hf);generalize hz15:l.length+1=z15 at hf⊢;clear hz15;have H15:=qh hf;clear hf;replace c_a:=(H15.out).ccCCCCC))
    have KN15:=qh ((KN1.out.more (F:=qk (.slice none 0 0) [])).snoc (x:=qj) (u:=.slice none 0 0) (by simp[show qj.kids=[] from rfl]))
    rw[show l++[qj]=l2 from EL2.out.symm] at KN15
    obtain⟨w16,hW,hj⟩:=qd (H15.out.set 3 2 rfl (.slice p15 z15 c15))
    rewrite[←hW]
    (try simp only[nn] at hj)
    have H16:=qh (hj.give1 KN15.out (by have:=HLEN2.out;have e:=EL2.out;rw[e,List.length_append,List.length_singleton];exact Nat.le_trans (Nat.succ_le_of_lt this) (by decide)))
    clear hW hj H15
    replace c_a:=(H16.out).ccCCCCC
    go_region
    all_goals
     obtain⟨Wf,hA,hB,hf⟩:=sets0 H16 1 2 q c L 34 ⟨#[]⟩ (.slice p15 z15 c15) rfl rfl rfl
     first|rewrite[←hA]|rewrite[←hB]
     (try simp only[nn] at hf);clear hA hB
     have r0:=And.intro (hf.c3 1 rfl).1 (hf.c3 2 rfl).1
     have HF:=qh hf
     clear hf
     (try go_wp2)
     first
      |exact bodyPost_ret (by simp[results,Tryz.results49,go_sem,r0]) rfl (Fr.toldH q c L _ HF.out)
      |exact bodyPost_ret (by simp[results,Tryz.results49,go_sem,r0]) rfl (Fr.toldH q c L _ HF.out.drew)
   |mods hE a hd pf hpf l2 hl2=>
    have HNE:=qh hE
    obtain⟨hlen2,el2⟩:=qW hl2
    have HLEN2:=qh hlen2
    have EL2:=qh el2
    clear hE hl2 hlen2 el2
    have HPF:=qh hpf
    obtain⟨⟨ata,bada⟩,na,la,ba⟩:=a
    clear hpf
    have yl1:(((l.length:Nat):Int)==0)=false:=beq_eq_false_iff_ne.2 (by have:=List.length_pos_iff.2 HNE.out;omega)
    have yl2:(((l.length:Nat):Int)=0)=False:=eq_false (by have:=List.length_pos_iff.2 HNE.out;omega)
    have yl3:(l=[])=False:=eq_false HNE.out
    have yl4:(l.length=0)=False:=eq_false (by have:=List.length_pos_iff.2 HNE.out;omega)
    rcases hd with hd|hd|hd
    case' inl=>
     obtain⟨hsk,hw,ha⟩:=hd
     obtain⟨hx1,hx2⟩:=hsk
     (try dsimp only at hx1 hx2)
     subst hx1
     have z1:decide ((at2:Int)<(L.length:Int))=true:=decide_eq_true (by omega)
     have z2:((at2:Int)<(L.length:Int))=True:=eq_true (by omega)
     have z3:(at2<L.length)=True:=eq_true hx2
     clear hx2
     have QW:=qh (fun U hU=>qC q c L (at2,false) ⟨#[100,101,102]⟩ U (HP.out.below hU))
     rw[hw] at QW
     have QA:=qh (fun U hU=>qcs hR (q:=q) (c:=c) hL hl ha U (HP.out.below hU))
     clear hw ha
     go_upto_region 10 with(first
      |(go_at_call 64;with_reducible refine fx QW H4 ?_;clear QW H4;intro w5 H5;replace c_a:=(H5.out).ccCCCCC)
      |(go_at_call 66;with_reducible refine fm QA H5 ?_;clear QA H5;intro w6 pu_2 cu_2 hj;have e_a:=(hj).ff5;have H6:=hj.layM (q:=q) (c:=c) (L:=L) ata bada na (.slice pu_2 na.kids.length cu_2);(try simp only[nn] at H6);replace c_a:=(H6.out).ccCCCCCCC;clear hj))
     obtain⟨w7,hW,H7⟩:=fr_w H6;rewrite[←hW];(try simp only[nn] at H7);clear hW H6
     replace c_a:=(H7.out).ccCCCCCCC
     go_upto_region 11 with(fail)
     obtain⟨w8,hW,H8⟩:=ab3 H7 0 (.slice q L.length c) (.int .i64 (ata:Int)) (.bool bada) rfl;rewrite[←hW];(try simp only[nn] at H8);clear hW H7
     replace c_a:=(H8.out).ccCCCCCCC
    case' inr.inl=>
     obtain⟨hsk,hw,ha⟩:=hd
     obtain⟨hx1,hx2⟩:=hsk
     (try dsimp only at hx1 hx2)
     subst hx1
     have z1:decide ((at2:Int)<(L.length:Int))=true:=decide_eq_true (by omega)
     have z2:((at2:Int)<(L.length:Int))=True:=eq_true (by omega)
     have z3:(at2<L.length)=True:=eq_true hx2
     clear hx2
     have QW:=qh (fun U hU=>qC q c L (at2,false) ⟨#[100,101,102]⟩ U (HP.out.below hU))
     rw[hw] at QW
     have QA:=qh (fun U hU=>qB q c L (at2,false) _ (qcs hR hL hl ha) U (HP.out.below hU))
     clear hw ha
     go_upto_region 13 with(first
      |(go_at_call 64;with_reducible refine fx QW H4 ?_;clear QW H4;intro w5 H5;replace c_a:=(H5.out).ccCCCCC)
      |(go_at_call 67;with_reducible refine fm QA H5 ?_;clear QA H5;intro w6 pu_2 cu_2 hj;have e_a:=(hj).ff5;have H6:=hj.layM (q:=q) (c:=c) (L:=L) ata bada na (.slice pu_2 na.kids.length cu_2);(try simp only[nn] at H6);replace c_a:=(H6.out).ccCCCCCCC;clear hj))
     obtain⟨w7,hW,H7⟩:=fr_w H6;rewrite[←hW];(try simp only[nn] at H7);clear hW H6
     replace c_a:=(H7.out).ccCCCCCCC
     go_upto_region 14 with(fail)
     obtain⟨w8,hW,H8⟩:=ab3 H7 0 (.slice q L.length c) (.int .i64 (ata:Int)) (.bool bada) rfl;rewrite[←hW];(try simp only[nn] at H8);clear hW H7
     replace c_a:=(H8.out).ccCCCCCCC
    case' inr.inr=>
     obtain⟨hsk,hw,ha⟩:=hd
     (try dsimp only at hsk)
     subst hsk
     have QW:=qh (fun U hU=>qC q c L (at2,true) ⟨#[100,101,102]⟩ U (HP.out.below hU))
     rw[hw] at QW
     have QA:=qh (fun U hU=>qB q c L (at2,true) _ (qcs hR hL hl ha) U (HP.out.below hU))
     clear hw ha
     go_upto_region 13 with(first
      |(go_at_call 64;with_reducible refine fx QW H4 ?_;clear QW H4;intro w5 H5;replace c_a:=(H5.out).ccCCCCC)
      |(go_at_call 67;with_reducible refine fm QA H5 ?_;clear QA H5;intro w6 pu_2 cu_2 hj;have e_a:=(hj).ff5;have H6:=hj.layM (q:=q) (c:=c) (L:=L) ata bada na (.slice pu_2 na.kids.length cu_2);(try simp only[nn] at H6);replace c_a:=(H6.out).ccCCCCCCC;clear hj))
     obtain⟨w7,hW,H7⟩:=fr_w H6;rewrite[←hW];(try simp only[nn] at H7);clear hW H6
     replace c_a:=(H7.out).ccCCCCCCC
     go_upto_region 14 with(fail)
     obtain⟨w8,hW,H8⟩:=ab3 H7 0 (.slice q L.length c) (.int .i64 (ata:Int)) (.bool bada) rfl;rewrite[←hW];(try simp only[nn] at H8);clear hW H7
     replace c_a:=(H8.out).ccCCCCCCC
    all_goals
     go_upto_region 15 with(fail)
     obtain⟨w9,hW,H9⟩:=ab3 H8 4 (.int .i64 na.kind) (.string na.text) (.slice pu_2 na.kids.length cu_2) rfl;rewrite[←hW];(try simp only[nn] at H9);clear hW H8
     replace c_a:=(H9.out).ccCCCCCCC
     have e_a:=(H9.out).ff5
     cases bada
     case' true=>
      obtain rfl:pf=(ata,true):=by rw[HPF.out,if_neg (by simp)]
      have H10b:=H9
      clear H9
     case' false=>
      by_cases hlt:ata<L.length
      case' pos=>
       have y1:decide ((ata:Int)<(L.length:Int))=true:=decide_eq_true (by omega)
       have y2:((ata:Int)<(L.length:Int))=True:=eq_true (by omega)
       have y3:(ata<L.length)=True:=eq_true hlt
       have QX:Hid (∀U,Below w.heap.size w U→Calls Tryz.prog 68 #[.agg #[.slice q L.length c,.int .i64 (ata:Int),.bool false]] U fun e w'=>e=.returned (.agg #[.slice q L.length c,.int .i64 (ata:Int),.bool true])∧Below U.heap.size U w'):=qh (fun U _=>qX q c L (ata,false) U)
       obtain rfl:pf=(ata,true):=by rw[HPF.out,if_pos ⟨rfl,hlt⟩];rfl
       clear hlt
       go_upto_region 17 with(go_at_call 68;with_reducible refine fx QX H9 ?_;clear QX H9;intro w10 H10;replace c_a:=(H10.out).ccCCCCCCC)
       obtain⟨w10b,hW,H10b⟩:=ab3 H10 0 (.slice q L.length c) (.int .i64 (ata:Int)) (.bool true) rfl;rewrite[←hW];(try simp only[nn] at H10b);clear hW H10
       replace c_a:=(H10b.out).ccCCCCCCC
       have e_a:=(H10b.out).ff5
      case' neg=>
       have y1:decide ((ata:Int)<(L.length:Int))=false:=decide_eq_false (by omega)
       have y2:((ata:Int)<(L.length:Int))=False:=eq_false (by omega)
       have y3:(ata<L.length)=False:=eq_false hlt
       obtain rfl:pf=(ata,false):=by rw[HPF.out,if_neg (fun e=>hlt e.2)]
       clear hlt
       have H10b:=H9
       clear H9
     all_goals
      go_upto_region 20 with(at_builtin;go_loud(refine q8 (H10b.out.skip _) 0 rfl KN1.out.1 na (by simp[show qj.kids=[] from rfl]) (World.alloc_heap_new _ _) (Nat.lt_of_lt_of_le HLEN2.out (by decide)) rfl _ _ rfl rfl rfl ?_;intro p15 c15 w15 hf;rw[show l++[na]=l2 from EL2.out.symm] at hf;(try simp only[nn] at hf);generalize hz15:l.length+1=z15 at hf⊢;clear hz15;have H15:=qh hf;clear hf;replace c_a:=(H15.out).ccCCCCCCC))
      have KN15:=qh (((KN1.out.more (F:=qk (.slice none 0 0) [])).more (F:=qk (.slice pu_2 na.kids.length cu_2) na.kids)).snoc (x:=na) (u:=.slice pu_2 na.kids.length cu_2) (by simp[show qj.kids=[] from rfl]))
      rw[show l++[na]=l2 from EL2.out.symm] at KN15
      obtain⟨w16,hW,hj⟩:=qd (H15.out.set 3 2 rfl (.slice p15 z15 c15))
      rewrite[←hW]
      (try simp only[nn] at hj)
      have H16:=qh (hj.give1 KN15.out (by have:=HLEN2.out;have e:=EL2.out;rw[e,List.length_append,List.length_singleton];exact Nat.le_trans (Nat.succ_le_of_lt this) (by decide)))
      clear hW hj H15
      replace c_a:=(H16.out).ccCCCCCCC
      go_region
      all_goals
       obtain⟨Wf,hA,hB,hf⟩:=sets0 H16 1 2 q c L 34 ⟨#[]⟩ (.slice p15 z15 c15) rfl rfl rfl
       first|rewrite[←hA]|rewrite[←hB]
       (try simp only[nn] at hf);clear hA hB
       have r0:=And.intro (hf.c3 1 rfl).1 (hf.c3 2 rfl).1
       have HF:=qh hf
       clear hf
       (try go_wp2)
       first
        |exact bodyPost_ret (by simp[results,Tryz.results49,go_sem,r0]) rfl (Fr.toldH q c L _ HF.out)
        |exact bodyPost_ret (by simp[results,Tryz.results49,go_sem,r0]) rfl (Fr.toldH q c L _ HF.out.drew)
structure DeH(w wr:World)(L:List PTok)(r:Int)(k:Nat)(n:Int):Prop where
 run:depL (L.drop k) k n=r
 le:k≤L.length
 lo:0≤n
 hi:n≤256
 low:Below w.heap.size w wr
theorem qjW(q:Option Addr)(c:Nat)(L:List PTok)(w:World)(h:PRow w q L):
  Calls Tryz.prog 48 #[.slice q L.length c] w fun e w'=>e=.returned (.int .i64 (depP L))∧Below w.heap.size w w':=by
 have HP:=qh h
 have hl:=h.1
 have HR:Hid (depL (L.drop 0) 0 0=depP L):=qh rfl
 generalize depP L=r at*
 clear h
 go_enter Tryz.func48,Tryz.ntmps48
 go_wp2_with fail
 go_loopw [3,4] (fun a b wr=>∃(k:Nat) (n:Int),a=.int .i64 n∧b=.int .i64 (k:Int)∧Hid (DeH w wr L r k n)) (fun _ b _=>L.length- (intOf b).toNat)
 case atStart=>exact⟨0,0,rfl,rfl,qh ⟨HR.out,Nat.zero_le _,by omega,by omega,Below.refl _ _⟩⟩
 case round=>
  clear HR
  obtain⟨k,n,rfl,rfl,HH⟩:=hrel
  by_cases hk:k<L.length
  ·have hx:=List.getElem?_eq_getElem hk
   have hd:L.drop k=L[k]::L.drop (k+1):=List.drop_eq_getElem_cons hk
   have hrun:=HH.out.run
   rw[hd] at hrun
   unfold depL at hrun
   obtain⟨b,o,eq,c0,c1⟩:=(HP.out.below HH.out.low).2 _ _ hx
   have HX:=qh eq
   have hbl:=World.block_lt_of_cell? _ _ c0
   dsimp only at hbl
   have hlo:=HH.out.lo
   have hhi:=HH.out.hi
   have y1:decide ((k:Int)<(L.length:Int))=true:=decide_eq_true (by omega)
   have y2:((k:Int)<(L.length:Int))=True:=eq_true (by omega)
   have y3:(0:Int)≤(k:Int):=by omega
   have hl2:=hl
   subst eq
   generalize L[k]=t at*
   obtain⟨tk,tt⟩:=t
   dsimp only at c0 c1
   have HA:=qh (fun o=>HH.out.low.alloc HH.out.low.size o)
   clear hx hd HX
   by_cases k9:tk=9
   ·subst k9
    have hst:qa4 n (9,tt)=(n+1):=by
     rfl
    rw[hst] at hrun
    by_cases hg:256<(n+1)
    ·rw[if_pos hg] at hrun
     obtain rfl:=hrun
     have z1:decide ((n+1)>256)=true:=decide_eq_true hg
     have z2:(256<(n+1))=True:=eq_true hg
     clear hst hg
     go_wp2<;>(go_ret;exact⟨rfl,HA.out _⟩)
    ·rw[if_neg hg] at hrun
     have z1:decide ((n+1)>256)=false:=decide_eq_false hg
     have z2:(256<(n+1))=False:=eq_false hg
     have HRUN:=qh hrun
     have hg2:(n+1)≤256:=Int.not_lt.1 hg
     have HG:=qh hg2
     clear hst hg hrun hg2
     go_wp2
     go_roundw
     case rel=>exact⟨k+1,(n+1),rfl,by go_num,qh ⟨HRUN.out,by omega,by omega,HG.out,HA.out _⟩⟩
     case measure=>simp[intOf];omega
   ·have ya_9:(tk==9)=false:=beq_eq_false_iff_ne.2 k9
    have yb_9:(tk=9)=False:=eq_false k9
    by_cases k13:tk=13
    ·subst k13
     by_cases h40:tt=⟨#[40]⟩
     ·subst h40
      have hst:qa4 n (13,⟨#[40]⟩)=(n+1):=by
       rfl
      rw[hst] at hrun
      by_cases hg:256<(n+1)
      ·rw[if_pos hg] at hrun
       obtain rfl:=hrun
       have z1:decide ((n+1)>256)=true:=decide_eq_true hg
       have z2:(256<(n+1))=True:=eq_true hg
       clear hst hg
       go_wp2<;>(go_ret;exact⟨rfl,HA.out _⟩)
      ·rw[if_neg hg] at hrun
       have z1:decide ((n+1)>256)=false:=decide_eq_false hg
       have z2:(256<(n+1))=False:=eq_false hg
       have HRUN:=qh hrun
       have hg2:(n+1)≤256:=Int.not_lt.1 hg
       have HG:=qh hg2
       clear hst hg hrun hg2
       go_wp2
       go_roundw
       case rel=>exact⟨k+1,(n+1),rfl,by go_num,qh ⟨HRUN.out,by omega,by omega,HG.out,HA.out _⟩⟩
       case measure=>simp[intOf];omega
     ·obtain⟨za_40,zb_40⟩:=qa8 (l:=[40]) h40
      by_cases h91:tt=⟨#[91]⟩
      ·subst h91
       have hst:qa4 n (13,⟨#[91]⟩)=(n+1):=by
        rfl
       rw[hst] at hrun
       by_cases hg:256<(n+1)
       ·rw[if_pos hg] at hrun
        obtain rfl:=hrun
        have z1:decide ((n+1)>256)=true:=decide_eq_true hg
        have z2:(256<(n+1))=True:=eq_true hg
        clear hst hg
        go_wp2<;>(go_ret;exact⟨rfl,HA.out _⟩)
       ·rw[if_neg hg] at hrun
        have z1:decide ((n+1)>256)=false:=decide_eq_false hg
        have z2:(256<(n+1))=False:=eq_false hg
        have HRUN:=qh hrun
        have hg2:(n+1)≤256:=Int.not_lt.1 hg
        have HG:=qh hg2
        clear hst hg hrun hg2
        go_wp2
        go_roundw
        case rel=>exact⟨k+1,(n+1),rfl,by go_num,qh ⟨HRUN.out,by omega,by omega,HG.out,HA.out _⟩⟩
        case measure=>simp[intOf];omega
      ·obtain⟨za_91,zb_91⟩:=qa8 (l:=[91]) h91
       by_cases h123:tt=⟨#[123]⟩
       ·subst h123
        have hst:qa4 n (13,⟨#[123]⟩)=(n+1):=by
         rfl
        rw[hst] at hrun
        by_cases hg:256<(n+1)
        ·rw[if_pos hg] at hrun
         obtain rfl:=hrun
         have z1:decide ((n+1)>256)=true:=decide_eq_true hg
         have z2:(256<(n+1))=True:=eq_true hg
         clear hst hg
         go_wp2<;>(go_ret;exact⟨rfl,HA.out _⟩)
        ·rw[if_neg hg] at hrun
         have z1:decide ((n+1)>256)=false:=decide_eq_false hg
         have z2:(256<(n+1))=False:=eq_false hg
         have HRUN:=qh hrun
         have hg2:(n+1)≤256:=Int.not_lt.1 hg
         have HG:=qh hg2
         clear hst hg hrun hg2
         go_wp2
         go_roundw
         case rel=>exact⟨k+1,(n+1),rfl,by go_num,qh ⟨HRUN.out,by omega,by omega,HG.out,HA.out _⟩⟩
         case measure=>simp[intOf];omega
       ·obtain⟨za_123,zb_123⟩:=qa8 (l:=[123]) h123
        by_cases h41:tt=⟨#[41]⟩
        ·subst h41
         by_cases hn0:n=0
         ·subst hn0
          have hst:qa4 0 (13,⟨#[41]⟩)=(0:Int):=by
           rfl
          rw[hst] at hrun
          by_cases hg:256<(0:Int)
          ·rw[if_pos hg] at hrun
           obtain rfl:=hrun
           have z1:decide ((0:Int)>256)=true:=decide_eq_true hg
           have z2:(256<(0:Int))=True:=eq_true hg
           clear hst hg
           go_wp2<;>(go_ret;exact⟨rfl,HA.out _⟩)
          ·rw[if_neg hg] at hrun
           have z1:decide ((0:Int)>256)=false:=decide_eq_false hg
           have z2:(256<(0:Int))=False:=eq_false hg
           have HRUN:=qh hrun
           have hg2:(0:Int)≤256:=Int.not_lt.1 hg
           have HG:=qh hg2
           clear hst hg hrun hg2
           go_wp2
           go_roundw
           case rel=>exact⟨k+1,(0:Int),rfl,by go_num,qh ⟨HRUN.out,by omega,by omega,HG.out,HA.out _⟩⟩
           case measure=>simp[intOf];omega
         ·have hm:max (n-1) 0=n-1:=Int.max_eq_left (by omega)
          have hst:qa4 n (13,⟨#[41]⟩)=(n-1):=by
           rw[←hm];rfl
          rw[hst] at hrun
          by_cases hg:256<(n-1)
          ·rw[if_pos hg] at hrun
           obtain rfl:=hrun
           have z1:decide ((n-1)>256)=true:=decide_eq_true hg
           have z2:(256<(n-1))=True:=eq_true hg
           clear hst hg
           go_wp2<;>(go_ret;exact⟨rfl,HA.out _⟩)
          ·rw[if_neg hg] at hrun
           have z1:decide ((n-1)>256)=false:=decide_eq_false hg
           have z2:(256<(n-1))=False:=eq_false hg
           have HRUN:=qh hrun
           have hg2:(n-1)≤256:=Int.not_lt.1 hg
           have HG:=qh hg2
           clear hst hg hrun hg2
           go_wp2
           go_roundw
           case rel=>exact⟨k+1,(n-1),rfl,by go_num,qh ⟨HRUN.out,by omega,by omega,HG.out,HA.out _⟩⟩
           case measure=>simp[intOf];omega
        ·obtain⟨za_41,zb_41⟩:=qa8 (l:=[41]) h41
         by_cases h93:tt=⟨#[93]⟩
         ·subst h93
          by_cases hn0:n=0
          ·subst hn0
           have hst:qa4 0 (13,⟨#[93]⟩)=(0:Int):=by
            rfl
           rw[hst] at hrun
           by_cases hg:256<(0:Int)
           ·rw[if_pos hg] at hrun
            obtain rfl:=hrun
            have z1:decide ((0:Int)>256)=true:=decide_eq_true hg
            have z2:(256<(0:Int))=True:=eq_true hg
            clear hst hg
            go_wp2<;>(go_ret;exact⟨rfl,HA.out _⟩)
           ·rw[if_neg hg] at hrun
            have z1:decide ((0:Int)>256)=false:=decide_eq_false hg
            have z2:(256<(0:Int))=False:=eq_false hg
            have HRUN:=qh hrun
            have hg2:(0:Int)≤256:=Int.not_lt.1 hg
            have HG:=qh hg2
            clear hst hg hrun hg2
            go_wp2
            go_roundw
            case rel=>exact⟨k+1,(0:Int),rfl,by go_num,qh ⟨HRUN.out,by omega,by omega,HG.out,HA.out _⟩⟩
            case measure=>simp[intOf];omega
          ·have hm:max (n-1) 0=n-1:=Int.max_eq_left (by omega)
           have hst:qa4 n (13,⟨#[93]⟩)=(n-1):=by
            rw[←hm];rfl
           rw[hst] at hrun
           by_cases hg:256<(n-1)
           ·rw[if_pos hg] at hrun
            obtain rfl:=hrun
            have z1:decide ((n-1)>256)=true:=decide_eq_true hg
            have z2:(256<(n-1))=True:=eq_true hg
            clear hst hg
            go_wp2<;>(go_ret;exact⟨rfl,HA.out _⟩)
           ·rw[if_neg hg] at hrun
            have z1:decide ((n-1)>256)=false:=decide_eq_false hg
            have z2:(256<(n-1))=False:=eq_false hg
            have HRUN:=qh hrun
            have hg2:(n-1)≤256:=Int.not_lt.1 hg
            have HG:=qh hg2
            clear hst hg hrun hg2
            go_wp2
            go_roundw
            case rel=>exact⟨k+1,(n-1),rfl,by go_num,qh ⟨HRUN.out,by omega,by omega,HG.out,HA.out _⟩⟩
            case measure=>simp[intOf];omega
         ·obtain⟨za_93,zb_93⟩:=qa8 (l:=[93]) h93
          by_cases h125:tt=⟨#[125]⟩
          ·subst h125
           by_cases hn0:n=0
           ·subst hn0
            have hst:qa4 0 (13,⟨#[125]⟩)=(0:Int):=by
             rfl
            rw[hst] at hrun
            by_cases hg:256<(0:Int)
            ·rw[if_pos hg] at hrun
             obtain rfl:=hrun
             have z1:decide ((0:Int)>256)=true:=decide_eq_true hg
             have z2:(256<(0:Int))=True:=eq_true hg
             clear hst hg
             go_wp2<;>(go_ret;exact⟨rfl,HA.out _⟩)
            ·rw[if_neg hg] at hrun
             have z1:decide ((0:Int)>256)=false:=decide_eq_false hg
             have z2:(256<(0:Int))=False:=eq_false hg
             have HRUN:=qh hrun
             have hg2:(0:Int)≤256:=Int.not_lt.1 hg
             have HG:=qh hg2
             clear hst hg hrun hg2
             go_wp2
             go_roundw
             case rel=>exact⟨k+1,(0:Int),rfl,by go_num,qh ⟨HRUN.out,by omega,by omega,HG.out,HA.out _⟩⟩
             case measure=>simp[intOf];omega
           ·have hm:max (n-1) 0=n-1:=Int.max_eq_left (by omega)
            have hst:qa4 n (13,⟨#[125]⟩)=(n-1):=by
             rw[←hm];rfl
            rw[hst] at hrun
            by_cases hg:256<(n-1)
            ·rw[if_pos hg] at hrun
             obtain rfl:=hrun
             have z1:decide ((n-1)>256)=true:=decide_eq_true hg
             have z2:(256<(n-1))=True:=eq_true hg
             clear hst hg
             go_wp2<;>(go_ret;exact⟨rfl,HA.out _⟩)
            ·rw[if_neg hg] at hrun
             have z1:decide ((n-1)>256)=false:=decide_eq_false hg
             have z2:(256<(n-1))=False:=eq_false hg
             have HRUN:=qh hrun
             have hg2:(n-1)≤256:=Int.not_lt.1 hg
             have HG:=qh hg2
             clear hst hg hrun hg2
             go_wp2
             go_roundw
             case rel=>exact⟨k+1,(n-1),rfl,by go_num,qh ⟨HRUN.out,by omega,by omega,HG.out,HA.out _⟩⟩
             case measure=>simp[intOf];omega
          ·obtain⟨za_125,zb_125⟩:=qa8 (l:=[125]) h125
           have hst:qa4 n (13,tt)=n:=by
            unfold qa4 openT qin;simp[h40,h91,h123,h41,h93,h125]
           rw[hst] at hrun
           by_cases hg:256<n
           ·rw[if_pos hg] at hrun
            obtain rfl:=hrun
            have z1:decide (n>256)=true:=decide_eq_true hg
            have z2:(256<n)=True:=eq_true hg
            clear hst hg
            go_wp2<;>(go_ret;exact⟨rfl,HA.out _⟩)
           ·rw[if_neg hg] at hrun
            have z1:decide (n>256)=false:=decide_eq_false hg
            have z2:(256<n)=False:=eq_false hg
            have HRUN:=qh hrun
            have hg2:n≤256:=Int.not_lt.1 hg
            have HG:=qh hg2
            clear hst hg hrun hg2
            go_wp2
            go_roundw
            case rel=>exact⟨k+1,n,rfl,by go_num,qh ⟨HRUN.out,by omega,by omega,HG.out,HA.out _⟩⟩
            case measure=>simp[intOf];omega
    ·have ya_13:(tk==13)=false:=beq_eq_false_iff_ne.2 k13
     have yb_13:(tk=13)=False:=eq_false k13
     by_cases k10:tk=10
     ·subst k10
      by_cases hn0:n=0
      ·subst hn0
       have hst:qa4 0 (10,tt)=(0:Int):=by
        rfl
       rw[hst] at hrun
       by_cases hg:256<(0:Int)
       ·rw[if_pos hg] at hrun
        obtain rfl:=hrun
        have z1:decide ((0:Int)>256)=true:=decide_eq_true hg
        have z2:(256<(0:Int))=True:=eq_true hg
        clear hst hg
        go_wp2<;>(go_ret;exact⟨rfl,HA.out _⟩)
       ·rw[if_neg hg] at hrun
        have z1:decide ((0:Int)>256)=false:=decide_eq_false hg
        have z2:(256<(0:Int))=False:=eq_false hg
        have HRUN:=qh hrun
        have hg2:(0:Int)≤256:=Int.not_lt.1 hg
        have HG:=qh hg2
        clear hst hg hrun hg2
        go_wp2
        go_roundw
        case rel=>exact⟨k+1,(0:Int),rfl,by go_num,qh ⟨HRUN.out,by omega,by omega,HG.out,HA.out _⟩⟩
        case measure=>simp[intOf];omega
      ·have hm:max (n-1) 0=n-1:=Int.max_eq_left (by omega)
       have hst:qa4 n (10,tt)=(n-1):=by
        rw[←hm];rfl
       rw[hst] at hrun
       by_cases hg:256<(n-1)
       ·rw[if_pos hg] at hrun
        obtain rfl:=hrun
        have z1:decide ((n-1)>256)=true:=decide_eq_true hg
        have z2:(256<(n-1))=True:=eq_true hg
        clear hst hg
        go_wp2<;>(go_ret;exact⟨rfl,HA.out _⟩)
       ·rw[if_neg hg] at hrun
        have z1:decide ((n-1)>256)=false:=decide_eq_false hg
        have z2:(256<(n-1))=False:=eq_false hg
        have HRUN:=qh hrun
        have hg2:(n-1)≤256:=Int.not_lt.1 hg
        have HG:=qh hg2
        clear hst hg hrun hg2
        go_wp2
        go_roundw
        case rel=>exact⟨k+1,(n-1),rfl,by go_num,qh ⟨HRUN.out,by omega,by omega,HG.out,HA.out _⟩⟩
        case measure=>simp[intOf];omega
     ·have ya_10:(tk==10)=false:=beq_eq_false_iff_ne.2 k10
      have yb_10:(tk=10)=False:=eq_false k10
      have hst:qa4 n (tk,tt)=n:=by
       unfold qa4 openT qin;simp[k9,k10,k13]
      rw[hst] at hrun
      by_cases hg:256<n
      ·rw[if_pos hg] at hrun
       obtain rfl:=hrun
       have z1:decide (n>256)=true:=decide_eq_true hg
       have z2:(256<n)=True:=eq_true hg
       clear hst hg
       go_wp2<;>(go_ret;exact⟨rfl,HA.out _⟩)
      ·rw[if_neg hg] at hrun
       have z1:decide (n>256)=false:=decide_eq_false hg
       have z2:(256<n)=False:=eq_false hg
       have HRUN:=qh hrun
       have hg2:n≤256:=Int.not_lt.1 hg
       have HG:=qh hg2
       clear hst hg hrun hg2
       go_wp2
       go_roundw
       case rel=>exact⟨k+1,n,rfl,by go_num,qh ⟨HRUN.out,by omega,by omega,HG.out,HA.out _⟩⟩
       case measure=>simp[intOf];omega
  ·have e:L.drop k=[]:=List.drop_eq_nil_of_le (by omega)
   have hrun:=HH.out.run
   rw[e] at hrun
   obtain rfl: -1=r:=hrun
   have hle:=HH.out.le
   have y1:decide ((k:Int)<(L.length:Int))=false:=decide_eq_false (by omega)
   have y2:((k:Int)<(L.length:Int))=False:=eq_false (by omega)
   clear e
   go_wp2
   go_ret
   exact⟨rfl,HH.out.low⟩
theorem qh2{R:POps}(hR:ROps R){q:Option Addr}{c:Nat}{L:List PTok}(hL:qan L)(hl:L.length≤1000000000)(F:Nat)(w:World)(h:PRow w q L)(r:PSt×qb)(hr:qcq R L F=some r):Calls Tryz.prog 49 #[pV q c L (0,false)] w (qar q c L w ⟨r.1,r.2,[],false⟩):=by
 unfold qcq at hr
 obtain⟨⟨pE,lE⟩,hb,hr1⟩:=Option.bind_eq_some_iff.1 hr
 obtain⟨⟨q1,n⟩,hq,hr2⟩:=Option.bind_eq_some_iff.1 hr1
 clear hr hr1
 dsimp only at hq hr2
 by_cases hE:lE=[]
 ·rw[if_pos (.inl hE)] at hq
  rw[if_pos hE] at hr2
  obtain⟨a,ha,hq2⟩:=Option.bind_eq_some_iff.1 hq
  obtain⟨e1,e2⟩:=Prod.mk.inj (Option.some.inj hq2)
  have er:=(Option.some.inj hr2).symm
  subst e1
  subst e2
  subst er
  by_cases hw:qv L pE ⟨#[100,101,102]⟩=true
  ·rw[if_pos hw] at ha
   exact qbC (c:=c) hR hL hl F w h pE lE hb _ (.plain hE a (.inl ⟨hw,ha⟩) _ rfl)
  ·rw[if_neg hw] at ha
   exact qbC (c:=c) hR hL hl F w h pE lE hb _ (.plain hE a (.inr ⟨by simpa using hw,ha⟩) _ rfl)
 ·rw[if_neg hE] at hr2
  obtain⟨l2,hl2,hr3⟩:=Option.bind_eq_some_iff.1 hr2
  have er:=(Option.some.inj hr3).symm
  subst er
  clear hr2 hr3
  by_cases hc:lE=[]∨pE.2=true∨pE.1<L.length
  ·rw[if_pos hc] at hq
   obtain⟨a,ha,hq2⟩:=Option.bind_eq_some_iff.1 hq
   obtain⟨e1,e2⟩:=Prod.mk.inj (Option.some.inj hq2)
   subst e1
   subst e2
   have hc2:=hc.resolve_left hE
   by_cases hbd:pE.2=true
   ·have hw:qv L pE ⟨#[100,101,102]⟩=false:=by unfold qv tokP;simp[hbd]
    rw[if_neg (by rw[hw];simp)] at ha
    exact qbC (c:=c) hR hL hl F w h pE lE hb _ (.mods hE a (.inr (.inr ⟨hbd,hw,ha⟩)) _ rfl l2 hl2)
   ·have hbd':pE.2=false:=by simpa using hbd
    have hlt:=hc2.resolve_left hbd
    by_cases hw:qv L pE ⟨#[100,101,102]⟩=true
    ·rw[if_pos hw] at ha
     exact qbC (c:=c) hR hL hl F w h pE lE hb _ (.mods hE a (.inl ⟨⟨hbd',hlt⟩,hw,ha⟩) _ rfl l2 hl2)
    ·rw[if_neg hw] at ha
     exact qbC (c:=c) hR hL hl F w h pE lE hb _ (.mods hE a (.inr (.inl ⟨⟨hbd',hlt⟩,by simpa using hw,ha⟩)) _ rfl l2 hl2)
  ·rw[if_neg hc] at hq
   obtain⟨e1,e2⟩:=Prod.mk.inj (Option.some.inj hq)
   subst e1
   subst e2
   have hbd:pE.2=false:=by
    cases hx:pE.2 with
    |true=>exact absurd (.inr (.inl hx)) hc
    |false=>rfl
   have hlt:¬pE.1<L.length:=fun e=>hc (.inr (.inr e))
   have:=qbC (c:=c) hR hL hl F w h pE lE hb _ (.skip hE ⟨hbd,hlt⟩ l2 hl2)
   rw[if_neg (fun e=>hlt e.2)]
   exact this
def qcD(w:World)(r:qb×Int×Int)(e:Ending)(w':World):Prop:=∃u,e=.returned (.tuple #[.agg #[.int .i64 r.1.kind,.string r.1.text,u],.int .i64 r.2.1,.int .i64 r.2.2])∧qo w' (fun b=>w.heap.size≤b) u r.1.kids∧Below w.heap.size w w'
theorem Fr.toldP{w W:World}{bs:List Bx}{rs:List Rw}{ks:List Fact}(r:qb×Int×Int){u:Value}(h:Fr (fun _=>False) w W bs rs ks)(hk:qk u r.1.kids∈ks):qcD w r (.returned (.tuple #[.agg #[.int .i64 r.1.kind,.string r.1.text,u],.int .i64 r.2.1,.int .i64 r.2.2])) W:=
 ⟨u,rfl,h.low' _ (fun c hc=>hc.elim (fun h=>h.elim) id) hk,h.low⟩
theorem qjo{R:POps}(hR:ROps R){q:Option Addr}{c:Nat}{L:List PTok}(hL:qan L)(hl:L.length≤1000000000)(F:Nat)(w:World)(h:PRow w q L)(r:qb×Int×Int)(hr:qcx R L F=some r):Calls Tryz.prog 33 #[.slice q L.length c] w (qcD w r):=by
 have H0:=qh ((Fr.new0 w).lay [.int .i64 0,.string ⟨#[]⟩,.slice none 0 0] 24)
 have QD:=qh (fun U (hU:Below w.heap.size w U)=>qjW q c L U (h.below hU))
 unfold qcx at hr
 by_cases hd:0≤depP L
 ·rw[if_pos hd] at hr
  obtain rfl:=Option.some.inj hr
  generalize depP L=d at*
  have y1:decide (d≥0)=true:=decide_eq_true hd
  have y2:(0≤d)=True:=eq_true hd
  clear hd hr h
  go_enter Tryz.func33,Tryz.ntmps33
  go_wp2_with(go_at_call 48;go_loud((with_reducible refine(QD.out _ H0.out.low).mono ?_);rintro e W1 ⟨rfl,hb⟩;have H1:=qh (H0.out.stays hb);obtain⟨⟨c0,c1,c2⟩,d0,d1,d2⟩:=H1.out.c3 0 rfl;clear hb))
  obtain⟨Wf,hW,hf⟩:=qd (Fr.set3 (x:=.int .i64 0) (y:=.string ⟨#[]⟩) (z:=.slice none 0 0) H1.out.nilN 0 rfl)
  rewrite[←hW]
  (try simp only[nn] at hf)
  clear hW
  have HF:=qh (hf.toldP (qj,21,d) (u:=.slice none 0 0) (by simp[qb.kids,qj]))
  obtain⟨⟨s0,s1,s2⟩,-⟩:=hf.c3 0 rfl
  (try go_wp2)
  exact bodyPost_ret (by simp[results,Tryz.results33,go_sem,s0,s1,s2,qj,qb.kind,qb.text]) rfl HF.out
 ·rw[if_neg hd] at hr
  obtain⟨⟨p,n⟩,hp,er⟩:=Option.map_eq_some_iff.1 hr
  have QP:Hid (∀U,Below w.heap.size w U→Calls Tryz.prog 49 #[.agg #[.slice q L.length c,.int .i64 0,.bool false]] U (qar q c L U ⟨p,n,[],false⟩)):=qh (fun U (hU:Below w.heap.size w U)=>qh2 hR (q:=q) (c:=c) hL hl F U (h.below hU) (p,n) hp)
  generalize depP L=d at*
  have y1:decide (d≥0)=false:=decide_eq_false hd
  have y2:(0≤d)=False:=eq_false hd
  clear hd hr h hp
  obtain⟨at1,bad1⟩:=p
  go_enter Tryz.func33,Tryz.ntmps33
  go_upto_region 5 with(first
   |(go_at_call 48;go_loud((with_reducible refine(QD.out _ H0.out.low).mono ?_);rintro e W1 ⟨rfl,hb⟩;have H1:=qh (H0.out.stays hb);replace c_0:=(H1.out).c3 0 rfl;clear hb))
   |(go_at_call 49;with_reducible refine fm QP H1 ?_;clear QP H1;intro w2 pu_1 cu_1 hj;have e_0:=(hj).far 0 rfl;have H2:=hj.layM (q:=q) (c:=c) (L:=L) at1 bad1 n (.slice pu_1 n.kids.length cu_1);(try simp only[nn] at H2);replace c_a:=(H2.out).cc3;clear hj))
  obtain⟨W3,hW,H3⟩:=fr_w H2;rewrite[←hW];(try simp only[nn] at H3);clear hW H2
  replace c_a:=(H3.out).cc3
  have e_a:=(H3.out).ff3
  cases bad1 with
  |true=>
   obtain rfl:=er
   go_upto_region 6 with(fail)
   go_region
   all_goals
    obtain⟨Wf,hW,hf⟩:=qd (Fr.set3 (x:=.int .i64 0) (y:=.string ⟨#[]⟩) (z:=.slice none 0 0) H3.out.nilN 0 rfl)
    rewrite[←hW]
    (try simp only[nn] at hf)
    clear hW
    have HF:=qh (hf.drew.toldP (qj,22,(at1:Int)) (u:=.slice none 0 0) (by simp[qb.kids,qj]))
    obtain⟨⟨s0,s1,s2⟩,-⟩:=hf.c3 0 rfl
    (try go_wp2)
    exact bodyPost_ret (by simp[results,Tryz.results33,go_sem,s0,s1,s2,qj,qb.kind,qb.text]) rfl HF.out
  |false=>
   obtain rfl:=er
   go_wp2
   obtain⟨Wf,hW,hf⟩:=qd (Fr.set3 (x:=.int .i64 n.kind) (y:=.string n.text) (z:=.slice pu_1 n.kids.length cu_1) H3.out 0 rfl)
   rewrite[←hW]
   (try simp only[nn] at hf)
   clear hW
   have HF:=qh (hf.toldP (n,0,0) (u:=.slice pu_1 n.kids.length cu_1) (by simp))
   obtain⟨⟨s0,s1,s2⟩,-⟩:=hf.c3 0 rfl
   (try go_wp2)
   exact bodyPost_ret (by simp[results,Tryz.results33,go_sem,s0,s1,s2,qj,qb.kind,qb.text]) rfl HF.out
def IRow(w:World)(q:Option Addr)(I:List (PTok×Int)):Prop:=PRow w q (I.map Prod.fst)∧∀(i:Nat) (x:PTok×Int),I[i]? =some x→∃b o,q=some ⟨b,o,none⟩∧w.cell? ⟨b,o+i*4+2,none⟩=some (.int .i64 x.2)
structure SOps(T:World→Value→List PTok→Prop)(tk:ByteArray→List PTok×Int×Int)(it:List PTok→List (PTok×Int))(ok:ByteArray→Prop):Prop where
 toks:∀(s:ByteArray) (w:World),ok s→Calls Tryz.prog 31 #[.string s] w fun e w'=>∃v,e=.returned (.tuple #[v,.int .i64 (tk s).2.1,.int .i64 (tk s).2.2])∧T w' v (tk s).1∧Below w.heap.size w w'
 items:∀(s:ByteArray) (v:Value) (w:World),ok s→(tk s).2.1=0→T w v (tk s).1→Calls Tryz.prog 32 #[v] w fun e w'=>∃vl q c,e=.returned (.tuple #[vl,.slice q (it (tk s).1).length c])∧IRow w' q (it (tk s).1)∧(∀a,q=some a→w.heap.size≤a.block)∧Below w.heap.size w w'
 stays:∀{w w':World} {v:Value} {l:List PTok},T w v l→Below w.heap.size w w'→T w' v l
 short:∀s,ok s→(tk s).2.1=0→qan ((it (tk s).1).map Prod.fst)∧(it (tk s).1).length ≤1000000000
def qdj(R:POps)(tk:ByteArray→List PTok×Int×Int)(it:List PTok→List (PTok×Int))(F:Nat)(s:ByteArray):Option (qb×Int×Int):=
 if(tk s).2.1≠0 then some (qj,(tk s).2.1,(tk s).2.2) else
  (qcx R ((it (tk s).1).map Prod.fst) F).map fun x=>if x.2.1=0 then(x.1,0,0) else match(it (tk s).1)[x.2.2.toNat]? with
   |none=>(qj,x.2.1,(s.size:Int))
   |some y=>(qj,x.2.1,y.2)
theorem qlU{R:POps}{L:List PTok}{F:Nat}{r:qb×Int×Int}(h:qcx R L F=some r):0≤r.2.2:=by
 unfold qcx at h
 split at h
 ·rename_i hd;obtain rfl:=Option.some.inj h;exact hd
 ·obtain⟨x,_,rfl⟩:=Option.map_eq_some_iff.1 h
  split
  ·exact Int.natCast_nonneg _
  ·exact Int.le_refl _
theorem Fr.toldS{w W:World}{bs:List Bx}{rs:List Rw}{ks:List Fact}(r:qb×Int×Int){u:Value}(h:Fr (fun _=>False) w W bs rs ks)(hk:qk u r.1.kids∈ks):qcD w r (.returned (.tuple #[.agg #[.int .i64 r.1.kind,.string r.1.text,u],.int .i64 r.2.1,.int .i64 r.2.2])) W:=h.toldP r hk
theorem qf5{w:World}{q:Option Addr}{I:List (PTok×Int)}(h:IRow w q I):PRow w q (I.map Prod.fst):=h.1
theorem qmv{w:World}{q:Option Addr}{I:List (PTok×Int)}(h:IRow w q I){i:Nat}{x:PTok×Int}(hx:I[i]? =some x):∃b o,q=some ⟨b,o,none⟩∧w.cell? ⟨b,o+i*4+2,none⟩=some (.int .i64 x.2):=h.2 i x hx
theorem qbX{w w':World}{q:Option Addr}{I:List (PTok×Int)}(h:IRow w q I)(hb:Below w.heap.size w w'):IRow w' q I:=
 ⟨h.1.below hb,fun i x hx=>by
  obtain⟨b,o,e,c0⟩:=h.2 i x hx
  exact⟨b,o,e,(hb.cell (World.block_lt_of_cell? _ _ c0)).trans c0⟩⟩
theorem qhK{R:POps}(hR:ROps R){T:World→Value→List PTok→Prop}{tk:ByteArray→List PTok×Int×Int}{it:List PTok→List (PTok×Int)}{ok:ByteArray→Prop}(hS:SOps T tk it ok)(F:Nat)(s:ByteArray)(hs:ok s)(w:World)(r:qb×Int×Int)(hr:qdj R tk it F s=some r):
  Calls Tryz.prog 20 #[.string s] w (qcD w r):=by
 have H0:=qh ((Fr.new0 w).lay [.int .i64 0,.string ⟨#[]⟩,.slice none 0 0] 24)
 have QK:=qh (fun U=>hS.toks s U hs)
 unfold qdj at hr
 by_cases he:(tk s).2.1=0
 ·rw[if_neg (by simpa using he)] at hr
  obtain⟨⟨n,f,i⟩,hp,er⟩:=Option.map_eq_some_iff.1 hr
  have hi0:=qlU hp
  have hsh:=hS.short s hs he
  have QI:=qh (fun v U (hT:T U v (tk s).1)=>hS.items s v U hs he hT)
  have QP:Hid (∀q c U,PRow U q ((it (tk s).1).map Prod.fst)→Calls Tryz.prog 33 #[.slice q (it (tk s).1).length c] U (qcD U (n,f,i))):=qh (fun q c U hU=>by
   have:=qjo hR (q:=q) (c:=c) hsh.1 (by rw[List.length_map];exact hsh.2) F U hU (n,f,i) hp
   rwa [List.length_map] at this)
  rw[he] at QK
  generalize tk s=t at*
  obtain⟨xs,e0,a0⟩:=t
  dsimp only at QK QI QP er hi0 he
  generalize it xs=I at*
  clear hr hp hsh hS he
  by_cases hf0:f=0
  ·rw[if_pos hf0] at er
   subst hf0
   subst er
   go_enter Tryz.func20,Tryz.ntmps20
   go_upto_region 7 with(first|(go_at_call 31;go_loud((with_reducible refine(QK.out _).mono ?_);rintro e W1 ⟨v,rfl,ht,hb⟩;have H1:=qh (H0.out.stays hb);have HT:=qh ht;replace c_0:=(H1.out).c3 0 rfl;clear hb ht))|(go_at_call 32;go_loud((with_reducible refine(QI.out _ _ HT.out).mono ?_);rintro e W2 ⟨vl,q,c,rfl,hi,hfr,hb⟩;have hl1:w.heap.size<W1.heap.size:=H1.out.num_lt (by simp[Bx.nums]);have HFR:=qh (fun a e=>Nat.lt_of_lt_of_le hl1 (hfr a e));have H2:=qh (H1.out.stays hb);have HI:=qh hi;replace c_0:=(H2.out).c3 0 rfl;clear hb hi hfr hl1))|(go_at_call 33;go_loud((with_reducible refine(QP.out _ _ _ (qf5 HI.out)).mono ?_);rintro e W3 ⟨u,rfl,hk,hb⟩;obtain⟨pu,cu,rfl,lu⟩:=hk.shape;have HI3:=qh (qbX (qbX HI.out hb) ((Below.refl W3.heap.size W3).alloc (Nat.le_refl _) (.cells #[.int .i64 n.kind,.string n.text,.slice pu n.kids.length cu] 24)));have hj:=H2.out.call hb (qk _ _) hk;have e_0:=(hj).far 0 rfl;have hm:=hj.lay [.int .i64 n.kind,.string n.text,.slice pu n.kids.length cu] 24;(try simp only[nn] at hm);have H3:=qh hm;replace c_a:=(H3.out).ccCC;clear hj hk hb lu hm)))
   obtain⟨W4,hW,H4⟩:=fr_w H3;rewrite[←hW];(try simp only[nn] at H4);clear hW H3
   replace c_a:=(H4.out).ccCC
   go_wp2
   obtain⟨Wf,hW,hf⟩:=qd (Fr.set3 (x:=.int .i64 n.kind) (y:=.string n.text) (z:=.slice pu n.kids.length cu) H4.out 0 rfl)
   rewrite[←hW]
   (try simp only[nn] at hf)
   clear hW
   have HF:=qh (hf.toldS (n,0,0) (u:=.slice pu n.kids.length cu) (by simp))
   obtain⟨⟨s0,s1,s2⟩,-⟩:=hf.c3 0 rfl
   (try go_wp2)
   exact bodyPost_ret (by simp[results,Tryz.results20,go_sem,s0,s1,s2,qj,qb.kind,qb.text]) rfl HF.out
  ·rw[if_neg hf0] at er
   have y1:(f==0)=false:=beq_eq_false_iff_ne.2 hf0
   have y2:(f=0)=False:=eq_false hf0
   clear hf0
   by_cases hlt:i.toNat<I.length
   ·have hx:=List.getElem?_eq_getElem hlt
    generalize I[i.toNat]=y at*
    rw[hx] at er
    dsimp only at er
    subst er
    have z1:decide (i≥(I.length:Int))=false:=decide_eq_false (by omega)
    have z2:((I.length:Int)≤i)=False:=eq_false (by omega)
    have z3:i<(I.length:Int):=by omega
    have HX:=qh hx
    clear hx hlt
    go_enter Tryz.func20,Tryz.ntmps20
    go_upto_region 10 with(first|(go_at_call 31;go_loud((with_reducible refine(QK.out _).mono ?_);rintro e W1 ⟨v,rfl,ht,hb⟩;have H1:=qh (H0.out.stays hb);have HT:=qh ht;replace c_0:=(H1.out).c3 0 rfl;clear hb ht))|(go_at_call 32;go_loud((with_reducible refine(QI.out _ _ HT.out).mono ?_);rintro e W2 ⟨vl,q,c,rfl,hi,hfr,hb⟩;have hl1:w.heap.size<W1.heap.size:=H1.out.num_lt (by simp[Bx.nums]);have HFR:=qh (fun a e=>Nat.lt_of_lt_of_le hl1 (hfr a e));have H2:=qh (H1.out.stays hb);have HI:=qh hi;replace c_0:=(H2.out).c3 0 rfl;clear hb hi hfr hl1))|(go_at_call 33;go_loud((with_reducible refine(QP.out _ _ _ (qf5 HI.out)).mono ?_);rintro e W3 ⟨u,rfl,hk,hb⟩;obtain⟨pu,cu,rfl,lu⟩:=hk.shape;have HI3:=qh (qbX (qbX HI.out hb) ((Below.refl W3.heap.size W3).alloc (Nat.le_refl _) (.cells #[.int .i64 n.kind,.string n.text,.slice pu n.kids.length cu] 24)));have hj:=H2.out.call hb (qk _ _) hk;have e_0:=(hj).far 0 rfl;have hm:=hj.lay [.int .i64 n.kind,.string n.text,.slice pu n.kids.length cu] 24;(try simp only[nn] at hm);have H3:=qh hm;replace c_a:=(H3.out).ccCC;clear hj hk hb lu hm)))
    obtain⟨b,o,eq,c9⟩:=qmv HI3.out HX.out
    have hbl:=HFR.out _ eq
    dsimp only at hbl
    have hbl2:=World.block_lt_of_cell? _ _ c9
    dsimp only at hbl2
    have n1:(b=w.heap.size)=False:=eq_false (by omega)
    have n2:(w.heap.size=b)=False:=eq_false (by omega)
    clear HI HI3 HFR HX hbl hbl2
    subst eq
    go_region
    all_goals
     obtain⟨Wf,hW,hf⟩:=qd (Fr.set3 (x:=.int .i64 0) (y:=.string ⟨#[]⟩) (z:=.slice none 0 0) H3.out.nilN 0 rfl)
     rewrite[←hW]
     (try simp only[nn] at hf)
     clear hW
     have HF:=qh (hf.drew.toldS (qj,f,y.2) (u:=.slice none 0 0) (by simp[qb.kids,qj]))
     obtain⟨⟨s0,s1,s2⟩,-⟩:=hf.c3 0 rfl
     (try go_wp2)
     exact bodyPost_ret (by simp[results,Tryz.results20,go_sem,s0,s1,s2,qj,qb.kind,qb.text]) rfl HF.out
   ·rw[List.getElem?_eq_none (by omega)] at er
    dsimp only at er
    subst er
    have z1:decide (i≥(I.length:Int))=true:=decide_eq_true (by omega)
    have z2:((I.length:Int)≤i)=True:=eq_true (by omega)
    clear hlt
    go_enter Tryz.func20,Tryz.ntmps20
    go_upto_region 9 with(first|(go_at_call 31;go_loud((with_reducible refine(QK.out _).mono ?_);rintro e W1 ⟨v,rfl,ht,hb⟩;have H1:=qh (H0.out.stays hb);have HT:=qh ht;replace c_0:=(H1.out).c3 0 rfl;clear hb ht))|(go_at_call 32;go_loud((with_reducible refine(QI.out _ _ HT.out).mono ?_);rintro e W2 ⟨vl,q,c,rfl,hi,hfr,hb⟩;have hl1:w.heap.size<W1.heap.size:=H1.out.num_lt (by simp[Bx.nums]);have HFR:=qh (fun a e=>Nat.lt_of_lt_of_le hl1 (hfr a e));have H2:=qh (H1.out.stays hb);have HI:=qh hi;replace c_0:=(H2.out).c3 0 rfl;clear hb hi hfr hl1))|(go_at_call 33;go_loud((with_reducible refine(QP.out _ _ _ (qf5 HI.out)).mono ?_);rintro e W3 ⟨u,rfl,hk,hb⟩;obtain⟨pu,cu,rfl,lu⟩:=hk.shape;have HI3:=qh (qbX (qbX HI.out hb) ((Below.refl W3.heap.size W3).alloc (Nat.le_refl _) (.cells #[.int .i64 n.kind,.string n.text,.slice pu n.kids.length cu] 24)));have hj:=H2.out.call hb (qk _ _) hk;have e_0:=(hj).far 0 rfl;have hm:=hj.lay [.int .i64 n.kind,.string n.text,.slice pu n.kids.length cu] 24;(try simp only[nn] at hm);have H3:=qh hm;replace c_a:=(H3.out).ccCC;clear hj hk hb lu hm)))
    obtain⟨W4,hW,H4⟩:=fr_w H3;rewrite[←hW];(try simp only[nn] at H4);clear hW H3
    replace c_a:=(H4.out).ccCC
    go_wp2
    obtain⟨Wf,hW,hf⟩:=qd (Fr.set3 (x:=.int .i64 0) (y:=.string ⟨#[]⟩) (z:=.slice none 0 0) H4.out.nilN 0 rfl)
    rewrite[←hW]
    (try simp only[nn] at hf)
    clear hW
    have HF:=qh (hf.toldS (qj,f,(s.size:Int)) (u:=.slice none 0 0) (by simp[qb.kids,qj]))
    obtain⟨⟨s0,s1,s2⟩,-⟩:=hf.c3 0 rfl
    (try go_wp2)
    exact bodyPost_ret (by simp[results,Tryz.results20,go_sem,s0,s1,s2,qj,qb.kind,qb.text]) rfl HF.out
 ·rw[if_pos he] at hr
  obtain rfl:=Option.some.inj hr
  generalize tk s=t at*
  obtain⟨xs,e0,a0⟩:=t
  dsimp only at QK he
  have y1:(e0 != 0)=true:=by simpa using he
  have y2:(e0=0)=False:=eq_false he
  clear hr he hS
  go_enter Tryz.func20,Tryz.ntmps20
  go_wp2_with(go_at_call 31;go_loud((with_reducible refine(QK.out _).mono ?_);rintro e W1 ⟨v,rfl,ht,hb⟩;have H1:=qh (H0.out.stays hb);have HT:=qh ht;replace c_0:=(H1.out).c3 0 rfl;clear hb ht))
  obtain⟨Wf,hW,hf⟩:=qd (Fr.set3 (x:=.int .i64 0) (y:=.string ⟨#[]⟩) (z:=.slice none 0 0) H1.out.nilN 0 rfl)
  rewrite[←hW]
  (try simp only[nn] at hf)
  clear hW
  have HF:=qh (hf.toldS (qj,e0,a0) (u:=.slice none 0 0) (by simp[qb.kids,qj]))
  obtain⟨⟨s0,s1,s2⟩,-⟩:=hf.c3 0 rfl
  (try go_wp2)
  exact bodyPost_ret (by simp[results,Tryz.results20,go_sem,s0,s1,s2,qj,qb.kind,qb.text]) rfl HF.out
end Go.Proofs.YtakbenifinnpfaaGreatDoor
namespace Go.Sub
theorem qdk(L:List PTok)(p:PSt):qU L p≤40*(L.length+1):=by
 unfold qU
 split
 ·omega
 ·exact Nat.mul_le_mul_left _ (by omega)
theorem qg0{L:List PTok}:∀(f k r:Nat),qbx L f k=some r→k≤r∧r<L.length
 |0,k,r,h=>by cases h
 |f+1,k,r,h=>by
  unfold qbx at h
  cases hx:L[k]? with
  |none=>rw[hx] at h;cases h
  |some t=>
   rw[hx] at h
   dsimp only at h
   split at h
   ·cases h
   ·split at h
    ·have:=qg0 f (k+1) r h
     omega
    ·obtain rfl:=Option.some.inj h
     exact⟨Nat.le_refl _,(List.getElem?_eq_some_iff.1 hx).1⟩
theorem run_str(R:POps)(hR:R.level ⟨#[]⟩=0){L:List PTok}(hL:qaX L)(hz:qK L≤100000000){F:Nat}(hF:40*(L.length+1)+10≤F)(p:PSt)(hp:p.1≤L.length):∃r,runP R L F (.str p)=some r∧r.st.1≤L.length∧p.1≤r.st.1:=by
 obtain⟨r,h1,h2⟩:=qbZ R hR hL hz F (.str p) ⟨hp,trivial⟩ (by have:=qdk L p;simp only[stC,qaf];omega)
 exact⟨r,h1,h2.mv.le,h2.mv.mono⟩
theorem run_exp(R:POps)(hR:R.level ⟨#[]⟩=0){L:List PTok}(hL:qaX L)(hz:qK L≤100000000){F:Nat}(hF:40*(L.length+1)+10≤F)(p:PSt)(l:Int)(hp:p.1≤L.length):∃r,runP R L F (.exp p l)=some r∧r.st.1≤L.length∧p.1≤r.st.1:=by
 obtain⟨r,h1,h2⟩:=qbZ R hR hL hz F (.exp p l) ⟨hp,trivial⟩ (by have:=qdk L p;simp only[stC,qaf];omega)
 exact⟨r,h1,h2.mv.le,h2.mv.mono⟩
theorem run_def(R:POps)(hR:R.level ⟨#[]⟩=0){L:List PTok}(hL:qaX L)(hz:qK L≤100000000){F:Nat}(hF:40*(L.length+1)+10≤F)(p:PSt)(t:Bool)(hp:p.1≤L.length)(hk:(tokP L p).1≠0):∃r,runP R L F (.defn p t)=some r∧r.st.1≤L.length∧p.1≤r.st.1:=by
 obtain⟨r,h1,h2⟩:=qbZ R hR hL hz F (.defn p t) ⟨hp,hk⟩ (by have:=qdk L p;simp only[stC,qaf];omega)
 exact⟨r,h1,h2.mv.le,h2.mv.mono⟩
theorem qiJ(R:POps)(hR:R.level ⟨#[]⟩=0){L:List PTok}(hL:qaX L)(hz:qK L≤100000000){F:Nat}(hF:40*(L.length+1)+10≤F)(p:PSt)(hb:qbA L p=true):∃q n,qdr R L F p=some (q,n)∧q.1≤L.length∧p.1<q.1:=by
 have hk:(tokP L p).1≠0:=by
  unfold qbA at hb
  rcases Bool.or_eq_true_iff.1 hb with h|h
  ·rw[qbD h];decide
  ·rw[qbD h];decide
 have hg:=qbS hk
 obtain⟨q,hq,mq⟩:=q9 hk
 have hq1:q.1=p.1+1:=by
  unfold qs at hq
  rw[if_neg (by rw[hg.1];simp),if_pos hg.2.1] at hq
  rw[←Option.some.inj hq]
 have hql:=mq.le
 unfold qdr
 rw[hq]
 dsimp only[Option.bind_eq_bind,Option.bind]
 by_cases h7:(tokP L q).1≠7
 ·rw[if_pos h7]
  exact⟨_,_,rfl,hql,by show p.1<q.1;omega⟩
 ·rw[if_neg h7]
  cases hs:qbx L (L.length- (q.1+1)) (q.1+1) with
  |some k=>
   have:=qg0 _ _ _ hs
   exact⟨_,_,rfl,by show k≤L.length;omega,by show p.1<k;omega⟩
  |none=>
   obtain⟨a,ha,a1,a2⟩:=run_str R hR hL hz hF q hql
   dsimp only
   rw[ha]
   dsimp only[Option.bind]
   by_cases hi:(tokP L p).2=⟨#[105,110,99,108,117,100,101]⟩
   ·rw[if_pos hi]
    obtain⟨r,hr,mr⟩:=qH (p:=a.st) ⟨#[59]⟩ a1
    rw[hr]
    exact⟨_,_,rfl,mr.le,by have:=mr.mono;show p.1<r.1;omega⟩
   ·rw[if_neg hi]
    obtain⟨q2,h2,m2⟩:=qH (p:=a.st) ⟨#[97,115]⟩ a1
    rw[h2]
    dsimp only[Option.bind]
    have m2m:=m2.mono
    by_cases h5:(tokP L q2).1=5
    ·rw[if_pos h5]
     have k5:(tokP L q2).1≠0:=by rw[h5];decide
     obtain⟨t,ht,_⟩:=qcE hL k5
     obtain⟨q3,h3,m3⟩:=q9 k5
     rw[ht]
     dsimp only[Option.bind]
     rw[h3]
     dsimp only[Option.bind]
     obtain⟨r,hr,mr⟩:=qH (p:=q3) ⟨#[59]⟩ m3.le
     rw[hr]
     exact⟨_,_,rfl,mr.le,by have:=mr.mono;have:=m3.mono;show p.1<r.1;omega⟩
    ·rw[if_neg h5]
     obtain⟨q3,s,h3,m3⟩:∃q3 s,qdd R L q2=some (q3,s)∧Mv L q2 q3 0:=by
      obtain⟨x,t,h,m,_⟩:=qgu R (L:=L) (p:=q2) m2.le
      exact⟨x,t,h,m⟩
     rw[h3]
     dsimp only[Option.bind]
     obtain⟨r,hr,mr⟩:=qH (p:=q3) ⟨#[59]⟩ m3.le
     rw[hr]
     exact⟨_,_,rfl,mr.le,by have:=mr.mono;have:=m3.mono;show p.1<r.1;omega⟩
theorem qe6(R:POps)(hR:R.level ⟨#[]⟩=0){L:List PTok}(hL:qaX L)(hz:qK L≤100000000){F:Nat}(hF:40*(L.length+1)+10≤F)(hl:L.length≤100000000):∀(g:Nat) (p:PSt) (l:List qb),p.1≤L.length→l.length≤p.1→L.length+1≤g+p.1→∃q m,qbJ R L F g p l=some (q,m)∧q.1≤L.length∧m.length≤q.1
 |0,p,l,h1,h2,h3=>by omega
 |g+1,p,l,h1,h2,h3=>by
  unfold qbJ
  by_cases hb:qbA L p=true
  ·rw[if_pos hb]
   obtain⟨q,n,hq,q1,q2⟩:=qiJ R hR hL hz hF p hb
   rw[hq]
   dsimp only[Option.bind_eq_bind,Option.bind]
   have hp:qae l n=some (l++[n]):=by unfold qae;rw[if_pos (by omega)]
   have ho:onP p q=some ():=by unfold onP;rw[if_pos (.inr q2)]
   rw[hp]
   dsimp only[Option.bind]
   rw[ho]
   dsimp only[Option.bind]
   exact qe6 R hR hL hz hF hl g q (l++[n]) q1 (by rw[List.length_append,List.length_singleton];omega) (by omega)
  ·rw[if_neg hb]
   exact⟨p,l,rfl,h1,h2⟩
theorem qh4(R:POps)(hR:R.level ⟨#[]⟩=0){L:List PTok}(hL:qaX L)(hz:qK L≤100000000){F:Nat}(hF:40*(L.length+1)+10≤F)(hl:L.length≤100000000):∃r,qcq R L F=some r:=by
 obtain⟨p,l,hp,p1,p2⟩:=qe6 R hR hL hz hF hl (L.length+1) (0,false) [] (Nat.zero_le _) (Nat.le_refl _) (by omega)
 unfold qcq
 rw[hp]
 dsimp only[Option.bind_eq_bind,Option.bind]
 have push:∀x:qb,qae l x=some (l++[x]):=fun x=>by unfold qae;rw[if_pos (by omega)]
 by_cases hc:l=[]∨p.2=true∨p.1<L.length
 ·rw[if_pos hc]
  obtain⟨a,ha⟩:∃a,runP R L F (if qv L p ⟨#[100,101,102]⟩=true then .defn p true else .exp p 1)=some a:=by
   by_cases hw:qv L p ⟨#[100,101,102]⟩=true
   ·rw[if_pos hw]
    obtain⟨a,ha,_⟩:=run_def R hR hL hz hF p true p1 (by rw[qbD hw];decide)
    exact⟨a,ha⟩
   ·rw[if_neg hw]
    obtain⟨a,ha,_⟩:=run_exp R hR hL hz hF p 1 p1
    exact⟨a,ha⟩
  rw[ha]
  dsimp only[Option.bind]
  by_cases hE:l=[]
  ·rw[if_pos hE];exact⟨_,rfl⟩
  ·rw[if_neg hE,push];exact⟨_,rfl⟩
 ·rw[if_neg hc]
  dsimp only[Option.bind]
  by_cases hE:l=[]
  ·rw[if_pos hE];exact⟨_,rfl⟩
  ·rw[if_neg hE,push];exact⟨_,rfl⟩
theorem qiV(R:POps)(hR:R.level ⟨#[]⟩=0){L:List PTok}(hL:qaX L)(hz:qK L≤100000000){F:Nat}(hF:40*(L.length+1)+10≤F)(hl:L.length≤100000000):∃r,qcx R L F=some r:=by
 unfold qcx
 split
 ·exact⟨_,rfl⟩
 ·obtain⟨r,hr⟩:=qh4 R hR hL hz hF hl
  rw[hr]
  exact⟨_,rfl⟩
end Go.Sub
namespace Go.Proofs.YtakbenifinnpfaaGreatDoor
open Go.RowKit
def qax(b:UInt8):Bool:=(97≤b&&b≤122)||(65≤b&&b≤90)||b==95
def qA(b:UInt8):Bool:=48≤b&&b≤57
def qaq(b:UInt8):Bool:=b==32||b==9||b==10||b==13
def qO(b:UInt8):Bool:=qax b||qA b
def qaF(b:UInt8):Bool:=qA b||(97≤b&&b≤102)||(65≤b&&b≤70)
theorem qdE{p:UInt8→Bool}(h:(List.range 256).all (fun n=>p (UInt8.ofNat n))=true)(b:UInt8):p b=true:=by
 have:=List.all_eq_true.1 h b.toNat (List.mem_range.2 b.toNat_lt)
 rwa [UInt8.ofNat_toNat] at this
def qy(p:UInt8→Bool)(l:List UInt8):Nat:=(l.takeWhile p).length
def qE(l:List UInt8):Nat:=match l with|[]=>0|b::r=>if qax b then qy qO (b::r) else 0
theorem qbb(p:UInt8→Bool)(l:List UInt8):qy p l≤l.length:=by
 unfold qy
 induction l with
 |nil=>simp
 |cons b r ih=>rw[List.takeWhile_cons];split<;>simp;omega
theorem qaJ(p:UInt8→Bool)(l:List UInt8)(n:Nat)(b:UInt8)(h:l[n]? =some b)(hp:p b=true):qy p (l.drop n)=qy p (l.drop (n+1))+1:=by
 obtain⟨hn,rfl⟩:=List.getElem?_eq_some_iff.1 h
 rw[List.drop_eq_getElem_cons hn]
 unfold qy
 rw[List.takeWhile_cons,if_pos hp];rfl
theorem qbN(p:UInt8→Bool)(l:List UInt8)(n:Nat)(b:UInt8)(h:l[n]? =some b)(hp:p b=false):qy p (l.drop n)=0:=by
 obtain⟨hn,rfl⟩:=List.getElem?_eq_some_iff.1 h
 rw[List.drop_eq_getElem_cons hn]
 unfold qy
 rw[List.takeWhile_cons,if_neg (by simp[hp])];rfl
theorem qcb(p:UInt8→Bool)(l:List UInt8)(n:Nat)(h:l.length≤n):qy p (l.drop n)=0:=by
 rw[List.drop_eq_nil_of_le h];rfl
def qaH(r:List UInt8):List UInt8:=match r with|[]=>[]|b::t=>if b==43||b==45 then t else b::t
def qc7(l:List UInt8):Nat:=match l with
 |[]=>0
 |b::r=>if b==101||b==69 then(if qy qA (qaH r)=0 then 0 else l.length- (qaH r).length +qy qA (qaH r)) else 0
def qcm(l:List UInt8):Nat:=
 if l[qy qA l]? =some 46 then(if qy qA l+qy qA (l.drop (qy qA l+1))=0 then 0 else qy qA l+(1+qy qA (l.drop (qy qA l+1)))) else qy qA l
def qQ(l:List UInt8):Nat:=if qcm l=0 then 0 else qcm l+qc7 (l.drop (qcm l))
theorem qjP(r:List UInt8):(qaH r).length ≤r.length:=by
 match r with
 |[]=>simp[qaH]
 |b::t=>
  show(if b==43||b==45 then t else b::t).length ≤(b::t).length
  split<;>simp
theorem qkT(l:List UInt8):qc7 l≤l.length:=by
 match l with
 |[]=>simp[qc7]
 |b::r=>
  have h1:=qjP r
  have h2:=qbb qA (qaH r)
  show(if b==101||b==69 then(if qy qA (qaH r)=0 then 0 else(b::r).length - (qaH r).length +qy qA (qaH r)) else 0)≤(b::r).length
  have h3:(b::r).length =r.length+1:=rfl
  split
  ·split<;>omega
  ·omega
theorem qml(l:List UInt8):qcm l≤l.length:=by
 have h1:=qbb qA l
 have h2:=qbb qA (l.drop (qy qA l+1))
 rw[List.length_drop] at h2
 unfold qcm
 split
 ·rename_i h
  obtain⟨h3,_⟩:=List.getElem?_eq_some_iff.1 h
  split<;>omega
 ·omega
theorem qfE(l:List UInt8):qQ l≤l.length:=by
 have h1:=qml l
 have h2:=qkT (l.drop (qcm l))
 rw[List.length_drop] at h2
 unfold qQ;split<;>omega
theorem qba(s:ByteArray)(n:Nat):(s.extract n s.size).data.toList =s.data.toList.drop n:=by
 rw[Lib.extract_data,Lib.size_eq,List.take_of_length_le (by rw[List.length_drop];exact Nat.le_refl _)]
theorem qfA(s:ByteArray)(n:Nat):(s.extract n s.size).size =s.size-n:=by
 rw[Lib.size_eq,qba,List.length_drop,←Lib.size_eq]
theorem qdQ(s:ByteArray)(a b:Nat){n:Nat}(hs:s.size<n):(s.extract a b).size <n:=by
 rw[Lib.size_eq,Lib.extract_data]
 have:=Lib.size_eq s
 simp only[List.length_take,List.length_drop]
 omega
theorem qfl(s:ByteArray)(h:0<s.size):s.data.toList=s[0]::s.data.toList.drop 1:=by
 have hsz:=Lib.size_eq s
 have h1:s.data.toList[0]? =some s[0]:=by rw[List.getElem?_eq_getElem (by omega)];rfl
 match hl:s.data.toList with
 |[]=>rw[hl] at h1;simp at h1
 |b::r=>rw[hl] at h1;simp at h1;simp[h1]
theorem qby(s:ByteArray)(h:0<s.size):s.toList.isEmpty=false∧((s.toList=[])=False):=by
 rw[Lib.toList_data,qfl s h];simp
theorem tp_cons(c b:UInt8)(r:List UInt8):Lib.trimPrefix (b::r) [c]=if c==b then r else b::r:=by
 unfold Lib.trimPrefix Lib.hasPrefix
 simp[List.isPrefixOf]
def qbn(l:List UInt8):Nat:=
 if _h:Lib.hasPrefix l [58,58]=true then(if qE (l.drop 2)=0 then 0 else 2+qE (l.drop 2)+qbn (l.drop (2+qE (l.drop 2)))) else 0
termination_by l.length
decreasing_by
 have:=Lib.hasPrefix_le _h
 simp only[List.length_drop]
 simp at this
 omega
def qay(l:List UInt8):Nat:=if qE l=0 then 0 else qE l+qbn (l.drop (qE l))
theorem qc2(l:List UInt8):qE l≤l.length:=by
 match l with
 |[]=>simp[qE]
 |b::r=>
  have:=qbb qO (b::r)
  show(if qax b then qy qO (b::r) else 0)≤_
  split<;>omega
theorem qbY(l:List UInt8)(h:Lib.hasPrefix l [58,58]=false):qbn l=0:=by
 rw[qbn,dif_neg (by rw[h];simp)]
theorem qda(l:List UInt8)(h:Lib.hasPrefix l [58,58]=true)(hk:qE (l.drop 2)=0):qbn l=0:=by
 rw[qbn,dif_pos h,if_pos hk]
theorem qeL(l:List UInt8)(k:Nat)(h:Lib.hasPrefix l [58,58]=true)(hk:qE (l.drop 2)=k)(h0:k≠0):qbn l=2+k+qbn (l.drop (2+k)):=by
 rw[qbn,dif_pos h,if_neg (by rw[hk];exact h0),hk]
theorem qei(l:List UInt8):qay l≤l.length:=by
 have h:∀k (l:List UInt8),l.length≤k→qbn l≤l.length:=by
  intro k
  induction k with
  |zero=>intro l h;rw[qbY _ (by have:l=[]:=List.length_eq_zero_iff.1 (by omega);subst this;rfl)];omega
  |succ k ih=>
   intro l hl
   cases hp:Lib.hasPrefix l [58,58]
   ·rw[qbY _ hp];omega
   ·have h2:=Lib.hasPrefix_le hp
    simp only[List.length_cons,List.length_nil] at h2
    by_cases hk:qE (l.drop 2)=0
    ·rw[qda _ hp hk];omega
    ·rw[qeL _ _ hp rfl hk]
     have h3:=qc2 (l.drop 2)
     rw[List.length_drop] at h3
     have h4:=ih (l.drop (2+qE (l.drop 2))) (by rw[List.length_drop];omega)
     rw[List.length_drop] at h4
     omega
 have h1:=qc2 l
 have h2:=h _ (l.drop (qE l)) (Nat.le_refl _)
 rw[List.length_drop] at h2
 unfold qay;split<;>omega
def qb0(c:UInt8):Bool:=c==34||c==92||c==47||c==98||c==102||c==110||c==114||c==116
def escN(l:List UInt8):Nat:=match l with
 |a::c::r=>if a==92 then(if qb0 c then 2 else if c==117&&qy qaF (r.take 4)==4 then 6 else 0) else 0
 |_=>0
theorem qdO{b:UInt8}(c:UInt8)(h:(b==c)=false):((b.toNat:Int)=(c.toNat:Int))=False:=by
 apply eq_false;intro e
 have:b=c:=UInt8.toNat_inj.1 (by omega)
 subst this;simp at h
theorem qbW{b:UInt8}(c:UInt8)(h:(b==c)=false):((b.toNat:Int)==(c.toNat:Int))=false:=by
 rw[beq_eq_false_iff_ne,ne_eq,qdO c h];simp
theorem qdS{b:UInt8}(c:UInt8)(h:(b==c)=false):((b.toNat:Int) != (c.toNat:Int))=true:=by rw[bne,qbW c h];rfl
theorem qdp(s:ByteArray)(h:2≤s.size):s.data.toList=s[0]::s[1]::s.data.toList.drop 2:=by
 have hsz:=Lib.size_eq s
 have h1:s.data.toList[0]? =some s[0]:=by rw[List.getElem?_eq_getElem (by omega)];rfl
 have h2:s.data.toList[1]? =some s[1]:=by rw[List.getElem?_eq_getElem (by omega)];rfl
 match hl:s.data.toList with
 |[]=>rw[hl] at h1;simp at h1
 |[b]=>rw[hl] at h2;simp at h2
 |b::c::r=>rw[hl] at h1 h2;simp at h1 h2;simp[h1,h2]
theorem qj9(l:List UInt8):escN l≤l.length:=by
 match l with
 |[]=>simp[escN]
 |[_]=>simp[escN]
 |a::c::r=>
  show(if a==92 then(if qb0 c then 2 else if c==117&&qy qaF (r.take 4)==4 then 6 else 0) else 0)≤r.length+2
  split
  ·split
   ·omega
   ·split
    ·rename_i h
     have h1:=qbb qaF (r.take 4)
     rw[Bool.and_eq_true,beq_iff_eq,beq_iff_eq] at h
     rw[h.2,List.length_take] at h1
     omega
    ·omega
  ·omega
end Go.Proofs.YtakbenifinnpfaaGreatDoor
namespace Go.Proofs.YtakbenifinnpfaaGreatDoor
open Go.RowKit Go.Sub
attribute [local go_sem] Oper.semAt_some
def opsL:List (List UInt8):=[[63,47,47],[47,47,61],[33,61],[61,61],[60,61],[62,61],[124,61],[43,61],[45,61],[42,61],[47,61],[37,61],[47,47],[46,46],[46],[91],[93],[40],[41],[123],[125],[44],[58],[59],[61],[124],[43],[45],[42],[47],[37],[60],[62],[63]]
def qat(l:List UInt8):Nat:=((opsL.find? fun o=>Lib.hasPrefix l o).map List.length).getD 0
theorem qkf(l:List UInt8)(h:∀x∈opsL,Lib.hasPrefix l x=false):qat l=0:=by
 unfold qat
 rw[List.find?_eq_none.2 (fun x hx=>by rw[h x hx];simp)];rfl
theorem qk4(l:List UInt8)(pre:List (List UInt8))(x:List UInt8)(hp:pre++[x]<+:opsL)(h:∀y∈pre,Lib.hasPrefix l y=false)(hx:Lib.hasPrefix l x=true):qat l=x.length:=by
 obtain⟨t,ht⟩:=hp
 unfold qat
 rw[←ht,List.append_assoc,List.find?_append,List.find?_eq_none.2 (fun y hy=>by rw[h y hy];simp)]
 simp[hx]
end Go.Proofs.YtakbenifinnpfaaGreatDoor
namespace Go.Proofs.YtakbenifinnpfaaGreatDoor
open Go.RowKit Go.Sub
def qdh:List (List UInt8):=[[97,110,100],[97,115],[98,114,101,97,107],[99,97,116,99,104],[100,101,102],[101,108,105,102],[101,108,115,101],[101,110,100],[102,111,114,101,97,99,104],[105,102],[105,109,112,111,114,116],[105,110,99,108,117,100,101],[108,97,98,101,108],[109,111,100,117,108,101],[111,114],[114,101,100,117,99,101],[116,104,101,110],[116,114,121]]
def qed(l:List UInt8):Bool:=qdh.contains l
def qfX(l:List UInt8):Bool:= !l.isEmpty&&(qE l==l.length&& !qed l)
theorem qgV(B:UInt8):qA B=decide (48≤B.toNat∧B.toNat≤57):=
 beq_iff_eq.1 (qdE (p:=fun B=>qA B==decide (48≤B.toNat∧B.toNat≤57)) (by decide+kernel) B)
theorem qfK(b:UInt8):(qax b=true→qA b=false)∧(qax b=true→qaq b=false)∧(qA b=true→qaq b=false):=by
 have:=qdE (p:=fun b=>(!qax b|| !qA b)&&((!qax b|| !qaq b)&&(!qA b|| !qaq b))) (by decide+kernel) b
 cases h1:qax b<;>cases h2:qA b<;>cases h3:qaq b<;>simp_all
theorem qkE(B:UInt8):qax B=(decide (97≤B.toNat∧B.toNat≤122)||(decide (65≤B.toNat∧B.toNat≤90)||decide (B.toNat=95))):=
 beq_iff_eq.1 (qdE (p:=fun B=>qax B==(decide (97≤B.toNat∧B.toNat≤122)||(decide (65≤B.toNat∧B.toNat≤90)||decide (B.toNat=95)))) (by decide+kernel) B)
theorem ql3(B:UInt8):qaq B=(decide (B.toNat=32)||(decide (B.toNat=9)||(decide (B.toNat=10)||decide (B.toNat=13)))):=
 beq_iff_eq.1 (qdE (p:=fun B=>qaq B==(decide (B.toNat=32)||(decide (B.toNat=9)||(decide (B.toNat=10)||decide (B.toNat=13))))) (by decide+kernel) B)
theorem qmz(B:UInt8):qaF B=(decide (48≤B.toNat∧B.toNat≤57)||(decide (97≤B.toNat∧B.toNat≤102)||decide (65≤B.toNat∧B.toNat≤70))):=
 beq_iff_eq.1 (qdE (p:=fun B=>qaF B==(decide (48≤B.toNat∧B.toNat≤57)||(decide (97≤B.toNat∧B.toNat≤102)||decide (65≤B.toNat∧B.toNat≤70)))) (by decide+kernel) B)
theorem qeh{a b:Bool}(h:a=b):Ending.returned (.bool a)=.returned (.bool b):=by rw[h]
theorem qau{a b:Nat}(h:a=b):Ending.returned (.int .i64 (a:Int))=.returned (.int .i64 (b:Int)):=by rw[h]
theorem qaI(b:UInt8)(w:World):
  Calls Tryz.prog 89 #[.int .u8 b.toNat] w fun e w'=>e=.returned (.bool (qax b))∧w'=w:=by
 have Hs:=qh (qkE b)
 go_enter Tryz.func89,Tryz.ntmps89
 go_wp2
 all_goals
  go_ret
  refine⟨qeh ?_,rfl⟩
  rw[Hs.out,Bool.eq_iff_iff]
  simp only[Bool.or_eq_true,decide_eq_true_eq,beq_iff_eq,Bool.false_eq_true,true_iff,false_iff]
  omega
theorem qbT(b:UInt8)(w:World):
  Calls Tryz.prog 114 #[.int .u8 b.toNat] w fun e w'=>e=.returned (.bool (qA b))∧w'=w:=by
 have Hs:=qh (qgV b)
 go_enter Tryz.func114,Tryz.ntmps114
 go_wp2
 all_goals
  go_ret
  refine⟨qeh ?_,rfl⟩
  rw[Hs.out,Bool.eq_iff_iff]
  simp only[Bool.or_eq_true,decide_eq_true_eq,beq_iff_eq,Bool.false_eq_true,true_iff,false_iff]
  omega
theorem qeQ(b:UInt8)(w:World):
  Calls Tryz.prog 85 #[.int .u8 b.toNat] w fun e w'=>e=.returned (.bool (qaq b))∧w'=w:=by
 have Hs:=qh (ql3 b)
 go_enter Tryz.func85,Tryz.ntmps85
 go_wp2
 all_goals
  go_ret
  refine⟨qeh ?_,rfl⟩
  rw[Hs.out,Bool.eq_iff_iff]
  simp only[Bool.or_eq_true,decide_eq_true_eq,beq_iff_eq,Bool.false_eq_true,true_iff,false_iff]
  omega
theorem qdc(b:UInt8)(w:World):
  Calls Tryz.prog 112 #[.int .u8 b.toNat] w fun e w'=>e=.returned (.bool (qaF b))∧w'=w:=by
 have Hs:=qh (qmz b)
 have hn:=qgV b
 cases hd:qA b
 all_goals
  rw[hd] at hn
  have Hd:=qh hd
  have hn':=hn.symm
  simp only[decide_eq_true_eq,decide_eq_false_iff_not] at hn'
  clear hd hn
  go_enter Tryz.func112,Tryz.ntmps112
  go_wp2_with(go_at_call 114;refine(qbT b _).mono ?_;rw[Hd.out];rintro e w' ⟨rfl,rfl⟩)
  all_goals
   go_ret
   refine⟨qeh ?_,rfl⟩
   rw[Hs.out,Bool.eq_iff_iff]
   simp only[Bool.or_eq_true,decide_eq_true_eq,beq_iff_eq,Bool.false_eq_true,true_iff,false_iff]
   omega
theorem qex(s:ByteArray)(w:World)(hs:s.size<4611686018427387904):
  Calls Tryz.prog 115 #[.string s] w fun e w'=>e=.returned (.int .i64 (qy qA s.data.toList:Nat))∧w'=w:=by
 have hsz:=Lib.size_eq s
 go_enter Tryz.func115,Tryz.ntmps115
 go_wp2
 go_loopw [3] (fun i wr=>∃n:Nat,n≤s.size∧i=.int .i64 n∧n+qy qA (s.data.toList.drop n)=qy qA s.data.toList∧wr=w) (fun i _=>s.size- (intOf i).toNat)
 case atStart=>exact⟨0,by omega,rfl,by simp,rfl⟩
 case round=>
  obtain⟨n,hn,rfl,hrun,rfl⟩:=hrel
  by_cases hlt:n<s.size
  ·have hb:s.data.toList[n]? =some s[n]:=by rw[List.getElem?_eq_getElem (by omega)];rfl
   have Hrun:=qh hrun
   have Hsz:=qh hsz
   have Hb:=qh hb
   clear hrun hsz hb
   cases hpb:qA s[n]
   all_goals
    have Hpb:=qh hpb
    clear hpb
    go_wp2_with(go_at_call 114;refine(qbT _ _).mono ?_;rw[Hpb.out];rintro e w' ⟨rfl,rfl⟩)
   ·go_ret
    refine⟨qau ?_,rfl⟩
    have h1:=Hrun.out
    rw[qbN _ _ n _ Hb.out Hpb.out] at h1
    exact h1
   ·go_roundw
    case rel=>
     have h1:=Hrun.out
     rw[qaJ _ _ n _ Hb.out Hpb.out] at h1
     exact⟨n+1,by omega,by go_num,by omega,trivial⟩
    case measure=>simp[intOf];omega
  ·obtain rfl:n=s.size:=by omega
   have Hrun:=qh hrun
   have Hsz:=qh hsz
   clear hrun hsz
   go_wp2
   go_ret
   refine⟨qau ?_,rfl⟩
   have h1:=Hrun.out
   rw[qcb _ _ _ (Nat.le_of_eq Hsz.out.symm)] at h1
   exact h1
theorem qcV(s:ByteArray)(w:World)(hs:s.size<4611686018427387904):
  Calls Tryz.prog 113 #[.string s] w fun e w'=>e=.returned (.int .i64 (qE s.data.toList:Nat))∧w'=w:=by
 by_cases h0:s.size=0
 ·obtain rfl:s=ByteArray.empty:=ByteArray.size_eq_zero_iff.1 h0
  go_enter Tryz.func113,Tryz.ntmps113
  go_wp2
  go_ret
  exact⟨rfl,rfl⟩
 ·have hlt:0<s.size:=by omega
  have hsz:=Lib.size_eq s
  have hl:=qfl s hlt
  have hsp:qE s.data.toList=if qax s[0] then qy qO s.data.toList else 0:=by rw[hl];rfl
  obtain⟨he,he2⟩:=qby s hlt
  have Hsp:=qh hsp
  clear hsp
  cases hL:qax s[0]
  all_goals
   have HL:=qh hL
   rw[hL] at Hsp
  ·clear hL hl hsz
   go_enter Tryz.func113,Tryz.ntmps113
   go_wp2_with(go_at_call 89;refine(qaI _ _).mono ?_;rw[HL.out];rintro e w' ⟨rfl,rfl⟩)
   go_ret
   exact⟨by rw[Hsp.out];rfl,rfl⟩
  ·have h1:1+qy qO (s.data.toList.drop 1)=qy qO s.data.toList:=by
    have:=qaJ qO s.data.toList 0 s[0] (by rw[List.getElem?_eq_getElem (by omega)];rfl) (by unfold qO;rw[hL];rfl)
    rw[List.drop_zero,Nat.zero_add] at this;omega
   have H1:=qh h1
   have Hsz:=qh hsz
   clear hL hl h1 hsz
   go_enter Tryz.func113,Tryz.ntmps113
   go_wp2_with(go_at_call 89;refine(qaI _ _).mono ?_;rw[HL.out];rintro e w' ⟨rfl,rfl⟩)
   go_loopw [3] (fun i wr=>∃n:Nat,1≤n∧n≤s.size∧i=.int .i64 n∧Hid (n+qy qO (s.data.toList.drop n)=qy qO s.data.toList)∧wr=w') (fun i _=>s.size- (intOf i).toNat)
   case atStart=>exact⟨1,by omega,by omega,rfl,H1,rfl⟩
   case round=>
    obtain⟨n,hn1,hn,rfl,Hrun,rfl⟩:=hrel
    clear H1
    by_cases hlt:n<s.size
    ·have Hb:=qh (show s.data.toList[n]? =some s[n] from by rw[List.getElem?_eq_getElem (by have:=Hsz.out;omega)];rfl)
     cases hpl:qax s[n]
     ·cases hpd:qA s[n]
      all_goals
       have Hpp:=qh (show qO s[n]=_ from by unfold qO;rw[hpl,hpd])
       have Hpl:=qh hpl
       have Hpd:=qh hpd
       clear hpl hpd
       go_wp2_with(first|(go_at_call 89;refine(qaI _ _).mono ?_;rw[Hpl.out];rintro e w' ⟨rfl,rfl⟩)|(go_at_call 114;refine(qbT _ _).mono ?_;rw[Hpd.out];rintro e w' ⟨rfl,rfl⟩))
      ·go_ret
       refine⟨?_,rfl⟩
       have h1:=Hrun.out
       rw[qbN _ _ n _ Hb.out Hpp.out] at h1
       rw[Hsp.out]
       exact qau h1
      ·go_roundw
       case rel=>
        have h1:=Hrun.out
        rw[qaJ _ _ n _ Hb.out Hpp.out] at h1
        exact⟨n+1,by omega,by omega,by go_num,qh (by omega),trivial⟩
       case measure=>simp[intOf];omega
     ·have Hpp:=qh (show qO s[n]=true from by unfold qO;rw[hpl];rfl)
      have Hpl:=qh hpl
      clear hpl
      go_wp2_with(go_at_call 89;refine(qaI _ _).mono ?_;rw[Hpl.out];rintro e w' ⟨rfl,rfl⟩)
      go_roundw
      case rel=>
       have h1:=Hrun.out
       rw[qaJ _ _ n _ Hb.out Hpp.out] at h1
       exact⟨n+1,by omega,by omega,by go_num,qh (by omega),trivial⟩
      case measure=>simp[intOf];omega
    ·obtain rfl:n=s.size:=by omega
     go_wp2
     go_ret
     refine⟨?_,rfl⟩
     have h1:=Hrun.out
     rw[qcb _ _ _ (Nat.le_of_eq Hsz.out.symm)] at h1
     rw[Hsp.out]
     exact qau h1
def qj0(x:List UInt8):Prop:=0<x.length∧x.length≤3∧qat x=x.length∧qat (x++[32])=x.length∧qat (x++[97])=x.length∧(qat (x.take 1)=1∨x=[33,61])∧qat (97::x)=0
instance(x:List UInt8):Decidable (qj0 x):=by unfold qj0;infer_instance
def opsC:List Value:=opsL.map fun x=>Value.string ⟨x.toArray⟩
theorem qi3(w:World):
  Calls Tryz.prog 116 #[] w fun e w'=>e=.returned (.slice (some ⟨w.heap.size,0,none⟩) 34 34)∧w'=w.alloc (.cells opsC.toArray 9):=by
 go_enter Tryz.func116,Tryz.ntmps116
 go_wp2
 go_ret
 exact⟨rfl,rfl⟩
theorem ops_len:∀x∈opsL,x.length≤3:=by decide+kernel
theorem qmh(s X:ByteArray)(h:X.size≤s.size):((s.extract 0 X.size).toList ==X.toList)=Lib.hasPrefix s.data.toList X.data.toList:=by
 rw[Lib.toList_data,Lib.toList_data,Lib.extract_data,List.drop_zero,Nat.sub_zero,Bool.eq_iff_iff,beq_iff_eq]
 unfold Lib.hasPrefix
 rw[List.isPrefixOf_iff_prefix]
 constructor
 ·intro e;rw[←e];exact List.take_prefix _ _
 ·intro e;rw[List.prefix_iff_eq_take] at e;rw[Lib.size_eq X];exact e.symm
theorem qme{l x:List UInt8}(h:l.length<x.length):Lib.hasPrefix l x=false:=by
 cases hp:Lib.hasPrefix l x
 ·rfl
 ·have:=Lib.hasPrefix_le hp;omega
theorem qjq(s:ByteArray)(w:World)(hs:s.size<4611686018427387904):
  Calls Tryz.prog 92 #[.string s] w fun e w'=>e=.returned (.int .i64 (qat s.data.toList:Nat))∧Below w.heap.size w w':=by
 have hsz:=Lib.size_eq s
 have Hsz:=qh hsz
 have hop:=qi3 w
 have hb1:(w.alloc (.cells opsC.toArray 9)).heap[w.heap.size]? =some (.cells opsC.toArray 9 (0,0)):=World.alloc_heap_new w _
 have hB1:=(Below.refl w.heap.size w).alloc (Nat.le_refl _) (.cells opsC.toArray 9)
 generalize w.alloc (.cells opsC.toArray 9)=W1 at*
 clear hsz
 have Hop:=qh hop
 have Hb:=qh hb1
 clear hop hb1
 go_enter Tryz.func92,Tryz.ntmps92
 go_wp2_with(go_at_call 116;refine Hop.out.mono ?_;rintro e w' ⟨rfl,rfl⟩)
 clear Hop
 go_loopw [4] (fun i wr=>∃k:Nat,k≤34∧i=.int .i64 k∧Hid (∀y∈opsL.take k,Lib.hasPrefix s.data.toList y=false)∧∃n,wr=w'.drewN n) (fun i _=>34- (intOf i).toNat)
 case atStart=>exact⟨0,by omega,rfl,qh (by intro y hy;simp at hy),0,rfl⟩
 case round=>
  obtain⟨k,hk,rfl,Hno,n,rfl⟩:=hrel
  by_cases hlt:k<34
  ·obtain⟨x,hx⟩:∃x,opsL[k]? =some x:=⟨_,List.getElem?_eq_getElem (show k<opsL.length from hlt)⟩
   have hxl:=ops_len x (List.mem_of_getElem? hx)
   obtain⟨X,hX⟩:∃X:ByteArray,(⟨x.toArray⟩:ByteArray)=X:=⟨_,rfl⟩
   have hcell:w'.cell? ⟨w.heap.size,k,none⟩=some (.string X):=qa Hb.out (by simp[opsC,hx,hX])
   have hXd:X.data.toList=x:=by rw[←hX]
   have hXs:X.size=x.length:=by rw[Lib.size_eq,hXd]
   have htake:opsL.take (k+1)=opsL.take k++[x]:=by rw[List.take_add_one,hx];rfl
   have Htake:=qh htake
   have HXd:=qh hXd
   have HXs:=qh hXs
   have hX3:X.size≤3:=by omega
   clear htake hXd hXs hX hx
   by_cases hlen:X.size≤s.size
   ·have ht:=qmh s X hlen
    rw[HXd.out] at ht
    have hd:decide (X.size≤s.size)=true:=decide_eq_true hlen
    cases hp:Lib.hasPrefix s.data.toList x
    ·rw[hp] at ht
     have Hp:=qh hp
     clear hp
     go_wp2
     go_quiet (fail)
     go_wp2
     go_roundw
     case rel=>exact⟨k+1,by omega,by go_num,qh (by
      intro y hy
      rw[Htake.out] at hy
      rcases List.mem_append.1 hy with hy|hy
      ·exact Hno.out y hy
      ·simp only[List.mem_singleton] at hy;subst hy;exact Hp.out),_,rfl⟩
     case measure=>simp[intOf];omega
    ·rw[hp] at ht
     have hop:=qk4 s.data.toList (opsL.take k) x (by rw[←Htake.out];exact List.take_prefix _ _) Hno.out hp
     have Hop:=qh hop
     clear hp hop
     go_wp2
     go_quiet (fail)
     go_wp2
     go_ret
     exact⟨by rw[Hop.out,←HXs.out];rfl,below_drewN hB1 _⟩
   ·have hd:decide (X.size≤s.size)=false:=decide_eq_false hlen
    have hp:Lib.hasPrefix s.data.toList x=false:=qme (by rw[←Hsz.out,←HXs.out];omega)
    have Hp:=qh hp
    clear hp
    go_wp2
    go_quiet (fail)
    go_wp2
    go_roundw
    case rel=>exact⟨k+1,by omega,by go_num,qh (by
      intro y hy
      rw[Htake.out] at hy
      rcases List.mem_append.1 hy with hy|hy
      ·exact Hno.out y hy
      ·simp only[List.mem_singleton] at hy;subst hy;exact Hp.out),_,rfl⟩
    case measure=>simp[intOf];omega
  ·obtain rfl:k=34:=by omega
   have hop:=qkf s.data.toList (fun x hx=>Hno.out x (by rw[List.take_of_length_le (by decide)];exact hx))
   have Hop:=qh hop
   clear hop Hno
   go_wp2
   go_ret
   exact⟨by rw[Hop.out];rfl,below_drewN hB1 _⟩
def qfo:List Value:=qdh.map fun x=>Value.string ⟨x.toArray⟩
theorem qfI(s:ByteArray)(w:World):
  Calls Tryz.prog 127 #[.string s] w fun e w'=>e=.returned (.bool (qed s.data.toList))∧Below w.heap.size w w':=by
 have hb1:(w.alloc (.cells qfo.toArray 9)).heap[w.heap.size]? =some (.cells qfo.toArray 9 (0,0)):=World.alloc_heap_new w _
 have hB1:=(Below.refl w.heap.size w).alloc (Nat.le_refl _) (.cells qfo.toArray 9)
 obtain⟨W1,hW1⟩:∃W1,w.alloc (.cells qfo.toArray 9)=W1:=⟨_,rfl⟩
 rw[hW1] at hb1 hB1
 have Hb:=qh hb1
 clear hb1
 simp only[qfo,qdh,List.map_cons,List.map_nil] at hW1
 go_enter Tryz.func127,Tryz.ntmps127
 go_wp2
 clear hW1
 go_loopw [4] (fun i wr=>∃k:Nat,k≤18∧i=.int .i64 k∧Hid (∀y∈qdh.take k,y≠s.data.toList)∧wr=W1) (fun i _=>18- (intOf i).toNat)
 case atStart=>exact⟨0,by omega,rfl,qh (by intro y hy;simp at hy),rfl⟩
 case round=>
  obtain⟨k,hk,rfl,Hno,rfl⟩:=hrel
  by_cases hlt:k<18
  ·obtain⟨x,hx⟩:∃x,qdh[k]? =some x:=⟨_,List.getElem?_eq_getElem (show k<qdh.length from hlt)⟩
   obtain⟨X,hX⟩:∃X:ByteArray,(⟨x.toArray⟩:ByteArray)=X:=⟨_,rfl⟩
   have hcell:wr.cell? ⟨w.heap.size,k,none⟩=some (.string X):=qa Hb.out (by simp[qfo,hx,hX])
   have hXd:X.data.toList=x:=by rw[←hX]
   have htake:qdh.take (k+1)=qdh.take k++[x]:=by rw[List.take_add_one,hx];rfl
   have Htake:=qh htake
   have Hmem:=qh (List.mem_of_getElem? hx)
   have ht:(X.toList==s.toList)=(x==s.data.toList):=by rw[Lib.toList_data,Lib.toList_data,hXd]
   clear htake hXd hX hx
   cases hp:(x==s.data.toList)
   ·rw[hp] at ht
    have hne:x≠s.data.toList:=by simpa using hp
    have Hne:=qh hne
    clear hne hp
    go_wp2
    go_roundw
    case rel=>exact⟨k+1,by omega,by go_num,qh (by
      intro y hy
      rw[Htake.out] at hy
      rcases List.mem_append.1 hy with hy|hy
      ·exact Hno.out y hy
      ·simp only[List.mem_singleton] at hy;subst hy;exact Hne.out),trivial⟩
    case measure=>simp[intOf];omega
   ·rw[hp] at ht
    have hkey:qed s.data.toList=true:=by
     unfold qed
     rw[←eq_of_beq hp]
     exact List.contains_iff_mem.2 Hmem.out
    have Hkey:=qh hkey
    clear hkey hp
    go_wp2
    go_ret
    exact⟨by rw[Hkey.out];rfl,hB1⟩
  ·obtain rfl:k=18:=by omega
   have hkey:qed s.data.toList=false:=by
    unfold qed
    cases hc:qdh.contains s.data.toList
    ·rfl
    ·exact absurd rfl (Hno.out _ (by rw[List.take_of_length_le (by decide)];exact List.contains_iff_mem.1 hc))
   have Hkey:=qh hkey
   clear hkey Hno
   go_wp2
   go_ret
   exact⟨by rw[Hkey.out];rfl,hB1⟩
theorem qho(s:ByteArray)(w:World)(hs:s.size<4611686018427387904):
  Calls Tryz.prog 118 #[.string s] w fun e w'=>e=.returned (.bool (qfX s.data.toList))∧Below w.heap.size w w':=by
 have hp:qfX s.data.toList=(!s.data.toList.isEmpty&&(qE s.data.toList==s.size&& !qed s.data.toList)):=by rw[Lib.size_eq];rfl
 by_cases h0:s.size=0
 ·obtain rfl:s=ByteArray.empty:=ByteArray.size_eq_zero_iff.1 h0
  go_enter Tryz.func118,Tryz.ntmps118
  go_wp2
  go_ret
  exact⟨rfl,Below.refl _ _⟩
 ·have hlt:0<s.size:=by omega
  obtain⟨he,he2⟩:=qby s hlt
  have he3:s.data.toList.isEmpty=false:=by rw[←Lib.toList_data];exact he
  rw[he3] at hp
  have hsim:=qcV s w hs
  have hkey:=fun w'=>qfI s w'
  clear h0 he3
  generalize qfX s.data.toList=pb at*
  generalize qE s.data.toList=k at*
  generalize qed s.data.toList=ik at*
  have Hp:=qh hp
  have Hkey:=qh hkey
  have Hsim:=qh hsim
  clear hp hkey hsim
  cases hk:(k==s.size)
  ·have h1:((k:Int)==(s.size:Int))=false:=by rw[beq_eq_false_iff_ne] at hk⊢;omega
   have h2:((k:Int)=(s.size:Int))=False:=by apply eq_false;intro h;rw[beq_eq_false_iff_ne] at hk;omega
   rw[hk] at Hp
   clear hk
   go_enter Tryz.func118,Tryz.ntmps118
   go_wp2_with(go_at_call 113;refine Hsim.out.mono ?_;rintro e w' ⟨rfl,rfl⟩)
   go_ret
   exact⟨by rw[Hp.out];rfl,Below.refl _ _⟩
  ·have h2:k=s.size:=eq_of_beq hk
   rw[hk] at Hp
   subst h2
   clear hk
   go_enter Tryz.func118,Tryz.ntmps118
   go_wp2_with(first
    |(go_at_call 113;refine Hsim.out.mono ?_;rintro e w' ⟨rfl,rfl⟩)
    |(go_at_call 127;refine(Hkey.out _).mono ?_;rintro e w' ⟨rfl,hB⟩))
   go_ret
   exact⟨by rw[Hp.out];cases ik<;>rfl,hB⟩
theorem qeO(c:UInt8):qb0 c=decide (c.toNat=34∨c.toNat=92∨c.toNat=47∨c.toNat=98∨c.toNat=102∨c.toNat=110∨c.toNat=114∨c.toNat=116):=
 beq_iff_eq.1 (qdE (p:=fun c=>qb0 c==decide (c.toNat=34∨c.toNat=92∨c.toNat=47∨c.toNat=98∨c.toNat=102∨c.toNat=110∨c.toNat=114∨c.toNat=116)) (by decide+kernel) c)
def qdH(k n:Nat):Prop:=(0<k→n≠34)∧(1<k→n≠92)∧(2<k→n≠47)∧(3<k→n≠98)∧(4<k→n≠102)∧(5<k→n≠110)∧(6<k→n≠114)∧(7<k→n≠116)
def escS:ByteArray:=⟨#[34,92,47,98,102,110,114,116]⟩
theorem qgU(k:Nat)(h:k<escS.size):(k=0∧escS[k].toNat =34)∨(k=1∧escS[k].toNat =92)∨(k=2∧escS[k].toNat =47)∨(k=3∧escS[k].toNat =98)∨(k=4∧escS[k].toNat =102)∨(k=5∧escS[k].toNat =110)∨(k=6∧escS[k].toNat =114)∨(k=7∧escS[k].toNat =116):=by
 have h8:k<8:=h
 have hks:k=0∨k=1∨k=2∨k=3∨k=4∨k=5∨k=6∨k=7:=by omega
 rcases hks with rfl|rfl|rfl|rfl|rfl|rfl|rfl|rfl<;>decide+revert
theorem lit_hit{k:Nat}(h:k<escS.size){b:UInt8}(e:((escS[k].toNat :Int)==(b.toNat:Int))=true):qb0 b=true:=by
 rw[beq_iff_eq] at e
 rw[qeO,decide_eq_true_eq]
 have:=qgU k h
 omega
theorem qmt{k n:Nat}(h:k<escS.size)(e:((escS[k].toNat :Int)==(n:Int))=false)(hn:qdH k n):qdH (k+1) n:=by
 rw[beq_eq_false_iff_ne] at e
 have:=qgU k h
 unfold qdH at*
 omega
theorem esc_not{s:ByteArray}(h:2≤s.size)(h0:(s[0]==92)=false):escN s.data.toList=0:=by
 rw[qdp s h]
 show(if s[0]==92 then _ else 0)=0
 rw[if_neg (by rw[h0];simp)]
theorem qkG{s:ByteArray}(h:¬2≤s.size):escN s.data.toList=0:=by
 rw[Lib.size_eq] at h
 match s.data.toList,h with
 |[],_=>rfl
 |[_],_=>rfl
 |_::_::_,h=>simp at h
theorem ql1{s:ByteArray}(h:2≤s.size)(h0:(s[0]==92)=true)(h1:qb0 s[1]=true):escN s.data.toList=2:=by
 rw[qdp s h]
 show(if s[0]==92 then(if qb0 s[1] then 2 else _) else 0)=2
 rw[if_pos h0,if_pos h1]
theorem qmF{s:ByteArray}(h:2≤s.size)(h0:(s[0]==92)=true)(h1:qb0 s[1]=false):escN s.data.toList=if s[1]==117&&qy qaF ((s.data.toList.drop 2).take 4)==4 then 6 else 0:=by
 rw[qdp s h]
 show(if s[0]==92 then(if qb0 s[1] then 2 else if s[1]==117&&qy qaF ((s.data.toList.drop 2).take 4)==4 then 6 else 0) else 0)=_
 rw[if_pos h0,if_neg (by rw[h1];simp)]
 rfl
theorem qlO{s:ByteArray}(h:6≤s.size):(qy qaF ((s.data.toList.drop 2).take 4)==4)=(qaF s[2]&&(qaF s[3]&&(qaF s[4]&&qaF s[5]))):=by
 have e:(s.data.toList.drop 2).take 4=[s[2],s[3],s[4],s[5]]:=by
  have hl:6≤s.data.toList.length:=by rw[←Lib.size_eq];exact h
  rw[List.drop_eq_getElem_cons (by omega),List.drop_eq_getElem_cons (by omega),List.drop_eq_getElem_cons (by omega),List.drop_eq_getElem_cons (by omega)]
  rfl
 rw[e]
 unfold qy
 cases ha:qaF s[2]<;>cases hb:qaF s[3]<;>cases hc:qaF s[4]<;>cases hd:qaF s[5]<;>simp[ha,hb,hc,hd]
theorem qmo{s:ByteArray}(h:¬6≤s.size):(qy qaF ((s.data.toList.drop 2).take 4)==4)=false:=by
 have h1:=qbb qaF ((s.data.toList.drop 2).take 4)
 rw[List.length_take,List.length_drop,←Lib.size_eq] at h1
 rw[beq_eq_false_iff_ne];omega
theorem qh0(s:ByteArray)(w:World)(hs:s.size<4611686018427387904):
  Calls Tryz.prog 84 #[.string s] w fun e w'=>e=.returned (.int .i64 (escN s.data.toList:Nat))∧Below w.heap.size w w':=by
 by_cases hlt:2≤s.size
 ·cases h0:(s[0]==92)
  ·have He:=qh (esc_not hlt h0)
   have y1:((s[0].toNat :Int) != 92)=true:=qdS 92 h0
   have y2:((s[0].toNat :Int)=92)=False:=qdO 92 h0
   clear h0
   go_enter Tryz.func84,Tryz.ntmps84
   go_wp2
   go_ret
   exact⟨by rw[He.out];rfl,Below.refl _ _⟩
  ·have H0:=qh h0
   have y1:((s[0].toNat :Int) != 92)=false:=by rw[eq_of_beq h0];rfl
   clear h0
   go_enter Tryz.func84,Tryz.ntmps84
   go_wp2
   go_loopw [3] (fun i wr=>∃k:Nat,k≤8∧i=.int .i64 k∧Hid (qdH k s[1].toNat)∧∃n,wr=w.drewN n) (fun i _=>8- (intOf i).toNat)
   case atStart=>exact⟨0,by omega,rfl,qh (by unfold qdH;omega),0,rfl⟩
   case round=>
    obtain⟨k,hk,rfl,Hno,n,rfl⟩:=hrel
    clear y1
    have hB:=below_drewN (Below.refl w.heap.size w) n
    have l1:1<s.size:=by omega
    have l2:(1:Int)<(s.size:Int):=by omega
    by_cases hk8:k<8
    ·go_wp2
     go_quiet (fail)
     go_wp2
     ·have hc:((escS[k].toNat :Int)==(s[1].toNat :Int))=true:=by assumption
      have He:=ql1 hlt H0.out (lit_hit hk8 hc)
      go_ret
      exact⟨by rw[He];rfl,below_drewN hB _⟩
     ·have hc:((escS[k].toNat :Int)==(s[1].toNat :Int))=false:=by assumption
      go_roundw
      case rel=>exact⟨k+1,by omega,by go_num,qh (qmt hk8 hc Hno.out),_,rfl⟩
      case measure=>simp[intOf];omega
    ·obtain rfl:k=8:=by omega
     have hp:qb0 s[1]=false:=by rw[qeO,decide_eq_false_iff_not];have:=Hno.out;unfold qdH at this;omega
     have he:=qmF hlt H0.out hp
     clear hp Hno
     by_cases h6:6≤s.size
     ·rw[qlO h6] at he
      cases hu:(s[1]==117)
      ·have y1:((s[1].toNat :Int) != 117)=true:=qdS 117 hu
       have y2:((s[1].toNat :Int)=117)=False:=qdO 117 hu
       rw[hu] at he
       have He:=qh he
       clear hu he
       go_wp2
       go_ret
       exact⟨by rw[He.out];rfl,hB⟩
      ·have y1:((s[1].toNat :Int) != 117)=false:=by rw[eq_of_beq hu];rfl
       rw[hu] at he
       clear hu
       have H2:=qdc s[2]
       have H3:=qdc s[3]
       have H4:=qdc s[4]
       have H5:=qdc s[5]
       generalize qaF s[2]=x2 at*
       generalize qaF s[3]=x3 at*
       generalize qaF s[4]=x4 at*
       generalize qaF s[5]=x5 at*
       replace H2:=qh H2
       replace H3:=qh H3
       replace H4:=qh H4
       replace H5:=qh H5
       replace he:=qh he
       cases x2
       ·go_wp2_with(go_at_call 112;(first|with_reducible refine(H2.out _).mono ?_|with_reducible refine(H3.out _).mono ?_|with_reducible refine(H4.out _).mono ?_|with_reducible refine(H5.out _).mono ?_);rintro e w' ⟨rfl,hw⟩;subst hw)
        go_ret
        exact⟨by rw[he.out];rfl,hB⟩
       ·cases x3
        ·go_wp2_with(go_at_call 112;(first|with_reducible refine(H2.out _).mono ?_|with_reducible refine(H3.out _).mono ?_|with_reducible refine(H4.out _).mono ?_|with_reducible refine(H5.out _).mono ?_);rintro e w' ⟨rfl,hw⟩;subst hw)
         go_ret
         exact⟨by rw[he.out];rfl,hB⟩
        ·cases x4
         ·go_wp2_with(go_at_call 112;(first|with_reducible refine(H2.out _).mono ?_|with_reducible refine(H3.out _).mono ?_|with_reducible refine(H4.out _).mono ?_|with_reducible refine(H5.out _).mono ?_);rintro e w' ⟨rfl,hw⟩;subst hw)
          go_ret
          exact⟨by rw[he.out];rfl,hB⟩
         ·cases x5
          ·go_wp2_with(go_at_call 112;(first|with_reducible refine(H2.out _).mono ?_|with_reducible refine(H3.out _).mono ?_|with_reducible refine(H4.out _).mono ?_|with_reducible refine(H5.out _).mono ?_);rintro e w' ⟨rfl,hw⟩;subst hw)
           go_ret
           exact⟨by rw[he.out];rfl,hB⟩
          ·go_wp2_with(go_at_call 112;(first|with_reducible refine(H2.out _).mono ?_|with_reducible refine(H3.out _).mono ?_|with_reducible refine(H4.out _).mono ?_|with_reducible refine(H5.out _).mono ?_);rintro e w' ⟨rfl,hw⟩;subst hw)
           go_ret
           exact⟨by rw[he.out];rfl,hB⟩
     ·rw[qmo h6] at he
      rw[Bool.and_false] at he
      have He:=qh he
      clear he
      cases hu:(s[1]==117)
      ·have y1:((s[1].toNat :Int) != 117)=true:=qdS 117 hu
       have y2:((s[1].toNat :Int)=117)=False:=qdO 117 hu
       clear hu
       go_wp2
       go_ret
       exact⟨by rw[He.out];rfl,hB⟩
      ·have y1:((s[1].toNat :Int) != 117)=false:=by rw[eq_of_beq hu];rfl
       clear hu
       go_wp2
       go_ret
       exact⟨by rw[He.out];rfl,hB⟩
 ·have He:=qh (qkG hlt)
  go_enter Tryz.func84,Tryz.ntmps84
  go_wp2
  go_ret
  exact⟨by rw[He.out];rfl,Below.refl _ _⟩
theorem qji(s:ByteArray)(k:Nat)(hs:s.size<4611686018427387904)(w:World):
  Calls Tryz.prog 113 #[.string (s.extract k s.size)] w fun e w'=>e=.returned (.int .i64 (qE (s.data.toList.drop k):Nat))∧w'=w:=by
 have:=qcV (s.extract k s.size) w (qdQ _ _ _ hs)
 rwa [qba] at this
theorem qjf(s:ByteArray)(k:Nat)(hs:s.size<4611686018427387904)(w:World):
  Calls Tryz.prog 115 #[.string (s.extract k s.size)] w fun e w'=>e=.returned (.int .i64 (qy qA (s.data.toList.drop k):Nat))∧w'=w:=by
 have:=qex (s.extract k s.size) w (qdQ _ _ _ hs)
 rwa [qba] at this
theorem qiP(s:ByteArray)(n:Nat)(h:n+2<s.size):((s.extract n (n+2)).toList ==[58,58])=Lib.hasPrefix (s.data.toList.drop n) [58,58]:=by
 rw[Lib.toList_data,Lib.extract_data,Nat.add_sub_cancel_left]
 have hl:2<(s.data.toList.drop n).length :=by rw[List.length_drop,←Lib.size_eq];omega
 generalize s.data.toList.drop n=l at hl
 match l,hl with
 |a::b::r,_=>
  show([a,b]==[58,58])=_
  unfold Lib.hasPrefix
  rw[Bool.eq_iff_iff,beq_iff_eq,List.isPrefixOf_iff_prefix]
  constructor
  ·intro h
   injection h with h1 h
   injection h with h2 _
   subst h1;subst h2
   exact⟨r,rfl⟩
  ·rintro⟨t,ht⟩
   injection ht with h1 ht
   injection ht with h2 _
   subst h1;subst h2
   rfl
theorem qkC(l:List UInt8)(h:l.length≤2):qbn l=0:=by
 cases hp:Lib.hasPrefix l [58,58]
 ·exact qbY l hp
 ·refine qda l hp ?_
  rw[List.drop_eq_nil_of_le h];rfl
theorem qf3(s:ByteArray)(w:World)(hs:s.size<4611686018427387904):
  Calls Tryz.prog 88 #[.string s] w fun e w'=>e=.returned (.int .i64 (qay s.data.toList:Nat))∧w'=w:=by
 have hsz:=Lib.size_eq s
 have hle:=qc2 s.data.toList
 have h1:(qE s.data.toList=0∧qay s.data.toList=0)∨(0<qE s.data.toList∧qE s.data.toList+qbn (s.data.toList.drop (qE s.data.toList))=qay s.data.toList):=by
  unfold qay
  by_cases h:qE s.data.toList=0
  ·left;rw[if_pos h];exact⟨h,rfl⟩
  ·right;rw[if_neg h];exact⟨by omega,rfl⟩
 have hsim:=qcV s w hs
 rw[←hsz] at hle
 generalize qE s.data.toList=k0 at*
 have Hsim:=qh hsim
 have H1:=qh h1
 have Hsz:=qh hsz
 clear hsim h1 hsz
 go_enter Tryz.func88,Tryz.ntmps88
 go_wp2_with(go_at_call 113;refine Hsim.out.mono ?_;rintro e w' ⟨rfl,rfl⟩)
 clear Hsim
 go_loopw [3] (fun i wr=>∃n:Nat,n≤s.size∧i=.int .i64 n∧Hid ((n=0∧qay s.data.toList=0)∨(0<n∧n+qbn (s.data.toList.drop n)=qay s.data.toList))∧wr=w') (fun i _=>s.size- (intOf i).toNat)
 case atStart=>exact⟨k0,hle,rfl,H1,rfl⟩
 case round=>
  clear H1
  obtain⟨n,hn,rfl,Hrun,rfl⟩:=hrel
  by_cases h0:n=0
  ·have he:qay s.data.toList=0:=(Hrun.out.elim (fun h=>h.2) fun h=>absurd h0 (by have:=h.1;omega))
   subst h0
   have He:=qh he
   clear he
   go_wp2
   go_ret
   exact⟨by rw[He.out];rfl,rfl⟩
  ·have hpos:0<n:=by omega
   have hrun:n+qbn (s.data.toList.drop n)=qay s.data.toList:=(Hrun.out.resolve_left fun h=>h0 h.1).2
   have Hr:=qh hrun
   clear hrun Hrun h0
   by_cases h2:n+2<s.size
   ·have hcs:=qiP s n h2
    cases hp:Lib.hasPrefix (s.data.toList.drop n) [58,58]
    ·rw[hp] at hcs
     have hm:=qbY _ hp
     have Hm:=qh hm
     clear hm hp
     go_wp2
     go_ret
     refine⟨qau ?_,rfl⟩
     have:=Hr.out;rw[Hm.out] at this;exact this
    ·rw[hp] at hcs
     have hk:=qji s (n+2) hs
     have hkl:=qc2 (s.data.toList.drop (n+2))
     rw[List.length_drop,←Lib.size_eq] at hkl
     have hm0:qE (s.data.toList.drop (n+2))=0→qbn (s.data.toList.drop n)=0:=fun h=>qda _ hp (by rw[List.drop_drop];exact h)
     have hm1:qE (s.data.toList.drop (n+2))≠0→qbn (s.data.toList.drop n)=2+qE (s.data.toList.drop (n+2))+qbn (s.data.toList.drop (n+(2+qE (s.data.toList.drop (n+2))))):=fun h=>by
      rw[qeL (s.data.toList.drop n) _ hp (by rw[List.drop_drop]) h,List.drop_drop]
     generalize qE (s.data.toList.drop (n+2))=k at*
     have Hk:=qh hk
     have Hm0:=qh hm0
     have Hm1:=qh hm1
     clear hk hm0 hm1 hp
     by_cases hk0:k=0
     ·subst hk0
      go_wp2_with(go_at_call 113;refine(Hk.out _).mono ?_;rintro e w' ⟨rfl,rfl⟩)
      go_ret
      refine⟨qau ?_,rfl⟩
      have:=Hr.out;rw[Hm0.out trivial] at this;exact this
     ·have hkp:0<k:=by omega
      go_wp2_with(go_at_call 113;refine(Hk.out _).mono ?_;rintro e w' ⟨rfl,rfl⟩)
      go_roundw
      case rel=>exact⟨n+(2+k),by omega,by go_num,qh (.inr ⟨by omega,by have:=Hr.out;rw[Hm1.out hk0] at this;omega⟩),trivial⟩
      case measure=>simp[intOf];omega
   ·have hm:=qkC (s.data.toList.drop n) (by rw[List.length_drop,←Hsz.out];omega)
    have Hm:=qh hm
    clear hm
    go_wp2
    go_ret
    refine⟨qau ?_,rfl⟩
    have:=Hr.out;rw[Hm.out] at this;exact this
theorem qdV(l:List UInt8)(m:Nat)(b:UInt8)(h:l[m]? =some b):l.drop m=b::l.drop (m+1):=by
 obtain⟨hn,rfl⟩:=List.getElem?_eq_some_iff.1 h
 exact List.drop_eq_getElem_cons hn
theorem qf4(l:List UInt8)(m k q:Nat)(b:UInt8)(hb:l[m]? =some b)(he:(b==101||b==69)=true)(hk:qaH (l.drop (m+1))=l.drop k)(hmk:m<k)(hkl:k≤l.length)(hq:qy qA (l.drop k)=q):m+qc7 (l.drop m)=if q=0 then m else k+q:=by
 have hl:=List.getElem?_eq_some_iff.1 hb
 obtain⟨hl,_⟩:=hl
 have e:qc7 (l.drop m)=if q=0 then 0 else(l.length-m)- (l.length-k)+q:=by
  have h1:(b::l.drop (m+1)).length =l.length-m:=by simp only[List.length_cons,List.length_drop];omega
  rw[qdV l m b hb]
  show(if b==101||b==69 then(if qy qA (qaH (l.drop (m+1)))=0 then 0 else(b::l.drop (m+1)).length - (qaH (l.drop (m+1))).length +qy qA (qaH (l.drop (m+1)))) else 0)=_
  rw[if_pos he,hk,hq,h1,List.length_drop]
 rw[e]
 split<;>omega
theorem pow_no(l:List UInt8)(m:Nat)(b:UInt8)(hb:l[m]? =some b)(he:(b==101||b==69)=false):qc7 (l.drop m)=0:=by
 rw[qdV l m b hb]
 show(if b==101||b==69 then _ else 0)=0
 rw[if_neg (by rw[he];simp)]
theorem pow_end(l:List UInt8)(m:Nat)(h:l.length≤m):qc7 (l.drop m)=0:=by rw[List.drop_eq_nil_of_le h];rfl
theorem qlQ(l:List UInt8)(m:Nat)(b:UInt8)(hb:l[m]? =some b)(he:(b==43||b==45)=true):qaH (l.drop m)=l.drop (m+1):=by
 rw[qdV l m b hb]
 show(if b==43||b==45 then _ else _)=_
 rw[if_pos he]
theorem sign_no(l:List UInt8)(m:Nat)(b:UInt8)(hb:l[m]? =some b)(he:(b==43||b==45)=false):qaH (l.drop m)=l.drop m:=by
 rw[qdV l m b hb]
 show(if b==43||b==45 then _ else _)=_
 rw[if_neg (by rw[he];simp)]
theorem qmf(l:List UInt8)(m:Nat)(h:l.length≤m):qaH (l.drop m)=l.drop m:=by rw[List.drop_eq_nil_of_le h];rfl
theorem qgk{l:List UInt8}{m:Nat}(hm:qcm l=m)(h0:m≠0):qQ l=m+qc7 (l.drop m):=by
 unfold qQ;rw[hm,if_neg h0]
theorem qie{l:List UInt8}(hm:qcm l=0):qQ l=0:=by unfold qQ;rw[if_pos hm]
theorem qd8(s:ByteArray)(n:Nat)(h:n<s.size):s.data.toList[n]? =some s[n]:=by
 rw[List.getElem?_eq_getElem (by rw[←Lib.size_eq];exact h)];rfl
theorem qhC{s:ByteArray}{d r:Nat}(hd:qy qA s.data.toList=d)(h:d<s.size)(hb:s[d]=46)(hr:qy qA (s.data.toList.drop (d+1))=r):qcm s.data.toList=if d+r=0 then 0 else d+(1+r):=by
 unfold qcm
 rw[hd,qd8 s d h,hb,if_pos rfl,hr]
theorem qdT{s:ByteArray}{d:Nat}(hd:qy qA s.data.toList=d)(h:∀h:d<s.size,s[d]≠46):qcm s.data.toList=d:=by
 unfold qcm
 rw[hd,if_neg]
 intro e
 obtain⟨h1,h2⟩:=List.getElem?_eq_some_iff.1 e
 rw[←Lib.size_eq] at h1
 have:=qd8 s d h1
 rw[e] at this
 exact h h1 (Option.some.inj this).symm
theorem qhu(s:ByteArray)(w:World)(hs:s.size<4611686018427387904):
  Calls Tryz.prog 91 #[.string s] w fun e w'=>e=.returned (.int .i64 (qQ s.data.toList:Nat))∧w'=w:=by
 have hsz:=Lib.size_eq s
 have hdl:=qbb qA s.data.toList
 rw[←hsz] at hdl
 have Hsz:=qh hsz
 have Hd:=qh (rfl:qy qA s.data.toList=qy qA s.data.toList)
 have Hdig:=qh fun w=>qex s w hs
 have Hdr:=qh fun k w=>qjf s k hs w
 have hrl:∀k,k≤s.size→k+qy qA (s.data.toList.drop k)≤s.size:=fun k hk=>by
  have:=qbb qA (s.data.toList.drop k)
  rw[List.length_drop] at this;omega
 have Hrl:=qh hrl
 clear hsz hrl
 obtain⟨d,hd⟩:∃d,qy qA s.data.toList=d:=⟨_,rfl⟩
 rw[hd] at hdl Hdig
 clear Hd
 have Hd:=qh hd
 clear hd
 go_enter Tryz.func91,Tryz.ntmps91
 go_upto_region 2 with(go_at_call 115;refine(Hdig.out _).mono ?_;rintro e w' ⟨rfl,rfl⟩)
 rename_i K1 hK1 K2 hK2
 have hrest:∀(m:Nat) (u4 u5 u6 u7 u8 u9 u10 u11 u12 u13 u14 u15 u16 u17 u18 u19 u20 u21 u22 u23 u24 u25 u26 u27 u28 u29 u30 u31 u32 u33 u34 u35 u36 u37 u38 u39 u40 u41 u42 u43 u44 u45 u46 u47 u48 u49 u50 u51 u52 u53 u54 u55 u56 u57 u58 u59 u60 u61 u62 u63 u64 u65 u66 u67 u68 u69 u70 u71 u72 u73 u74 u75 u76 u77 u78 u79 u80 u81 u82 u83 u84 u85 u86 u87 u88 u89 u90 u91 u92 u93 u94 u95:Value),m≤s.size→Hid (qQ s.data.toList=m+qc7 (s.data.toList.drop m))→K1 {tmps:= #[.string s,undef,.int .i64 0,.int .i64 m,u4,u5,u6,u7,u8,u9,u10,u11,u12,u13,u14,u15,u16,u17,u18,u19,u20,u21,u22,u23,u24,u25,u26,u27,u28,u29,u30,u31,u32,u33,u34,u35,u36,u37,u38,u39,u40,u41,u42,u43,u44,u45,u46,u47,u48,u49,u50,u51,u52,u53,u54,u55,u56,u57,u58,u59,u60,u61,u62,u63,u64,u65,u66,u67,u68,u69,u70,u71,u72,u73,u74,u75,u76,u77,u78,u79,u80,u81,u82,u83,u84,u85,u86,u87,u88,u89,u90,u91,u92,u93,u94,u95],defers:=[]} w':=by
  intro m u4 u5 u6 u7 u8 u9 u10 u11 u12 u13 u14 u15 u16 u17 u18 u19 u20 u21 u22 u23 u24 u25 u26 u27 u28 u29 u30 u31 u32 u33 u34 u35 u36 u37 u38 u39 u40 u41 u42 u43 u44 u45 u46 u47 u48 u49 u50 u51 u52 u53 u54 u55 u56 u57 u58 u59 u60 u61 u62 u63 u64 u65 u66 u67 u68 u69 u70 u71 u72 u73 u74 u75 u76 u77 u78 u79 u80 u81 u82 u83 u84 u85 u86 u87 u88 u89 u90 u91 u92 u93 u94 u95 hms Hnum
  refine hK1 _ _ ?_
  clear hK1 hK2 Hd Hdig
  by_cases hltm:m<s.size
  ·cases h1:(s[m]==101)<;>cases h2:(s[m]==69)
   ·have y1:((s[m].toNat :Int)==101)=false:=qbW 101 h1
    have y2:((s[m].toNat :Int)==69)=false:=qbW 69 h2
    have hp:=pow_no s.data.toList m s[m] (qd8 s m hltm) (by rw[h1,h2];rfl)
    have Hp:=qh hp
    clear h1 h2 hp
    go_wp2
    go_ret
    exact⟨qau (by rw[Hnum.out,Hp.out];rfl),rfl⟩
   all_goals
    have he:(s[m]==101||s[m]==69)=true:=by rw[h1,h2];rfl
    first
     |(have y1:((s[m].toNat :Int)==101)=true:=by rw[eq_of_beq h1];rfl)
     |(have y1:((s[m].toNat :Int)==101)=false:=qbW 101 h1
       have y2:((s[m].toNat :Int)==69)=true:=by rw[eq_of_beq h2];rfl)
    clear h1 h2
    by_cases h3:m+1<s.size
    ·cases h4:(s[m+1]==43)<;>cases h5:(s[m+1]==45)
     ·have y3:((s[m+1].toNat :Int)==43)=false:=qbW 43 h4
      have y4:((s[m+1].toNat :Int)==45)=false:=qbW 45 h5
      have hk:=sign_no s.data.toList (m+1) s[m+1] (qd8 s (m+1) h3) (by rw[h4,h5];rfl)
      clear h4 h5
      obtain⟨q,hq⟩:∃q,qy qA (s.data.toList.drop (m+1))=q:=⟨_,rfl⟩
      have hp:=qf4 s.data.toList m (m+1) q s[m] (qd8 s m hltm) he hk (by omega) (by rw[←Hsz.out];omega) hq
      have hkl:m+1≤s.size:=by omega
      have hle:=Hrl.out (m+1) hkl
      rw[hq] at hle
      have Hr:=qh (Hdr.out (m+1))
      rw[hq] at Hr
      clear hq hk he
      by_cases hq0:q=0
      ·subst hq0
       have Hp:=qh hp
       clear hp
       go_wp2_with(go_at_call 115;with_reducible refine(Hr.out _).mono ?_;rintro e w' ⟨rfl,rfl⟩)
       go_ret
       exact⟨qau (by rw[Hnum.out,Hp.out];rfl),rfl⟩
      ·rw[if_neg hq0] at hp
       have Hp:=qh hp
       have hqp:0<q:=by omega
       clear hp hq0
       go_wp2_with(go_at_call 115;with_reducible refine(Hr.out _).mono ?_;rintro e w' ⟨rfl,rfl⟩)
       all_goals(go_ret;refine⟨?_,rfl⟩;rw[Hnum.out,Hp.out];rfl)
     all_goals
      have hk:=qlQ s.data.toList (m+1) s[m+1] (qd8 s (m+1) h3) (by rw[h4,h5];rfl)
      first
       |have y3:((s[m+1].toNat :Int)==43)=true:=by rw[eq_of_beq h4];rfl
       |(have y3:((s[m+1].toNat :Int)==43)=false:=qbW 43 h4
         have y4:((s[m+1].toNat :Int)==45)=true:=by rw[eq_of_beq h5];rfl)
      clear h4 h5
      obtain⟨q,hq⟩:∃q,qy qA (s.data.toList.drop (m+2))=q:=⟨_,rfl⟩
      have hp:=qf4 s.data.toList m (m+2) q s[m] (qd8 s m hltm) he hk (by omega) (by rw[←Hsz.out];omega) hq
      have hkl:m+2≤s.size:=by omega
      have hle:=Hrl.out (m+2) hkl
      rw[hq] at hle
      have Hr:=qh (Hdr.out (m+2))
      rw[hq] at Hr
      clear hq hk he
      by_cases hq0:q=0
      ·subst hq0
       have Hp:=qh hp
       clear hp
       go_wp2_with(go_at_call 115;with_reducible refine(Hr.out _).mono ?_;rintro e w' ⟨rfl,rfl⟩)
       go_ret
       exact⟨qau (by rw[Hnum.out,Hp.out];rfl),rfl⟩
      ·rw[if_neg hq0] at hp
       have Hp:=qh hp
       have hqp:0<q:=by omega
       clear hp hq0
       go_wp2_with(go_at_call 115;with_reducible refine(Hr.out _).mono ?_;rintro e w' ⟨rfl,rfl⟩)
       all_goals(go_ret;refine⟨?_,rfl⟩;rw[Hnum.out,Hp.out];rfl)
    ·have hk:=qmf s.data.toList (m+1) (by rw[←Hsz.out];omega)
     obtain⟨q,hq⟩:∃q,qy qA (s.data.toList.drop (m+1))=q:=⟨_,rfl⟩
     have hp:=qf4 s.data.toList m (m+1) q s[m] (qd8 s m hltm) he hk (by omega) (by rw[←Hsz.out];omega) hq
     have hkl:m+1≤s.size:=by omega
     have hle:=Hrl.out (m+1) hkl
     rw[hq] at hle
     have Hr:=qh (Hdr.out (m+1))
     rw[hq] at Hr
     clear hq hk he
     by_cases hq0:q=0
     ·subst hq0
      have Hp:=qh hp
      clear hp
      go_wp2_with(go_at_call 115;with_reducible refine(Hr.out _).mono ?_;rintro e w' ⟨rfl,rfl⟩)
      go_ret
      exact⟨qau (by rw[Hnum.out,Hp.out];rfl),rfl⟩
     ·rw[if_neg hq0] at hp
      have Hp:=qh hp
      have hqp:0<q:=by omega
      clear hp hq0
      go_wp2_with(go_at_call 115;with_reducible refine(Hr.out _).mono ?_;rintro e w' ⟨rfl,rfl⟩)
      all_goals(go_ret;refine⟨?_,rfl⟩;rw[Hnum.out,Hp.out];rfl)
  ·have hp:=pow_end s.data.toList m (by rw[←Hsz.out];omega)
   have Hp:=qh hp
   clear hp
   go_wp2
   go_ret
   exact⟨qau (by rw[Hnum.out,Hp.out];rfl),rfl⟩
 clear hK1
 by_cases hpos:0<d
 ·by_cases hlt:d<s.size
  ·cases h46:(s[d]==46)
   ·have y1:((s[d].toNat :Int)==46)=false:=qbW 46 h46
    have Hm:=qh (qgk (qdT Hd.out fun _ e=>by rw[e] at h46;simp at h46) (by omega))
    clear h46
    go_wp2
    exact hrest d _ _ _ _ _ _ _ _ _ _ _ _ _ _ _ _ _ _ _ _ _ _ _ _ _ _ _ _ _ _ _ _ _ _ _ _ _ _ _ _ _ _ _ _ _ _ _ _ _ _ _ _ _ _ _ _ _ _ _ _ _ _ _ _ _ _ _ _ _ _ _ _ _ _ _ _ _ _ _ _ _ _ _ _ _ _ _ _ _ _ _ _ hdl Hm
   ·have e46:s[d]=46:=eq_of_beq h46
    have y1:((s[d].toNat :Int)==46)=true:=by rw[e46];rfl
    obtain⟨r,hr⟩:∃r,qy qA (s.data.toList.drop (d+1))=r:=⟨_,rfl⟩
    have hm:=qhC Hd.out hlt e46 hr
    rw[if_neg (by omega)] at hm
    have Hm:=qh (qgk hm (by omega))
    have Hr:=qh (Hdr.out (d+1))
    have hle:=Hrl.out (d+1) (by omega)
    rw[hr] at Hr hle
    clear hr hm h46 e46
    go_wp2_with(first|(go_at_call 115;with_reducible refine(Hdig.out _).mono ?_;rintro e w' ⟨rfl,rfl⟩)|(go_at_call 115;with_reducible refine(Hr.out _).mono ?_;rintro e w' ⟨rfl,rfl⟩))
    exact hrest (d+(1+r)) _ _ _ _ _ _ _ _ _ _ _ _ _ _ _ _ _ _ _ _ _ _ _ _ _ _ _ _ _ _ _ _ _ _ _ _ _ _ _ _ _ _ _ _ _ _ _ _ _ _ _ _ _ _ _ _ _ _ _ _ _ _ _ _ _ _ _ _ _ _ _ _ _ _ _ _ _ _ _ _ _ _ _ _ _ _ _ _ _ _ _ _ (by omega) Hm
  ·obtain rfl:d=s.size:=by omega
   have Hm:=qh (qgk (qdT Hd.out fun h=>by omega) (by omega))
   go_wp2
   exact hrest s.size _ _ _ _ _ _ _ _ _ _ _ _ _ _ _ _ _ _ _ _ _ _ _ _ _ _ _ _ _ _ _ _ _ _ _ _ _ _ _ _ _ _ _ _ _ _ _ _ _ _ _ _ _ _ _ _ _ _ _ _ _ _ _ _ _ _ _ _ _ _ _ _ _ _ _ _ _ _ _ _ _ _ _ _ _ _ _ _ _ _ _ _ hdl Hm
 ·obtain rfl:d=0:=by omega
  by_cases h0:s.size=0
  ·obtain rfl:s=ByteArray.empty:=ByteArray.size_eq_zero_iff.1 h0
   go_wp2
   go_ret
   exact⟨rfl,rfl⟩
  ·have hlt:0<s.size:=by omega
   obtain⟨he,he2⟩:=qby s hlt
   cases h46:(s[0]==46)
   ·have y1:((s[0].toNat :Int) != 46)=true:=qdS 46 h46
    have y2:((s[0].toNat :Int)=46)=False:=qdO 46 h46
    have He:=qh (qie (qdT Hd.out fun _ e=>by rw[e] at h46;simp at h46))
    clear h46
    go_wp2
    go_ret
    exact⟨by rw[He.out];rfl,rfl⟩
   ·have e46:s[0]=46:=eq_of_beq h46
    have y1:((s[0].toNat :Int) != 46)=false:=by rw[e46];rfl
    obtain⟨r,hr⟩:∃r,qy qA (s.data.toList.drop (0+1))=r:=⟨_,rfl⟩
    have hm:=qhC Hd.out hlt e46 hr
    have Hr:=qh (Hdr.out (0+1))
    have hle:=Hrl.out (0+1) (by omega)
    rw[hr] at Hr hle
    rw[Nat.zero_add] at Hr hle hm
    by_cases hr0:r=0
    ·subst hr0
     have He:=qh (qie (by rw[hm];rfl))
     clear hr hm h46 e46
     go_wp2_with(first|(go_at_call 115;with_reducible refine(Hdig.out _).mono ?_;rintro e w' ⟨rfl,rfl⟩)|(go_at_call 115;with_reducible refine(Hr.out _).mono ?_;rintro e w' ⟨rfl,rfl⟩))
     go_ret
     exact⟨by rw[He.out];rfl,rfl⟩
    ·have hrp:0<r:=by omega
     rw[if_neg hr0,Nat.zero_add] at hm
     have Hm:=qh (qgk hm (by omega))
     clear hr hm h46 e46 hr0
     go_wp2_with(first|(go_at_call 115;with_reducible refine(Hdig.out _).mono ?_;rintro e w' ⟨rfl,rfl⟩)|(go_at_call 115;with_reducible refine(Hr.out _).mono ?_;rintro e w' ⟨rfl,rfl⟩))
     exact hrest (1+r) _ _ _ _ _ _ _ _ _ _ _ _ _ _ _ _ _ _ _ _ _ _ _ _ _ _ _ _ _ _ _ _ _ _ _ _ _ _ _ _ _ _ _ _ _ _ _ _ _ _ _ _ _ _ _ _ _ _ _ _ _ _ _ _ _ _ _ _ _ _ _ _ _ _ _ _ _ _ _ _ _ _ _ _ _ _ _ _ _ _ _ _ (by omega) Hm
def qaZ(c:UInt8)(f:List UInt8→Nat)(l:List UInt8):Nat:=match l with
 |[]=>0
 |b::r=>if b==c then(if f r=0 then 0 else f r+1) else 0
def qez(l:List UInt8):Nat:=(l.reverse.takeWhile (· ==92)).length
def oddB(l:List UInt8):Bool:=qez l%2==1
def qa9(l:List UInt8):Nat:=
 if h:Lib.indexByte l 10<0 then l.length
 else if !oddB (l.take (Lib.indexByte l 10).toNat)&& !oddB (Lib.trimSuffix (l.take (Lib.indexByte l 10).toNat) [13]) then(Lib.indexByte l 10).toNat
 else(Lib.indexByte l 10).toNat +1+qa9 (l.drop ((Lib.indexByte l 10).toNat +1))
termination_by l.length
decreasing_by
 simp only[List.length_drop]
 match l,h with
 |[],h=>simp[Lib.indexByte] at h
 |_::_,_=>simp only[List.length_cons];omega
def qfj(l:List UInt8):Nat:=match l with
 |[]=>0
 |b::_=>if b==35 then qa9 l else 0
theorem qb2(l:List UInt8)(h:Lib.indexByte l 10<0):qa9 l=l.length:=by rw[qa9,dif_pos h]
theorem qcZ(l:List UInt8)(k:Nat)(h:Lib.indexByte l 10=k)(h2:(!oddB (l.take k)&& !oddB (Lib.trimSuffix (l.take k) [13]))=true):qa9 l=k:=by
 rw[qa9,dif_neg (by omega)]
 have e:(Lib.indexByte l 10).toNat =k:=by omega
 rw[e,if_pos h2]
theorem qcP(l:List UInt8)(k:Nat)(h:Lib.indexByte l 10=k)(h2:(!oddB (l.take k)&& !oddB (Lib.trimSuffix (l.take k) [13]))=false):qa9 l=k+1+qa9 (l.drop (k+1)):=by
 rw[qa9,dif_neg (by omega)]
 have e:(Lib.indexByte l 10).toNat =k:=by omega
 rw[e,if_neg (by rw[h2];simp)]
theorem qel(l:List UInt8):Lib.indexByte l 10<0∨∃k:Nat,Lib.indexByte l 10=k∧k<l.length:=by
 have h:=Lib.indexByte_ge l 10
 by_cases h0:Lib.indexByte l 10<0
 ·exact .inl h0
 ·refine .inr ⟨(Lib.indexByte l 10).toNat,by omega,?_⟩
  have:=(Lib.indexByte_some (l:=l) (c:=10) (o:=(Lib.indexByte l 10).toNat) (by omega)).1
  exact(List.getElem?_eq_some_iff.1 this).1
theorem qhc:∀k (l:List UInt8),l.length≤k→qa9 l≤l.length:=by
 intro k
 induction k with
 |zero=>intro l h;obtain rfl:=List.length_eq_zero_iff.1 (show l.length=0 by omega);rw[qb2 _ (by decide)];omega
 |succ k ih=>
  intro l h
  rcases qel l with h0|⟨j,hj,hjl⟩
  ·rw[qb2 l h0];omega
  ·cases h2:(!oddB (l.take j)&& !oddB (Lib.trimSuffix (l.take j) [13]))
   ·rw[qcP l j hj h2]
    have:=ih (l.drop (j+1)) (by rw[List.length_drop];omega)
    rw[List.length_drop] at this;omega
   ·rw[qcZ l j hj h2];omega
theorem qlY(l:List UInt8):qfj l≤l.length:=by
 match l with
 |[]=>simp[qfj]
 |b::r=>
  show(if b==35 then qa9 (b::r) else 0)≤_
  split
  ·exact qhc _ _ (Nat.le_refl _)
  ·omega
def isQS(b:UInt8):Bool:=b==34||b==92
def qak(l:List UInt8):Nat:=match l with
 |[]=>0
 |b::r=>if b==34 then 0 else if b==92 then(if _h:escN (b::r)=0 then 0 else escN (b::r)+qak ((b::r).drop (escN (b::r)))) else 1+qak r
termination_by l.length
decreasing_by
 ·simp only[List.length_drop,List.length_cons];omega
 ·simp only[List.length_cons];omega
theorem qeN:qak []=0:=by rw[qak]
theorem qdB(b:UInt8)(r:List UInt8)(h:isQS b=false):qak (b::r)=1+qak r:=by
 unfold isQS at h
 rw[Bool.or_eq_false_iff] at h
 rw[qak,if_neg (by rw[h.1];simp),if_neg (by rw[h.2];simp)]
theorem qgS(l:List UInt8)(h:escN l≠0):qak l=escN l+qak (l.drop (escN l)):=by
 match l,h with
 |[],h=>exact absurd rfl h
 |b::r,h=>
  have hb:b=92:=Classical.byContradiction fun hb=>h (by
   match r with
   |[]=>rfl
   |c::t=>
    show(if b==92 then _ else 0)=0
    rw[if_neg (by simpa using hb)])
  subst hb
  rw[qak,if_neg (by decide),if_pos (by decide),dif_neg h]
theorem qeb(b:UInt8)(r:List UInt8)(hb:isQS b=true)(h:escN (b::r)=0):qak (b::r)=0:=by
 rw[qak]
 unfold isQS at hb
 rcases Bool.or_eq_true _ _▸hb with h1|h1
 ·rw[if_pos h1]
 ·by_cases h34:(b==34)=true
  ·rw[if_pos h34]
  ·rw[if_neg h34,if_pos h1,dif_pos h]
theorem qgF:∀k (l:List UInt8),l.length≤k→qak l≤l.length:=by
 intro k
 induction k with
 |zero=>intro l h;obtain rfl:=List.length_eq_zero_iff.1 (show l.length=0 by omega);rw[qeN];omega
 |succ k ih=>
  intro l h
  match l,h with
  |[],_=>rw[qeN];omega
  |b::r,h=>
   rw[List.length_cons] at h
   cases hb:isQS b
   ·rw[qdB b r hb];have:=ih r (by omega);simp only[List.length_cons];omega
   ·by_cases he:escN (b::r)=0
    ·rw[qeb b r hb he];omega
    ·rw[qgS _ he]
     have h1:=qj9 (b::r)
     have:=ih ((b::r).drop (escN (b::r))) (by rw[List.length_drop,List.length_cons];omega)
     rw[List.length_drop] at this;omega
def Far(s:ByteArray)(pos w:Nat):Prop:=pos+w≤s.size∧∀j,pos≤j→j<pos+w→∀hj:j<s.size,128≤s[j].toNat
theorem qcJ{s:ByteArray}{pos k:Nat}(hf:Far s pos k)(h:(decide (pos+k<s.size)&&(s.get! (pos+k)).toNat /64==2)=true):Far s pos (k+1):=by
 rw[Bool.and_eq_true,decide_eq_true_eq,beq_iff_eq] at h
 obtain⟨h1,h2⟩:=h
 have e:=Go.get_at s (pos+k) h1
 rw[Nat.add_zero] at e
 rw[e] at h2
 refine⟨by omega,fun j a b hj=>?_⟩
 by_cases hk:j=pos+k
 ·subst hk;omega
 ·exact hf.2 j a (by omega) hj
theorem qko(s:ByteArray)(pos:Nat)(h:pos<s.size)(hb:128≤s[pos].toNat):Far s pos (Utf8.decode s pos).2:=by
 have f1:Far s pos 1:=⟨by omega,fun j a b hj=>by
  have e:j=pos:=by omega
  subst e
  exact hb⟩
 have hn:¬(s.get! (pos+0)).toNat <128:=by rw[Go.get_at s pos h];omega
 unfold Utf8.decode
 dsimp only
 rw[if_neg hn]
 split
 ·rename_i h2
  rw[Bool.and_eq_true] at h2
  split
  ·exact qcJ f1 h2.2
  ·exact f1
 ·split
  ·rename_i h2
   rw[Bool.and_eq_true,Bool.and_eq_true] at h2
   split
   ·exact qcJ (qcJ f1 h2.1.2) h2.2
   ·exact f1
  ·split
   ·rename_i h2
    rw[Bool.and_eq_true,Bool.and_eq_true,Bool.and_eq_true] at h2
    split
    ·exact qcJ (qcJ (qcJ f1 h2.1.1.2) h2.1.2) h2.2
    ·exact f1
   ·exact f1
def qdJ(l:List UInt8):Nat:=match l with
 |[]=>0
 |b::_=>if b==34 then 1 else 0
theorem ql9(l:List UInt8):(Lib.trimPrefix l [34]).length +qdJ l=l.length:=by
 match l with
 |[]=>rfl
 |b::r=>
  rw[tp_cons]
  show _+(if b==34 then 1 else 0)=_
  by_cases h:b=34
  ·subst h;rfl
  ·rw[if_neg (by simpa using fun e=>h (Eq.symm e)),if_neg (by simpa using h)];rfl
def qcS:List (Nat×Nat×(List UInt8→Nat)):=[(1,0,qy qaq),(2,0,qfj),(3,0,qay),(4,0,qaZ 46 qE),(5,0,qaZ 36 qay),(12,0,qaZ 64 (qy qO)),(6,0,qQ),(7,0,qdJ),(13,0,qat)]
end Go.Proofs.YtakbenifinnpfaaGreatDoor
namespace Go.Proofs.YtakbenifinnpfaaGreatDoor
open Go.RowKit Go.Sub
def qah(st:List Nat):List Value:=st.reverse.map fun n:Nat=>Value.int .i64 (n:Int)
variable {w:World} {X:Nat} {s:ByteArray} {at':Nat} {v:Value} {st:List Nat} {inn:Bool} {er:Int}
theorem qlv(t:Nat)(rest:List Nat):(qah (t::rest))[rest.length]? =some (.int .i64 (t:Int)):=by
 unfold qah
 simp
end Go.Proofs.YtakbenifinnpfaaGreatDoor
namespace Go.Proofs.YtakbenifinnpfaaGreatDoor
open Go.RowKit Go.Sub
theorem hi3:(Tryz.prog.info? 3).map (fun i=>(i.zero,i.size,i.bytes))=some (some (.int .i64 0),1,8):=by kernel_rfl
theorem qd3:Tryz.prog.underlying 49=some (.slice 3):=by kernel_rfl
variable {w:World} {X:Nat} {s:ByteArray} {at':Nat} {v:Value} {st:List Nat} {inn:Bool} {er:Int}
theorem qag(w:World)(X o:Nat)(u:Value){O:Nat→Prop}(hO:O X):qe O w (w.setCell ⟨X,o,none⟩ u):=
 ⟨rfl,rfl,rfl,by simp,fun b _ hb=>heap_setCell_other w _ b u fun e=>hb (by rw[e];exact hO)⟩
theorem qcp{w:World}{b e sz n:Nat}{v:Value}{xs:List Value}(h:w.ownsRow b e sz v (n+1) xs):∃g cap,v=.slice (some ⟨g,0,none⟩) (n+1) cap:=by
 rcases h.2 with⟨_,h⟩|⟨g,cap,cur,h,_⟩
 ·omega
 ·exact⟨g,cap,h⟩
theorem qdY(k:Nat)(st:List Nat):qah st++[.int .i64 (k:Int)]=qah (k::st):=by unfold qah;simp
theorem qd6(st:List Nat):(qah st).length =st.length:=by unfold qah;simp
theorem own_pop{w:World}{B t:Nat}{rest:List Nat}{g cap:Nat}(h:w.ownsRow B 3 1 (.slice (some ⟨g,0,none⟩) (rest.length+1) cap) (rest.length+1) (qah (t::rest))):w.ownsRow B 3 1 (.slice (some ⟨g,0,none⟩) rest.length cap) rest.length (qah rest):=by
 refine⟨by rw[qd6];omega,?_⟩
 rcases h.2 with⟨h1,_⟩|⟨g',cap',cur,h1,h2,h3,h4,h5,h6,h7⟩
 ·cases h1
 ·cases h1
  refine .inr ⟨g,cap,cur,rfl,h2,h3,by omega,h5,h6,?_⟩
  rw[←qdY] at h7
  have h8:=congrArg (List.take rest.length) h7
  rw[List.take_take,List.take_left' (qd6 rest)] at h8
  rw[←h8]
  congr 1;omega
end Go.Proofs.YtakbenifinnpfaaGreatDoor
namespace Go.Proofs.YtakbenifinnpfaaGreatDoor
open Go.RowKit Go.Sub
def brkN(st:List Nat)(kind:Nat)(text:List UInt8):List Nat×Nat×Bool:=match st with
 |[]=>([],kind,false)
 |t::rest=>if kind==13 then(if text==[40] then((t+1)::rest,kind,false) else if text==[41] then(if t=0 then(rest,10,true) else((t-1)::rest,kind,false)) else(t::rest,kind,false)) else(t::rest,kind,false)
theorem qca{w:World}{B t u:Nat}{rest:List Nat}{g cap:Nat}(h:w.ownsRow B 3 1 (.slice (some ⟨g,0,none⟩) (rest.length+1) cap) (rest.length+1) (qah (t::rest))):
  w.cell? ⟨g,rest.length,none⟩=some (.int .i64 (t:Int))∧w.frozen? ⟨g,rest.length,none⟩=false∧(w.setCell ⟨g,rest.length,none⟩ (.int .i64 (u:Int))).ownsRow B 3 1 (.slice (some ⟨g,0,none⟩) (rest.length+1) cap) (rest.length+1) (qah (u::rest)):=by
 rcases h.2 with⟨h1,_⟩|⟨g',cap',cur,h1,h2,h3,h4,h5,h6,h7⟩
 ·cases h1
 ·cases h1
  have hat:cur[rest.length]? =some (.int .i64 (t:Int)):=by
   have:=qlv t rest
   rw[←h7,List.getElem?_take] at this
   rw[if_pos (by omega)] at this
   simpa using this
  refine⟨qa h3 hat,frozen_of_row w g _ _ _ h3,by rw[qd6];simp,.inr ⟨g,cap,cur.setIfInBounds rest.length (.int .i64 (u:Int)),rfl,h2,heap_setCell_same w g _ _ _ _ h3,h4,h5,by rw[Array.size_setIfInBounds];exact h6,?_⟩⟩
  rw[←qdY] at h7⊢
  have hr:cur.toList.take rest.length=qah rest:=by
   have h8:=congrArg (List.take rest.length) h7
   rw[List.take_take,List.take_left' (qd6 rest)] at h8
   rw[←h8];congr 1;omega
  have hlt:rest.length<cur.size:=(Array.getElem?_eq_some_iff.1 hat).1
  rw[Nat.mul_one,List.take_add_one,Array.toList_setIfInBounds,List.take_set_of_le (Nat.le_refl _),hr]
  simp[hlt]
def qfL(w:World)(T:Nat)(kind:Nat)(text:ByteArray):Prop:=w.heap[T]? =some (.cells #[.int .i64 (kind:Int),.string text] 60 (0,0))
theorem qfL.free{w:World}{T kind:Nat}{text:ByteArray}(h:qfL w T kind text)(o:Nat):w.frozen? ⟨T,o,none⟩=false:=frozen_of_row w T o _ _ h
theorem qfL.keeps{w w':World}{T kind:Nat}{text:ByteArray}{O:Nat→Prop}(h:qfL w T kind text)(k:qe O w w')(hT:¬O T):qfL w' T kind text:=k.heap h hT
variable {w:World} {X T:Nat} {s:ByteArray} {at':Nat} {v:Value} {st:List Nat} {inn:Bool} {er:Int} {kind:Nat} {text:ByteArray}
theorem qkQ{t:Nat}{rest:List Nat}{l:List UInt8}(h40:(l==[40])=false)(h41:(l==[41])=false):brkN (t::rest) 13 l=(t::rest,13,false):=by
 simp only[brkN,beq_self_eq_true,if_true,h40,h41,Bool.false_eq_true,if_false]
theorem qm6{t:Nat}{rest:List Nat}:brkN (t::rest) 13 [40]=((t+1)::rest,13,false):=rfl
theorem qlC{t:Nat}{rest:List Nat}(h:t≠0):brkN (t::rest) 13 [41]=((t-1)::rest,13,false):=by
 show(if t=0 then _ else _)=_
 rw[if_neg h]
theorem brk_end{rest:List Nat}:brkN (0::rest) 13 [41]=(rest,10,true):=rfl
theorem qlK{t kind:Nat}{rest:List Nat}{l:List UInt8}(h:kind≠13):brkN (t::rest) kind l=(t::rest,kind,false):=by
 have:(kind==13)=false:=by simpa using h
 simp only[brkN,this,Bool.false_eq_true,if_false]
end Go.Proofs.YtakbenifinnpfaaGreatDoor
namespace Go.Proofs.YtakbenifinnpfaaGreatDoor
open Go.RowKit Go.Sub
abbrev qfa:=Nat×Nat×List Nat×Bool×Nat
def insN(l:List UInt8)(st:List Nat):qfa:=
 if 0<qak l then(8,qak l,st,true,0)
 else if l[0]? =some 34 then(11,1,st,false,0)
 else if Lib.hasPrefix l [92,40]=false then(0,0,st,true,12)
 else if 256≤st.length then(0,0,st,true,21)
 else(9,2,0::st,false,0)
variable {w:World} {X:Nat} {s:ByteArray} {at':Nat} {v:Value} {st:List Nat} {inn:Bool} {er:Int}
end Go.Proofs.YtakbenifinnpfaaGreatDoor
namespace Go.Proofs.YtakbenifinnpfaaGreatDoor
open Go.RowKit Go.Sub
theorem qdX(c:UInt8){f:List UInt8→Nat}(hf:∀l,f l≤l.length)(l:List UInt8):qaZ c f l≤l.length:=by
 match l with
 |[]=>simp[qaZ]
 |b::r=>
  have:=hf r
  show(if b==c then(if f r=0 then 0 else f r+1) else 0)≤_
  split
  ·split<;>simp only[List.length_cons]<;>omega
  ·omega
theorem qlo(l:List UInt8):qdJ l≤l.length:=by have:=ql9 l;omega
theorem qip(l:List UInt8):qat l≤l.length:=by
 unfold qat
 cases h:opsL.find? fun o=>Lib.hasPrefix l o with
 |none=>simp
 |some x=>exact Lib.hasPrefix_le (List.find?_some h)
theorem qi4:∀x∈qcS,∀l,x.2.2 l≤l.length:=by
 intro x hx l
 simp only[qcS,List.mem_cons,List.not_mem_nil,or_false] at hx
 rcases hx with rfl|rfl|rfl|rfl|rfl|rfl|rfl|rfl|rfl
 ·exact qbb _ l
 ·exact qlY l
 ·exact qei l
 ·exact qdX _ qc2 l
 ·exact qdX _ qei l
 ·exact qdX _ (qbb qO) l
 ·exact qfE l
 ·exact qlo l
 ·exact qip l
theorem qjY:∀x∈qcS,x.1≤13:=by
 intro x hx
 simp only[qcS,List.mem_cons,List.not_mem_nil,or_false] at hx
 rcases hx with rfl|rfl|rfl|rfl|rfl|rfl|rfl|rfl|rfl<;>decide
def outN(l:List UInt8)(st:List Nat):qfa:=match qcS.find? (fun x=>decide (0<x.2.2 l)) with
 |none=>(0,0,st,false,11)
 |some x=>((brkN st x.1 (l.take (x.2.2 l))).2.1,x.2.2 l,(brkN st x.1 (l.take (x.2.2 l))).1,(brkN st x.1 (l.take (x.2.2 l))).2.2||(x.1==7),0)
variable {w:World} {X TB:Nat} {s:ByteArray} {at':Nat} {v:Value} {st:List Nat} {inn:Bool} {er:Int}
end Go.Proofs.YtakbenifinnpfaaGreatDoor
namespace Go.Proofs.YtakbenifinnpfaaGreatDoor
open Go.RowKit Go.Sub
theorem qfw(s:ByteArray)(pos:Nat)(h:pos<s.size):1≤(Utf8.decode s pos).2∧pos+(Utf8.decode s pos).2≤s.size:=by
 by_cases hb:s[pos].toNat <128
 ·rw[decode_ascii s pos h hb];exact⟨Nat.le_refl _,h⟩
 ·exact⟨(Go.decode_high s pos h (by omega)).2,(qko s pos h (by omega)).1⟩
def qfG(s:ByteArray)(pos:Nat):Bool:=(Utf8.decode s pos).1==65533&& !Lib.hasPrefix (s.data.toList.drop pos) [239,191,189]
def qV(s:ByteArray)(pos:Nat):Int:=
 if h:pos<s.size then(if qfG s pos then(pos:Int) else qV s (pos+(Utf8.decode s pos).2)) else-1
termination_by s.size-pos
decreasing_by
 have:=qfw s pos h
 omega
theorem qlE{s:ByteArray}{pos:Nat}(h:¬pos<s.size):qV s pos= -1:=by rw[qV,dif_neg h]
theorem qle{s:ByteArray}{pos:Nat}(h:pos<s.size)(hb:qfG s pos=true):qV s pos=pos:=by rw[qV,dif_pos h,if_pos hb]
theorem qjV{s:ByteArray}{pos:Nat}(h:pos<s.size)(hb:qfG s pos=false):qV s pos=qV s (pos+(Utf8.decode s pos).2):=by rw[qV,dif_pos h,if_neg (by rw[hb];simp)]
def qb7(l:List UInt8)(st:List Nat)(inn:Bool):qfa:=if inn then insN l st else outN l st
def lexN:Nat→List UInt8→Nat→List Nat→Bool→List (Nat×Nat×Nat)×Nat×Nat
 |0,_,at',_,_=>([],99,at')
 |fuel+1,l,at',st,inn=>
  if l.length≤at' then([],(if inn|| !st.isEmpty then 13 else 0),at')
  else match qb7 (l.drop at') st inn with
   |(k,n,st2,inn2,0)=>((k,at',n)::(lexN fuel l (at'+n) st2 inn2).1,(lexN fuel l (at'+n) st2 inn2).2)
   |(_,_,_,_,e+1)=>([],e+1,at')
theorem qkM(st:List Nat)(k:Nat)(x:List UInt8)(M:Nat)(hM:∀y∈st,y≤M):(brkN st k x).1.length ≤st.length∧∀y∈(brkN st k x).1,y≤M+1:=by
 match st,hM with
 |[],_=>exact⟨Nat.le_refl _,fun y hy=>by simp[brkN] at hy⟩
 |t::rest,hM=>
  have ht:=hM t (by simp)
  have hr:∀y∈rest,y≤M+1:=fun y hy=>by have:=hM y (List.mem_cons_of_mem _ hy);omega
  have hc:∀u,u≤M+1→∀y∈u::rest,y≤M+1:=fun u hu y hy=>by
   rcases List.mem_cons.1 hy with rfl|hy
   ·exact hu
   ·exact hr y hy
  unfold brkN
  dsimp only
  split
  ·split
   ·exact⟨Nat.le_refl _,hc _ (by omega)⟩
   ·split
    ·split
     ·exact⟨by simp,hr⟩
     ·exact⟨Nat.le_refl _,hc _ (by omega)⟩
    ·exact⟨Nat.le_refl _,hc _ (by omega)⟩
  ·exact⟨Nat.le_refl _,hc _ (by omega)⟩
def Good(l:List UInt8)(M:Nat)(r:qfa):Prop:=r.2.2.2.2=0→0<r.2.1∧r.2.1≤l.length∧r.2.2.1.length≤256∧∀y∈r.2.2.1,y≤M+1
theorem qlI(l:List UInt8)(st:List Nat)(M:Nat)(h0:l≠[])(hst:st.length≤256)(hM:∀y∈st,y≤M):Good l M (insN l st):=by
 have hp:=qgF _ l (Nat.le_refl _)
 have h1:0<l.length:=by
  cases l with
  |nil=>exact absurd rfl h0
  |cons _ _=>simp
 have hM1:∀y∈st,y≤M+1:=fun y hy=>by have:=hM y hy;omega
 unfold insN Good
 split
 ·exact fun _=>⟨by assumption,hp,hst,hM1⟩
 ·split
  ·exact fun _=>⟨by show 0<1;omega,h1,hst,hM1⟩
  ·split
   ·exact fun h=>by simp at h
   ·split
    ·exact fun h=>by simp at h
    ·rename_i h2 h3
     refine fun _=>⟨by show 0<2;omega,?_,by show st.length+1≤256;omega,fun y hy=>?_⟩
     ·have:=Lib.hasPrefix_le (show Lib.hasPrefix l [92,40]=true by simpa using h2)
      simpa using this
     ·rcases List.mem_cons.1 hy with rfl|hy
      ·omega
      ·exact hM1 y hy
theorem qlD(l:List UInt8)(st:List Nat)(M:Nat)(hst:st.length≤256)(hM:∀y∈st,y≤M):Good l M (outN l st):=by
 unfold outN Good
 cases h:qcS.find? (fun x=>decide (0<x.2.2 l)) with
 |none=>exact fun h=>by simp at h
 |some x=>
  have h1:=List.find?_some h
  have h2:=qi4 x (List.mem_of_find?_eq_some h) l
  obtain⟨b1,b2⟩:=qkM st x.1 (l.take (x.2.2 l)) M hM
  exact fun _=>⟨by simpa using h1,h2,by show(brkN st x.1 _).1.length ≤256;omega,b2⟩
theorem qcY(l:List UInt8)(st:List Nat)(inn:Bool)(M:Nat)(h0:l≠[])(hst:st.length≤256)(hM:∀y∈st,y≤M):Good l M (qb7 l st inn):=by
 unfold qb7
 split
 ·exact qlI l st M h0 hst hM
 ·exact qlD l st M hst hM
end Go.Proofs.YtakbenifinnpfaaGreatDoor
namespace Go.Proofs.YtakbenifinnpfaaGreatDoor
open Go.RowKit Go.Sub
attribute [local go_sem] Oper.semAt_some
abbrev Tok3:=Nat×Nat×Nat
inductive qb5(l:List UInt8):List Tok3→Nat→List Nat→Bool→Prop
 |nil:qb5 l [] 0 [] false
 |snoc {pre:List Tok3} {at':Nat} {st:List Nat} {inn:Bool} {k n:Nat} {st2:List Nat} {inn2:Bool}:qb5 l pre at' st inn→at'<l.length→qb7 (l.drop at') st inn=(k,n,st2,inn2,0)→qb5 l (pre++[(k,at',n)]) (at'+n) st2 inn2
def qcI:Option Value→Nat|some (.int _ n)=>n.toNat|_=>0
theorem qaM{l:List UInt8}{pre:List Tok3}{at':Nat}{st:List Nat}{inn:Bool}(h:qb5 l pre at' st inn):at'≤l.length∧st.length≤256∧(∀x∈st,x≤at')∧pre.length≤at':=by
 induction h with
 |nil=>exact⟨Nat.zero_le _,Nat.zero_le _,fun x h=>by simp at h,Nat.le_refl _⟩
 |@snoc pre at' st inn k n st2 inn2 _ hlt hs ih=>
  obtain⟨i1,i2,i3,i4⟩:=ih
  have hg:=qcY (l.drop at') st inn at' (fun e=>by have:=congrArg List.length e;rw[List.length_drop] at this;simp at this;omega) i2 i3
  rw[hs] at hg
  obtain⟨g1,g2,g3,g4⟩:=hg rfl
  dsimp only at g1 g2 g3 g4
  rw[List.length_drop] at g2
  exact⟨by omega,g3,fun x hx=>by have:=g4 x hx;omega,by rw[List.length_append];simp only[List.length_cons,List.length_nil];omega⟩
end Go.Proofs.YtakbenifinnpfaaGreatDoor
namespace Go.Proofs.YtakbenifinnpfaaGreatDoor
open Go.RowKit Go.Sub
theorem qha{l:List UInt8}{at':Nat}{st:List Nat}{inn:Bool}{k n:Nat}{st2:List Nat}{inn2:Bool}(h:at'<l.length)(hs:qb7 (l.drop at') st inn=(k,n,st2,inn2,0))(F:Nat):
  lexN (F+1) l at' st inn=((k,at',n)::(lexN F l (at'+n) st2 inn2).1,(lexN F l (at'+n) st2 inn2).2):=by
 rw[lexN,if_neg (by omega),hs]
theorem qgD{l:List UInt8}{pre:List Tok3}{at':Nat}{st:List Nat}{inn:Bool}(h:qb5 l pre at' st inn):∀F,lexN (pre.length+F) l 0 [] false=(pre++(lexN F l at' st inn).1,(lexN F l at' st inn).2):=by
 induction h with
 |nil=>intro F;simp
 |@snoc pre at' st inn k n st2 inn2 _ hlt hs ih=>
  intro F
  have e:=ih (F+1)
  rw[qha hlt hs] at e
  rw[List.length_append,show pre.length+[(k,at',n)].length +F=pre.length+(F+1) by simp only[List.length_cons,List.length_nil];omega,e]
  simp
theorem qld(n b0 b1 b2 b3:Nat)(h0:1≤n):1≤(Lib.decodeN n b0 b1 b2 b3).2∧(Lib.decodeN n b0 b1 b2 b3).2≤n∧(1<(Lib.decodeN n b0 b1 b2 b3).2→128≤b0∧b1/64=2)∧(2<(Lib.decodeN n b0 b1 b2 b3).2→b2/64=2)∧(3<(Lib.decodeN n b0 b1 b2 b3).2→b3/64=2)∧(Lib.decodeN n b0 b1 b2 b3).2≤4:=by
 unfold Lib.decodeN
 repeat' split
 all_goals(refine⟨?_,?_,?_,?_,?_,?_⟩<;>dsimp only<;>omega)
theorem qmm(n b0 b1 b2 b3:Nat)(hb:b0<256∧b1<256∧b2<256)(h:(Lib.decodeN n b0 b1 b2 b3).1=65533)(hg:Lib.decodeN n b0 b1 b2 b3≠(65533,1)):b0=239∧b1=191∧b2=189∧3≤n:=by
 unfold Lib.decodeN at h hg
 repeat' split at h
 all_goals(first|(exfalso;simp_all;done)|skip)
 all_goals(dsimp only at h;omega)
theorem qm8(n b3:Nat)(h:3≤n):Lib.decodeN n 239 191 189 b3=(65533,3):=by
 unfold Lib.decodeN
 rw[if_neg (by omega),if_neg (by omega),if_pos (by omega),if_pos (by omega)]
def badL(l:List UInt8):Bool:=(Lib.decodeL l).1==65533&& !Lib.hasPrefix l [239,191,189]
theorem qgq(s:ByteArray)(pos:Nat):qfG s pos=badL (s.data.toList.drop pos):=by
 unfold qfG badL
 rw[Lib.decodeL_drop]
theorem qg9(l:List UInt8)(j:Nat):(l.getD j 0).toNat <256:=UInt8.toNat_lt _
theorem qia(l:List UInt8):badL l=false↔Lib.decodeL l≠(65533,1):=by
 have hN:=Lib.decodeL_N l
 constructor
 ·intro h e
  unfold badL at h
  rw[e] at h
  have hp:Lib.hasPrefix l [239,191,189]=true:=by simpa using h
  have hle:=Lib.hasPrefix_le hp
  unfold Lib.hasPrefix at hp
  obtain⟨r,rfl⟩:=List.isPrefixOf_iff_prefix.1 hp
  have h2:Lib.decodeN ([239,191,189]++r).length 239 191 189 ((([239,191,189]++r:List UInt8)).getD 3 0).toNat =(65533,1):=by rw[←e,hN];rfl
  rw[qm8 _ _ hle] at h2
  simp at h2
 ·intro h
  unfold badL
  by_cases h3:(Lib.decodeL l).1=65533
  ·obtain⟨a,b,c,d⟩:=qmm _ _ _ _ _ ⟨qg9 l 0,qg9 l 1,qg9 l 2⟩ (by rw[←hN];exact h3) (by rw[←hN];exact h)
   have hp:Lib.hasPrefix l [239,191,189]=true:=by
    match l,d with
    |x::y::z::r,_=>
     have ex:x=239:=UInt8.toNat_inj.1 a
     have ey:y=191:=UInt8.toNat_inj.1 b
     have ez:z=189:=UInt8.toNat_inj.1 c
     subst ex ey ez
     simp[Lib.hasPrefix]
   rw[hp];simp
  ·rw[beq_eq_false_iff_ne.2 h3];rfl
theorem dec_le{l:List UInt8}(h0:l≠[]):1≤(Lib.decodeL l).2∧(Lib.decodeL l).2≤l.length:=by
 have ha:1≤l.length:=by
  cases l with
  |nil=>exact absurd rfl h0
  |cons _ _=>simp
 have hw:=qld l.length (l.getD 0 0).toNat (l.getD 1 0).toNat (l.getD 2 0).toNat (l.getD 3 0).toNat ha
 rw[Lib.decodeL_N]
 exact⟨hw.1,hw.2.1⟩
end Go.Proofs.YtakbenifinnpfaaGreatDoor
namespace Go.Proofs.YtakbenifinnpfaaGreatDoor
open Go.RowKit Go.Sub
attribute [local go_sem] Oper.semAt_some
def tokC(l:List UInt8)(ys:List Tok3):List Value:=ys.flatMap fun x=>[.int .i64 (x.1:Int),.string ⟨((l.drop x.2.1).take x.2.2).toArray⟩]
theorem qkX(l:List UInt8)(ys:List Tok3)(x:Tok3):tokC l (ys++[x])=tokC l ys++[.int .i64 (x.1:Int),.string ⟨((l.drop x.2.1).take x.2.2).toArray⟩]:=by unfold tokC;simp
theorem qlN:(Tryz.prog.info? 60).map (fun i=>(i.zero,i.size,i.bytes))=some (some (.agg #[.int .i64 0,.string ByteArray.empty]),2,24):=by kernel_rfl
theorem qmr:Tryz.prog.underlying 52=some (.slice 60):=by kernel_rfl
end Go.Proofs.YtakbenifinnpfaaGreatDoor
namespace Go.Proofs.YtakbenifinnpfaaGreatDoor
open Go.RowKit Go.Sub
def qS(s:ByteArray):List Tok3×Nat×Int:=
 if 65536<s.size then([],3,0) else if 0≤qV s 0 then([],10,qV s 0)
 else if(lexN (s.size+1) s.data.toList 0 [] false).2.1=0 then((lexN (s.size+1) s.data.toList 0 [] false).1,0,0)
 else([],(lexN (s.size+1) s.data.toList 0 [] false).2.1,((lexN (s.size+1) s.data.toList 0 [] false).2.2:Int))
theorem qbR{A:World}{base base':Nat}{e:TypeId}{size:Nat}{v:Value}{k:Nat}{xs:List Value}(h:A.ownsRow base e size v k xs)(hb:base'≤base):A.ownsRow base' e size v k xs:=by
 refine⟨h.1,?_⟩
 rcases h.2 with h0|⟨g,cap,cur,h1,h2,h3⟩
 ·exact .inl h0
 ·exact .inr ⟨g,cap,cur,h1,Nat.le_trans hb h2,h3⟩
def qh6:Nat→List UInt8→Nat
 |0,_=>0
 |k+1,l=>if Lib.hasPrefix l [58,58]=true then(if qE (l.drop 2)=0 then 0 else 2+qE (l.drop 2)+qh6 k (l.drop (2+qE (l.drop 2)))) else 0
theorem qmA:∀k (l:List UInt8),l.length≤k→qh6 k l=qbn l:=by
 intro k
 induction k with
 |zero=>
  intro l h
  obtain rfl:=List.length_eq_zero_iff.1 (show l.length=0 by omega)
  rw[qbY _ rfl];rfl
 |succ k ih=>
  intro l hl
  rw[qh6]
  cases hp:Lib.hasPrefix l [58,58]
  ·rw[if_neg (by simp),qbY l hp]
  ·rw[if_pos rfl]
   by_cases h0:qE (l.drop 2)=0
   ·rw[if_pos h0,qda l hp h0]
   ·have h2:=Lib.hasPrefix_le hp
    simp only[List.length_cons,List.length_nil] at h2
    rw[if_neg h0,qeL l _ hp rfl h0,ih _ (by rw[List.length_drop];omega)]
def qgp(l:List UInt8):Nat:=if qE l=0 then 0 else qE l+qh6 l.length (l.drop (qE l))
theorem qmd(l:List UInt8):qgp l=qay l:=by
 unfold qgp qay
 rw[qmA _ _ (by rw[List.length_drop];omega)]
theorem qgX:qgp=qay:=funext qmd
def qeW:Nat→List UInt8→Nat
 |0,l=>l.length
 |k+1,l=>if Lib.indexByte l 10<0 then l.length
  else if(!oddB (l.take (Lib.indexByte l 10).toNat)&& !oddB (Lib.trimSuffix (l.take (Lib.indexByte l 10).toNat) [13]))=true then(Lib.indexByte l 10).toNat
  else(Lib.indexByte l 10).toNat +1+qeW k (l.drop ((Lib.indexByte l 10).toNat +1))
theorem qkS:∀k (l:List UInt8),l.length≤k→qeW k l=qa9 l:=by
 intro k
 induction k with
 |zero=>
  intro l h
  obtain rfl:=List.length_eq_zero_iff.1 (show l.length=0 by omega)
  rw[qb2 _ (by decide)];rfl
 |succ k ih=>
  intro l hl
  rw[qeW]
  rcases qel l with h0|⟨j,hj,hjl⟩
  ·rw[if_pos h0,qb2 l h0]
  ·have e:(Lib.indexByte l 10).toNat =j:=by omega
   rw[if_neg (by omega),e]
   cases h2:(!oddB (l.take j)&& !oddB (Lib.trimSuffix (l.take j) [13]))
   ·rw[if_neg (by simp),qcP l j hj h2,ih _ (by rw[List.length_drop];omega)]
   ·rw[if_pos rfl,qcZ l j hj h2]
def noteF(l:List UInt8):Nat:=match l with
 |[]=>0
 |b::r=>if b==35 then qeW (b::r).length (b::r) else 0
theorem qij(l:List UInt8):noteF l=qfj l:=by
 match l with
 |[]=>rfl
 |b::r=>
  show(if b==35 then qeW (b::r).length (b::r) else 0)=if b==35 then qa9 (b::r) else 0
  rw[qkS _ _ (Nat.le_refl _)]
def qds(l:List UInt8):List (Nat×Nat):=[(1,qy qaq l),(2,noteF l),(3,qgp l),(4,qaZ 46 qE l),(5,qaZ 36 qgp l),(12,qaZ 64 (qy qO) l),(6,qQ l),(7,qdJ l),(13,qat l)]
def outM(ks:List (Nat×Nat))(l:List UInt8)(st:List Nat):qfa:=match ks.find? (fun x=>decide (0<x.2)) with
 |none=>(0,0,st,false,11)
 |some x=>((brkN st x.1 (l.take x.2)).2.1,x.2,(brkN st x.1 (l.take x.2)).1,(brkN st x.1 (l.take x.2)).2.2||(x.1==7),0)
theorem qiq(l:List UInt8):qcS.map (fun x=>(x.1,x.2.2 l))=qds l:=by
 unfold qds
 rw[qgX,qij];rfl
theorem qjC(l:List UInt8)(st:List Nat):outN l st=outM (qds l) l st:=by
 rw[←qiq]
 unfold outN outM
 rw[List.find?_map]
 rw[show((fun x:Nat×Nat=>decide (0<x.2))∘fun x:Nat×Nat×(List UInt8→Nat)=>(x.1,x.2.2 l))=fun x=>decide (0<x.2.2 l) from rfl]
 cases qcS.find? (fun x=>decide (0<x.2.2 l))<;>rfl
theorem qgP{w:World}{base g n cap:Nat}{e:TypeId}{size:Nat}{xs:List Value}(h:w.ownsRow base e size (.slice (some ⟨g,0,none⟩) n cap) n xs)(j:Nat){u:Value}(hx:xs[j]? =some u):w.cell? ⟨g,j,none⟩=some u:=by
 have h2:=h.cells (g:=g) rfl j u hx
 rwa [show(⟨g,0,none⟩:Addr).add j=⟨g,j,none⟩ by unfold Addr.add;split<;>simp_all] at h2
theorem qgA{l:List UInt8}:∀(F:Nat) {pre:List Tok3} {a:Nat} {st:List Nat} {inn:Bool},qb5 l pre a st inn→l.length-a<F→
  ∃ys b st2 inn2 er,qb5 l (pre++ys) b st2 inn2∧lexN F l a st inn=(ys,er,b)∧((b<l.length∧er≠0∧(qb7 (l.drop b) st2 inn2).2.2.2.2=er)∨(b=l.length∧er=if inn2|| !st2.isEmpty then 13 else 0))
 |0,_,_,_,_,_,h=>by omega
 |F+1,pre,a,st,inn,hr,h=>by
  obtain⟨f1,f2,f3,f4⟩:=qaM hr
  by_cases hlt:a<l.length
  ·generalize hs:qb7 (l.drop a) st inn=r
   obtain⟨k,n,st2,inn2,er⟩:=r
   cases er with
   |zero=>
    have hg:=qcY (l.drop a) st inn a (fun e=>by have:=congrArg List.length e;rw[List.length_drop] at this;simp at this;omega) f2 f3
    rw[hs] at hg
    obtain⟨g1,g2,_,_⟩:=hg rfl
    dsimp only at g1 g2
    rw[List.length_drop] at g2
    obtain⟨ys,b,st3,inn3,er,h1,h2,h3⟩:=qgA F (.snoc hr hlt hs) (by omega)
    refine⟨(k,a,n)::ys,b,st3,inn3,er,by rw[List.append_assoc] at h1;exact h1,?_,h3⟩
    rw[qha hlt hs,h2]
   |succ e=>
    refine⟨[],a,st,inn,e+1,by rw[List.append_nil];exact hr,?_,.inl ⟨hlt,by omega,by rw[hs]⟩⟩
    rw[lexN,if_neg (by omega),hs]
  ·refine⟨[],a,st,inn,_,by rw[List.append_nil];exact hr,?_,.inr ⟨by omega,rfl⟩⟩
   rw[lexN,if_pos (by omega)]
theorem qgM(l:List UInt8):∃ys b st2 inn2 er,qb5 l ys b st2 inn2∧lexN (l.length+1) l 0 [] false=(ys,er,b)∧((b<l.length∧er≠0∧(qb7 (l.drop b) st2 inn2).2.2.2.2=er)∨(b=l.length∧er=if inn2|| !st2.isEmpty then 13 else 0)):=by
 obtain⟨ys,b,st2,inn2,er,h1,h2,h3⟩:=qgA (l:=l) (l.length+1) .nil (by omega)
 exact⟨ys,b,st2,inn2,er,by rwa [List.nil_append] at h1,h2,h3⟩
abbrev TokB:=Int×ByteArray
def qdL(w:World)(v:Value)(xs:List TokB):Prop:=∃p cap,v=.slice p xs.length cap∧xs.length≤4611686018427387904∧∀(i:Nat) x,xs[i]? =some x→∃b o,p=some ⟨b,o,none⟩∧w.cell? ⟨b,o+i*2,none⟩=some (.int .i64 x.1)∧w.cell? ⟨b,o+i*2+1,none⟩=some (.string x.2)
theorem qdL.below{w w':World}{v:Value}{xs:List TokB}(h:qdL w v xs)(hb:Below w.heap.size w w'):qdL w' v xs:=by
 obtain⟨p,cap,h1,h2,h3⟩:=h
 refine⟨p,cap,h1,h2,fun i x hx=>?_⟩
 obtain⟨b,o,e,c1,c2⟩:=h3 i x hx
 exact⟨b,o,e,(hb.cell (World.block_lt_of_cell? _ _ c1)).trans c1,(hb.cell (World.block_lt_of_cell? _ _ c2)).trans c2⟩
def tokB(l:List UInt8)(x:Tok3):TokB:=((x.1:Int),⟨((l.drop x.2.1).take x.2.2).toArray⟩)
theorem qhG{l:List UInt8}:∀{ys:List Tok3} {i:Nat} {x:TokB},(ys.map (tokB l))[i]? =some x→(tokC l ys)[i*2]? =some (.int .i64 x.1)∧(tokC l ys)[i*2+1]? =some (.string x.2)
 |[],i,x,h=>by simp at h
 |y::ys,0,x,h=>by
  have:tokB l y=x:=by simpa using h
  subst this
  exact⟨rfl,rfl⟩
 |y::ys,i+1,x,h=>by
  obtain⟨h1,h2⟩:=qhG (ys:=ys) (i:=i) (x:=x) (by simpa using h)
  have e:tokC l (y::ys)=.int .i64 (y.1:Int)::.string ⟨((l.drop y.2.1).take y.2.2).toArray⟩::tokC l ys:=rfl
  rw[e,show(i+1)*2=i*2+1+1 by omega,show i*2+1+1+1=(i*2+1)+1+1 by omega]
  simp only[List.getElem?_cons_succ]
  exact⟨h1,h2⟩
theorem qgG(g j:Nat):(⟨g,0,none⟩:Addr).add j=⟨g,j,none⟩:=by unfold Addr.add;split<;>simp_all
theorem qkc{w:World}{base:Nat}{e:TypeId}{v:Value}{l:List UInt8}{ys:List Tok3}(h:w.ownsRow base e 2 v ys.length (tokC l ys))(hl:ys.length≤4611686018427387904):qdL w v (ys.map (tokB l)):=by
 obtain⟨h1,h2⟩:=h
 rcases h2 with⟨rfl,h0⟩|⟨g,cap,cur,rfl,h3⟩
 ·have:ys=[]:=List.length_eq_zero_iff.1 h0
  subst this
  exact⟨none,0,rfl,by simp,fun i x hx=>by simp at hx⟩
 ·refine⟨some ⟨g,0,none⟩,cap,by rw[List.length_map],by rw[List.length_map];exact hl,fun i x hx=>?_⟩
  obtain⟨c1,c2⟩:=qhG hx
  have hrow:w.ownsRow base e 2 (.slice (some ⟨g,0,none⟩) ys.length cap) ys.length (tokC l ys):=⟨h1,.inr ⟨g,cap,cur,rfl,h3⟩⟩
  exact⟨g,0,rfl,by rw[Nat.zero_add];exact qgP hrow _ c1,by rw[Nat.zero_add];exact qgP hrow _ c2⟩
def qd7(xs:List TokB):List UInt8:=(xs.map fun x=>x.2.data.toList).flatten
theorem qkb{xs:List TokB}{n:Nat}{x:TokB}(h:xs[n]? =some x):qd7 (xs.take (n+1))=qd7 (xs.take n)++x.2.data.toList:=by
 unfold qd7
 rw[List.take_add_one,h]
 simp
end Go.Proofs.YtakbenifinnpfaaGreatDoor
