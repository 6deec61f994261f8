/- Pc5 · Pb16 · Pc6 · Pc7 · Pc8 · Pc9 · Pc10 · Pc11 · Pc13 -/
import Derived.Test.YtakbenifinnpfaaGreatDoorYY2
import Derived.Test.YtakbenifinnpfaaGreatDoorYY1
set_option linter.unusedSimpArgs false
set_option linter.unusedVariables false
set_option maxRecDepth 100000
set_option maxHeartbeats 64000000
namespace Go.Proofs.YtakbenifinnpfaaGreatDoor
open Go.RowKit Go.Sub
attribute [local go_sem] Instr.field asAgg
def WPost(q:Option Addr)(c:Nat)(L:List PTok)(S:Nat→Prop)(w:World)(r:PRes)(e:Ending)(w':World):Prop:=∃u,e=.returned (.tuple #[pV q c L r.st,.agg #[.int .i64 r.n.kind,.string r.n.text,u]])∧qo w' (fun b=>S b∨w.heap.size≤b) u r.n.kids∧Below w.heap.size w w'
theorem Fr.toldW{S:Nat→Prop}{w W:World}{bs:List Bx}{rs:List Rw}{ks:List Fact}(q:Option Addr)(c:Nat)(L:List PTok)(r:PRes){u:Value}(h:Fr (fun c=>S c∧c<w.heap.size) w W bs rs (qk u r.n.kids::ks)):WPost q c L S w r (.returned (.tuple #[pV q c L r.st,.agg #[.int .i64 r.n.kind,.string r.n.text,u]])) W:=
 ⟨u,rfl,h.low' _ (fun c hc=>hc.imp (fun h=>h.1) id) List.mem_cons_self,h.low⟩
theorem qdN(w:World)(q:Option Addr)(c:Nat)(L:List PTok)(p:PSt)(n:qb)(S:Nat→Prop){un:Value}(hn:qo w S un n.kids):Fr (fun c=>S c∧c<w.heap.size) w ((((w.alloc (.cells #[.slice q L.length c,.int .i64 (p.1:Int),.bool p.2] 78)).alloc (.cells #[.int .i64 n.kind,.string n.text,un] 24)).alloc (.cells #[.slice none 0 0,.int .i64 0,.bool false] 78)).alloc (.cells #[.int .i64 0,.string ⟨#[]⟩,.slice none 0 0] 24))
  [⟨w.heap.size,78,[.slice q L.length c,.int .i64 (p.1:Int),.bool p.2]⟩,⟨w.heap.size+1,24,[.int .i64 n.kind,.string n.text,un]⟩,⟨w.heap.size+1+1,78,[.slice none 0 0,.int .i64 0,.bool false]⟩,⟨w.heap.size+1+1+1,24,[.int .i64 0,.string ⟨#[]⟩,.slice none 0 0]⟩] [] [qk un n.kids]:=by
 have h:=((((Fr.new w (fun c=>S c∧c<w.heap.size) (fun c h=>h.2)).more (qk un n.kids) hn (fun c hc hl=>⟨.inl ⟨hc,hl⟩,fun ht=>by unfold Tk at ht;simp[Bx.nums,Rw.owns] at ht⟩)).lay3 [.slice q L.length c,.int .i64 (p.1:Int),.bool p.2] 78 [.int .i64 n.kind,.string n.text,un] 24 [.slice none 0 0,.int .i64 0,.bool false] 78).lay [.int .i64 0,.string ⟨#[]⟩,.slice none 0 0] 24)
 simpa using h
theorem qiK{q:Option Addr}{c:Nat}{L:List PTok}(hl:L.length≤1000000000)(p p1:PSt)(n:qb)(dot:ByteArray)(h1:q7 L p ⟨#[91]⟩=some p1)(p2:PSt)(ho:opP L p1 ⟨#[93]⟩=true)(h2:qs L p1=some p2):qn q c L (.within p n dot) ⟨p2,.mk 20 dot [n],[],false⟩:=by
 intro w S un h hn
 obtain⟨pn,cn,rfl,ln⟩:=hn.shape
 have H0:=qh (qdN w q c L p n S hn)
 have QD1:=qh (fun U hU=>qt q c L p p1 ⟨#[91]⟩ U (h.below hU) h1)
 have QO1:=qh (fun U hU=>qp q c L p1 ⟨#[93]⟩ U (h.below hU))
 (have QN:=qh (fun U=>qq q c L p1 p2 U hl h2);rw[ho] at QO1)
 clear h1 h hn ln ho h2
 obtain⟨at',bad⟩:=p
 obtain⟨at1,bad1⟩:=p1
 obtain⟨at2,bad2⟩:=p2
 go_enter Tryz.func133,Tryz.ntmps133
 go_upto_region 2 with(go_at_call 96;with_reducible refine fx QD1 H0 ?_;clear QD1 H0;intro w1 H1;replace c_a:=(H1.out).ccCCCC)
 obtain⟨W2,hW,H2⟩:=ab3 H1 0 (.slice q L.length c) (.int .i64 (at1:Int)) (.bool bad1) rfl;rewrite[←hW];(try simp only[nn] at H2);clear hW H1
 replace c_a:=(H2.out).ccCCCC
 go_upto_region 3 with(go_at_call 98;with_reducible refine fx QO1 H2 ?_;clear QO1 H2;intro W3 H3;replace c_a:=(H3.out).ccCCCC)
 have ka:=fun U o (hU:Below W3.heap.size W3 U)=>(Fr.skip (H3.out.stays hU) o).c3 2 rfl
 have kb:=fun U o (hU:Below W3.heap.size W3 U)=>(Fr.skip (H3.out.stays hU) o).c3 3 rfl
 have kc:=fun U x y z o (hU:Below W3.heap.size W3 U)=>(Fr.skip (Fr.set3 (x:=x) (y:=y) (z:=z) (H3.out.stays hU) 2 rfl) o).c3 3 rfl
 have ka1:=fun U o hU=>(ka U o hU).1.1
 have ka2:=fun U o hU=>(ka U o hU).1.2.1
 have ka3:=fun U o hU=>(ka U o hU).1.2.2
 have ka4:=fun U o hU=>(ka U o hU).2.1
 have ka5:=fun U o hU=>(ka U o hU).2.2.1
 have ka6:=fun U o hU=>(ka U o hU).2.2.2
 have kb1:=fun U o hU=>(kb U o hU).1.1
 have kb2:=fun U o hU=>(kb U o hU).1.2.1
 have kb3:=fun U o hU=>(kb U o hU).1.2.2
 have kb4:=fun U o hU=>(kb U o hU).2.1
 have kb5:=fun U o hU=>(kb U o hU).2.2.1
 have kb6:=fun U o hU=>(kb U o hU).2.2.2
 have kc1:=fun U x y z o hU=>(kc U x y z o hU).1.1
 have kc2:=fun U x y z o hU=>(kc U x y z o hU).1.2.1
 have kc3:=fun U x y z o hU=>(kc U x y z o hU).1.2.2
 have kc4:=fun U x y z o hU=>(kc U x y z o hU).2.1
 have kc5:=fun U x y z o hU=>(kc U x y z o hU).2.2.1
 have kc6:=fun U x y z o hU=>(kc U x y z o hU).2.2.2
 clear ka kb kc
 obtain⟨u1,u2,u3,u4,u5,u6,u7,hb0,hb1⟩:=Fr.held (S:=(fun w'=>B1 (w.heap.size) ((.slice q L.length c)) ((.int .i64 (at1:Int))) ((.bool bad1)) w'∧B1 (w.heap.size+1) ((.int .i64 n.kind)) ((.string n.text)) ((.slice pn n.kids.length cn)) w')) H3.out 2 3 (fun U bs' h e=>⟨((h).c3 0 (e 0 rfl)).1,((h).c3 1 (e 1 rfl)).1⟩) rfl rfl
 go_region_held3 ((fun w'=>B1 (w.heap.size) ((.slice q L.length c)) ((.int .i64 (at1:Int))) ((.bool bad1)) w'∧B1 (w.heap.size+1) ((.int .i64 n.kind)) ((.string n.text)) ((.slice pn n.kids.length cn)) w'))
  (with_reducible first|exact HS4.out|exact HS5.out _|assumption|(first|apply u7.out|apply u4.out|apply u5.out|apply u6.out|apply u3.out|apply u2.out|apply u1.out);(with_reducible first|exact hb0|assumption|exact hb1 _|exact qc hb0 _|exact qc (by assumption) _))
  (first|(go_at_call 94;with_reducible refine(QN.out _).mono ?_;rintro _ U ⟨rfl,bu⟩;have bb:Below W3.heap.size W3 U:=Below.trans (by(with_reducible first|exact hb0|assumption|exact hb1 _|exact qc hb0 _|exact qc (by assumption) _)) (bu.mono (Below.size (show Below W3.heap.size W3 _ by(with_reducible first|exact hb0|assumption|exact hb1 _|exact qc hb0 _|exact qc (by assumption) _))));replace c_2:=((H3.out.stays bb)).c3 2 rfl;replace c_3:=((H3.out.stays bb)).c3 3 rfl;have e_2:=((H3.out.stays bb)).far 2 rfl;have e_3:=((H3.out.stays bb)).far 3 rfl;have BU:=qh bu;clear bu))
 all_goals
  have hbu:Below W3.heap.size W3 U:=by assumption
  first
   |(have hda:=Fr.set3 (Fr.set3 ((H3.out.stays hbu).lit1 n (u:=.slice pn n.kids.length cn) (by simp)) 2 rfl (x:=.slice q L.length c) (y:=.int .i64 (at2:Int)) (z:=.bool bad2)) 3 rfl (x:=.int .i64 20) (y:=.string dot) (z:=(.slice (some ⟨U.heap.size,0,none⟩) 1 1));obtain⟨Wf,hW,hf⟩:=qd hda;rewrite[←hW];(try simp only[nn] at hf);clear hW;clear hda)
   |(have hda:=Fr.set3 ((Fr.set3 (H3.out.stays hbu) 2 rfl (x:=.slice q L.length c) (y:=.int .i64 (at2:Int)) (z:=.bool bad2)).lit1S n (u:=.slice pn n.kids.length cn) (by simp)) 3 rfl (x:=.int .i64 20) (y:=.string dot) (z:=(.slice (some ⟨U.heap.size,0,none⟩) 1 1));obtain⟨Wf,hW,hf⟩:=qd hda;rewrite[←hW];(try simp only[nn] at hf);clear hW;clear hda)
   |(have hda:=Fr.set3 (Fr.set3 ((H3.out.lit1 n (u:=.slice pn n.kids.length cn) (by simp)).drew.stays BU.out) 2 rfl (x:=.slice q L.length c) (y:=.int .i64 (at2:Int)) (z:=.bool bad2)) 3 rfl (x:=.int .i64 20) (y:=.string dot) (z:=(.slice (some ⟨W3.heap.size,0,none⟩) 1 1));obtain⟨Wf,hW,hf⟩:=qd hda;rewrite[←hW];(try simp only[nn] at hf);clear hW;clear hda)
   |(have hda:=Fr.set3 (Fr.set3 ((H3.out.drew.lit1 n (u:=.slice pn n.kids.length cn) (by simp)).stays BU.out) 2 rfl (x:=.slice q L.length c) (y:=.int .i64 (at2:Int)) (z:=.bool bad2)) 3 rfl (x:=.int .i64 20) (y:=.string dot) (z:=(.slice (some ⟨W3.heap.size,0,none⟩) 1 1));obtain⟨Wf,hW,hf⟩:=qd hda;rewrite[←hW];(try simp only[nn] at hf);clear hW;clear hda)
  have r0:=And.intro (hf.c3 2 rfl).1 (hf.c3 3 rfl).1
  have HF:=qh (And.intro (Fr.toldW q c L ⟨(at2,bad2),.mk 20 dot [n],[],false⟩ hf) (Fr.toldW q c L ⟨(at2,bad2),.mk 20 dot [n],[],false⟩ hf.drew))
  clear hf
  (try go_wp2)
  first
   |exact bodyPost_ret (by simp[results,Tryz.results133,go_sem,r0]) rfl HF.out.1
   |exact bodyPost_ret (by simp[results,Tryz.results133,go_sem,r0]) rfl HF.out.2
theorem qlk{q:Option Addr}{c:Nat}{L:List PTok}(hl:L.length≤1000000000)(p p1:PSt)(n:qb)(dot:ByteArray)(h1:q7 L p ⟨#[91]⟩=some p1)(p2 p9:PSt)(a:PRes)(ho:opP L p1 ⟨#[93]⟩=false)(hc':opP L p1 ⟨#[58]⟩=true)(h2:q7 L p1 ⟨#[58]⟩=some p2)(ha:qn q c L (.exp p2 1) a)(h9:q7 L a.st ⟨#[93]⟩=some p9):qn q c L (.within p n dot) ⟨p9,.mk 19 dot [n,qj,a.n],[],false⟩:=by
 intro w S un h hn
 obtain⟨pn,cn,rfl,ln⟩:=hn.shape
 have H0:=qh (qdN w q c L p n S hn)
 have QD1:=qh (fun U hU=>qt q c L p p1 ⟨#[91]⟩ U (h.below hU) h1)
 have QO1:=qh (fun U hU=>qp q c L p1 ⟨#[93]⟩ U (h.below hU))
 (have QO2:=qh (fun U hU=>qp q c L p1 ⟨#[58]⟩ U (h.below hU));have QD2:=qh (fun U hU=>qt q c L p1 p2 ⟨#[58]⟩ U (h.below hU) h2);have QA:=qh (fun U hU=>qB q c L p2 a ha U (h.below hU));have QD3:=qh (fun U hU=>qt q c L a.st p9 ⟨#[93]⟩ U (h.below hU) h9);rw[ho] at QO1;rw[hc'] at QO2)
 clear h1 h hn ln ho hc' h2 ha h9
 obtain⟨at',bad⟩:=p
 obtain⟨at1,bad1⟩:=p1
 obtain⟨at2,bad2⟩:=p2
 obtain⟨at9,bad9⟩:=p9
 obtain⟨⟨ata,bada⟩,na,la,ba⟩:=a
 go_enter Tryz.func133,Tryz.ntmps133
 go_upto_region 2 with(go_at_call 96;with_reducible refine fx QD1 H0 ?_;clear QD1 H0;intro w1 H1;replace c_a:=(H1.out).ccCCCC)
 obtain⟨W2,hW,H2⟩:=ab3 H1 0 (.slice q L.length c) (.int .i64 (at1:Int)) (.bool bad1) rfl;rewrite[←hW];(try simp only[nn] at H2);clear hW H1
 replace c_a:=(H2.out).ccCCCC
 go_upto_region 6 with(go_at_call 98;with_reducible refine fx QO1 H2 ?_;clear QO1 H2;intro W3 H3;replace c_a:=(H3.out).ccCCCC)
 have h4:=H3.out.nilN.lay2 [.int .i64 0,.string ⟨#[]⟩,.slice none 0 0] 24 [.int .i64 0,.string ⟨#[]⟩,.slice none 0 0] 24
 (try simp only[nn] at h4)
 have H4:=qh h4
 clear h4
 have e_a:=(H3.out).ff4
 clear H3
 replace k_a:=(H4.out).ccCCCCCC
 go_upto_region 13 with(first
  |(go_at_call 98;with_reducible refine fx QO2 H4 ?_;clear QO2 H4;intro W5 H5;replace c_a:=(H5.out).ccCCCCCC)
  |(go_at_call 96;with_reducible refine fx QD2 H5 ?_;clear QD2 H5;intro W6 H6;replace c_a:=(H6.out).ccCCCCCC))
 obtain⟨W7,hW,H7⟩:=ab3 H6 0 (.slice q L.length c) (.int .i64 (at2:Int)) (.bool bad2) rfl;rewrite[←hW];(try simp only[nn] at H7);clear hW H6
 replace c_a:=(H7.out).ccCCCCCC
 go_upto_region 15 with(go_at_call 67;with_reducible refine fm QA H7 ?_;clear QA H7;intro w8 pu_1 cu_1 hj;have e_a:=(hj).ff6;have H8:=hj.layM (q:=q) (c:=c) (L:=L) ata bada na (.slice pu_1 na.kids.length cu_1);(try simp only[nn] at H8);replace c_a:=(H8.out).ccCCCCCCCC;clear hj)
 obtain⟨W9,hW,H9⟩:=fr_w H8;rewrite[←hW];(try simp only[nn] at H9);clear hW H8
 replace c_a:=(H9.out).ccCCCCCCCC
 go_upto_region 16 with(fail)
 obtain⟨W10,hW,H10⟩:=ab3 H9 0 (.slice q L.length c) (.int .i64 (ata:Int)) (.bool bada) rfl;rewrite[←hW];(try simp only[nn] at H10);clear hW H9
 replace c_a:=(H10.out).ccCCCCCCCC
 go_upto_region 17 with(fail)
 obtain⟨W11,hW,H11⟩:=ab3 H10 5 (.int .i64 na.kind) (.string na.text) (.slice pu_1 na.kids.length cu_1) rfl;rewrite[←hW];(try simp only[nn] at H11);clear hW H10
 replace c_a:=(H11.out).ccCCCCCCCC
 have QD9:=qh (fun U (hU:Below W11.heap.size W11 U)=>QD3.out U (H11.out.low.trans (hU.mono H11.out.low.size)))
 have ka:=fun U o (hU:Below W11.heap.size W11 U)=>(Fr.skip (H11.out.stays hU) o).c3 2 rfl
 have kb:=fun U o (hU:Below W11.heap.size W11 U)=>(Fr.skip (H11.out.stays hU) o).c3 3 rfl
 have kc:=fun U x y z o (hU:Below W11.heap.size W11 U)=>(Fr.skip (Fr.set3 (x:=x) (y:=y) (z:=z) (H11.out.stays hU) 2 rfl) o).c3 3 rfl
 have ka1:=fun U o hU=>(ka U o hU).1.1
 have ka2:=fun U o hU=>(ka U o hU).1.2.1
 have ka3:=fun U o hU=>(ka U o hU).1.2.2
 have ka4:=fun U o hU=>(ka U o hU).2.1
 have ka5:=fun U o hU=>(ka U o hU).2.2.1
 have ka6:=fun U o hU=>(ka U o hU).2.2.2
 have kb1:=fun U o hU=>(kb U o hU).1.1
 have kb2:=fun U o hU=>(kb U o hU).1.2.1
 have kb3:=fun U o hU=>(kb U o hU).1.2.2
 have kb4:=fun U o hU=>(kb U o hU).2.1
 have kb5:=fun U o hU=>(kb U o hU).2.2.1
 have kb6:=fun U o hU=>(kb U o hU).2.2.2
 have kc1:=fun U x y z o hU=>(kc U x y z o hU).1.1
 have kc2:=fun U x y z o hU=>(kc U x y z o hU).1.2.1
 have kc3:=fun U x y z o hU=>(kc U x y z o hU).1.2.2
 have kc4:=fun U x y z o hU=>(kc U x y z o hU).2.1
 have kc5:=fun U x y z o hU=>(kc U x y z o hU).2.2.1
 have kc6:=fun U x y z o hU=>(kc U x y z o hU).2.2.2
 clear ka kb kc
 obtain⟨u1,u2,u3,u4,u5,u6,u7,hb0,hb1⟩:=Fr.held (S:=(fun w'=>B1 (w.heap.size) ((.slice q L.length c)) ((.int .i64 (ata:Int))) ((.bool bada)) w'∧B1 (w.heap.size+1) ((.int .i64 n.kind)) ((.string n.text)) ((.slice pn n.kids.length cn)) w'∧B1 (W3.heap.size) ((.int .i64 qj.kind)) ((.string qj.text)) ((.slice none 0 0)) w'∧B1 (W3.heap.size+1) ((.int .i64 na.kind)) ((.string na.text)) ((.slice pu_1 na.kids.length cu_1)) w')) H11.out 2 3 (fun U bs' h e=>⟨((h).c3 0 (e 0 rfl)).1,((h).c3 1 (e 1 rfl)).1,((h).c3 4 (e 4 rfl)).1,((h).c3 5 (e 5 rfl)).1⟩) rfl rfl
 go_region_held3 ((fun w'=>B1 (w.heap.size) ((.slice q L.length c)) ((.int .i64 (ata:Int))) ((.bool bada)) w'∧B1 (w.heap.size+1) ((.int .i64 n.kind)) ((.string n.text)) ((.slice pn n.kids.length cn)) w'∧B1 (W3.heap.size) ((.int .i64 qj.kind)) ((.string qj.text)) ((.slice none 0 0)) w'∧B1 (W3.heap.size+1) ((.int .i64 na.kind)) ((.string na.text)) ((.slice pu_1 na.kids.length cu_1)) w'))
  (with_reducible first|exact HS4.out|exact HS5.out _|assumption|(first|apply u7.out|apply u4.out|apply u5.out|apply u6.out|apply u3.out|apply u2.out|apply u1.out);(with_reducible first|exact hb0|assumption|exact hb1 _|exact qc hb0 _|exact qc (by assumption) _))
  (first|(go_at_call 96;with_reducible refine(QD9.out _ (by(with_reducible first|exact hb0|assumption|exact hb1 _|exact qc hb0 _|exact qc (by assumption) _))).mono ?_;rintro _ U ⟨rfl,bu⟩;have bb:Below W11.heap.size W11 U:=Below.trans (by(with_reducible first|exact hb0|assumption|exact hb1 _|exact qc hb0 _|exact qc (by assumption) _)) (bu.mono (Below.size (show Below W11.heap.size W11 _ by(with_reducible first|exact hb0|assumption|exact hb1 _|exact qc hb0 _|exact qc (by assumption) _))));replace c_2:=((H11.out.stays bb)).c3 2 rfl;replace c_3:=((H11.out.stays bb)).c3 3 rfl;have e_2:=((H11.out.stays bb)).far 2 rfl;have e_3:=((H11.out.stays bb)).far 3 rfl;have BU:=qh bu;clear bu))
 all_goals
  have hbu:Below W11.heap.size W11 U:=by assumption
  first
   |(have hda:=Fr.set3 (Fr.set3 ((H11.out.stays hbu).lit3 n qj na (u:=.slice pn n.kids.length cn) (v:=(.slice none 0 0)) (x:=(.slice pu_1 na.kids.length cu_1)) (by simp[show qj.kids=[] from rfl]) (by simp[show qj.kids=[] from rfl]) (by simp[show qj.kids=[] from rfl])) 2 rfl (x:=.slice q L.length c) (y:=.int .i64 (at9:Int)) (z:=.bool bad9)) 3 rfl (x:=.int .i64 19) (y:=.string dot) (z:=(.slice (some ⟨U.heap.size,0,none⟩) 3 3));obtain⟨Wf,hW,hf⟩:=qd hda;rewrite[←hW];(try simp only[nn] at hf);clear hW;clear hda)
   |(have hda:=Fr.set3 ((Fr.set3 (H11.out.stays hbu) 2 rfl (x:=.slice q L.length c) (y:=.int .i64 (at9:Int)) (z:=.bool bad9)).lit3S n qj na (u:=.slice pn n.kids.length cn) (v:=(.slice none 0 0)) (x':=(.slice pu_1 na.kids.length cu_1)) (by simp[show qj.kids=[] from rfl]) (by simp[show qj.kids=[] from rfl]) (by simp[show qj.kids=[] from rfl])) 3 rfl (x:=.int .i64 19) (y:=.string dot) (z:=(.slice (some ⟨U.heap.size,0,none⟩) 3 3));obtain⟨Wf,hW,hf⟩:=qd hda;rewrite[←hW];(try simp only[nn] at hf);clear hW;clear hda)
   |(have hda:=Fr.set3 (Fr.set3 ((H11.out.lit3 n qj na (u:=.slice pn n.kids.length cn) (v:=(.slice none 0 0)) (x:=(.slice pu_1 na.kids.length cu_1)) (by simp[show qj.kids=[] from rfl]) (by simp[show qj.kids=[] from rfl]) (by simp[show qj.kids=[] from rfl])).drew.stays BU.out) 2 rfl (x:=.slice q L.length c) (y:=.int .i64 (at9:Int)) (z:=.bool bad9)) 3 rfl (x:=.int .i64 19) (y:=.string dot) (z:=(.slice (some ⟨W11.heap.size,0,none⟩) 3 3));obtain⟨Wf,hW,hf⟩:=qd hda;rewrite[←hW];(try simp only[nn] at hf);clear hW;clear hda)
   |(have hda:=Fr.set3 (Fr.set3 ((H11.out.drew.lit3 n qj na (u:=.slice pn n.kids.length cn) (v:=(.slice none 0 0)) (x:=(.slice pu_1 na.kids.length cu_1)) (by simp[show qj.kids=[] from rfl]) (by simp[show qj.kids=[] from rfl]) (by simp[show qj.kids=[] from rfl])).stays BU.out) 2 rfl (x:=.slice q L.length c) (y:=.int .i64 (at9:Int)) (z:=.bool bad9)) 3 rfl (x:=.int .i64 19) (y:=.string dot) (z:=(.slice (some ⟨W11.heap.size,0,none⟩) 3 3));obtain⟨Wf,hW,hf⟩:=qd hda;rewrite[←hW];(try simp only[nn] at hf);clear hW;clear hda)
  have r0:=And.intro (hf.c3 2 rfl).1 (hf.c3 3 rfl).1
  have HF:=qh (And.intro (Fr.toldW q c L ⟨(at9,bad9),.mk 19 dot [n,qj,na],[],false⟩ hf) (Fr.toldW q c L ⟨(at9,bad9),.mk 19 dot [n,qj,na],[],false⟩ hf.drew))
  clear hf
  (try go_wp2)
  first
   |exact bodyPost_ret (by simp[results,Tryz.results133,go_sem,r0]) rfl HF.out.1
   |exact bodyPost_ret (by simp[results,Tryz.results133,go_sem,r0]) rfl HF.out.2
theorem qjO{q:Option Addr}{c:Nat}{L:List PTok}(hl:L.length≤1000000000)(p p1:PSt)(n:qb)(dot:ByteArray)(h1:q7 L p ⟨#[91]⟩=some p1)(p2:PSt)(a:PRes)(ho:opP L p1 ⟨#[93]⟩=false)(hc':opP L p1 ⟨#[58]⟩=false)(ha:qn q c L (.exp p1 1) a)(ho3:opP L a.st ⟨#[93]⟩=true)(h2:qs L a.st=some p2):qn q c L (.within p n dot) ⟨p2,.mk 18 dot [n,a.n],[],false⟩:=by
 intro w S un h hn
 obtain⟨pn,cn,rfl,ln⟩:=hn.shape
 have H0:=qh (qdN w q c L p n S hn)
 have QD1:=qh (fun U hU=>qt q c L p p1 ⟨#[91]⟩ U (h.below hU) h1)
 have QO1:=qh (fun U hU=>qp q c L p1 ⟨#[93]⟩ U (h.below hU))
 (have QO2:=qh (fun U hU=>qp q c L p1 ⟨#[58]⟩ U (h.below hU));have QA:=qh (fun U hU=>qB q c L p1 a ha U (h.below hU));have QO3:=qh (fun U hU=>qp q c L a.st ⟨#[93]⟩ U (h.below hU));rw[ho] at QO1;rw[hc'] at QO2;rw[ho3] at QO3;have QN:=qh (fun U=>qq q c L a.st p2 U hl h2))
 clear h1 h hn ln ho hc' ha ho3 h2
 obtain⟨at',bad⟩:=p
 obtain⟨at1,bad1⟩:=p1
 obtain⟨at2,bad2⟩:=p2
 obtain⟨⟨ata,bada⟩,na,la,ba⟩:=a
 go_enter Tryz.func133,Tryz.ntmps133
 go_upto_region 2 with(go_at_call 96;with_reducible refine fx QD1 H0 ?_;clear QD1 H0;intro w1 H1;replace c_a:=(H1.out).ccCCCC)
 obtain⟨W2,hW,H2⟩:=ab3 H1 0 (.slice q L.length c) (.int .i64 (at1:Int)) (.bool bad1) rfl;rewrite[←hW];(try simp only[nn] at H2);clear hW H1
 replace c_a:=(H2.out).ccCCCC
 go_upto_region 6 with(go_at_call 98;with_reducible refine fx QO1 H2 ?_;clear QO1 H2;intro W3 H3;replace c_a:=(H3.out).ccCCCC)
 have h4:=H3.out.nilN.lay2 [.int .i64 0,.string ⟨#[]⟩,.slice none 0 0] 24 [.int .i64 0,.string ⟨#[]⟩,.slice none 0 0] 24
 (try simp only[nn] at h4)
 have H4:=qh h4
 clear h4
 have e_a:=(H3.out).ff4
 clear H3
 replace k_a:=(H4.out).ccCCCCCC
 go_upto_region 8 with(first
  |(go_at_call 98;with_reducible refine fx QO2 H4 ?_;clear QO2 H4;intro W5 H5;replace c_a:=(H5.out).ccCCCCCC)
  |(go_at_call 67;with_reducible refine fm QA H5 ?_;clear QA H5;intro w6 pu_1 cu_1 hj;have e_a:=(hj).ff6;have H6:=hj.layM (q:=q) (c:=c) (L:=L) ata bada na (.slice pu_1 na.kids.length cu_1);(try simp only[nn] at H6);replace c_a:=(H6.out).ccCCCCCCCC;clear hj))
 obtain⟨W7,hW,H7⟩:=fr_w H6;rewrite[←hW];(try simp only[nn] at H7);clear hW H6
 replace c_a:=(H7.out).ccCCCCCCCC
 go_upto_region 9 with(fail)
 obtain⟨W8,hW,H8⟩:=ab3 H7 0 (.slice q L.length c) (.int .i64 (ata:Int)) (.bool bada) rfl;rewrite[←hW];(try simp only[nn] at H8);clear hW H7
 replace c_a:=(H8.out).ccCCCCCCCC
 go_upto_region 10 with(fail)
 obtain⟨W9,hW,H9⟩:=ab3 H8 4 (.int .i64 na.kind) (.string na.text) (.slice pu_1 na.kids.length cu_1) rfl;rewrite[←hW];(try simp only[nn] at H9);clear hW H8
 replace c_a:=(H9.out).ccCCCCCCCC
 go_upto_region 11 with(go_at_call 98;with_reducible refine fx QO3 H9 ?_;clear QO3 H9;intro W10 H10;replace c_a:=(H10.out).ccCCCCCCCC)
 have ka:=fun U o (hU:Below W10.heap.size W10 U)=>(Fr.skip (H10.out.stays hU) o).c3 2 rfl
 have kb:=fun U o (hU:Below W10.heap.size W10 U)=>(Fr.skip (H10.out.stays hU) o).c3 3 rfl
 have kc:=fun U x y z o (hU:Below W10.heap.size W10 U)=>(Fr.skip (Fr.set3 (x:=x) (y:=y) (z:=z) (H10.out.stays hU) 2 rfl) o).c3 3 rfl
 have ka1:=fun U o hU=>(ka U o hU).1.1
 have ka2:=fun U o hU=>(ka U o hU).1.2.1
 have ka3:=fun U o hU=>(ka U o hU).1.2.2
 have ka4:=fun U o hU=>(ka U o hU).2.1
 have ka5:=fun U o hU=>(ka U o hU).2.2.1
 have ka6:=fun U o hU=>(ka U o hU).2.2.2
 have kb1:=fun U o hU=>(kb U o hU).1.1
 have kb2:=fun U o hU=>(kb U o hU).1.2.1
 have kb3:=fun U o hU=>(kb U o hU).1.2.2
 have kb4:=fun U o hU=>(kb U o hU).2.1
 have kb5:=fun U o hU=>(kb U o hU).2.2.1
 have kb6:=fun U o hU=>(kb U o hU).2.2.2
 have kc1:=fun U x y z o hU=>(kc U x y z o hU).1.1
 have kc2:=fun U x y z o hU=>(kc U x y z o hU).1.2.1
 have kc3:=fun U x y z o hU=>(kc U x y z o hU).1.2.2
 have kc4:=fun U x y z o hU=>(kc U x y z o hU).2.1
 have kc5:=fun U x y z o hU=>(kc U x y z o hU).2.2.1
 have kc6:=fun U x y z o hU=>(kc U x y z o hU).2.2.2
 clear ka kb kc
 obtain⟨u1,u2,u3,u4,u5,u6,u7,hb0,hb1⟩:=Fr.held (S:=(fun w'=>B1 (w.heap.size) ((.slice q L.length c)) ((.int .i64 (ata:Int))) ((.bool bada)) w'∧B1 (w.heap.size+1) ((.int .i64 n.kind)) ((.string n.text)) ((.slice pn n.kids.length cn)) w'∧B1 (W3.heap.size) ((.int .i64 na.kind)) ((.string na.text)) ((.slice pu_1 na.kids.length cu_1)) w')) H10.out 2 3 (fun U bs' h e=>⟨((h).c3 0 (e 0 rfl)).1,((h).c3 1 (e 1 rfl)).1,((h).c3 4 (e 4 rfl)).1⟩) rfl rfl
 go_region_held3 ((fun w'=>B1 (w.heap.size) ((.slice q L.length c)) ((.int .i64 (ata:Int))) ((.bool bada)) w'∧B1 (w.heap.size+1) ((.int .i64 n.kind)) ((.string n.text)) ((.slice pn n.kids.length cn)) w'∧B1 (W3.heap.size) ((.int .i64 na.kind)) ((.string na.text)) ((.slice pu_1 na.kids.length cu_1)) w'))
  (with_reducible first|exact HS4.out|exact HS5.out _|assumption|(first|apply u7.out|apply u4.out|apply u5.out|apply u6.out|apply u3.out|apply u2.out|apply u1.out);(with_reducible first|exact hb0|assumption|exact hb1 _|exact qc hb0 _|exact qc (by assumption) _))
  (first|(go_at_call 94;with_reducible refine(QN.out _).mono ?_;rintro _ U ⟨rfl,bu⟩;have bb:Below W10.heap.size W10 U:=Below.trans (by(with_reducible first|exact hb0|assumption|exact hb1 _|exact qc hb0 _|exact qc (by assumption) _)) (bu.mono (Below.size (show Below W10.heap.size W10 _ by(with_reducible first|exact hb0|assumption|exact hb1 _|exact qc hb0 _|exact qc (by assumption) _))));replace c_2:=((H10.out.stays bb)).c3 2 rfl;replace c_3:=((H10.out.stays bb)).c3 3 rfl;have e_2:=((H10.out.stays bb)).far 2 rfl;have e_3:=((H10.out.stays bb)).far 3 rfl;have BU:=qh bu;clear bu))
 all_goals
  have hbu:Below W10.heap.size W10 U:=by assumption
  first
   |(have hda:=Fr.set3 (Fr.set3 ((H10.out.stays hbu).lit2 n na (u:=.slice pn n.kids.length cn) (v:=.slice pu_1 na.kids.length cu_1) (by simp) (by simp)) 2 rfl (x:=.slice q L.length c) (y:=.int .i64 (at2:Int)) (z:=.bool bad2)) 3 rfl (x:=.int .i64 18) (y:=.string dot) (z:=(.slice (some ⟨U.heap.size,0,none⟩) 2 2));obtain⟨Wf,hW,hf⟩:=qd hda;rewrite[←hW];(try simp only[nn] at hf);clear hW;clear hda)
   |(have hda:=Fr.set3 ((Fr.set3 (H10.out.stays hbu) 2 rfl (x:=.slice q L.length c) (y:=.int .i64 (at2:Int)) (z:=.bool bad2)).lit2S n na (u:=.slice pn n.kids.length cn) (v:=.slice pu_1 na.kids.length cu_1) (by simp) (by simp)) 3 rfl (x:=.int .i64 18) (y:=.string dot) (z:=(.slice (some ⟨U.heap.size,0,none⟩) 2 2));obtain⟨Wf,hW,hf⟩:=qd hda;rewrite[←hW];(try simp only[nn] at hf);clear hW;clear hda)
   |(have hda:=Fr.set3 (Fr.set3 ((H10.out.lit2 n na (u:=.slice pn n.kids.length cn) (v:=.slice pu_1 na.kids.length cu_1) (by simp) (by simp)).drew.stays BU.out) 2 rfl (x:=.slice q L.length c) (y:=.int .i64 (at2:Int)) (z:=.bool bad2)) 3 rfl (x:=.int .i64 18) (y:=.string dot) (z:=(.slice (some ⟨W10.heap.size,0,none⟩) 2 2));obtain⟨Wf,hW,hf⟩:=qd hda;rewrite[←hW];(try simp only[nn] at hf);clear hW;clear hda)
   |(have hda:=Fr.set3 (Fr.set3 ((H10.out.drew.lit2 n na (u:=.slice pn n.kids.length cn) (v:=.slice pu_1 na.kids.length cu_1) (by simp) (by simp)).stays BU.out) 2 rfl (x:=.slice q L.length c) (y:=.int .i64 (at2:Int)) (z:=.bool bad2)) 3 rfl (x:=.int .i64 18) (y:=.string dot) (z:=(.slice (some ⟨W10.heap.size,0,none⟩) 2 2));obtain⟨Wf,hW,hf⟩:=qd hda;rewrite[←hW];(try simp only[nn] at hf);clear hW;clear hda)
  have r0:=And.intro (hf.c3 2 rfl).1 (hf.c3 3 rfl).1
  have HF:=qh (And.intro (Fr.toldW q c L ⟨(at2,bad2),.mk 18 dot [n,na],[],false⟩ hf) (Fr.toldW q c L ⟨(at2,bad2),.mk 18 dot [n,na],[],false⟩ hf.drew))
  clear hf
  (try go_wp2)
  first
   |exact bodyPost_ret (by simp[results,Tryz.results133,go_sem,r0]) rfl HF.out.1
   |exact bodyPost_ret (by simp[results,Tryz.results133,go_sem,r0]) rfl HF.out.2
theorem qio{q:Option Addr}{c:Nat}{L:List PTok}(hl:L.length≤1000000000)(p p1:PSt)(n:qb)(dot:ByteArray)(h1:q7 L p ⟨#[91]⟩=some p1)(p2 p9:PSt)(a b:PRes)(ho:opP L p1 ⟨#[93]⟩=false)(hc':opP L p1 ⟨#[58]⟩=false)(ha:qn q c L (.exp p1 1) a)(ho3:opP L a.st ⟨#[93]⟩=false)(h2:q7 L a.st ⟨#[58]⟩=some p2)(hk:a.n.kind=0)(hb:qn q c L (.exp p2 1) b)(h9:q7 L b.st ⟨#[93]⟩=some p9):qn q c L (.within p n dot) ⟨p9,.mk 19 dot [n,a.n,b.n],[],false⟩:=by
 intro w S un h hn
 obtain⟨pn,cn,rfl,ln⟩:=hn.shape
 have H0:=qh (qdN w q c L p n S hn)
 have QD1:=qh (fun U hU=>qt q c L p p1 ⟨#[91]⟩ U (h.below hU) h1)
 have QO1:=qh (fun U hU=>qp q c L p1 ⟨#[93]⟩ U (h.below hU))
 (have QO2:=qh (fun U hU=>qp q c L p1 ⟨#[58]⟩ U (h.below hU));have QA:=qh (fun U hU=>qB q c L p1 a ha U (h.below hU));have QO3:=qh (fun U hU=>qp q c L a.st ⟨#[93]⟩ U (h.below hU));rw[ho] at QO1;rw[hc'] at QO2;rw[ho3] at QO3;have QD2:=qh (fun U hU=>qt q c L a.st p2 ⟨#[58]⟩ U (h.below hU) h2);have QB:=qh (fun U hU=>qB q c L p2 b hb U (h.below hU));have QD3:=qh (fun U hU=>qt q c L b.st p9 ⟨#[93]⟩ U (h.below hU) h9))
 clear h1 h hn ln ho hc' ha ho3 h2 hb h9
 obtain⟨at',bad⟩:=p
 obtain⟨at1,bad1⟩:=p1
 obtain⟨at2,bad2⟩:=p2
 obtain⟨at9,bad9⟩:=p9
 obtain⟨⟨ata,bada⟩,na,la,ba⟩:=a
 obtain⟨⟨atb,badb⟩,nb,lb,bb'⟩:=b
 dsimp only at hk
 have y1:(na.kind==0)=true:=beq_iff_eq.2 hk
 have y2:(na.kind=0)=True:=eq_true hk
 clear hk
 go_enter Tryz.func133,Tryz.ntmps133
 go_upto_region 2 with(go_at_call 96;with_reducible refine fx QD1 H0 ?_;clear QD1 H0;intro w1 H1;replace c_a:=(H1.out).ccCCCC)
 obtain⟨W2,hW,H2⟩:=ab3 H1 0 (.slice q L.length c) (.int .i64 (at1:Int)) (.bool bad1) rfl;rewrite[←hW];(try simp only[nn] at H2);clear hW H1
 replace c_a:=(H2.out).ccCCCC
 go_upto_region 6 with(go_at_call 98;with_reducible refine fx QO1 H2 ?_;clear QO1 H2;intro W3 H3;replace c_a:=(H3.out).ccCCCC)
 have h4:=H3.out.nilN.lay2 [.int .i64 0,.string ⟨#[]⟩,.slice none 0 0] 24 [.int .i64 0,.string ⟨#[]⟩,.slice none 0 0] 24
 (try simp only[nn] at h4)
 have H4:=qh h4
 clear h4
 have e_a:=(H3.out).ff4
 clear H3
 replace k_a:=(H4.out).ccCCCCCC
 go_upto_region 8 with(first
  |(go_at_call 98;with_reducible refine fx QO2 H4 ?_;clear QO2 H4;intro W5 H5;replace c_a:=(H5.out).ccCCCCCC)
  |(go_at_call 67;with_reducible refine fm QA H5 ?_;clear QA H5;intro w6 pu_1 cu_1 hj;have e_a:=(hj).ff6;have H6:=hj.layM (q:=q) (c:=c) (L:=L) ata bada na (.slice pu_1 na.kids.length cu_1);(try simp only[nn] at H6);replace c_a:=(H6.out).ccCCCCCCCC;clear hj))
 obtain⟨W7,hW,H7⟩:=fr_w H6;rewrite[←hW];(try simp only[nn] at H7);clear hW H6
 replace c_a:=(H7.out).ccCCCCCCCC
 go_upto_region 9 with(fail)
 obtain⟨W8,hW,H8⟩:=ab3 H7 0 (.slice q L.length c) (.int .i64 (ata:Int)) (.bool bada) rfl;rewrite[←hW];(try simp only[nn] at H8);clear hW H7
 replace c_a:=(H8.out).ccCCCCCCCC
 go_upto_region 10 with(fail)
 obtain⟨W9,hW,H9⟩:=ab3 H8 4 (.int .i64 na.kind) (.string na.text) (.slice pu_1 na.kids.length cu_1) rfl;rewrite[←hW];(try simp only[nn] at H9);clear hW H8
 replace c_a:=(H9.out).ccCCCCCCCC
 go_upto_region 13 with(first
  |(go_at_call 98;with_reducible refine fx QO3 H9 ?_;clear QO3 H9;intro W10 H10;replace c_a:=(H10.out).ccCCCCCCCC)
  |(go_at_call 96;with_reducible refine fx QD2 H10 ?_;clear QD2 H10;intro W11 H11;replace c_a:=(H11.out).ccCCCCCCCC))
 obtain⟨W12,hW,H12⟩:=ab3 H11 0 (.slice q L.length c) (.int .i64 (at2:Int)) (.bool bad2) rfl;rewrite[←hW];(try simp only[nn] at H12);clear hW H11
 replace c_a:=(H12.out).ccCCCCCCCC
 have H13:=H12
 go_upto_region 15 with(first
  |(go_at_call 67;with_reducible refine fm QB H13 ?_;clear QB H13;intro w14 pu_2 cu_2 hj;have e_a:=(hj).ff8;have H14:=hj.layM (q:=q) (c:=c) (L:=L) atb badb nb (.slice pu_2 nb.kids.length cu_2);(try simp only[nn] at H14);replace c_a:=(H14.out).ccCCCCCCCCCC;clear hj))
 obtain⟨W15,hW,H15⟩:=fr_w H14;rewrite[←hW];(try simp only[nn] at H15);clear hW H14
 replace c_a:=(H15.out).ccCCCCCCCCCC
 go_upto_region 16 with(fail)
 obtain⟨W16,hW,H16⟩:=ab3 H15 0 (.slice q L.length c) (.int .i64 (atb:Int)) (.bool badb) rfl;rewrite[←hW];(try simp only[nn] at H16);clear hW H15
 replace c_a:=(H16.out).ccCCCCCCCCCC
 go_upto_region 17 with(fail)
 obtain⟨W17,hW,H17⟩:=ab3 H16 5 (.int .i64 nb.kind) (.string nb.text) (.slice pu_2 nb.kids.length cu_2) rfl;rewrite[←hW];(try simp only[nn] at H17);clear hW H16
 replace c_a:=(H17.out).ccCCCCCCCCCC
 have QD9:=qh (fun U (hU:Below W17.heap.size W17 U)=>QD3.out U (H17.out.low.trans (hU.mono H17.out.low.size)))
 have ka:=fun U o (hU:Below W17.heap.size W17 U)=>(Fr.skip (H17.out.stays hU) o).c3 2 rfl
 have kb:=fun U o (hU:Below W17.heap.size W17 U)=>(Fr.skip (H17.out.stays hU) o).c3 3 rfl
 have kc:=fun U x y z o (hU:Below W17.heap.size W17 U)=>(Fr.skip (Fr.set3 (x:=x) (y:=y) (z:=z) (H17.out.stays hU) 2 rfl) o).c3 3 rfl
 have ka1:=fun U o hU=>(ka U o hU).1.1
 have ka2:=fun U o hU=>(ka U o hU).1.2.1
 have ka3:=fun U o hU=>(ka U o hU).1.2.2
 have ka4:=fun U o hU=>(ka U o hU).2.1
 have ka5:=fun U o hU=>(ka U o hU).2.2.1
 have ka6:=fun U o hU=>(ka U o hU).2.2.2
 have kb1:=fun U o hU=>(kb U o hU).1.1
 have kb2:=fun U o hU=>(kb U o hU).1.2.1
 have kb3:=fun U o hU=>(kb U o hU).1.2.2
 have kb4:=fun U o hU=>(kb U o hU).2.1
 have kb5:=fun U o hU=>(kb U o hU).2.2.1
 have kb6:=fun U o hU=>(kb U o hU).2.2.2
 have kc1:=fun U x y z o hU=>(kc U x y z o hU).1.1
 have kc2:=fun U x y z o hU=>(kc U x y z o hU).1.2.1
 have kc3:=fun U x y z o hU=>(kc U x y z o hU).1.2.2
 have kc4:=fun U x y z o hU=>(kc U x y z o hU).2.1
 have kc5:=fun U x y z o hU=>(kc U x y z o hU).2.2.1
 have kc6:=fun U x y z o hU=>(kc U x y z o hU).2.2.2
 clear ka kb kc
 obtain⟨u1,u2,u3,u4,u5,u6,u7,hb0,hb1⟩:=Fr.held (S:=(fun w'=>B1 (w.heap.size) ((.slice q L.length c)) ((.int .i64 (atb:Int))) ((.bool badb)) w'∧B1 (w.heap.size+1) ((.int .i64 n.kind)) ((.string n.text)) ((.slice pn n.kids.length cn)) w'∧B1 (W3.heap.size) ((.int .i64 na.kind)) ((.string na.text)) ((.slice pu_1 na.kids.length cu_1)) w'∧B1 (W3.heap.size+1) ((.int .i64 nb.kind)) ((.string nb.text)) ((.slice pu_2 nb.kids.length cu_2)) w')) H17.out 2 3 (fun U bs' h e=>⟨((h).c3 0 (e 0 rfl)).1,((h).c3 1 (e 1 rfl)).1,((h).c3 4 (e 4 rfl)).1,((h).c3 5 (e 5 rfl)).1⟩) rfl rfl
 go_region_held3 ((fun w'=>B1 (w.heap.size) ((.slice q L.length c)) ((.int .i64 (atb:Int))) ((.bool badb)) w'∧B1 (w.heap.size+1) ((.int .i64 n.kind)) ((.string n.text)) ((.slice pn n.kids.length cn)) w'∧B1 (W3.heap.size) ((.int .i64 na.kind)) ((.string na.text)) ((.slice pu_1 na.kids.length cu_1)) w'∧B1 (W3.heap.size+1) ((.int .i64 nb.kind)) ((.string nb.text)) ((.slice pu_2 nb.kids.length cu_2)) w'))
  (with_reducible first|exact HS4.out|exact HS5.out _|assumption|(first|apply u7.out|apply u4.out|apply u5.out|apply u6.out|apply u3.out|apply u2.out|apply u1.out);(with_reducible first|exact hb0|assumption|exact hb1 _|exact qc hb0 _|exact qc (by assumption) _))
  (first|(go_at_call 96;with_reducible refine(QD9.out _ (by(with_reducible first|exact hb0|assumption|exact hb1 _|exact qc hb0 _|exact qc (by assumption) _))).mono ?_;rintro _ U ⟨rfl,bu⟩;have bb:Below W17.heap.size W17 U:=Below.trans (by(with_reducible first|exact hb0|assumption|exact hb1 _|exact qc hb0 _|exact qc (by assumption) _)) (bu.mono (Below.size (show Below W17.heap.size W17 _ by(with_reducible first|exact hb0|assumption|exact hb1 _|exact qc hb0 _|exact qc (by assumption) _))));replace c_2:=((H17.out.stays bb)).c3 2 rfl;replace c_3:=((H17.out.stays bb)).c3 3 rfl;have e_2:=((H17.out.stays bb)).far 2 rfl;have e_3:=((H17.out.stays bb)).far 3 rfl;have BU:=qh bu;clear bu))
 all_goals
  have hbu:Below W17.heap.size W17 U:=by assumption
  first
   |(have hda:=Fr.set3 (Fr.set3 ((H17.out.stays hbu).lit3 n na nb (u:=.slice pn n.kids.length cn) (v:=(.slice pu_1 na.kids.length cu_1)) (x:=(.slice pu_2 nb.kids.length cu_2)) (by simp[show qj.kids=[] from rfl]) (by simp[show qj.kids=[] from rfl]) (by simp[show qj.kids=[] from rfl])) 2 rfl (x:=.slice q L.length c) (y:=.int .i64 (at9:Int)) (z:=.bool bad9)) 3 rfl (x:=.int .i64 19) (y:=.string dot) (z:=(.slice (some ⟨U.heap.size,0,none⟩) 3 3));obtain⟨Wf,hW,hf⟩:=qd hda;rewrite[←hW];(try simp only[nn] at hf);clear hW;clear hda)
   |(have hda:=Fr.set3 ((Fr.set3 (H17.out.stays hbu) 2 rfl (x:=.slice q L.length c) (y:=.int .i64 (at9:Int)) (z:=.bool bad9)).lit3S n na nb (u:=.slice pn n.kids.length cn) (v:=(.slice pu_1 na.kids.length cu_1)) (x':=(.slice pu_2 nb.kids.length cu_2)) (by simp[show qj.kids=[] from rfl]) (by simp[show qj.kids=[] from rfl]) (by simp[show qj.kids=[] from rfl])) 3 rfl (x:=.int .i64 19) (y:=.string dot) (z:=(.slice (some ⟨U.heap.size,0,none⟩) 3 3));obtain⟨Wf,hW,hf⟩:=qd hda;rewrite[←hW];(try simp only[nn] at hf);clear hW;clear hda)
   |(have hda:=Fr.set3 (Fr.set3 ((H17.out.lit3 n na nb (u:=.slice pn n.kids.length cn) (v:=(.slice pu_1 na.kids.length cu_1)) (x:=(.slice pu_2 nb.kids.length cu_2)) (by simp[show qj.kids=[] from rfl]) (by simp[show qj.kids=[] from rfl]) (by simp[show qj.kids=[] from rfl])).drew.stays BU.out) 2 rfl (x:=.slice q L.length c) (y:=.int .i64 (at9:Int)) (z:=.bool bad9)) 3 rfl (x:=.int .i64 19) (y:=.string dot) (z:=(.slice (some ⟨W17.heap.size,0,none⟩) 3 3));obtain⟨Wf,hW,hf⟩:=qd hda;rewrite[←hW];(try simp only[nn] at hf);clear hW;clear hda)
   |(have hda:=Fr.set3 (Fr.set3 ((H17.out.drew.lit3 n na nb (u:=.slice pn n.kids.length cn) (v:=(.slice pu_1 na.kids.length cu_1)) (x:=(.slice pu_2 nb.kids.length cu_2)) (by simp[show qj.kids=[] from rfl]) (by simp[show qj.kids=[] from rfl]) (by simp[show qj.kids=[] from rfl])).stays BU.out) 2 rfl (x:=.slice q L.length c) (y:=.int .i64 (at9:Int)) (z:=.bool bad9)) 3 rfl (x:=.int .i64 19) (y:=.string dot) (z:=(.slice (some ⟨W17.heap.size,0,none⟩) 3 3));obtain⟨Wf,hW,hf⟩:=qd hda;rewrite[←hW];(try simp only[nn] at hf);clear hW;clear hda)
  have r0:=And.intro (hf.c3 2 rfl).1 (hf.c3 3 rfl).1
  have HF:=qh (And.intro (Fr.toldW q c L ⟨(at9,bad9),.mk 19 dot [n,na,nb],[],false⟩ hf) (Fr.toldW q c L ⟨(at9,bad9),.mk 19 dot [n,na,nb],[],false⟩ hf.drew))
  clear hf
  (try go_wp2)
  first
   |exact bodyPost_ret (by simp[results,Tryz.results133,go_sem,r0]) rfl HF.out.1
   |exact bodyPost_ret (by simp[results,Tryz.results133,go_sem,r0]) rfl HF.out.2
theorem qhI{q:Option Addr}{c:Nat}{L:List PTok}(hl:L.length≤1000000000)(p p1:PSt)(n:qb)(dot:ByteArray)(h1:q7 L p ⟨#[91]⟩=some p1)(p2 p9:PSt)(a b:PRes)(ho:opP L p1 ⟨#[93]⟩=false)(hc':opP L p1 ⟨#[58]⟩=false)(ha:qn q c L (.exp p1 1) a)(ho3:opP L a.st ⟨#[93]⟩=false)(h2:q7 L a.st ⟨#[58]⟩=some p2)(hk:a.n.kind≠0)(ho4:opP L p2 ⟨#[93]⟩=false)(hb:qn q c L (.exp p2 1) b)(h9:q7 L b.st ⟨#[93]⟩=some p9):qn q c L (.within p n dot) ⟨p9,.mk 19 dot [n,a.n,b.n],[],false⟩:=by
 intro w S un h hn
 obtain⟨pn,cn,rfl,ln⟩:=hn.shape
 have H0:=qh (qdN w q c L p n S hn)
 have QD1:=qh (fun U hU=>qt q c L p p1 ⟨#[91]⟩ U (h.below hU) h1)
 have QO1:=qh (fun U hU=>qp q c L p1 ⟨#[93]⟩ U (h.below hU))
 (have QO2:=qh (fun U hU=>qp q c L p1 ⟨#[58]⟩ U (h.below hU));have QA:=qh (fun U hU=>qB q c L p1 a ha U (h.below hU));have QO3:=qh (fun U hU=>qp q c L a.st ⟨#[93]⟩ U (h.below hU));rw[ho] at QO1;rw[hc'] at QO2;rw[ho3] at QO3;have QD2:=qh (fun U hU=>qt q c L a.st p2 ⟨#[58]⟩ U (h.below hU) h2);have QO4:=qh (fun U hU=>qp q c L p2 ⟨#[93]⟩ U (h.below hU));rw[ho4] at QO4;have QB:=qh (fun U hU=>qB q c L p2 b hb U (h.below hU));have QD3:=qh (fun U hU=>qt q c L b.st p9 ⟨#[93]⟩ U (h.below hU) h9))
 clear h1 h hn ln ho hc' ha ho3 h2 hb h9 ho4
 obtain⟨at',bad⟩:=p
 obtain⟨at1,bad1⟩:=p1
 obtain⟨at2,bad2⟩:=p2
 obtain⟨at9,bad9⟩:=p9
 obtain⟨⟨ata,bada⟩,na,la,ba⟩:=a
 obtain⟨⟨atb,badb⟩,nb,lb,bb'⟩:=b
 dsimp only at hk
 have y1:(na.kind==0)=false:=beq_eq_false_iff_ne.2 hk
 have y2:(na.kind=0)=False:=eq_false hk
 clear hk
 go_enter Tryz.func133,Tryz.ntmps133
 go_upto_region 2 with(go_at_call 96;with_reducible refine fx QD1 H0 ?_;clear QD1 H0;intro w1 H1;replace c_a:=(H1.out).ccCCCC)
 obtain⟨W2,hW,H2⟩:=ab3 H1 0 (.slice q L.length c) (.int .i64 (at1:Int)) (.bool bad1) rfl;rewrite[←hW];(try simp only[nn] at H2);clear hW H1
 replace c_a:=(H2.out).ccCCCC
 go_upto_region 6 with(go_at_call 98;with_reducible refine fx QO1 H2 ?_;clear QO1 H2;intro W3 H3;replace c_a:=(H3.out).ccCCCC)
 have h4:=H3.out.nilN.lay2 [.int .i64 0,.string ⟨#[]⟩,.slice none 0 0] 24 [.int .i64 0,.string ⟨#[]⟩,.slice none 0 0] 24
 (try simp only[nn] at h4)
 have H4:=qh h4
 clear h4
 have e_a:=(H3.out).ff4
 clear H3
 replace k_a:=(H4.out).ccCCCCCC
 go_upto_region 8 with(first
  |(go_at_call 98;with_reducible refine fx QO2 H4 ?_;clear QO2 H4;intro W5 H5;replace c_a:=(H5.out).ccCCCCCC)
  |(go_at_call 67;with_reducible refine fm QA H5 ?_;clear QA H5;intro w6 pu_1 cu_1 hj;have e_a:=(hj).ff6;have H6:=hj.layM (q:=q) (c:=c) (L:=L) ata bada na (.slice pu_1 na.kids.length cu_1);(try simp only[nn] at H6);replace c_a:=(H6.out).ccCCCCCCCC;clear hj))
 obtain⟨W7,hW,H7⟩:=fr_w H6;rewrite[←hW];(try simp only[nn] at H7);clear hW H6
 replace c_a:=(H7.out).ccCCCCCCCC
 go_upto_region 9 with(fail)
 obtain⟨W8,hW,H8⟩:=ab3 H7 0 (.slice q L.length c) (.int .i64 (ata:Int)) (.bool bada) rfl;rewrite[←hW];(try simp only[nn] at H8);clear hW H7
 replace c_a:=(H8.out).ccCCCCCCCC
 go_upto_region 10 with(fail)
 obtain⟨W9,hW,H9⟩:=ab3 H8 4 (.int .i64 na.kind) (.string na.text) (.slice pu_1 na.kids.length cu_1) rfl;rewrite[←hW];(try simp only[nn] at H9);clear hW H8
 replace c_a:=(H9.out).ccCCCCCCCC
 go_upto_region 13 with(first
  |(go_at_call 98;with_reducible refine fx QO3 H9 ?_;clear QO3 H9;intro W10 H10;replace c_a:=(H10.out).ccCCCCCCCC)
  |(go_at_call 96;with_reducible refine fx QD2 H10 ?_;clear QD2 H10;intro W11 H11;replace c_a:=(H11.out).ccCCCCCCCC))
 obtain⟨W12,hW,H12⟩:=ab3 H11 0 (.slice q L.length c) (.int .i64 (at2:Int)) (.bool bad2) rfl;rewrite[←hW];(try simp only[nn] at H12);clear hW H11
 replace c_a:=(H12.out).ccCCCCCCCC
 go_upto_region 15 with(first
  |(go_at_call 98;with_reducible refine fx QO4 H12 ?_;clear QO4 H12;intro W13 H13;replace c_a:=(H13.out).ccCCCCCCCC)
  |(go_at_call 67;with_reducible refine fm QB H13 ?_;clear QB H13;intro w14 pu_2 cu_2 hj;have e_a:=(hj).ff8;have H14:=hj.layM (q:=q) (c:=c) (L:=L) atb badb nb (.slice pu_2 nb.kids.length cu_2);(try simp only[nn] at H14);replace c_a:=(H14.out).ccCCCCCCCCCC;clear hj))
 obtain⟨W15,hW,H15⟩:=fr_w H14;rewrite[←hW];(try simp only[nn] at H15);clear hW H14
 replace c_a:=(H15.out).ccCCCCCCCCCC
 go_upto_region 16 with(fail)
 obtain⟨W16,hW,H16⟩:=ab3 H15 0 (.slice q L.length c) (.int .i64 (atb:Int)) (.bool badb) rfl;rewrite[←hW];(try simp only[nn] at H16);clear hW H15
 replace c_a:=(H16.out).ccCCCCCCCCCC
 go_upto_region 17 with(fail)
 obtain⟨W17,hW,H17⟩:=ab3 H16 5 (.int .i64 nb.kind) (.string nb.text) (.slice pu_2 nb.kids.length cu_2) rfl;rewrite[←hW];(try simp only[nn] at H17);clear hW H16
 replace c_a:=(H17.out).ccCCCCCCCCCC
 have QD9:=qh (fun U (hU:Below W17.heap.size W17 U)=>QD3.out U (H17.out.low.trans (hU.mono H17.out.low.size)))
 have ka:=fun U o (hU:Below W17.heap.size W17 U)=>(Fr.skip (H17.out.stays hU) o).c3 2 rfl
 have kb:=fun U o (hU:Below W17.heap.size W17 U)=>(Fr.skip (H17.out.stays hU) o).c3 3 rfl
 have kc:=fun U x y z o (hU:Below W17.heap.size W17 U)=>(Fr.skip (Fr.set3 (x:=x) (y:=y) (z:=z) (H17.out.stays hU) 2 rfl) o).c3 3 rfl
 have ka1:=fun U o hU=>(ka U o hU).1.1
 have ka2:=fun U o hU=>(ka U o hU).1.2.1
 have ka3:=fun U o hU=>(ka U o hU).1.2.2
 have ka4:=fun U o hU=>(ka U o hU).2.1
 have ka5:=fun U o hU=>(ka U o hU).2.2.1
 have ka6:=fun U o hU=>(ka U o hU).2.2.2
 have kb1:=fun U o hU=>(kb U o hU).1.1
 have kb2:=fun U o hU=>(kb U o hU).1.2.1
 have kb3:=fun U o hU=>(kb U o hU).1.2.2
 have kb4:=fun U o hU=>(kb U o hU).2.1
 have kb5:=fun U o hU=>(kb U o hU).2.2.1
 have kb6:=fun U o hU=>(kb U o hU).2.2.2
 have kc1:=fun U x y z o hU=>(kc U x y z o hU).1.1
 have kc2:=fun U x y z o hU=>(kc U x y z o hU).1.2.1
 have kc3:=fun U x y z o hU=>(kc U x y z o hU).1.2.2
 have kc4:=fun U x y z o hU=>(kc U x y z o hU).2.1
 have kc5:=fun U x y z o hU=>(kc U x y z o hU).2.2.1
 have kc6:=fun U x y z o hU=>(kc U x y z o hU).2.2.2
 clear ka kb kc
 obtain⟨u1,u2,u3,u4,u5,u6,u7,hb0,hb1⟩:=Fr.held (S:=(fun w'=>B1 (w.heap.size) ((.slice q L.length c)) ((.int .i64 (atb:Int))) ((.bool badb)) w'∧B1 (w.heap.size+1) ((.int .i64 n.kind)) ((.string n.text)) ((.slice pn n.kids.length cn)) w'∧B1 (W3.heap.size) ((.int .i64 na.kind)) ((.string na.text)) ((.slice pu_1 na.kids.length cu_1)) w'∧B1 (W3.heap.size+1) ((.int .i64 nb.kind)) ((.string nb.text)) ((.slice pu_2 nb.kids.length cu_2)) w')) H17.out 2 3 (fun U bs' h e=>⟨((h).c3 0 (e 0 rfl)).1,((h).c3 1 (e 1 rfl)).1,((h).c3 4 (e 4 rfl)).1,((h).c3 5 (e 5 rfl)).1⟩) rfl rfl
 go_region_held3 ((fun w'=>B1 (w.heap.size) ((.slice q L.length c)) ((.int .i64 (atb:Int))) ((.bool badb)) w'∧B1 (w.heap.size+1) ((.int .i64 n.kind)) ((.string n.text)) ((.slice pn n.kids.length cn)) w'∧B1 (W3.heap.size) ((.int .i64 na.kind)) ((.string na.text)) ((.slice pu_1 na.kids.length cu_1)) w'∧B1 (W3.heap.size+1) ((.int .i64 nb.kind)) ((.string nb.text)) ((.slice pu_2 nb.kids.length cu_2)) w'))
  (with_reducible first|exact HS4.out|exact HS5.out _|assumption|(first|apply u7.out|apply u4.out|apply u5.out|apply u6.out|apply u3.out|apply u2.out|apply u1.out);(with_reducible first|exact hb0|assumption|exact hb1 _|exact qc hb0 _|exact qc (by assumption) _))
  (first|(go_at_call 96;with_reducible refine(QD9.out _ (by(with_reducible first|exact hb0|assumption|exact hb1 _|exact qc hb0 _|exact qc (by assumption) _))).mono ?_;rintro _ U ⟨rfl,bu⟩;have bb:Below W17.heap.size W17 U:=Below.trans (by(with_reducible first|exact hb0|assumption|exact hb1 _|exact qc hb0 _|exact qc (by assumption) _)) (bu.mono (Below.size (show Below W17.heap.size W17 _ by(with_reducible first|exact hb0|assumption|exact hb1 _|exact qc hb0 _|exact qc (by assumption) _))));replace c_2:=((H17.out.stays bb)).c3 2 rfl;replace c_3:=((H17.out.stays bb)).c3 3 rfl;have e_2:=((H17.out.stays bb)).far 2 rfl;have e_3:=((H17.out.stays bb)).far 3 rfl;have BU:=qh bu;clear bu))
 all_goals
  have hbu:Below W17.heap.size W17 U:=by assumption
  first
   |(have hda:=Fr.set3 (Fr.set3 ((H17.out.stays hbu).lit3 n na nb (u:=.slice pn n.kids.length cn) (v:=(.slice pu_1 na.kids.length cu_1)) (x:=(.slice pu_2 nb.kids.length cu_2)) (by simp[show qj.kids=[] from rfl]) (by simp[show qj.kids=[] from rfl]) (by simp[show qj.kids=[] from rfl])) 2 rfl (x:=.slice q L.length c) (y:=.int .i64 (at9:Int)) (z:=.bool bad9)) 3 rfl (x:=.int .i64 19) (y:=.string dot) (z:=(.slice (some ⟨U.heap.size,0,none⟩) 3 3));obtain⟨Wf,hW,hf⟩:=qd hda;rewrite[←hW];(try simp only[nn] at hf);clear hW;clear hda)
   |(have hda:=Fr.set3 ((Fr.set3 (H17.out.stays hbu) 2 rfl (x:=.slice q L.length c) (y:=.int .i64 (at9:Int)) (z:=.bool bad9)).lit3S n na nb (u:=.slice pn n.kids.length cn) (v:=(.slice pu_1 na.kids.length cu_1)) (x':=(.slice pu_2 nb.kids.length cu_2)) (by simp[show qj.kids=[] from rfl]) (by simp[show qj.kids=[] from rfl]) (by simp[show qj.kids=[] from rfl])) 3 rfl (x:=.int .i64 19) (y:=.string dot) (z:=(.slice (some ⟨U.heap.size,0,none⟩) 3 3));obtain⟨Wf,hW,hf⟩:=qd hda;rewrite[←hW];(try simp only[nn] at hf);clear hW;clear hda)
   |(have hda:=Fr.set3 (Fr.set3 ((H17.out.lit3 n na nb (u:=.slice pn n.kids.length cn) (v:=(.slice pu_1 na.kids.length cu_1)) (x:=(.slice pu_2 nb.kids.length cu_2)) (by simp[show qj.kids=[] from rfl]) (by simp[show qj.kids=[] from rfl]) (by simp[show qj.kids=[] from rfl])).drew.stays BU.out) 2 rfl (x:=.slice q L.length c) (y:=.int .i64 (at9:Int)) (z:=.bool bad9)) 3 rfl (x:=.int .i64 19) (y:=.string dot) (z:=(.slice (some ⟨W17.heap.size,0,none⟩) 3 3));obtain⟨Wf,hW,hf⟩:=qd hda;rewrite[←hW];(try simp only[nn] at hf);clear hW;clear hda)
   |(have hda:=Fr.set3 (Fr.set3 ((H17.out.drew.lit3 n na nb (u:=.slice pn n.kids.length cn) (v:=(.slice pu_1 na.kids.length cu_1)) (x:=(.slice pu_2 nb.kids.length cu_2)) (by simp[show qj.kids=[] from rfl]) (by simp[show qj.kids=[] from rfl]) (by simp[show qj.kids=[] from rfl])).stays BU.out) 2 rfl (x:=.slice q L.length c) (y:=.int .i64 (at9:Int)) (z:=.bool bad9)) 3 rfl (x:=.int .i64 19) (y:=.string dot) (z:=(.slice (some ⟨W17.heap.size,0,none⟩) 3 3));obtain⟨Wf,hW,hf⟩:=qd hda;rewrite[←hW];(try simp only[nn] at hf);clear hW;clear hda)
  have r0:=And.intro (hf.c3 2 rfl).1 (hf.c3 3 rfl).1
  have HF:=qh (And.intro (Fr.toldW q c L ⟨(at9,bad9),.mk 19 dot [n,na,nb],[],false⟩ hf) (Fr.toldW q c L ⟨(at9,bad9),.mk 19 dot [n,na,nb],[],false⟩ hf.drew))
  clear hf
  (try go_wp2)
  first
   |exact bodyPost_ret (by simp[results,Tryz.results133,go_sem,r0]) rfl HF.out.1
   |exact bodyPost_ret (by simp[results,Tryz.results133,go_sem,r0]) rfl HF.out.2
theorem qig{q:Option Addr}{c:Nat}{L:List PTok}(hl:L.length≤1000000000)(p p1:PSt)(n:qb)(dot:ByteArray)(h1:q7 L p ⟨#[91]⟩=some p1)(p2 p9:PSt)(a:PRes)(ho:opP L p1 ⟨#[93]⟩=false)(hc':opP L p1 ⟨#[58]⟩=false)(ha:qn q c L (.exp p1 1) a)(ho3:opP L a.st ⟨#[93]⟩=false)(h2:q7 L a.st ⟨#[58]⟩=some p2)(hk:a.n.kind≠0)(ho4:opP L p2 ⟨#[93]⟩=true)(h9:q7 L p2 ⟨#[93]⟩=some p9):qn q c L (.within p n dot) ⟨p9,.mk 19 dot [n,a.n,qj],[],false⟩:=by
 intro w S un h hn
 obtain⟨pn,cn,rfl,ln⟩:=hn.shape
 have H0:=qh (qdN w q c L p n S hn)
 have QD1:=qh (fun U hU=>qt q c L p p1 ⟨#[91]⟩ U (h.below hU) h1)
 have QO1:=qh (fun U hU=>qp q c L p1 ⟨#[93]⟩ U (h.below hU))
 (have QO2:=qh (fun U hU=>qp q c L p1 ⟨#[58]⟩ U (h.below hU));have QA:=qh (fun U hU=>qB q c L p1 a ha U (h.below hU));have QO3:=qh (fun U hU=>qp q c L a.st ⟨#[93]⟩ U (h.below hU));rw[ho] at QO1;rw[hc'] at QO2;rw[ho3] at QO3;have QD2:=qh (fun U hU=>qt q c L a.st p2 ⟨#[58]⟩ U (h.below hU) h2);have QO4:=qh (fun U hU=>qp q c L p2 ⟨#[93]⟩ U (h.below hU));rw[ho4] at QO4;have QD3:=qh (fun U hU=>qt q c L p2 p9 ⟨#[93]⟩ U (h.below hU) h9))
 clear h1 h hn ln ho hc' ha ho3 h2 ho4 h9
 obtain⟨at',bad⟩:=p
 obtain⟨at1,bad1⟩:=p1
 obtain⟨at2,bad2⟩:=p2
 obtain⟨at9,bad9⟩:=p9
 obtain⟨⟨ata,bada⟩,na,la,ba⟩:=a
 dsimp only at hk
 have y1:(na.kind==0)=false:=beq_eq_false_iff_ne.2 hk
 have y2:(na.kind=0)=False:=eq_false hk
 clear hk
 go_enter Tryz.func133,Tryz.ntmps133
 go_upto_region 2 with(go_at_call 96;with_reducible refine fx QD1 H0 ?_;clear QD1 H0;intro w1 H1;replace c_a:=(H1.out).ccCCCC)
 obtain⟨W2,hW,H2⟩:=ab3 H1 0 (.slice q L.length c) (.int .i64 (at1:Int)) (.bool bad1) rfl;rewrite[←hW];(try simp only[nn] at H2);clear hW H1
 replace c_a:=(H2.out).ccCCCC
 go_upto_region 6 with(go_at_call 98;with_reducible refine fx QO1 H2 ?_;clear QO1 H2;intro W3 H3;replace c_a:=(H3.out).ccCCCC)
 have h4:=H3.out.nilN.lay2 [.int .i64 0,.string ⟨#[]⟩,.slice none 0 0] 24 [.int .i64 0,.string ⟨#[]⟩,.slice none 0 0] 24
 (try simp only[nn] at h4)
 have H4:=qh h4
 clear h4
 have e_a:=(H3.out).ff4
 clear H3
 replace k_a:=(H4.out).ccCCCCCC
 go_upto_region 8 with(first
  |(go_at_call 98;with_reducible refine fx QO2 H4 ?_;clear QO2 H4;intro W5 H5;replace c_a:=(H5.out).ccCCCCCC)
  |(go_at_call 67;with_reducible refine fm QA H5 ?_;clear QA H5;intro w6 pu_1 cu_1 hj;have e_a:=(hj).ff6;have H6:=hj.layM (q:=q) (c:=c) (L:=L) ata bada na (.slice pu_1 na.kids.length cu_1);(try simp only[nn] at H6);replace c_a:=(H6.out).ccCCCCCCCC;clear hj))
 obtain⟨W7,hW,H7⟩:=fr_w H6;rewrite[←hW];(try simp only[nn] at H7);clear hW H6
 replace c_a:=(H7.out).ccCCCCCCCC
 go_upto_region 9 with(fail)
 obtain⟨W8,hW,H8⟩:=ab3 H7 0 (.slice q L.length c) (.int .i64 (ata:Int)) (.bool bada) rfl;rewrite[←hW];(try simp only[nn] at H8);clear hW H7
 replace c_a:=(H8.out).ccCCCCCCCC
 go_upto_region 10 with(fail)
 obtain⟨W9,hW,H9⟩:=ab3 H8 4 (.int .i64 na.kind) (.string na.text) (.slice pu_1 na.kids.length cu_1) rfl;rewrite[←hW];(try simp only[nn] at H9);clear hW H8
 replace c_a:=(H9.out).ccCCCCCCCC
 go_upto_region 13 with(first
  |(go_at_call 98;with_reducible refine fx QO3 H9 ?_;clear QO3 H9;intro W10 H10;replace c_a:=(H10.out).ccCCCCCCCC)
  |(go_at_call 96;with_reducible refine fx QD2 H10 ?_;clear QD2 H10;intro W11 H11;replace c_a:=(H11.out).ccCCCCCCCC))
 obtain⟨W12,hW,H12⟩:=ab3 H11 0 (.slice q L.length c) (.int .i64 (at2:Int)) (.bool bad2) rfl;rewrite[←hW];(try simp only[nn] at H12);clear hW H11
 replace c_a:=(H12.out).ccCCCCCCCC
 go_upto_region 17 with(go_at_call 98;with_reducible refine fx QO4 H12 ?_;clear QO4 H12;intro W13 H13;replace c_a:=(H13.out).ccCCCCCCCC)
 have QD9:=qh (fun U (hU:Below W13.heap.size W13 U)=>QD3.out U (H13.out.low.trans (hU.mono H13.out.low.size)))
 have ka:=fun U o (hU:Below W13.heap.size W13 U)=>(Fr.skip (H13.out.stays hU) o).c3 2 rfl
 have kb:=fun U o (hU:Below W13.heap.size W13 U)=>(Fr.skip (H13.out.stays hU) o).c3 3 rfl
 have kc:=fun U x y z o (hU:Below W13.heap.size W13 U)=>(Fr.skip (Fr.set3 (x:=x) (y:=y) (z:=z) (H13.out.stays hU) 2 rfl) o).c3 3 rfl
 have ka1:=fun U o hU=>(ka U o hU).1.1
 have ka2:=fun U o hU=>(ka U o hU).1.2.1
 have ka3:=fun U o hU=>(ka U o hU).1.2.2
 have ka4:=fun U o hU=>(ka U o hU).2.1
 have ka5:=fun U o hU=>(ka U o hU).2.2.1
 have ka6:=fun U o hU=>(ka U o hU).2.2.2
 have kb1:=fun U o hU=>(kb U o hU).1.1
 have kb2:=fun U o hU=>(kb U o hU).1.2.1
 have kb3:=fun U o hU=>(kb U o hU).1.2.2
 have kb4:=fun U o hU=>(kb U o hU).2.1
 have kb5:=fun U o hU=>(kb U o hU).2.2.1
 have kb6:=fun U o hU=>(kb U o hU).2.2.2
 have kc1:=fun U x y z o hU=>(kc U x y z o hU).1.1
 have kc2:=fun U x y z o hU=>(kc U x y z o hU).1.2.1
 have kc3:=fun U x y z o hU=>(kc U x y z o hU).1.2.2
 have kc4:=fun U x y z o hU=>(kc U x y z o hU).2.1
 have kc5:=fun U x y z o hU=>(kc U x y z o hU).2.2.1
 have kc6:=fun U x y z o hU=>(kc U x y z o hU).2.2.2
 clear ka kb kc
 obtain⟨u1,u2,u3,u4,u5,u6,u7,hb0,hb1⟩:=Fr.held (S:=(fun w'=>B1 (w.heap.size) ((.slice q L.length c)) ((.int .i64 (at2:Int))) ((.bool bad2)) w'∧B1 (w.heap.size+1) ((.int .i64 n.kind)) ((.string n.text)) ((.slice pn n.kids.length cn)) w'∧B1 (W3.heap.size) ((.int .i64 na.kind)) ((.string na.text)) ((.slice pu_1 na.kids.length cu_1)) w'∧B1 (W3.heap.size+1) ((.int .i64 qj.kind)) ((.string qj.text)) ((.slice none 0 0)) w')) H13.out 2 3 (fun U bs' h e=>⟨((h).c3 0 (e 0 rfl)).1,((h).c3 1 (e 1 rfl)).1,((h).c3 4 (e 4 rfl)).1,((h).c3 5 (e 5 rfl)).1⟩) rfl rfl
 go_region_held3 ((fun w'=>B1 (w.heap.size) ((.slice q L.length c)) ((.int .i64 (at2:Int))) ((.bool bad2)) w'∧B1 (w.heap.size+1) ((.int .i64 n.kind)) ((.string n.text)) ((.slice pn n.kids.length cn)) w'∧B1 (W3.heap.size) ((.int .i64 na.kind)) ((.string na.text)) ((.slice pu_1 na.kids.length cu_1)) w'∧B1 (W3.heap.size+1) ((.int .i64 qj.kind)) ((.string qj.text)) ((.slice none 0 0)) w'))
  (with_reducible first|exact HS4.out|exact HS5.out _|assumption|(first|apply u7.out|apply u4.out|apply u5.out|apply u6.out|apply u3.out|apply u2.out|apply u1.out);(with_reducible first|exact hb0|assumption|exact hb1 _|exact qc hb0 _|exact qc (by assumption) _))
  (first|(go_at_call 96;with_reducible refine(QD9.out _ (by(with_reducible first|exact hb0|assumption|exact hb1 _|exact qc hb0 _|exact qc (by assumption) _))).mono ?_;rintro _ U ⟨rfl,bu⟩;have bb:Below W13.heap.size W13 U:=Below.trans (by(with_reducible first|exact hb0|assumption|exact hb1 _|exact qc hb0 _|exact qc (by assumption) _)) (bu.mono (Below.size (show Below W13.heap.size W13 _ by(with_reducible first|exact hb0|assumption|exact hb1 _|exact qc hb0 _|exact qc (by assumption) _))));replace c_2:=((H13.out.stays bb)).c3 2 rfl;replace c_3:=((H13.out.stays bb)).c3 3 rfl;have e_2:=((H13.out.stays bb)).far 2 rfl;have e_3:=((H13.out.stays bb)).far 3 rfl;have BU:=qh bu;clear bu))
 all_goals
  have hbu:Below W13.heap.size W13 U:=by assumption
  first
   |(have hda:=Fr.set3 (Fr.set3 ((H13.out.stays hbu).lit3 n na qj (u:=.slice pn n.kids.length cn) (v:=(.slice pu_1 na.kids.length cu_1)) (x:=(.slice none 0 0)) (by simp[show qj.kids=[] from rfl]) (by simp[show qj.kids=[] from rfl]) (by simp[show qj.kids=[] from rfl])) 2 rfl (x:=.slice q L.length c) (y:=.int .i64 (at9:Int)) (z:=.bool bad9)) 3 rfl (x:=.int .i64 19) (y:=.string dot) (z:=(.slice (some ⟨U.heap.size,0,none⟩) 3 3));obtain⟨Wf,hW,hf⟩:=qd hda;rewrite[←hW];(try simp only[nn] at hf);clear hW;clear hda)
   |(have hda:=Fr.set3 ((Fr.set3 (H13.out.stays hbu) 2 rfl (x:=.slice q L.length c) (y:=.int .i64 (at9:Int)) (z:=.bool bad9)).lit3S n na qj (u:=.slice pn n.kids.length cn) (v:=(.slice pu_1 na.kids.length cu_1)) (x':=(.slice none 0 0)) (by simp[show qj.kids=[] from rfl]) (by simp[show qj.kids=[] from rfl]) (by simp[show qj.kids=[] from rfl])) 3 rfl (x:=.int .i64 19) (y:=.string dot) (z:=(.slice (some ⟨U.heap.size,0,none⟩) 3 3));obtain⟨Wf,hW,hf⟩:=qd hda;rewrite[←hW];(try simp only[nn] at hf);clear hW;clear hda)
   |(have hda:=Fr.set3 (Fr.set3 ((H13.out.lit3 n na qj (u:=.slice pn n.kids.length cn) (v:=(.slice pu_1 na.kids.length cu_1)) (x:=(.slice none 0 0)) (by simp[show qj.kids=[] from rfl]) (by simp[show qj.kids=[] from rfl]) (by simp[show qj.kids=[] from rfl])).drew.stays BU.out) 2 rfl (x:=.slice q L.length c) (y:=.int .i64 (at9:Int)) (z:=.bool bad9)) 3 rfl (x:=.int .i64 19) (y:=.string dot) (z:=(.slice (some ⟨W13.heap.size,0,none⟩) 3 3));obtain⟨Wf,hW,hf⟩:=qd hda;rewrite[←hW];(try simp only[nn] at hf);clear hW;clear hda)
   |(have hda:=Fr.set3 (Fr.set3 ((H13.out.drew.lit3 n na qj (u:=.slice pn n.kids.length cn) (v:=(.slice pu_1 na.kids.length cu_1)) (x:=(.slice none 0 0)) (by simp[show qj.kids=[] from rfl]) (by simp[show qj.kids=[] from rfl]) (by simp[show qj.kids=[] from rfl])).stays BU.out) 2 rfl (x:=.slice q L.length c) (y:=.int .i64 (at9:Int)) (z:=.bool bad9)) 3 rfl (x:=.int .i64 19) (y:=.string dot) (z:=(.slice (some ⟨W13.heap.size,0,none⟩) 3 3));obtain⟨Wf,hW,hf⟩:=qd hda;rewrite[←hW];(try simp only[nn] at hf);clear hW;clear hda)
  have r0:=And.intro (hf.c3 2 rfl).1 (hf.c3 3 rfl).1
  have HF:=qh (And.intro (Fr.toldW q c L ⟨(at9,bad9),.mk 19 dot [n,na,qj],[],false⟩ hf) (Fr.toldW q c L ⟨(at9,bad9),.mk 19 dot [n,na,qj],[],false⟩ hf.drew))
  clear hf
  (try go_wp2)
  first
   |exact bodyPost_ret (by simp[results,Tryz.results133,go_sem,r0]) rfl HF.out.1
   |exact bodyPost_ret (by simp[results,Tryz.results133,go_sem,r0]) rfl HF.out.2
theorem qjs{R:POps}{q:Option Addr}{c:Nat}{L:List PTok}{f:Nat}(ih:PAll R q c L (f+1))(hl:L.length≤1000000000)(p:PSt)(n:qb)(dot:ByteArray)(r:PRes)(hr:runP R L (f+1) (.within p n dot)=some r):qn q c L (.within p n dot) r:=by
 rw[runP] at hr
 have gi:=fun cm a (h:runP R L f cm=some a)=>ih f (Nat.lt_succ_self f) cm a h
 obtain⟨p1,h1,hr⟩:=Option.bind_eq_some_iff.1 hr
 by_cases ho:opP L p1 ⟨#[93]⟩=true
 ·rw[if_pos ho] at hr
  obtain⟨p2,h2,hr⟩:=Option.bind_eq_some_iff.1 hr
  cases hr
  exact qiK hl p p1 n dot h1 p2 ho h2
 ·rw[if_neg ho] at hr
  have ho':opP L p1 ⟨#[93]⟩=false:=by simpa using ho
  by_cases hc':opP L p1 ⟨#[58]⟩=true
  ·rw[if_pos hc'] at hr
   obtain⟨p2,h2,hr⟩:=Option.bind_eq_some_iff.1 hr
   obtain⟨a,ha,hr⟩:=Option.bind_eq_some_iff.1 hr
   obtain⟨p9,h9,hr⟩:=Option.bind_eq_some_iff.1 hr
   cases hr
   exact qlk hl p p1 n dot h1 p2 p9 a ho' hc' h2 (gi _ _ ha) h9
  ·rw[if_neg hc'] at hr
   have hc2:opP L p1 ⟨#[58]⟩=false:=by simpa using hc'
   obtain⟨a,ha,hr⟩:=Option.bind_eq_some_iff.1 hr
   by_cases ho3:opP L a.st ⟨#[93]⟩=true
   ·rw[if_pos ho3] at hr
    obtain⟨p2,h2,hr⟩:=Option.bind_eq_some_iff.1 hr
    cases hr
    exact qjO hl p p1 n dot h1 p2 a ho' hc2 (gi _ _ ha) ho3 h2
   ·rw[if_neg ho3] at hr
    have ho3':opP L a.st ⟨#[93]⟩=false:=by simpa using ho3
    obtain⟨p2,h2,hr⟩:=Option.bind_eq_some_iff.1 hr
    by_cases hk:a.n.kind=0∨opP L p2 ⟨#[93]⟩=false
    ·rw[if_pos hk] at hr
     obtain⟨b,hb,hr⟩:=Option.bind_eq_some_iff.1 hr
     obtain⟨p9,h9,hr⟩:=Option.bind_eq_some_iff.1 hr
     cases hr
     by_cases hk0:a.n.kind=0
     ·exact qio hl p p1 n dot h1 p2 p9 a b ho' hc2 (gi _ _ ha) ho3' h2 hk0 (gi _ _ hb) h9
     ·exact qhI hl p p1 n dot h1 p2 p9 a b ho' hc2 (gi _ _ ha) ho3' h2 hk0 (hk.resolve_left hk0) (gi _ _ hb) h9
    ·rw[if_neg hk] at hr
     obtain⟨p9,h9,hr⟩:=Option.bind_eq_some_iff.1 hr
     cases hr
     exact qig hl p p1 n dot h1 p2 p9 a ho' hc2 (gi _ _ ha) ho3' h2 (fun e=>hk (.inl e)) (by
      have:¬opP L p2 ⟨#[93]⟩=false:=fun e=>hk (.inr e)
      simpa using this) h9
structure IO1(w W:World)(q:Option Addr)(c:Nat)(L:List PTok)(p:PSt):Prop where
 low:Below w.heap.size w W
 inn:PBox W w.heap.size q c L p
 outN:TBox W (w.heap.size+1) 24 (.int .i64 0) (.string ⟨#[]⟩) (.slice none 0 0)
theorem IO1.stays{w W U:World}{q:Option Addr}{c:Nat}{L:List PTok}{p:PSt}(h:IO1 w W q c L p)(hb:Below W.heap.size W U):IO1 w U q c L p:=⟨h.low.trans (hb.mono h.low.size),h.inn.stays hb,h.outN.stays hb⟩
theorem io1_new(w:World)(q:Option Addr)(c:Nat)(L:List PTok)(p:PSt):IO1 w ((w.alloc (.cells #[.slice q L.length c,.int .i64 (p.1:Int),.bool p.2] 78)).alloc (.cells #[.int .i64 0,.string ⟨#[]⟩,.slice none 0 0] 24)) q c L p:=by
 have h2:=qcn (w.alloc (.cells #[.slice q L.length c,.int .i64 (p.1:Int),.bool p.2] 78)) 24 (.int .i64 0) (.string ⟨#[]⟩) (.slice none 0 0)
 rw[World.size_alloc] at h2
 exact⟨((Below.refl _ w).alloc (Nat.le_refl _) _).alloc (by simp) _,(qen w q c L p).stays ((Below.refl _ _).alloc (Nat.le_refl _) _),h2⟩
def leafN?(o:Option qb):qb:=o.getD qj
theorem qaN(q:Option Addr)(c:Nat)(L:List PTok)(p:PSt)(o:Option qb)(w:World)(h:PRow w q L)(hr:qbl L p=some o):
  Calls Tryz.prog 137 #[pV q c L p] w fun e w'=>e=.returned (.tuple #[.agg #[.int .i64 (leafN? o).kind,.string (leafN? o).text,.slice none 0 0],.bool o.isSome])∧Below w.heap.size w w':=by
 have QT:=qh (fun U hU=>qu q c L p U (h.below hU))
 have QO:=qh (fun U hU=>qp q c L p ⟨#[46,46]⟩ U (h.below hU))
 have H0:=qh (io1_new w q c L p)
 unfold qbl qbq at hr
 have hop:opP L p ⟨#[46,46]⟩=true→(tokP L p).1=13:=fun h=>by unfold opP at h;simp at h;exact h.1
 generalize opP L p ⟨#[46,46]⟩=bo at*
 generalize tokP L p=t at*
 obtain⟨tk,tt⟩:=t
 dsimp only at hr QT hop
 obtain⟨at',bad⟩:=p
 clear h
 by_cases k4:tk=4
 ·subst k4
  rw[if_pos rfl] at hr
  have hs:1≤tt.size:=by
   by_cases hs:1≤tt.size
   ·exact hs
   ·rw[if_neg hs] at hr;cases hr
  rw[if_pos hs] at hr
  have er:o=some (.mk 3 (cutB tt 1) []):=(Option.some.inj hr).symm
  subst er
  have hcut:=qb3 tt 1
  have u2:(1:Int)≤(tt.size:Int):=by omega
  clear hr hop
  go_enter Tryz.func137,Tryz.ntmps137
  go_wp2_with(first
   |(go_at_call 93;with_reducible refine(QT.out _ H0.out.low).mono ?_;rintro e w1 ⟨rfl,hb⟩;have hz:=H0.out.low.size;have hz2:=hb.size;have hz3:=H0.out.outN.lt;have al:=(Below.refl w1.heap.size w1).alloc (Nat.le_refl _) (.cells #[.int .i64 4,.string tt] 60);have H1:=qh ((H0.out.stays hb).stays al);have tn:=World.alloc_heap_new w1 (.cells #[.int .i64 4,.string tt] 60);have c0:(w1.alloc (.cells #[.int .i64 4,.string tt] 60)).cell? ⟨w1.heap.size,0,none⟩=some (.int .i64 4):=qa tn rfl;have c1:(w1.alloc (.cells #[.int .i64 4,.string tt] 60)).cell? ⟨w1.heap.size,1,none⟩=some (.string tt):=qa tn rfl;(try clear x0 x1 x2 n0 n1 n2 g0 g1 g2);obtain⟨x0,x1,x2⟩:=(H1.out).inn.cells;obtain⟨n0,n1,n2⟩:=(H1.out).outN.cells;obtain⟨g0,g1,g2⟩:=(H1.out).outN.free;clear hb al tn)
   |(go_at_call 98;with_reducible refine(QO.out _ H1.out.low).mono ?_;rintro e w2 ⟨rfl,hb⟩;have H2:=qh (H1.out.stays hb);(try clear x0 x1 x2 n0 n1 n2 g0 g1 g2);obtain⟨x0,x1,x2⟩:=(H2.out).inn.cells;obtain⟨n0,n1,n2⟩:=(H2.out).outN.cells;obtain⟨g0,g1,g2⟩:=(H2.out).outN.free;clear hb))
  have hp:=H1.out.outN.put (.int .i64 3) (.string (cutB tt 1)) (.slice none 0 0)
  have hb:=put3 (B:=w.heap.size+1) H1.out.low (Nat.le_succ _) (.int .i64 3) (.string (cutB tt 1)) (.slice none 0 0)
  generalize ((((w1.alloc (.cells #[.int .i64 4,.string tt] 60)).setCell ⟨w.heap.size+1,0,none⟩ (.int .i64 3)).setCell ⟨w.heap.size+1,1,none⟩ (.string (cutB tt 1))).setCell ⟨w.heap.size+1,2,none⟩ (.slice none 0 0))=Wf at hp hb⊢
  obtain⟨r0,r1,r2⟩:=hp.cells
  exact bodyPost_ret (v:=.tuple #[.agg #[.int .i64 3,.string (cutB tt 1),.slice none 0 0],.bool true]) (by simp[results,Tryz.results137,go_sem,r0,r1,r2]) rfl ⟨rfl,hb⟩
 ·have y4:(tk==4)=false:=beq_eq_false_iff_ne.2 k4
  have y4':(tk=4)=False:=eq_false k4
  rw[if_neg k4] at hr
  by_cases k5:tk=5
  ·subst k5
   rw[if_pos rfl] at hr
   have hs:1≤tt.size:=by
    by_cases hs:1≤tt.size
    ·exact hs
    ·rw[if_neg hs] at hr;cases hr
   rw[if_pos hs] at hr
   have er:o=some (.mk 4 (cutB tt 1) []):=(Option.some.inj hr).symm
   subst er
   have hcut:=qb3 tt 1
   have u2:(1:Int)≤(tt.size:Int):=by omega
   clear hr hop
   go_enter Tryz.func137,Tryz.ntmps137
   go_wp2_with(first
    |(go_at_call 93;with_reducible refine(QT.out _ H0.out.low).mono ?_;rintro e w1 ⟨rfl,hb⟩;have hz:=H0.out.low.size;have hz2:=hb.size;have hz3:=H0.out.outN.lt;have al:=(Below.refl w1.heap.size w1).alloc (Nat.le_refl _) (.cells #[.int .i64 5,.string tt] 60);have H1:=qh ((H0.out.stays hb).stays al);have tn:=World.alloc_heap_new w1 (.cells #[.int .i64 5,.string tt] 60);have c0:(w1.alloc (.cells #[.int .i64 5,.string tt] 60)).cell? ⟨w1.heap.size,0,none⟩=some (.int .i64 5):=qa tn rfl;have c1:(w1.alloc (.cells #[.int .i64 5,.string tt] 60)).cell? ⟨w1.heap.size,1,none⟩=some (.string tt):=qa tn rfl;(try clear x0 x1 x2 n0 n1 n2 g0 g1 g2);obtain⟨x0,x1,x2⟩:=(H1.out).inn.cells;obtain⟨n0,n1,n2⟩:=(H1.out).outN.cells;obtain⟨g0,g1,g2⟩:=(H1.out).outN.free;clear hb al tn)
    |(go_at_call 98;with_reducible refine(QO.out _ H1.out.low).mono ?_;rintro e w2 ⟨rfl,hb⟩;have H2:=qh (H1.out.stays hb);(try clear x0 x1 x2 n0 n1 n2 g0 g1 g2);obtain⟨x0,x1,x2⟩:=(H2.out).inn.cells;obtain⟨n0,n1,n2⟩:=(H2.out).outN.cells;obtain⟨g0,g1,g2⟩:=(H2.out).outN.free;clear hb))
   have hp:=H1.out.outN.put (.int .i64 4) (.string (cutB tt 1)) (.slice none 0 0)
   have hb:=put3 (B:=w.heap.size+1) H1.out.low (Nat.le_succ _) (.int .i64 4) (.string (cutB tt 1)) (.slice none 0 0)
   generalize ((((w1.alloc (.cells #[.int .i64 5,.string tt] 60)).setCell ⟨w.heap.size+1,0,none⟩ (.int .i64 4)).setCell ⟨w.heap.size+1,1,none⟩ (.string (cutB tt 1))).setCell ⟨w.heap.size+1,2,none⟩ (.slice none 0 0))=Wf at hp hb⊢
   obtain⟨r0,r1,r2⟩:=hp.cells
   exact bodyPost_ret (v:=.tuple #[.agg #[.int .i64 4,.string (cutB tt 1),.slice none 0 0],.bool true]) (by simp[results,Tryz.results137,go_sem,r0,r1,r2]) rfl ⟨rfl,hb⟩
  ·have y5:(tk==5)=false:=beq_eq_false_iff_ne.2 k5
   have y5':(tk=5)=False:=eq_false k5
   rw[if_neg k5] at hr
   by_cases k6:tk=6
   ·subst k6
    rw[if_pos rfl] at hr
    have er:o=some (.mk 5 tt []):=(Option.some.inj hr).symm
    subst er
    clear hr hop
    go_enter Tryz.func137,Tryz.ntmps137
    go_wp2_with(first
     |(go_at_call 93;with_reducible refine(QT.out _ H0.out.low).mono ?_;rintro e w1 ⟨rfl,hb⟩;have hz:=H0.out.low.size;have hz2:=hb.size;have hz3:=H0.out.outN.lt;have al:=(Below.refl w1.heap.size w1).alloc (Nat.le_refl _) (.cells #[.int .i64 6,.string tt] 60);have H1:=qh ((H0.out.stays hb).stays al);have tn:=World.alloc_heap_new w1 (.cells #[.int .i64 6,.string tt] 60);have c0:(w1.alloc (.cells #[.int .i64 6,.string tt] 60)).cell? ⟨w1.heap.size,0,none⟩=some (.int .i64 6):=qa tn rfl;have c1:(w1.alloc (.cells #[.int .i64 6,.string tt] 60)).cell? ⟨w1.heap.size,1,none⟩=some (.string tt):=qa tn rfl;(try clear x0 x1 x2 n0 n1 n2 g0 g1 g2);obtain⟨x0,x1,x2⟩:=(H1.out).inn.cells;obtain⟨n0,n1,n2⟩:=(H1.out).outN.cells;obtain⟨g0,g1,g2⟩:=(H1.out).outN.free;clear hb al tn)
     |(go_at_call 98;with_reducible refine(QO.out _ H1.out.low).mono ?_;rintro e w2 ⟨rfl,hb⟩;have H2:=qh (H1.out.stays hb);(try clear x0 x1 x2 n0 n1 n2 g0 g1 g2);obtain⟨x0,x1,x2⟩:=(H2.out).inn.cells;obtain⟨n0,n1,n2⟩:=(H2.out).outN.cells;obtain⟨g0,g1,g2⟩:=(H2.out).outN.free;clear hb))
    have hp:=H1.out.outN.put (.int .i64 5) (.string tt) (.slice none 0 0)
    have hb:=put3 (B:=w.heap.size+1) H1.out.low (Nat.le_succ _) (.int .i64 5) (.string tt) (.slice none 0 0)
    generalize ((((w1.alloc (.cells #[.int .i64 6,.string tt] 60)).setCell ⟨w.heap.size+1,0,none⟩ (.int .i64 5)).setCell ⟨w.heap.size+1,1,none⟩ (.string tt)).setCell ⟨w.heap.size+1,2,none⟩ (.slice none 0 0))=Wf at hp hb⊢
    obtain⟨r0,r1,r2⟩:=hp.cells
    exact bodyPost_ret (v:=.tuple #[.agg #[.int .i64 5,.string tt,.slice none 0 0],.bool true]) (by simp[results,Tryz.results137,go_sem,r0,r1,r2]) rfl ⟨rfl,hb⟩
   ·have y6:(tk==6)=false:=beq_eq_false_iff_ne.2 k6
    have y6':(tk=6)=False:=eq_false k6
    rw[if_neg k6] at hr
    cases bo with
    |true=>
     have er:o=some (.mk 2 ⟨#[]⟩ []):=by simpa using hr.symm
     subst er
     clear hr hop
     go_enter Tryz.func137,Tryz.ntmps137
     go_wp2_with(first
      |(go_at_call 93;with_reducible refine(QT.out _ H0.out.low).mono ?_;rintro e w1 ⟨rfl,hb⟩;have hz:=H0.out.low.size;have hz2:=hb.size;have hz3:=H0.out.outN.lt;have al:=(Below.refl w1.heap.size w1).alloc (Nat.le_refl _) (.cells #[.int .i64 tk,.string tt] 60);have H1:=qh ((H0.out.stays hb).stays al);have tn:=World.alloc_heap_new w1 (.cells #[.int .i64 tk,.string tt] 60);have c0:(w1.alloc (.cells #[.int .i64 tk,.string tt] 60)).cell? ⟨w1.heap.size,0,none⟩=some (.int .i64 tk):=qa tn rfl;have c1:(w1.alloc (.cells #[.int .i64 tk,.string tt] 60)).cell? ⟨w1.heap.size,1,none⟩=some (.string tt):=qa tn rfl;(try clear x0 x1 x2 n0 n1 n2 g0 g1 g2);obtain⟨x0,x1,x2⟩:=(H1.out).inn.cells;obtain⟨n0,n1,n2⟩:=(H1.out).outN.cells;obtain⟨g0,g1,g2⟩:=(H1.out).outN.free;clear hb al tn)
      |(go_at_call 98;with_reducible refine(QO.out _ H1.out.low).mono ?_;rintro e w2 ⟨rfl,hb⟩;have H2:=qh (H1.out.stays hb);(try clear x0 x1 x2 n0 n1 n2 g0 g1 g2);obtain⟨x0,x1,x2⟩:=(H2.out).inn.cells;obtain⟨n0,n1,n2⟩:=(H2.out).outN.cells;obtain⟨g0,g1,g2⟩:=(H2.out).outN.free;clear hb))
     have hp:=H2.out.outN.put (.int .i64 2) (.string ⟨#[]⟩) (.slice none 0 0)
     have hb:=put3 (B:=w.heap.size+1) H2.out.low (Nat.le_succ _) (.int .i64 2) (.string ⟨#[]⟩) (.slice none 0 0)
     generalize (((w2.setCell ⟨w.heap.size+1,0,none⟩ (.int .i64 2)).setCell ⟨w.heap.size+1,1,none⟩ (.string ⟨#[]⟩)).setCell ⟨w.heap.size+1,2,none⟩ (.slice none 0 0))=Wf at hp hb⊢
     obtain⟨r0,r1,r2⟩:=hp.cells
     exact bodyPost_ret (v:=.tuple #[.agg #[.int .i64 2,.string ⟨#[]⟩,.slice none 0 0],.bool true]) (by simp[results,Tryz.results137,go_sem,r0,r1,r2]) rfl ⟨rfl,hb⟩
    |false=>
     have er:o=none:=by simpa using hr.symm
     subst er
     clear hr hop
     go_enter Tryz.func137,Tryz.ntmps137
     go_wp2_with(first
      |(go_at_call 93;with_reducible refine(QT.out _ H0.out.low).mono ?_;rintro e w1 ⟨rfl,hb⟩;have hz:=H0.out.low.size;have hz2:=hb.size;have hz3:=H0.out.outN.lt;have al:=(Below.refl w1.heap.size w1).alloc (Nat.le_refl _) (.cells #[.int .i64 tk,.string tt] 60);have H1:=qh ((H0.out.stays hb).stays al);have tn:=World.alloc_heap_new w1 (.cells #[.int .i64 tk,.string tt] 60);have c0:(w1.alloc (.cells #[.int .i64 tk,.string tt] 60)).cell? ⟨w1.heap.size,0,none⟩=some (.int .i64 tk):=qa tn rfl;have c1:(w1.alloc (.cells #[.int .i64 tk,.string tt] 60)).cell? ⟨w1.heap.size,1,none⟩=some (.string tt):=qa tn rfl;(try clear x0 x1 x2 n0 n1 n2 g0 g1 g2);obtain⟨x0,x1,x2⟩:=(H1.out).inn.cells;obtain⟨n0,n1,n2⟩:=(H1.out).outN.cells;obtain⟨g0,g1,g2⟩:=(H1.out).outN.free;clear hb al tn)
      |(go_at_call 98;with_reducible refine(QO.out _ H1.out.low).mono ?_;rintro e w2 ⟨rfl,hb⟩;have H2:=qh (H1.out.stays hb);(try clear x0 x1 x2 n0 n1 n2 g0 g1 g2);obtain⟨x0,x1,x2⟩:=(H2.out).inn.cells;obtain⟨n0,n1,n2⟩:=(H2.out).outN.cells;obtain⟨g0,g1,g2⟩:=(H2.out).outN.free;clear hb))
     have hp:=H2.out.outN.put (.int .i64 0) (.string ⟨#[]⟩) (.slice none 0 0)
     have hb:=put3 (B:=w.heap.size+1) H2.out.low (Nat.le_succ _) (.int .i64 0) (.string ⟨#[]⟩) (.slice none 0 0)
     generalize (((w2.setCell ⟨w.heap.size+1,0,none⟩ (.int .i64 0)).setCell ⟨w.heap.size+1,1,none⟩ (.string ⟨#[]⟩)).setCell ⟨w.heap.size+1,2,none⟩ (.slice none 0 0))=Wf at hp hb⊢
     obtain⟨r0,r1,r2⟩:=hp.cells
     exact bodyPost_ret (v:=.tuple #[.agg #[.int .i64 0,.string ⟨#[]⟩,.slice none 0 0],.bool false]) (by simp[results,Tryz.results137,go_sem,r0,r1,r2]) rfl ⟨rfl,hb⟩
theorem qlt{L:List PTok}{p:PSt}{n:qb}(h:qbl L p=some (some n)):n.kids=[]:=by
 unfold qbl qbq at h
 split at h
 ·split at h
  ·simp at h;subst h;rfl
  ·cases h
 ·split at h
  ·split at h
   ·simp at h;subst h;rfl
   ·cases h
  ·split at h
   ·simp at h;subst h;rfl
   ·split at h
    ·simp at h;subst h;rfl
    ·simp at h
theorem qlr{q:Option Addr}{c:Nat}{L:List PTok}(hl:L.length≤1000000000)(p:PSt)(p1:PSt)(n:qb)(hlf:qbl L p=some (some n))(hp1:qs L p=some p1):qn q c L (.term p) ⟨p1,n,[],false⟩:=by
 intro w h
 have H0:=qh (qD w q c L p)
 (have QL:Hid (∀U,Below w.heap.size w U→Calls Tryz.prog 137 #[pV q c L p] U fun e w'=>e=.returned (.tuple #[.agg #[.int .i64 n.kind,.string n.text,.slice none 0 0],.bool true])∧Below U.heap.size U w'):=qh (fun U hU=>qaN q c L p (some n) U (h.below hU) hlf);have QN:=qh (fun U=>qq q c L p p1 U hl hp1);have hk:=qh (qlt hlf))
 clear h hlf hp1
 obtain⟨at',bad⟩:=p
 obtain⟨at1,bad1⟩:=p1
 go_enter Tryz.func132,Tryz.ntmps132
 go_upto_region 3 with(go_at_call 137;go_loud((with_reducible refine(QL.out _ H0.out.low).mono ?_);rintro e w1 ⟨rfl,hb⟩;have hj:=H0.out.stays hb;have e_a:=(hj).ff3;have hm:=hj.nilN.lay [.int .i64 n.kind,.string n.text,.slice none 0 0] 24;(try simp only[nn] at hm);have H1:=qh hm;replace c_a:=(H1.out).ccCCCC;clear hj hb hm;(try clear H0);(try clear QL)))
 obtain⟨W2,hW,H2⟩:=fr_w H1;rewrite[←hW];(try simp only[nn] at H2);clear hW H1
 replace c_a:=(H2.out).ccCCCC
 obtain⟨u1,u2,u3,u4,u5,u6,u7,hb0,hb1⟩:=Fr.held (S:=(fun w'=>B1 (w.heap.size) ((.slice q L.length c)) ((.int .i64 (at':Int))) ((.bool bad)) w'∧B1 (w1.heap.size) ((.int .i64 n.kind)) ((.string n.text)) ((.slice none 0 0)) w')) H2.out 1 2 (fun U bs' h e=>⟨((h).c3 0 (e 0 rfl)).1,((h).c3 3 (e 3 rfl)).1⟩) rfl rfl
 go_region_held3 ((fun w'=>B1 (w.heap.size) ((.slice q L.length c)) ((.int .i64 (at':Int))) ((.bool bad)) w'∧B1 (w1.heap.size) ((.int .i64 n.kind)) ((.string n.text)) ((.slice none 0 0)) w'))
  (with_reducible first|exact HS4.out|exact HS5.out _|assumption|(first|apply u7.out|apply u4.out|apply u5.out|apply u6.out|apply u3.out|apply u2.out|apply u1.out);(with_reducible first|exact hb0|assumption|exact hb1 _|exact qc hb0 _|exact qc (by assumption) _))
  (first|(go_at_call 94;with_reducible refine(QN.out _).mono ?_;rintro _ U ⟨rfl,bu⟩;have bb:Below W2.heap.size W2 U:=Below.trans (by(with_reducible first|exact hb0|assumption|exact hb1 _|exact qc hb0 _|exact qc (by assumption) _)) (bu.mono (Below.size (show Below W2.heap.size W2 _ by(with_reducible first|exact hb0|assumption|exact hb1 _|exact qc hb0 _|exact qc (by assumption) _))));replace c_a:=((H2.out.stays bb)).cc3;have e_1:=((H2.out.stays bb)).far 1 rfl;have e_2:=((H2.out.stays bb)).far 2 rfl;have BU:=qh bu;clear bu))
 all_goals
  have hbu:Below W2.heap.size W2 U:=by assumption
  have HU:=qh (H2.out.stays hbu)
  obtain⟨Wf,hA,hB,hf⟩:=sets HU 1 2 q c L at1 bad1 n.kind n.text (.slice none 0 0) rfl rfl
  first|rewrite[←hA]|rewrite[←hB]
  (try simp only[nn] at hf);clear hA hB
  rw[show qk (.slice none 0 0) []=qk (.slice none 0 0) n.kids by rw[hk.out]] at hf
  have r0:=And.intro (hf.c3 1 rfl).1 (hf.c3 2 rfl).1
  have HF:=qh (And.intro (Fr.toldH q c L ⟨(at1,bad1),n,[],false⟩ hf) (Fr.toldH q c L ⟨(at1,bad1),n,[],false⟩ hf.drew))
  clear hf
  (try go_wp2)
  first
   |exact bodyPost_ret (by simp[results,Tryz.results132,go_sem,r0]) rfl HF.out.1
   |exact bodyPost_ret (by simp[results,Tryz.results132,go_sem,r0]) rfl HF.out.2
theorem qm2{q:Option Addr}{c:Nat}{L:List PTok}(hl:L.length≤1000000000)(p:PSt)(p1:PSt)(hlf:qbl L p=some none)(ho:opP L p ⟨#[46]⟩=true)(hp1:qs L p=some p1)(h7:(tokP L p1).1≠7∧(tokP L p1).1≠12):qn q c L (.term p) ⟨p1,.mk 1 ⟨#[]⟩ [],[],false⟩:=by
 intro w h
 have H0:=qh (qD w q c L p)
 (have QL:Hid (∀U,Below w.heap.size w U→Calls Tryz.prog 137 #[pV q c L p] U fun e w'=>e=.returned (.tuple #[.agg #[.int .i64 0,.string ⟨#[]⟩,.slice none 0 0],.bool false])∧Below U.heap.size U w'):=qh (fun U hU=>qaN q c L p none U (h.below hU) hlf);have QT:=qh (fun U hU=>qu q c L p U (h.below hU));have QO:=qh (fun U hU=>qp q c L p ⟨#[46]⟩ U (h.below hU));have QN:=qh (fun U (hU:Below w.heap.size w U)=>qq q c L p p1 U hl hp1);rw[ho] at QO;have QT2:=qh (fun U hU=>qu q c L p1 U (h.below hU)))
 clear h hlf ho hp1
 obtain⟨at',bad⟩:=p
 generalize tokP L (at',bad)=tok at*
 obtain⟨tt',tt⟩:=tok
 generalize tokP L p1=tok at*
 obtain⟨tk,tu⟩:=tok
 obtain⟨at1,bad1⟩:=p1
 dsimp only at h7 QT QT2
 have ya_7:(tk==7)=false:=beq_eq_false_iff_ne.2 h7.1;have yb_7:(tk=7)=False:=eq_false h7.1;have yc_7:(tk != 7)=true:=by simpa using h7.1
 have ya_12:(tk==12)=false:=beq_eq_false_iff_ne.2 h7.2;have yb_12:(tk=12)=False:=eq_false h7.2;have yc_12:(tk != 12)=true:=by simpa using h7.2
 clear h7
 go_enter Tryz.func132,Tryz.ntmps132
 go_upto_region 8 with(first
  |(go_at_call 137;go_loud((with_reducible refine(QL.out _ H0.out.low).mono ?_);rintro e w1 ⟨rfl,hb⟩;have hj:=H0.out.stays hb;have e_a:=(hj).ff3;have hm:=hj.nilN.lay [.int .i64 0,.string ⟨#[]⟩,.slice none 0 0] 24;(try simp only[nn] at hm);have H1:=qh hm;replace c_a:=(H1.out).ccCCCC;clear hj hb hm;(try clear H0);(try clear QL)))
  |(go_at_call 93;with_reducible refine fx QT H1 ?_;clear QT H1;intro W2 hj;have e_a:=(hj.out).ff4;have H2:=hj.out.layT tt' tt;(try simp only[nn] at H2);replace c_a:=(H2.out).ccCCCCT;clear hj)
  |(go_at_call 98;with_reducible refine fx QO H2 ?_;clear QO H2;intro W3 H3;replace c_a:=(H3.out).ccCCCCT)
  |(go_at_call 94;with_reducible refine fx QN H3 ?_;clear QN H3;intro W4 hj;have e_a:=(hj.out).ff5;have H4:=hj.out.layP q c L at1 bad1;(try simp only[nn] at H4);replace c_a:=(H4.out).ccCCCCTC;clear hj)
  |(go_at_call 93;with_reducible refine fx QT2 H4 ?_;clear H4;intro W5 H5;replace c_a:=(H5.out).ccCCCCTC)
  |(go_at_call 93;with_reducible refine fx QT2 H5 ?_;clear H5;intro W6 H6;replace c_a:=(H6.out).ccCCCCTC))
 go_wp2
 obtain⟨Wf,hA,hB,hf⟩:=sets H6 1 2 q c L at1 bad1 1 ⟨#[]⟩ (.slice none 0 0) rfl rfl
 first|rewrite[←hA]|rewrite[←hB]
 (try simp only[nn] at hf);clear hA hB
 have hf:=hf.nilN
 have r0:=And.intro (hf.c3 1 rfl).1 (hf.c3 2 rfl).1
 have HF:=qh (And.intro (Fr.toldH q c L ⟨(at1,bad1),.mk 1 ⟨#[]⟩ [],[],false⟩ hf) (Fr.toldH q c L ⟨(at1,bad1),.mk 1 ⟨#[]⟩ [],[],false⟩ hf.drew))
 clear hf
 (try go_wp2)
 first
  |exact bodyPost_ret (by simp[results,Tryz.results132,go_sem,r0]) rfl HF.out.1
  |exact bodyPost_ret (by simp[results,Tryz.results132,go_sem,r0]) rfl HF.out.2
theorem qk8{q:Option Addr}{c:Nat}{L:List PTok}(hl:L.length≤1000000000)(p:PSt)(p1:PSt)(a:PRes)(hlf:qbl L p=some none)(ho:opP L p ⟨#[46]⟩=true)(hp1:qs L p=some p1)(h7:(tokP L p1).1=7)(ha:qn q c L (.str p1) a):qn q c L (.term p) ⟨a.st,.mk 22 ⟨#[]⟩ [qj,a.n],[],false⟩:=by
 intro w h
 have H0:=qh (qD w q c L p)
 (have QL:Hid (∀U,Below w.heap.size w U→Calls Tryz.prog 137 #[pV q c L p] U fun e w'=>e=.returned (.tuple #[.agg #[.int .i64 0,.string ⟨#[]⟩,.slice none 0 0],.bool false])∧Below U.heap.size U w'):=qh (fun U hU=>qaN q c L p none U (h.below hU) hlf);have QT:=qh (fun U hU=>qu q c L p U (h.below hU));have QO:=qh (fun U hU=>qp q c L p ⟨#[46]⟩ U (h.below hU));have QN:=qh (fun U (hU:Below w.heap.size w U)=>qq q c L p p1 U hl hp1);rw[ho] at QO;have QT2:=qh (fun U hU=>qu q c L p1 U (h.below hU));have QS:=qh (fun U hU=>ha U (h.below hU)))
 clear h hlf ho hp1 ha
 obtain⟨at',bad⟩:=p
 generalize tokP L (at',bad)=tok at*
 obtain⟨tt',tt⟩:=tok
 generalize tokP L p1=tok at*
 obtain⟨tk,tu⟩:=tok
 obtain⟨at1,bad1⟩:=p1
 obtain⟨⟨ata,bada⟩,n,l,b⟩:=a
 dsimp only at h7 QT QT2
 subst h7
 go_enter Tryz.func132,Tryz.ntmps132
 go_upto_region 10 with(first
  |(go_at_call 137;go_loud((with_reducible refine(QL.out _ H0.out.low).mono ?_);rintro e w1 ⟨rfl,hb⟩;have hj:=H0.out.stays hb;have e_a:=(hj).ff3;have hm:=hj.nilN.lay [.int .i64 0,.string ⟨#[]⟩,.slice none 0 0] 24;(try simp only[nn] at hm);have H1:=qh hm;replace c_a:=(H1.out).ccCCCC;clear hj hb hm;(try clear H0);(try clear QL)))
  |(go_at_call 93;with_reducible refine fx QT H1 ?_;clear QT H1;intro W2 hj;have e_a:=(hj.out).ff4;have H2:=hj.out.layT tt' tt;(try simp only[nn] at H2);replace c_a:=(H2.out).ccCCCCT;clear hj)
  |(go_at_call 98;with_reducible refine fx QO H2 ?_;clear QO H2;intro W3 H3;replace c_a:=(H3.out).ccCCCCT)
  |(go_at_call 94;with_reducible refine fx QN H3 ?_;clear QN H3;intro W4 hj;have e_a:=(hj.out).ff5;have H4:=hj.out.layP q c L at1 bad1;(try simp only[nn] at H4);replace c_a:=(H4.out).ccCCCCTC;clear hj)
  |((go_at_call 93;with_reducible refine fx QT2 H4 ?_;clear H4;intro W5 H5;replace c_a:=(H5.out).ccCCCCTC);have H6:=H5)
  |(go_at_call 95;with_reducible refine fm QS H6 ?_;clear QS H6;intro w7 pu_1 cu_1 hj;have e_a:=(hj).ff6;have H7:=hj.layM (q:=q) (c:=c) (L:=L) ata bada n (.slice pu_1 n.kids.length cu_1);(try simp only[nn] at H7);replace c_a:=(H7.out).ccCCCCTCCC;clear hj))
 obtain⟨W8,hW,H8⟩:=fr_w H7;rewrite[←hW];(try simp only[nn] at H8);clear hW H7
 replace c_a:=(H8.out).ccCCCCTCCC
 have e_a:=(H8.out).ff6
 replace e_7:=(H8.out).far 7 rfl
 have h9:=H8.out.lit2z n (v:=.slice pu_1 n.kids.length cu_1) (by simp)
 have H9:=qh h9
 clear h9
 replace k_a:=(H9.out).ccCCCxxxCC
 obtain⟨⟨kp0,kp1,kp2⟩,kp3,kp4,kp5⟩:=(Fr.skip (Fr.set3 (x:=.slice q L.length c) (y:=.int .i64 (ata:Int)) (z:=.bool bada) H8.out 1 rfl) (.cells #[.int .i64 0,.string ⟨#[]⟩,.slice none 0 0,.int .i64 n.kind,.string n.text,.slice pu_1 n.kids.length cu_1] 24)).c3 2 rfl
 go_region
 all_goals
  first
   |(have hda:=Fr.set3 (Fr.set3 (H8.out.lit2z n (v:=.slice pu_1 n.kids.length cu_1) (by simp)) 1 rfl (x:=.slice q L.length c) (y:=.int .i64 (ata:Int)) (z:=.bool bada)) 2 rfl (x:=.int .i64 22) (y:=.string ⟨#[]⟩) (z:=(.slice (some ⟨W8.heap.size,0,none⟩) 2 2));obtain⟨Wf,hW,hf⟩:=qd hda;rewrite[←hW];(try simp only[nn] at hf);clear hW;clear hda)
   |(have hda:=Fr.set3 ((Fr.set3 H8.out 1 rfl (x:=.slice q L.length c) (y:=.int .i64 (ata:Int)) (z:=.bool bada)).lit2zS n (v:=.slice pu_1 n.kids.length cu_1) (by simp)) 2 rfl (x:=.int .i64 22) (y:=.string ⟨#[]⟩) (z:=(.slice (some ⟨W8.heap.size,0,none⟩) 2 2));obtain⟨Wf,hW,hf⟩:=qd hda;rewrite[←hW];(try simp only[nn] at hf);clear hW;clear hda)
  have r0:=And.intro (hf.c3 1 rfl).1 (hf.c3 2 rfl).1
  have HF:=qh (And.intro (Fr.toldH q c L ⟨(ata,bada),.mk 22 ⟨#[]⟩ [qj,n],[],false⟩ hf) (Fr.toldH q c L ⟨(ata,bada),.mk 22 ⟨#[]⟩ [qj,n],[],false⟩ hf.drew))
  clear hf
  (try go_wp2)
  first
   |exact bodyPost_ret (by simp[results,Tryz.results132,go_sem,r0]) rfl HF.out.1
   |exact bodyPost_ret (by simp[results,Tryz.results132,go_sem,r0]) rfl HF.out.2
theorem qki{q:Option Addr}{c:Nat}{L:List PTok}(hl:L.length≤1000000000)(p:PSt)(p1:PSt)(a:PRes)(hlf:qbl L p=some none)(ho:opP L p ⟨#[46]⟩=true)(hp1:qs L p=some p1)(h7:(tokP L p1).1=12)(ha:qn q c L (.str p1) a):qn q c L (.term p) ⟨a.st,.mk 22 ⟨#[]⟩ [qj,a.n],[],false⟩:=by
 intro w h
 have H0:=qh (qD w q c L p)
 (have QL:Hid (∀U,Below w.heap.size w U→Calls Tryz.prog 137 #[pV q c L p] U fun e w'=>e=.returned (.tuple #[.agg #[.int .i64 0,.string ⟨#[]⟩,.slice none 0 0],.bool false])∧Below U.heap.size U w'):=qh (fun U hU=>qaN q c L p none U (h.below hU) hlf);have QT:=qh (fun U hU=>qu q c L p U (h.below hU));have QO:=qh (fun U hU=>qp q c L p ⟨#[46]⟩ U (h.below hU));have QN:=qh (fun U (hU:Below w.heap.size w U)=>qq q c L p p1 U hl hp1);rw[ho] at QO;have QT2:=qh (fun U hU=>qu q c L p1 U (h.below hU));have QS:=qh (fun U hU=>ha U (h.below hU)))
 clear h hlf ho hp1 ha
 obtain⟨at',bad⟩:=p
 generalize tokP L (at',bad)=tok at*
 obtain⟨tt',tt⟩:=tok
 generalize tokP L p1=tok at*
 obtain⟨tk,tu⟩:=tok
 obtain⟨at1,bad1⟩:=p1
 obtain⟨⟨ata,bada⟩,n,l,b⟩:=a
 dsimp only at h7 QT QT2
 subst h7
 go_enter Tryz.func132,Tryz.ntmps132
 go_upto_region 10 with(first
  |(go_at_call 137;go_loud((with_reducible refine(QL.out _ H0.out.low).mono ?_);rintro e w1 ⟨rfl,hb⟩;have hj:=H0.out.stays hb;have e_a:=(hj).ff3;have hm:=hj.nilN.lay [.int .i64 0,.string ⟨#[]⟩,.slice none 0 0] 24;(try simp only[nn] at hm);have H1:=qh hm;replace c_a:=(H1.out).ccCCCC;clear hj hb hm;(try clear H0);(try clear QL)))
  |(go_at_call 93;with_reducible refine fx QT H1 ?_;clear QT H1;intro W2 hj;have e_a:=(hj.out).ff4;have H2:=hj.out.layT tt' tt;(try simp only[nn] at H2);replace c_a:=(H2.out).ccCCCCT;clear hj)
  |(go_at_call 98;with_reducible refine fx QO H2 ?_;clear QO H2;intro W3 H3;replace c_a:=(H3.out).ccCCCCT)
  |(go_at_call 94;with_reducible refine fx QN H3 ?_;clear QN H3;intro W4 hj;have e_a:=(hj.out).ff5;have H4:=hj.out.layP q c L at1 bad1;(try simp only[nn] at H4);replace c_a:=(H4.out).ccCCCCTC;clear hj)
  |(go_at_call 93;with_reducible refine fx QT2 H4 ?_;clear H4;intro W5 H5;replace c_a:=(H5.out).ccCCCCTC)
  |(go_at_call 93;with_reducible refine fx QT2 H5 ?_;clear H5;intro W6 H6;replace c_a:=(H6.out).ccCCCCTC)
  |(go_at_call 95;with_reducible refine fm QS H6 ?_;clear QS H6;intro w7 pu_1 cu_1 hj;have e_a:=(hj).ff6;have H7:=hj.layM (q:=q) (c:=c) (L:=L) ata bada n (.slice pu_1 n.kids.length cu_1);(try simp only[nn] at H7);replace c_a:=(H7.out).ccCCCCTCCC;clear hj))
 obtain⟨W8,hW,H8⟩:=fr_w H7;rewrite[←hW];(try simp only[nn] at H8);clear hW H7
 replace c_a:=(H8.out).ccCCCCTCCC
 have e_a:=(H8.out).ff6
 replace e_7:=(H8.out).far 7 rfl
 have h9:=H8.out.lit2z n (v:=.slice pu_1 n.kids.length cu_1) (by simp)
 have H9:=qh h9
 clear h9
 replace k_a:=(H9.out).ccCCCxxxCC
 obtain⟨⟨kp0,kp1,kp2⟩,kp3,kp4,kp5⟩:=(Fr.skip (Fr.set3 (x:=.slice q L.length c) (y:=.int .i64 (ata:Int)) (z:=.bool bada) H8.out 1 rfl) (.cells #[.int .i64 0,.string ⟨#[]⟩,.slice none 0 0,.int .i64 n.kind,.string n.text,.slice pu_1 n.kids.length cu_1] 24)).c3 2 rfl
 go_region
 all_goals
  first
   |(have hda:=Fr.set3 (Fr.set3 (H8.out.lit2z n (v:=.slice pu_1 n.kids.length cu_1) (by simp)) 1 rfl (x:=.slice q L.length c) (y:=.int .i64 (ata:Int)) (z:=.bool bada)) 2 rfl (x:=.int .i64 22) (y:=.string ⟨#[]⟩) (z:=(.slice (some ⟨W8.heap.size,0,none⟩) 2 2));obtain⟨Wf,hW,hf⟩:=qd hda;rewrite[←hW];(try simp only[nn] at hf);clear hW;clear hda)
   |(have hda:=Fr.set3 ((Fr.set3 H8.out 1 rfl (x:=.slice q L.length c) (y:=.int .i64 (ata:Int)) (z:=.bool bada)).lit2zS n (v:=.slice pu_1 n.kids.length cu_1) (by simp)) 2 rfl (x:=.int .i64 22) (y:=.string ⟨#[]⟩) (z:=(.slice (some ⟨W8.heap.size,0,none⟩) 2 2));obtain⟨Wf,hW,hf⟩:=qd hda;rewrite[←hW];(try simp only[nn] at hf);clear hW;clear hda)
  have r0:=And.intro (hf.c3 1 rfl).1 (hf.c3 2 rfl).1
  have HF:=qh (And.intro (Fr.toldH q c L ⟨(ata,bada),.mk 22 ⟨#[]⟩ [qj,n],[],false⟩ hf) (Fr.toldH q c L ⟨(ata,bada),.mk 22 ⟨#[]⟩ [qj,n],[],false⟩ hf.drew))
  clear hf
  (try go_wp2)
  first
   |exact bodyPost_ret (by simp[results,Tryz.results132,go_sem,r0]) rfl HF.out.1
   |exact bodyPost_ret (by simp[results,Tryz.results132,go_sem,r0]) rfl HF.out.2
theorem qlW{q:Option Addr}{c:Nat}{L:List PTok}(hl:L.length≤1000000000)(p:PSt)(p1:PSt)(hlf:qbl L p=some none)(ho:opP L p ⟨#[46]⟩=false)(h12:(tokP L p).1=12)(hp1:qs L p=some p1)(h7:(tokP L p1).1≠7):qn q c L (.term p) ⟨p1,.mk 8 (tokP L p).2 [],[],false⟩:=by
 intro w h
 have H0:=qh (qD w q c L p)
 (have QL:Hid (∀U,Below w.heap.size w U→Calls Tryz.prog 137 #[pV q c L p] U fun e w'=>e=.returned (.tuple #[.agg #[.int .i64 0,.string ⟨#[]⟩,.slice none 0 0],.bool false])∧Below U.heap.size U w'):=qh (fun U hU=>qaN q c L p none U (h.below hU) hlf);have QT:=qh (fun U hU=>qu q c L p U (h.below hU));have QO:=qh (fun U hU=>qp q c L p ⟨#[46]⟩ U (h.below hU));have QN:=qh (fun U (hU:Below w.heap.size w U)=>qq q c L p p1 U hl hp1);have QN2:=qh (fun U=>qq q c L p p1 U hl hp1);rw[ho] at QO;have QT2:=qh (fun U hU=>qu q c L p1 U (h.below hU)))
 clear h hlf ho hp1
 obtain⟨at',bad⟩:=p
 generalize tokP L (at',bad)=tok at*
 obtain⟨tt',tt⟩:=tok
 generalize tokP L p1=tok at*
 obtain⟨tk,tu⟩:=tok
 obtain⟨at1,bad1⟩:=p1
 dsimp only at h7 QT QT2 h12
 subst h12
 have ya_7:(tk==7)=false:=beq_eq_false_iff_ne.2 h7;have yb_7:(tk=7)=False:=eq_false h7;have yc_7:(tk != 7)=true:=by simpa using h7
 clear h7
 go_enter Tryz.func132,Tryz.ntmps132
 go_upto_region 12 with(first
  |(go_at_call 137;go_loud((with_reducible refine(QL.out _ H0.out.low).mono ?_);rintro e w1 ⟨rfl,hb⟩;have hj:=H0.out.stays hb;have e_a:=(hj).ff3;have hm:=hj.nilN.lay [.int .i64 0,.string ⟨#[]⟩,.slice none 0 0] 24;(try simp only[nn] at hm);have H1:=qh hm;replace c_a:=(H1.out).ccCCCC;clear hj hb hm;(try clear H0);(try clear QL)))
  |(go_at_call 93;with_reducible refine fx QT H1 ?_;clear QT H1;intro W2 hj;have e_a:=(hj.out).ff4;have H2:=hj.out.layT 12 tt;(try simp only[nn] at H2);replace c_a:=(H2.out).ccCCCCT;clear hj)
  |(go_at_call 98;with_reducible refine fx QO H2 ?_;clear QO H2;intro W3 H3;replace c_a:=(H3.out).ccCCCCT)
  |(go_at_call 94;with_reducible refine fx QN H3 ?_;clear QN H3;intro W4 H4;replace c_a:=(H4.out).ccCCCCT)
  |(go_at_call 93;with_reducible refine fx QT2 H4 ?_;clear H4;intro W5 H5;replace c_a:=(H5.out).ccCCCCT))
 obtain⟨u1,u2,u3,u4,u5,u6,u7,hb0,hb1⟩:=Fr.held (S:=(fun w'=>B1 (w.heap.size) ((.slice q L.length c)) ((.int .i64 (at':Int))) ((.bool bad)) w'∧(w'.cell? ⟨W2.heap.size,0,none⟩=some (.int .i64 12)∧w'.cell? ⟨W2.heap.size,1,none⟩=some (.string tt)))) H5.out 1 2 (fun U bs' h e=>⟨((h).c3 0 (e 0 rfl)).1,((h).c2 4 (e 4 rfl)).1⟩) rfl rfl
 go_region_held3 ((fun w'=>B1 (w.heap.size) ((.slice q L.length c)) ((.int .i64 (at':Int))) ((.bool bad)) w'∧(w'.cell? ⟨W2.heap.size,0,none⟩=some (.int .i64 12)∧w'.cell? ⟨W2.heap.size,1,none⟩=some (.string tt))))
  (with_reducible first|exact HS4.out|exact HS5.out _|assumption|(first|apply u7.out|apply u4.out|apply u5.out|apply u6.out|apply u3.out|apply u2.out|apply u1.out);(with_reducible first|exact hb0|assumption|exact hb1 _|exact qc hb0 _|exact qc (by assumption) _))
  (first|(go_at_call 94;with_reducible refine(QN2.out _).mono ?_;rintro _ U ⟨rfl,bu⟩;have bb:Below W5.heap.size W5 U:=Below.trans (by(with_reducible first|exact hb0|assumption|exact hb1 _|exact qc hb0 _|exact qc (by assumption) _)) (bu.mono (Below.size (show Below W5.heap.size W5 _ by(with_reducible first|exact hb0|assumption|exact hb1 _|exact qc hb0 _|exact qc (by assumption) _))));replace c_a:=((H5.out.stays bb)).cc3;have e_1:=((H5.out.stays bb)).far 1 rfl;have e_2:=((H5.out.stays bb)).far 2 rfl;have BU:=qh bu;clear bu))
 all_goals
  have hbu:Below W5.heap.size W5 U:=by assumption
  have HU:=qh (H5.out.stays hbu)
  obtain⟨Wf,hA,hB,hf⟩:=sets HU 1 2 q c L at1 bad1 8 tt (.slice none 0 0) rfl rfl
  first|rewrite[←hA]|rewrite[←hB]
  (try simp only[nn] at hf);clear hA hB
  have hf:=hf.nilN
  have r0:=And.intro (hf.c3 1 rfl).1 (hf.c3 2 rfl).1
  have HF:=qh (And.intro (hf.told q c L ⟨(at1,bad1),.mk 8 tt [],[],false⟩ (.slice none 0 0) (by simp[qb.kids])) (hf.drew.told q c L ⟨(at1,bad1),.mk 8 tt [],[],false⟩ (.slice none 0 0) (by simp[qb.kids])))
  clear hf
  (try go_wp2)
  refine bodyPost_ret (v:=(.tuple #[pV q c L (at1,bad1),.agg #[.int .i64 8,.string tt,.slice none 0 0]])) (by simp[results,Tryz.results132,go_sem,r0]) rfl ?_
  first|exact HF.out.1|exact HF.out.2
theorem qkO{q:Option Addr}{c:Nat}{L:List PTok}(hl:L.length≤1000000000)(p:PSt)(a:PRes)(hlf:qbl L p=some none)(ho:opP L p ⟨#[46]⟩=false)(hk:(tokP L p).1=7)(ha:qn q c L (.str p) a):qn q c L (.term p) ⟨a.st,a.n,[],false⟩:=by
 intro w h
 have H0:=qh (qD w q c L p)
 (have QL:Hid (∀U,Below w.heap.size w U→Calls Tryz.prog 137 #[pV q c L p] U fun e w'=>e=.returned (.tuple #[.agg #[.int .i64 0,.string ⟨#[]⟩,.slice none 0 0],.bool false])∧Below U.heap.size U w'):=qh (fun U hU=>qaN q c L p none U (h.below hU) hlf);have QT:=qh (fun U hU=>qu q c L p U (h.below hU));have QO:=qh (fun U hU=>qp q c L p ⟨#[46]⟩ U (h.below hU));rw[ho] at QO;have QS:=qh (fun U hU=>ha U (h.below hU)))
 clear h hlf ho ha
 obtain⟨at',bad⟩:=p
 obtain⟨⟨ata,bada⟩,n,l,b⟩:=a
 generalize tokP L (at',bad)=tok at*
 obtain⟨tk,tt⟩:=tok
 dsimp only at hk QT
 subst hk
 go_enter Tryz.func132,Tryz.ntmps132
 go_upto_region 15 with(first
  |(go_at_call 137;go_loud((with_reducible refine(QL.out _ H0.out.low).mono ?_);rintro e w1 ⟨rfl,hb⟩;have hj:=H0.out.stays hb;have e_a:=(hj).ff3;have hm:=hj.nilN.lay [.int .i64 0,.string ⟨#[]⟩,.slice none 0 0] 24;(try simp only[nn] at hm);have H1:=qh hm;replace c_a:=(H1.out).ccCCCC;clear hj hb hm;(try clear H0);(try clear QL)))
  |(go_at_call 93;with_reducible refine fx QT H1 ?_;clear QT H1;intro W2 hj;have e_a:=(hj.out).ff4;have H2:=hj.out.layT 7 tt;(try simp only[nn] at H2);replace c_a:=(H2.out).ccCCCCT;clear hj)
  |((go_at_call 98;with_reducible refine fx QO H2 ?_;clear QO H2;intro W3 H3;replace c_a:=(H3.out).ccCCCCT);have H5:=H3;clear H3)
  |(go_at_call 95;with_reducible refine fm QS H5 ?_;clear QS H5;intro w7 pu_1 cu_1 hj;have e_a:=(hj).ff5;have H6:=hj.layM (q:=q) (c:=c) (L:=L) ata bada n (.slice pu_1 n.kids.length cu_1);(try simp only[nn] at H6);replace c_a:=(H6.out).ccCCCCTCC;clear hj))
 obtain⟨W8,hW,H7⟩:=fr_w H6;rewrite[←hW];(try simp only[nn] at H7);clear hW H6
 replace c_a:=(H7.out).ccCCCCTCC
 go_region
 all_goals
  obtain⟨Wf,hA,hB,hf⟩:=sets H7 1 2 q c L ata bada n.kind n.text (.slice pu_1 n.kids.length cu_1) rfl rfl
  first|rewrite[←hA]|rewrite[←hB]
  (try simp only[nn] at hf);clear hA hB
  have hf:=hf.nilN
  have r0:=And.intro (hf.c3 1 rfl).1 (hf.c3 2 rfl).1
  have HF:=qh (And.intro (hf.told q c L ⟨(ata,bada),n,[],false⟩ (.slice pu_1 n.kids.length cu_1) (by simp)) (hf.drew.told q c L ⟨(ata,bada),n,[],false⟩ (.slice pu_1 n.kids.length cu_1) (by simp)))
  clear hf
  (try go_wp2)
  refine bodyPost_ret (v:=(.tuple #[pV q c L (ata,bada),.agg #[.int .i64 n.kind,.string n.text,.slice pu_1 n.kids.length cu_1]])) (by simp[results,Tryz.results132,go_sem,r0]) rfl ?_
  first|exact HF.out.1|exact HF.out.2
theorem qjJ{q:Option Addr}{c:Nat}{L:List PTok}(hl:L.length≤1000000000)(p:PSt)(a:PRes)(hlf:qbl L p=some none)(ho:opP L p ⟨#[46]⟩=false)(p1:PSt)(hk:(tokP L p).1=12)(hp1:qs L p=some p1)(h7:(tokP L p1).1=7)(ha:qn q c L (.str p) a):qn q c L (.term p) ⟨a.st,a.n,[],false⟩:=by
 intro w h
 have H0:=qh (qD w q c L p)
 (have QL:Hid (∀U,Below w.heap.size w U→Calls Tryz.prog 137 #[pV q c L p] U fun e w'=>e=.returned (.tuple #[.agg #[.int .i64 0,.string ⟨#[]⟩,.slice none 0 0],.bool false])∧Below U.heap.size U w'):=qh (fun U hU=>qaN q c L p none U (h.below hU) hlf);have QT:=qh (fun U hU=>qu q c L p U (h.below hU));have QO:=qh (fun U hU=>qp q c L p ⟨#[46]⟩ U (h.below hU));rw[ho] at QO;have QS:=qh (fun U hU=>ha U (h.below hU));have QN:=qh (fun U (hU:Below w.heap.size w U)=>qq q c L p p1 U hl hp1);have QT2:=qh (fun U hU=>qu q c L p1 U (h.below hU)))
 clear h hlf ho ha hp1
 obtain⟨at',bad⟩:=p
 obtain⟨⟨ata,bada⟩,n,l,b⟩:=a
 generalize tokP L (at',bad)=tok at*
 obtain⟨tt',tt⟩:=tok
 generalize tokP L p1=tok at*
 obtain⟨tk,tu⟩:=tok
 obtain⟨at1,bad1⟩:=p1
 dsimp only at hk QT QT2 h7
 subst hk
 subst h7
 go_enter Tryz.func132,Tryz.ntmps132
 go_upto_region 15 with(first
  |(go_at_call 137;go_loud((with_reducible refine(QL.out _ H0.out.low).mono ?_);rintro e w1 ⟨rfl,hb⟩;have hj:=H0.out.stays hb;have e_a:=(hj).ff3;have hm:=hj.nilN.lay [.int .i64 0,.string ⟨#[]⟩,.slice none 0 0] 24;(try simp only[nn] at hm);have H1:=qh hm;replace c_a:=(H1.out).ccCCCC;clear hj hb hm;(try clear H0);(try clear QL)))
  |(go_at_call 93;with_reducible refine fx QT H1 ?_;clear QT H1;intro W2 hj;have e_a:=(hj.out).ff4;have H2:=hj.out.layT 12 tt;(try simp only[nn] at H2);replace c_a:=(H2.out).ccCCCCT;clear hj)
  |(go_at_call 98;with_reducible refine fx QO H2 ?_;clear QO H2;intro W3 H3;replace c_a:=(H3.out).ccCCCCT)
  |(go_at_call 94;with_reducible refine fx QN H3 ?_;clear QN H3;intro W4 H4;replace c_a:=(H4.out).ccCCCCT)
  |(go_at_call 93;with_reducible refine fx QT2 H4 ?_;clear H4;intro W5 H5;replace c_a:=(H5.out).ccCCCCT)
  |(go_at_call 95;with_reducible refine fm QS H5 ?_;clear QS H5;intro w7 pu_1 cu_1 hj;have e_a:=(hj).ff5;have H6:=hj.layM (q:=q) (c:=c) (L:=L) ata bada n (.slice pu_1 n.kids.length cu_1);(try simp only[nn] at H6);replace c_a:=(H6.out).ccCCCCTCC;clear hj))
 obtain⟨W8,hW,H7⟩:=fr_w H6;rewrite[←hW];(try simp only[nn] at H7);clear hW H6
 replace c_a:=(H7.out).ccCCCCTCC
 go_region
 all_goals
  obtain⟨Wf,hA,hB,hf⟩:=sets H7 1 2 q c L ata bada n.kind n.text (.slice pu_1 n.kids.length cu_1) rfl rfl
  first|rewrite[←hA]|rewrite[←hB]
  (try simp only[nn] at hf);clear hA hB
  have hf:=hf.nilN
  have r0:=And.intro (hf.c3 1 rfl).1 (hf.c3 2 rfl).1
  have HF:=qh (And.intro (hf.told q c L ⟨(ata,bada),n,[],false⟩ (.slice pu_1 n.kids.length cu_1) (by simp)) (hf.drew.told q c L ⟨(ata,bada),n,[],false⟩ (.slice pu_1 n.kids.length cu_1) (by simp)))
  clear hf
  (try go_wp2)
  refine bodyPost_ret (v:=(.tuple #[pV q c L (ata,bada),.agg #[.int .i64 n.kind,.string n.text,.slice pu_1 n.kids.length cu_1]])) (by simp[results,Tryz.results132,go_sem,r0]) rfl ?_
  first|exact HF.out.1|exact HF.out.2
theorem qi6{q:Option Addr}{c:Nat}{L:List PTok}(hl:L.length≤1000000000)(p:PSt)(a:PRes)(hlf:qbl L p=some none)(ho:opP L p ⟨#[46]⟩=false)(hk:(tokP L p).1=13)(ha:qn q c L (.bracket p) a):qn q c L (.term p) ⟨a.st,a.n,[],false⟩:=by
 intro w h
 have H0:=qh (qD w q c L p)
 (have QL:Hid (∀U,Below w.heap.size w U→Calls Tryz.prog 137 #[pV q c L p] U fun e w'=>e=.returned (.tuple #[.agg #[.int .i64 0,.string ⟨#[]⟩,.slice none 0 0],.bool false])∧Below U.heap.size U w'):=qh (fun U hU=>qaN q c L p none U (h.below hU) hlf);have QT:=qh (fun U hU=>qu q c L p U (h.below hU));have QO:=qh (fun U hU=>qp q c L p ⟨#[46]⟩ U (h.below hU));rw[ho] at QO;have QS:=qh (fun U hU=>ha U (h.below hU)))
 clear h hlf ho ha
 obtain⟨at',bad⟩:=p
 obtain⟨⟨ata,bada⟩,n,l,b⟩:=a
 generalize tokP L (at',bad)=tok at*
 obtain⟨tk,tt⟩:=tok
 dsimp only at hk QT
 subst hk
 go_enter Tryz.func132,Tryz.ntmps132
 go_upto_region 18 with(first
  |(go_at_call 137;go_loud((with_reducible refine(QL.out _ H0.out.low).mono ?_);rintro e w1 ⟨rfl,hb⟩;have hj:=H0.out.stays hb;have e_a:=(hj).ff3;have hm:=hj.nilN.lay [.int .i64 0,.string ⟨#[]⟩,.slice none 0 0] 24;(try simp only[nn] at hm);have H1:=qh hm;replace c_a:=(H1.out).ccCCCC;clear hj hb hm;(try clear H0);(try clear QL)))
  |(go_at_call 93;with_reducible refine fx QT H1 ?_;clear QT H1;intro W2 hj;have e_a:=(hj.out).ff4;have H2:=hj.out.layT 13 tt;(try simp only[nn] at H2);replace c_a:=(H2.out).ccCCCCT;clear hj)
  |((go_at_call 98;with_reducible refine fx QO H2 ?_;clear QO H2;intro W3 H3;replace c_a:=(H3.out).ccCCCCT);have H5:=H3;clear H3)
  |(go_at_call 138;with_reducible refine fm QS H5 ?_;clear QS H5;intro w7 pu_1 cu_1 hj;have e_a:=(hj).ff5;have H6:=hj.layM (q:=q) (c:=c) (L:=L) ata bada n (.slice pu_1 n.kids.length cu_1);(try simp only[nn] at H6);replace c_a:=(H6.out).ccCCCCTCC;clear hj))
 obtain⟨W8,hW,H7⟩:=fr_w H6;rewrite[←hW];(try simp only[nn] at H7);clear hW H6
 replace c_a:=(H7.out).ccCCCCTCC
 go_region
 all_goals
  obtain⟨Wf,hA,hB,hf⟩:=sets H7 1 2 q c L ata bada n.kind n.text (.slice pu_1 n.kids.length cu_1) rfl rfl
  first|rewrite[←hA]|rewrite[←hB]
  (try simp only[nn] at hf);clear hA hB
  have hf:=hf.nilN
  have r0:=And.intro (hf.c3 1 rfl).1 (hf.c3 2 rfl).1
  have HF:=qh (And.intro (hf.told q c L ⟨(ata,bada),n,[],false⟩ (.slice pu_1 n.kids.length cu_1) (by simp)) (hf.drew.told q c L ⟨(ata,bada),n,[],false⟩ (.slice pu_1 n.kids.length cu_1) (by simp)))
  clear hf
  (try go_wp2)
  refine bodyPost_ret (v:=(.tuple #[pV q c L (ata,bada),.agg #[.int .i64 n.kind,.string n.text,.slice pu_1 n.kids.length cu_1]])) (by simp[results,Tryz.results132,go_sem,r0]) rfl ?_
  first|exact HF.out.1|exact HF.out.2
theorem qjp{q:Option Addr}{c:Nat}{L:List PTok}(hl:L.length≤1000000000)(p:PSt)(a:PRes)(hlf:qbl L p=some none)(ho:opP L p ⟨#[46]⟩=false)(hk:(tokP L p).1=3)(ha:qn q c L (.worded p) a):qn q c L (.term p) ⟨a.st,a.n,[],false⟩:=by
 intro w h
 have H0:=qh (qD w q c L p)
 (have QL:Hid (∀U,Below w.heap.size w U→Calls Tryz.prog 137 #[pV q c L p] U fun e w'=>e=.returned (.tuple #[.agg #[.int .i64 0,.string ⟨#[]⟩,.slice none 0 0],.bool false])∧Below U.heap.size U w'):=qh (fun U hU=>qaN q c L p none U (h.below hU) hlf);have QT:=qh (fun U hU=>qu q c L p U (h.below hU));have QO:=qh (fun U hU=>qp q c L p ⟨#[46]⟩ U (h.below hU));rw[ho] at QO;have QS:=qh (fun U hU=>ha U (h.below hU)))
 clear h hlf ho ha
 obtain⟨at',bad⟩:=p
 obtain⟨⟨ata,bada⟩,n,l,b⟩:=a
 generalize tokP L (at',bad)=tok at*
 obtain⟨tk,tt⟩:=tok
 dsimp only at hk QT
 subst hk
 go_enter Tryz.func132,Tryz.ntmps132
 go_upto_region 21 with(first
  |(go_at_call 137;go_loud((with_reducible refine(QL.out _ H0.out.low).mono ?_);rintro e w1 ⟨rfl,hb⟩;have hj:=H0.out.stays hb;have e_a:=(hj).ff3;have hm:=hj.nilN.lay [.int .i64 0,.string ⟨#[]⟩,.slice none 0 0] 24;(try simp only[nn] at hm);have H1:=qh hm;replace c_a:=(H1.out).ccCCCC;clear hj hb hm;(try clear H0);(try clear QL)))
  |(go_at_call 93;with_reducible refine fx QT H1 ?_;clear QT H1;intro W2 hj;have e_a:=(hj.out).ff4;have H2:=hj.out.layT 3 tt;(try simp only[nn] at H2);replace c_a:=(H2.out).ccCCCCT;clear hj)
  |((go_at_call 98;with_reducible refine fx QO H2 ?_;clear QO H2;intro W3 H3;replace c_a:=(H3.out).ccCCCCT);have H5:=H3;clear H3)
  |(go_at_call 139;with_reducible refine fm QS H5 ?_;clear QS H5;intro w7 pu_1 cu_1 hj;have e_a:=(hj).ff5;have H6:=hj.layM (q:=q) (c:=c) (L:=L) ata bada n (.slice pu_1 n.kids.length cu_1);(try simp only[nn] at H6);replace c_a:=(H6.out).ccCCCCTCC;clear hj))
 obtain⟨W8,hW,H7⟩:=fr_w H6;rewrite[←hW];(try simp only[nn] at H7);clear hW H6
 replace c_a:=(H7.out).ccCCCCTCC
 go_region
 all_goals
  obtain⟨Wf,hA,hB,hf⟩:=sets H7 1 2 q c L ata bada n.kind n.text (.slice pu_1 n.kids.length cu_1) rfl rfl
  first|rewrite[←hA]|rewrite[←hB]
  (try simp only[nn] at hf);clear hA hB
  have hf:=hf.nilN
  have r0:=And.intro (hf.c3 1 rfl).1 (hf.c3 2 rfl).1
  have HF:=qh (And.intro (hf.told q c L ⟨(ata,bada),n,[],false⟩ (.slice pu_1 n.kids.length cu_1) (by simp)) (hf.drew.told q c L ⟨(ata,bada),n,[],false⟩ (.slice pu_1 n.kids.length cu_1) (by simp)))
  clear hf
  (try go_wp2)
  refine bodyPost_ret (v:=(.tuple #[pV q c L (ata,bada),.agg #[.int .i64 n.kind,.string n.text,.slice pu_1 n.kids.length cu_1]])) (by simp[results,Tryz.results132,go_sem,r0]) rfl ?_
  first|exact HF.out.1|exact HF.out.2
theorem qky{q:Option Addr}{c:Nat}{L:List PTok}(hl:L.length≤1000000000)(p:PSt)(hlf:qbl L p=some none)(ho:opP L p ⟨#[46]⟩=false)(h3:(tokP L p).1≠3)(h7:(tokP L p).1≠7)(h12:(tokP L p).1≠12)(h13:(tokP L p).1≠13):qn q c L (.term p) ⟨qR p,qj,[],false⟩:=by
 intro w h
 have H0:=qh (qD w q c L p)
 (have QL:Hid (∀U,Below w.heap.size w U→Calls Tryz.prog 137 #[pV q c L p] U fun e w'=>e=.returned (.tuple #[.agg #[.int .i64 0,.string ⟨#[]⟩,.slice none 0 0],.bool false])∧Below U.heap.size U w'):=qh (fun U hU=>qaN q c L p none U (h.below hU) hlf);have QT:=qh (fun U hU=>qu q c L p U (h.below hU));have QO:=qh (fun U hU=>qp q c L p ⟨#[46]⟩ U (h.below hU));rw[ho] at QO)
 clear h hlf ho
 obtain⟨at',bad⟩:=p
 generalize tokP L (at',bad)=tok at*
 obtain⟨tk,tt⟩:=tok
 dsimp only at h3 h7 h12 h13 QT
 have ya_3:(tk==3)=false:=beq_eq_false_iff_ne.2 h3;have yb_3:(tk=3)=False:=eq_false h3;have yc_3:(tk != 3)=true:=by simpa using h3
 have ya_7:(tk==7)=false:=beq_eq_false_iff_ne.2 h7;have yb_7:(tk=7)=False:=eq_false h7;have yc_7:(tk != 7)=true:=by simpa using h7
 have ya_12:(tk==12)=false:=beq_eq_false_iff_ne.2 h12;have yb_12:(tk=12)=False:=eq_false h12;have yc_12:(tk != 12)=true:=by simpa using h12
 have ya_13:(tk==13)=false:=beq_eq_false_iff_ne.2 h13;have yb_13:(tk=13)=False:=eq_false h13;have yc_13:(tk != 13)=true:=by simpa using h13
 clear h3 h7 h12 h13
 have QW:Hid (∀U,Calls Tryz.prog 68 #[.agg #[.slice q L.length c,.int .i64 (at':Int),.bool bad]] U fun e w'=>e=.returned (.agg #[.slice q L.length c,.int .i64 (at':Int),.bool true])∧Below U.heap.size U w'):=qh (fun U=>qX q c L (at',bad) U)
 go_enter Tryz.func132,Tryz.ntmps132
 go_upto_region 22 with(first
  |(go_at_call 137;go_loud((with_reducible refine(QL.out _ H0.out.low).mono ?_);rintro e w1 ⟨rfl,hb⟩;have hj:=H0.out.stays hb;have e_a:=(hj).ff3;have hm:=hj.nilN.lay [.int .i64 0,.string ⟨#[]⟩,.slice none 0 0] 24;(try simp only[nn] at hm);have H1:=qh hm;replace c_a:=(H1.out).ccCCCC;clear hj hb hm;(try clear H0);(try clear QL)))
  |(go_at_call 93;with_reducible refine fx QT H1 ?_;clear QT H1;intro W2 hj;have e_a:=(hj.out).ff4;have H2:=hj.out.layT tk tt;(try simp only[nn] at H2);replace c_a:=(H2.out).ccCCCCT;clear hj)
  |(go_at_call 98;with_reducible refine fx QO H2 ?_;clear QO H2;intro W3 H3;replace c_a:=(H3.out).ccCCCCT))
 go_wp2_with(go_at_call 68;go_loud((with_reducible refine(QW.out _).mono ?_);rintro e W4 ⟨rfl,hb⟩;have H4:=qh (H3.out.stays hb);replace c_a:=(H4.out).cc3;clear hb))
 obtain⟨Wf,hA,hB,hf⟩:=sets H4 1 2 q c L at' true 0 ⟨#[]⟩ (.slice none 0 0) rfl rfl
 first|rewrite[←hA]|rewrite[←hB]
 (try simp only[nn] at hf);clear hA hB
 have hf:=hf.nilN
 have r0:=And.intro (hf.c3 1 rfl).1 (hf.c3 2 rfl).1
 have HF:=qh (And.intro (hf.told q c L ⟨(at',true),qj,[],false⟩ (.slice none 0 0) (by simp[qb.kids,qj])) (hf.drew.told q c L ⟨(at',true),qj,[],false⟩ (.slice none 0 0) (by simp[qb.kids,qj])))
 clear hf
 (try go_wp2)
 refine bodyPost_ret (v:=(.tuple #[pV q c L (at',true),.agg #[.int .i64 0,.string ⟨#[]⟩,.slice none 0 0]])) (by simp[results,Tryz.results132,go_sem,r0]) rfl ?_
 first|exact HF.out.1|exact HF.out.2
theorem ql6{R:POps}{q:Option Addr}{c:Nat}{L:List PTok}{f:Nat}(ih:PAll R q c L (f+1))(hl:L.length≤1000000000)(p:PSt)(r:PRes)(hr:runP R L (f+1) (.term p)=some r):qn q c L (.term p) r:=by
 rw[runP] at hr
 have gi:=fun cm a (h:runP R L f cm=some a)=>ih f (Nat.lt_succ_self f) cm a h
 obtain⟨lf,hlf,hr⟩:=Option.bind_eq_some_iff.1 hr
 have same:∀a:PRes,a.l=[]→a.b=false→(⟨a.st,a.n,[],false⟩:PRes)=a:=fun a h1 h2=>by cases a;simp_all
 cases lf with
 |some n=>
  obtain⟨p1,h1,hr⟩:=Option.bind_eq_some_iff.1 hr
  cases hr
  exact qlr hl p p1 n hlf h1
 |none=>
  dsimp only at hr
  by_cases ho:opP L p ⟨#[46]⟩=true
  ·rw[if_pos ho] at hr
   obtain⟨p1,h1,hr⟩:=Option.bind_eq_some_iff.1 hr
   by_cases h7:(tokP L p1).1≠7∧(tokP L p1).1≠12
   ·rw[if_pos h7] at hr
    cases hr
    exact qm2 hl p p1 hlf ho h1 h7
   ·rw[if_neg h7] at hr
    obtain⟨a,ha,hr⟩:=Option.bind_eq_some_iff.1 hr
    cases hr
    by_cases h8:(tokP L p1).1=7
    ·exact qk8 hl p p1 a hlf ho h1 h8 (gi _ _ ha)
    ·exact qki hl p p1 a hlf ho h1 (by
      by_cases h9:(tokP L p1).1=12
      ·exact h9
      ·exact absurd ⟨h8,h9⟩ h7) (gi _ _ ha)
  ·rw[if_neg ho] at hr
   have ho':opP L p ⟨#[46]⟩=false:=by simpa using ho
   by_cases h12:(tokP L p).1=12
   ·rw[if_pos h12] at hr
    obtain⟨p1,h1,hr⟩:=Option.bind_eq_some_iff.1 hr
    by_cases h7:(tokP L p1).1≠7
    ·rw[if_pos h7] at hr
     cases hr
     exact qlW hl p p1 hlf ho' h12 h1 h7
    ·rw[if_neg h7] at hr
     have:=qjJ hl p r hlf ho' p1 h12 h1 (by simpa using h7) (gi _ _ hr)
     exact this
   ·rw[if_neg h12] at hr
    by_cases h7:(tokP L p).1=7
    ·rw[if_pos h7] at hr
     exact qkO hl p r hlf ho' h7 (gi _ _ hr)
    ·rw[if_neg h7] at hr
     by_cases h13:(tokP L p).1=13
     ·rw[if_pos h13] at hr
      exact qi6 hl p r hlf ho' h13 (gi _ _ hr)
     ·rw[if_neg h13] at hr
      by_cases h3:(tokP L p).1=3
      ·rw[if_pos h3] at hr
       exact qjp hl p r hlf ho' h3 (gi _ _ hr)
      ·rw[if_neg h3] at hr
       cases hr
       exact qky hl p hlf ho' h3 h7 h12 h13
theorem qhp{q:Option Addr}{c:Nat}{L:List PTok}(hl:L.length≤1000000000)(p:PSt)(p1 p2:PSt)(a:PRes)(ho:opP L p ⟨#[40]⟩=true)(hp1:qs L p=some p1)(ha:qn q c L (.exp p1 1) a)(hp2:q7 L a.st ⟨#[41]⟩=some p2):qn q c L (.bracket p) ⟨p2,.mk 12 ⟨#[]⟩ [a.n],[],false⟩:=by
 intro w h
 have H0:=qh (qD w q c L p)
 have QO1:=qh (fun U hU=>qp q c L p ⟨#[40]⟩ U (h.below hU))
 (rw[ho] at QO1;have QN:=qh (fun U (hU:Below w.heap.size w U)=>qq q c L p p1 U hl hp1);have QP:=qh (fun U hU=>qB q c L p1 a ha U (h.below hU));have QD:=qh (fun U hU=>qt q c L a.st p2 ⟨#[41]⟩ U (h.below hU) hp2))
 clear h ho hp1 ha hp2
 obtain⟨at',bad⟩:=p
 obtain⟨at1,bad1⟩:=p1
 obtain⟨at2,bad2⟩:=p2
 obtain⟨⟨ata,bada⟩,n,l,b⟩:=a
 go_enter Tryz.func138,Tryz.ntmps138
 go_upto_region 3 with(first
  |(go_at_call 98;with_reducible refine fx QO1 H0 ?_;clear QO1 H0;intro W1 H1;replace c_a:=(H1.out).cc3)
  |(go_at_call 94;with_reducible refine fx QN H1 ?_;clear QN H1;intro W2 H2;replace c_a:=(H2.out).cc3)
  |(go_at_call 67;with_reducible refine fm QP H2 ?_;clear QP H2;intro w3 pu_1 cu_1 hj;have e_a:=(hj).ff3;have H3:=hj.layM (q:=q) (c:=c) (L:=L) ata bada n (.slice pu_1 n.kids.length cu_1);(try simp only[nn] at H3);replace c_a:=(H3.out).ccCCCCC;clear hj))
 obtain⟨W4,hW,H4⟩:=fr_w H3;rewrite[←hW];(try simp only[nn] at H4);clear hW H3
 replace c_a:=(H4.out).ccCCCCC
 have QD2:=qh (fun U (hU:Below W4.heap.size W4 U)=>QD.out U (H4.out.low.trans (hU.mono H4.out.low.size)))
 have ka:=fun U o (hU:Below W4.heap.size W4 U)=>(Fr.skip (H4.out.stays hU) o).c3 1 rfl
 have kb:=fun U o (hU:Below W4.heap.size W4 U)=>(Fr.skip (H4.out.stays hU) o).c3 2 rfl
 have kc:=fun U x y z o (hU:Below W4.heap.size W4 U)=>(Fr.skip (Fr.set3 (x:=x) (y:=y) (z:=z) (H4.out.stays hU) 1 rfl) o).c3 2 rfl
 have ka1:=fun U o hU=>(ka U o hU).1.1
 have ka2:=fun U o hU=>(ka U o hU).1.2.1
 have ka3:=fun U o hU=>(ka U o hU).1.2.2
 have ka4:=fun U o hU=>(ka U o hU).2.1
 have ka5:=fun U o hU=>(ka U o hU).2.2.1
 have ka6:=fun U o hU=>(ka U o hU).2.2.2
 have kb1:=fun U o hU=>(kb U o hU).1.1
 have kb2:=fun U o hU=>(kb U o hU).1.2.1
 have kb3:=fun U o hU=>(kb U o hU).1.2.2
 have kb4:=fun U o hU=>(kb U o hU).2.1
 have kb5:=fun U o hU=>(kb U o hU).2.2.1
 have kb6:=fun U o hU=>(kb U o hU).2.2.2
 have kc1:=fun U x y z o hU=>(kc U x y z o hU).1.1
 have kc2:=fun U x y z o hU=>(kc U x y z o hU).1.2.1
 have kc3:=fun U x y z o hU=>(kc U x y z o hU).1.2.2
 have kc4:=fun U x y z o hU=>(kc U x y z o hU).2.1
 have kc5:=fun U x y z o hU=>(kc U x y z o hU).2.2.1
 have kc6:=fun U x y z o hU=>(kc U x y z o hU).2.2.2
 clear ka kb kc
 obtain⟨u1,u2,u3,u4,u5,u6,u7,hb0,hb1⟩:=Fr.held (S:=(fun w'=>B1 (w3.heap.size) ((.slice q L.length c)) ((.int .i64 (ata:Int))) ((.bool bada)) w'∧B1 (w3.heap.size+1) ((.int .i64 n.kind)) ((.string n.text)) ((.slice pu_1 n.kids.length cu_1)) w')) H4.out 1 2 (fun U bs' h e=>⟨((h).c3 3 (e 3 rfl)).1,((h).c3 4 (e 4 rfl)).1⟩) rfl rfl
 go_region_held3 ((fun w'=>B1 (w3.heap.size) ((.slice q L.length c)) ((.int .i64 (ata:Int))) ((.bool bada)) w'∧B1 (w3.heap.size+1) ((.int .i64 n.kind)) ((.string n.text)) ((.slice pu_1 n.kids.length cu_1)) w'))
  (with_reducible first|exact HS4.out|exact HS5.out _|assumption|(first|apply u7.out|apply u4.out|apply u5.out|apply u6.out|apply u3.out|apply u2.out|apply u1.out);(with_reducible first|exact hb0|assumption|exact hb1 _|exact qc hb0 _|exact qc (by assumption) _))
  (first|(go_at_call 96;with_reducible refine(QD2.out _ (by(with_reducible first|exact hb0|assumption|exact hb1 _|exact qc hb0 _|exact qc (by assumption) _))).mono ?_;rintro _ U ⟨rfl,bu⟩;have bb:Below W4.heap.size W4 U:=Below.trans (by(with_reducible first|exact hb0|assumption|exact hb1 _|exact qc hb0 _|exact qc (by assumption) _)) (bu.mono (Below.size (show Below W4.heap.size W4 _ by(with_reducible first|exact hb0|assumption|exact hb1 _|exact qc hb0 _|exact qc (by assumption) _))));replace c_a:=((H4.out.stays bb)).cc3;have e_a:=((H4.out.stays bb)).ff3;have BU:=qh bu;clear bu))
 all_goals
  have hbu:Below W4.heap.size W4 U:=by assumption
  first
   |(have hda:=Fr.set3 (Fr.set3 ((H4.out.stays hbu).lit1 n (u:=.slice pu_1 n.kids.length cu_1) (by simp)) 1 rfl (x:=.slice q L.length c) (y:=.int .i64 (at2:Int)) (z:=.bool bad2)) 2 rfl (x:=.int .i64 12) (y:=.string ⟨#[]⟩) (z:=(.slice (some ⟨U.heap.size,0,none⟩) 1 1));obtain⟨Wf,hW,hf⟩:=qd hda;rewrite[←hW];(try simp only[nn] at hf);clear hW;clear hda)
   |(have hda:=Fr.set3 ((Fr.set3 (H4.out.stays hbu) 1 rfl (x:=.slice q L.length c) (y:=.int .i64 (at2:Int)) (z:=.bool bad2)).lit1S n (u:=.slice pu_1 n.kids.length cu_1) (by simp)) 2 rfl (x:=.int .i64 12) (y:=.string ⟨#[]⟩) (z:=(.slice (some ⟨U.heap.size,0,none⟩) 1 1));obtain⟨Wf,hW,hf⟩:=qd hda;rewrite[←hW];(try simp only[nn] at hf);clear hW;clear hda)
   |(have hda:=Fr.set3 (Fr.set3 ((H4.out.lit1 n (u:=.slice pu_1 n.kids.length cu_1) (by simp)).drew.stays BU.out) 1 rfl (x:=.slice q L.length c) (y:=.int .i64 (at2:Int)) (z:=.bool bad2)) 2 rfl (x:=.int .i64 12) (y:=.string ⟨#[]⟩) (z:=(.slice (some ⟨W4.heap.size,0,none⟩) 1 1));obtain⟨Wf,hW,hf⟩:=qd hda;rewrite[←hW];(try simp only[nn] at hf);clear hW;clear hda)
   |(have hda:=Fr.set3 (Fr.set3 ((H4.out.drew.lit1 n (u:=.slice pu_1 n.kids.length cu_1) (by simp)).stays BU.out) 1 rfl (x:=.slice q L.length c) (y:=.int .i64 (at2:Int)) (z:=.bool bad2)) 2 rfl (x:=.int .i64 12) (y:=.string ⟨#[]⟩) (z:=(.slice (some ⟨W4.heap.size,0,none⟩) 1 1));obtain⟨Wf,hW,hf⟩:=qd hda;rewrite[←hW];(try simp only[nn] at hf);clear hW;clear hda)
  have r0:=And.intro (hf.c3 1 rfl).1 (hf.c3 2 rfl).1
  have HF:=qh (And.intro (Fr.toldH q c L ⟨(at2,bad2),.mk 12 ⟨#[]⟩ [n],[],false⟩ hf) (Fr.toldH q c L ⟨(at2,bad2),.mk 12 ⟨#[]⟩ [n],[],false⟩ hf.drew))
  clear hf
  (try go_wp2)
  first
   |exact bodyPost_ret (by simp[results,Tryz.results138,go_sem,r0]) rfl HF.out.1
   |exact bodyPost_ret (by simp[results,Tryz.results138,go_sem,r0]) rfl HF.out.2
theorem qix{q:Option Addr}{c:Nat}{L:List PTok}(hl:L.length≤1000000000)(p:PSt)(p1 p2:PSt)(ho:opP L p ⟨#[40]⟩=false)(ho2:opP L p ⟨#[91]⟩=true)(hp1:qs L p=some p1)(ho3:opP L p1 ⟨#[93]⟩=true)(hp2:qs L p1=some p2):qn q c L (.bracket p) ⟨p2,.mk 9 ⟨#[]⟩ [],[],false⟩:=by
 intro w h
 have H0:=qh (qD w q c L p)
 have QO1:=qh (fun U hU=>qp q c L p ⟨#[40]⟩ U (h.below hU))
 (rw[ho] at QO1;have QO2:=qh (fun U hU=>qp q c L p ⟨#[91]⟩ U (h.below hU));rw[ho2] at QO2;have QO4:=qh (fun U hU=>qp q c L p1 ⟨#[93]⟩ U (h.below hU));rw[ho3] at QO4;have QN:=qh (fun U (hU:Below w.heap.size w U)=>qq q c L p p1 U hl hp1);have QN2:=qh (fun U (hU:Below w.heap.size w U)=>qq q c L p1 p2 U hl hp2))
 clear h ho ho2 ho3 hp1 hp2
 obtain⟨at',bad⟩:=p
 obtain⟨at1,bad1⟩:=p1
 obtain⟨at2,bad2⟩:=p2
 go_enter Tryz.func138,Tryz.ntmps138
 go_upto_region 7 with(first
  |(go_at_call 98;with_reducible refine fx QO1 H0 ?_;clear QO1 H0;intro W1 H1;replace c_a:=(H1.out).cc3)
  |(go_at_call 98;with_reducible refine fx QO2 H1 ?_;clear QO2 H1;intro W2 H2;replace c_a:=(H2.out).cc3)
  |(go_at_call 94;with_reducible refine fx QN H2 ?_;clear QN H2;intro W3 hj;have e_a:=(hj.out).ff3;have H3:=hj.out.layP q c L at1 bad1;(try simp only[nn] at H3);replace c_a:=(H3.out).ccCCCC;clear hj)
  |(go_at_call 98;with_reducible refine fx QO4 H3 ?_;clear QO4 H3;intro W4 H4;replace c_a:=(H4.out).ccCCCC))
 go_wp2_with(go_at_call 94;with_reducible refine fx QN2 H4 ?_;clear QN2 H4;intro W5 H5;replace c_a:=(H5.out).cc3)
 obtain⟨Wf,hA,hB,hf⟩:=sets H5 1 2 q c L at2 bad2 9 ⟨#[]⟩ (.slice none 0 0) rfl rfl
 first|rewrite[←hA]|rewrite[←hB]
 (try simp only[nn] at hf);clear hA hB
 have hf:=hf.nilN
 have r0:=And.intro (hf.c3 1 rfl).1 (hf.c3 2 rfl).1
 have HF:=qh (And.intro (Fr.toldH q c L ⟨(at2,bad2),.mk 9 ⟨#[]⟩ [],[],false⟩ hf) (Fr.toldH q c L ⟨(at2,bad2),.mk 9 ⟨#[]⟩ [],[],false⟩ hf.drew))
 clear hf
 (try go_wp2)
 first
  |exact bodyPost_ret (by simp[results,Tryz.results138,go_sem,r0]) rfl HF.out.1
  |exact bodyPost_ret (by simp[results,Tryz.results138,go_sem,r0]) rfl HF.out.2
theorem qhA{q:Option Addr}{c:Nat}{L:List PTok}(hl:L.length≤1000000000)(p:PSt)(p1 p2:PSt)(a:PRes)(ho:opP L p ⟨#[40]⟩=false)(ho2:opP L p ⟨#[91]⟩=true)(hp1:qs L p=some p1)(ho3:opP L p1 ⟨#[93]⟩=false)(ha:qn q c L (.exp p1 1) a)(hp2:q7 L a.st ⟨#[93]⟩=some p2):qn q c L (.bracket p) ⟨p2,.mk 9 ⟨#[]⟩ [a.n],[],false⟩:=by
 intro w h
 have H0:=qh (qD w q c L p)
 have QO1:=qh (fun U hU=>qp q c L p ⟨#[40]⟩ U (h.below hU))
 (rw[ho] at QO1;have QO2:=qh (fun U hU=>qp q c L p ⟨#[91]⟩ U (h.below hU));rw[ho2] at QO2;have QO4:=qh (fun U hU=>qp q c L p1 ⟨#[93]⟩ U (h.below hU));rw[ho3] at QO4;have QN:=qh (fun U (hU:Below w.heap.size w U)=>qq q c L p p1 U hl hp1);have QP:=qh (fun U hU=>qB q c L p1 a ha U (h.below hU));have QD:=qh (fun U hU=>qt q c L a.st p2 ⟨#[93]⟩ U (h.below hU) hp2))
 clear h ho ho2 ho3 hp1 ha hp2
 obtain⟨at',bad⟩:=p
 obtain⟨at1,bad1⟩:=p1
 obtain⟨at2,bad2⟩:=p2
 obtain⟨⟨ata,bada⟩,n,l,b⟩:=a
 go_enter Tryz.func138,Tryz.ntmps138
 go_upto_region 9 with(first
  |(go_at_call 98;with_reducible refine fx QO1 H0 ?_;clear QO1 H0;intro W1 H1;replace c_a:=(H1.out).cc3)
  |(go_at_call 98;with_reducible refine fx QO2 H1 ?_;clear QO2 H1;intro W2 H2;replace c_a:=(H2.out).cc3)
  |(go_at_call 94;with_reducible refine fx QN H2 ?_;clear QN H2;intro W3 hj;have e_a:=(hj.out).ff3;have H3:=hj.out.layP q c L at1 bad1;(try simp only[nn] at H3);replace c_a:=(H3.out).ccCCCC;clear hj)
  |(go_at_call 98;with_reducible refine fx QO4 H3 ?_;clear QO4 H3;intro W4 H4;replace c_a:=(H4.out).ccCCCC)
  |(go_at_call 67;with_reducible refine fm QP H4 ?_;clear QP H4;intro w5 pu_1 cu_1 hj;have e_a:=(hj).ff4;have H5:=hj.layM (q:=q) (c:=c) (L:=L) ata bada n (.slice pu_1 n.kids.length cu_1);(try simp only[nn] at H5);replace c_a:=(H5.out).ccCCCCCC;clear hj))
 obtain⟨W6,hW,H6⟩:=fr_w H5;rewrite[←hW];(try simp only[nn] at H6);clear hW H5
 replace c_a:=(H6.out).ccCCCCCC
 have QD2:=qh (fun U (hU:Below W6.heap.size W6 U)=>QD.out U (H6.out.low.trans (hU.mono H6.out.low.size)))
 have ka:=fun U o (hU:Below W6.heap.size W6 U)=>(Fr.skip (H6.out.stays hU) o).c3 1 rfl
 have kb:=fun U o (hU:Below W6.heap.size W6 U)=>(Fr.skip (H6.out.stays hU) o).c3 2 rfl
 have kc:=fun U x y z o (hU:Below W6.heap.size W6 U)=>(Fr.skip (Fr.set3 (x:=x) (y:=y) (z:=z) (H6.out.stays hU) 1 rfl) o).c3 2 rfl
 have ka1:=fun U o hU=>(ka U o hU).1.1
 have ka2:=fun U o hU=>(ka U o hU).1.2.1
 have ka3:=fun U o hU=>(ka U o hU).1.2.2
 have ka4:=fun U o hU=>(ka U o hU).2.1
 have ka5:=fun U o hU=>(ka U o hU).2.2.1
 have ka6:=fun U o hU=>(ka U o hU).2.2.2
 have kb1:=fun U o hU=>(kb U o hU).1.1
 have kb2:=fun U o hU=>(kb U o hU).1.2.1
 have kb3:=fun U o hU=>(kb U o hU).1.2.2
 have kb4:=fun U o hU=>(kb U o hU).2.1
 have kb5:=fun U o hU=>(kb U o hU).2.2.1
 have kb6:=fun U o hU=>(kb U o hU).2.2.2
 have kc1:=fun U x y z o hU=>(kc U x y z o hU).1.1
 have kc2:=fun U x y z o hU=>(kc U x y z o hU).1.2.1
 have kc3:=fun U x y z o hU=>(kc U x y z o hU).1.2.2
 have kc4:=fun U x y z o hU=>(kc U x y z o hU).2.1
 have kc5:=fun U x y z o hU=>(kc U x y z o hU).2.2.1
 have kc6:=fun U x y z o hU=>(kc U x y z o hU).2.2.2
 clear ka kb kc
 obtain⟨u1,u2,u3,u4,u5,u6,u7,hb0,hb1⟩:=Fr.held (S:=(fun w'=>B1 (w5.heap.size) ((.slice q L.length c)) ((.int .i64 (ata:Int))) ((.bool bada)) w'∧B1 (w5.heap.size+1) ((.int .i64 n.kind)) ((.string n.text)) ((.slice pu_1 n.kids.length cu_1)) w')) H6.out 1 2 (fun U bs' h e=>⟨((h).c3 4 (e 4 rfl)).1,((h).c3 5 (e 5 rfl)).1⟩) rfl rfl
 go_region_held3 ((fun w'=>B1 (w5.heap.size) ((.slice q L.length c)) ((.int .i64 (ata:Int))) ((.bool bada)) w'∧B1 (w5.heap.size+1) ((.int .i64 n.kind)) ((.string n.text)) ((.slice pu_1 n.kids.length cu_1)) w'))
  (with_reducible first|exact HS4.out|exact HS5.out _|assumption|(first|apply u7.out|apply u4.out|apply u5.out|apply u6.out|apply u3.out|apply u2.out|apply u1.out);(with_reducible first|exact hb0|assumption|exact hb1 _|exact qc hb0 _|exact qc (by assumption) _))
  (first|(go_at_call 96;with_reducible refine(QD2.out _ (by(with_reducible first|exact hb0|assumption|exact hb1 _|exact qc hb0 _|exact qc (by assumption) _))).mono ?_;rintro _ U ⟨rfl,bu⟩;have bb:Below W6.heap.size W6 U:=Below.trans (by(with_reducible first|exact hb0|assumption|exact hb1 _|exact qc hb0 _|exact qc (by assumption) _)) (bu.mono (Below.size (show Below W6.heap.size W6 _ by(with_reducible first|exact hb0|assumption|exact hb1 _|exact qc hb0 _|exact qc (by assumption) _))));replace c_a:=((H6.out.stays bb)).cc3;have e_a:=((H6.out.stays bb)).ff3;have BU:=qh bu;clear bu))
 all_goals
  have hbu:Below W6.heap.size W6 U:=by assumption
  first
   |(have hda:=Fr.set3 (Fr.set3 ((H6.out.stays hbu).lit1 n (u:=.slice pu_1 n.kids.length cu_1) (by simp)) 1 rfl (x:=.slice q L.length c) (y:=.int .i64 (at2:Int)) (z:=.bool bad2)) 2 rfl (x:=.int .i64 9) (y:=.string ⟨#[]⟩) (z:=(.slice (some ⟨U.heap.size,0,none⟩) 1 1));obtain⟨Wf,hW,hf⟩:=qd hda;rewrite[←hW];(try simp only[nn] at hf);clear hW;clear hda)
   |(have hda:=Fr.set3 ((Fr.set3 (H6.out.stays hbu) 1 rfl (x:=.slice q L.length c) (y:=.int .i64 (at2:Int)) (z:=.bool bad2)).lit1S n (u:=.slice pu_1 n.kids.length cu_1) (by simp)) 2 rfl (x:=.int .i64 9) (y:=.string ⟨#[]⟩) (z:=(.slice (some ⟨U.heap.size,0,none⟩) 1 1));obtain⟨Wf,hW,hf⟩:=qd hda;rewrite[←hW];(try simp only[nn] at hf);clear hW;clear hda)
   |(have hda:=Fr.set3 (Fr.set3 ((H6.out.lit1 n (u:=.slice pu_1 n.kids.length cu_1) (by simp)).drew.stays BU.out) 1 rfl (x:=.slice q L.length c) (y:=.int .i64 (at2:Int)) (z:=.bool bad2)) 2 rfl (x:=.int .i64 9) (y:=.string ⟨#[]⟩) (z:=(.slice (some ⟨W6.heap.size,0,none⟩) 1 1));obtain⟨Wf,hW,hf⟩:=qd hda;rewrite[←hW];(try simp only[nn] at hf);clear hW;clear hda)
   |(have hda:=Fr.set3 (Fr.set3 ((H6.out.drew.lit1 n (u:=.slice pu_1 n.kids.length cu_1) (by simp)).stays BU.out) 1 rfl (x:=.slice q L.length c) (y:=.int .i64 (at2:Int)) (z:=.bool bad2)) 2 rfl (x:=.int .i64 9) (y:=.string ⟨#[]⟩) (z:=(.slice (some ⟨W6.heap.size,0,none⟩) 1 1));obtain⟨Wf,hW,hf⟩:=qd hda;rewrite[←hW];(try simp only[nn] at hf);clear hW;clear hda)
  have r0:=And.intro (hf.c3 1 rfl).1 (hf.c3 2 rfl).1
  have HF:=qh (And.intro (Fr.toldH q c L ⟨(at2,bad2),.mk 9 ⟨#[]⟩ [n],[],false⟩ hf) (Fr.toldH q c L ⟨(at2,bad2),.mk 9 ⟨#[]⟩ [n],[],false⟩ hf.drew))
  clear hf
  (try go_wp2)
  first
   |exact bodyPost_ret (by simp[results,Tryz.results138,go_sem,r0]) rfl HF.out.1
   |exact bodyPost_ret (by simp[results,Tryz.results138,go_sem,r0]) rfl HF.out.2
theorem qhm{q:Option Addr}{c:Nat}{L:List PTok}(hl:L.length≤1000000000)(p:PSt)(ho:opP L p ⟨#[40]⟩=false)(ho2:opP L p ⟨#[91]⟩=false)(ho3:opP L p ⟨#[123]⟩=false):qn q c L (.bracket p) ⟨qR p,qj,[],false⟩:=by
 intro w h
 have H0:=qh (qD w q c L p)
 have QO1:=qh (fun U hU=>qp q c L p ⟨#[40]⟩ U (h.below hU))
 (rw[ho] at QO1;have QO2:=qh (fun U hU=>qp q c L p ⟨#[91]⟩ U (h.below hU));rw[ho2] at QO2;have QO3:=qh (fun U hU=>qp q c L p ⟨#[123]⟩ U (h.below hU));rw[ho3] at QO3)
 clear h ho ho2 ho3
 obtain⟨at',bad⟩:=p
 have QW:Hid (∀U,Below w.heap.size w U→Calls Tryz.prog 68 #[.agg #[.slice q L.length c,.int .i64 (at':Int),.bool bad]] U fun e w'=>e=.returned (.agg #[.slice q L.length c,.int .i64 (at':Int),.bool true])∧Below U.heap.size U w'):=qh (fun U _=>qX q c L (at',bad) U)
 go_enter Tryz.func138,Tryz.ntmps138
 go_upto_region 11 with(first
  |(go_at_call 98;with_reducible refine fx QO1 H0 ?_;clear QO1 H0;intro W1 H1;replace c_a:=(H1.out).cc3)
  |(go_at_call 98;with_reducible refine fx QO2 H1 ?_;clear QO2 H1;intro W2 H2;replace c_a:=(H2.out).cc3)
  |(go_at_call 98;with_reducible refine fx QO3 H2 ?_;clear QO3 H2;intro W3 H3;replace c_a:=(H3.out).cc3))
 go_wp2_with(go_at_call 68;with_reducible refine fx QW H3 ?_;clear QW H3;intro W4 H4;replace c_a:=(H4.out).cc3)
 obtain⟨Wf,hA,hB,hf⟩:=sets H4 1 2 q c L at' true 0 ⟨#[]⟩ (.slice none 0 0) rfl rfl
 first|rewrite[←hA]|rewrite[←hB]
 (try simp only[nn] at hf);clear hA hB
 have hf:=hf.nilN
 have r0:=And.intro (hf.c3 1 rfl).1 (hf.c3 2 rfl).1
 have HF:=qh (And.intro (hf.told q c L ⟨(at',true),qj,[],false⟩ (.slice none 0 0) (by simp[qb.kids,qj])) (hf.drew.told q c L ⟨(at',true),qj,[],false⟩ (.slice none 0 0) (by simp[qb.kids,qj])))
 clear hf
 (try go_wp2)
 refine bodyPost_ret (v:=(.tuple #[pV q c L (at',true),.agg #[.int .i64 0,.string ⟨#[]⟩,.slice none 0 0]])) (by simp[results,Tryz.results138,go_sem,r0]) rfl ?_
 first|exact HF.out.1|exact HF.out.2
theorem qht{q:Option Addr}{c:Nat}{L:List PTok}(hl:L.length≤1000000000)(p:PSt)(p1 p2:PSt)(ho:opP L p ⟨#[40]⟩=false)(ho2:opP L p ⟨#[91]⟩=false)(ho3:opP L p ⟨#[123]⟩=true)(hp1:qs L p=some p1)(ho4:opP L p1 ⟨#[125]⟩=true)(hp2:qs L p1=some p2):qn q c L (.bracket p) ⟨p2,.mk 10 ⟨#[]⟩ [],[],false⟩:=by
 intro w h
 have H0:=qh (qD w q c L p)
 have QO1:=qh (fun U hU=>qp q c L p ⟨#[40]⟩ U (h.below hU))
 (rw[ho] at QO1;have QO2:=qh (fun U hU=>qp q c L p ⟨#[91]⟩ U (h.below hU));rw[ho2] at QO2;have QO3:=qh (fun U hU=>qp q c L p ⟨#[123]⟩ U (h.below hU));rw[ho3] at QO3;have QO4:=qh (fun U hU=>qp q c L p1 ⟨#[125]⟩ U (h.below hU));rw[ho4] at QO4;have QN:=qh (fun U (hU:Below w.heap.size w U)=>qq q c L p p1 U hl hp1);have QN2:=qh (fun U=>qq q c L p1 p2 U hl hp2))
 clear h ho ho2 ho3 ho4 hp1 hp2
 obtain⟨at',bad⟩:=p
 obtain⟨at1,bad1⟩:=p1
 obtain⟨at2,bad2⟩:=p2
 go_enter Tryz.func138,Tryz.ntmps138
 go_upto_region 13 with(first
  |(go_at_call 98;with_reducible refine fx QO1 H0 ?_;clear QO1 H0;intro W1 H1;replace c_a:=(H1.out).cc3)
  |(go_at_call 98;with_reducible refine fx QO2 H1 ?_;clear QO2 H1;intro W2 H2;replace c_a:=(H2.out).cc3)
  |(go_at_call 98;with_reducible refine fx QO3 H2 ?_;clear QO3 H2;intro W3 H3;replace c_a:=(H3.out).cc3))
 have H4:=qh (H3.out.lay [.int .i64 10,.string ⟨#[]⟩,.slice none 0 0] 24)
 have e_a:=(H3.out).ff3
 clear H3
 replace k_a:=(H4.out).ccCCCC
 go_upto_region 14 with(go_at_call 94;with_reducible refine fx QN H4 ?_;clear QN H4;intro W5 H5;replace c_a:=(H5.out).ccCCCC)
 obtain⟨W6,hW,H6⟩:=ab3 H5 0 (.slice q L.length c) (.int .i64 (at1:Int)) (.bool bad1) rfl;rewrite[←hW];(try simp only[nn] at H6);clear hW H5
 replace c_a:=(H6.out).ccCCCC
 have e_a:=(H6.out).ff4
 go_upto_region 15 with(go_at_call 98;with_reducible refine fx QO4 H6 ?_;clear QO4 H6;intro W7 H7;replace c_a:=(H7.out).ccCCCC)
 obtain⟨u1,u2,u3,u4,u5,u6,u7,hb0,hb1⟩:=Fr.held (S:=(fun w'=>B1 (w.heap.size) ((.slice q L.length c)) ((.int .i64 (at1:Int))) ((.bool bad1)) w'∧B1 (W3.heap.size) ((.int .i64 10)) ((.string ⟨#[]⟩)) ((.slice none 0 0)) w')) H7.out 1 2 (fun U bs' h e=>⟨((h).c3 0 (e 0 rfl)).1,((h).c3 3 (e 3 rfl)).1⟩) rfl rfl
 go_region_held3 ((fun w'=>B1 (w.heap.size) ((.slice q L.length c)) ((.int .i64 (at1:Int))) ((.bool bad1)) w'∧B1 (W3.heap.size) ((.int .i64 10)) ((.string ⟨#[]⟩)) ((.slice none 0 0)) w'))
  (with_reducible first|exact HS4.out|exact HS5.out _|assumption|(first|apply u7.out|apply u4.out|apply u5.out|apply u6.out|apply u3.out|apply u2.out|apply u1.out);(with_reducible first|exact hb0|assumption|exact hb1 _|exact qc hb0 _|exact qc (by assumption) _))
  (first|(go_at_call 94;with_reducible refine(QN2.out _).mono ?_;rintro _ U ⟨rfl,bu⟩;have bb:Below W7.heap.size W7 U:=Below.trans (by(with_reducible first|exact hb0|assumption|exact hb1 _|exact qc hb0 _|exact qc (by assumption) _)) (bu.mono (Below.size (show Below W7.heap.size W7 _ by(with_reducible first|exact hb0|assumption|exact hb1 _|exact qc hb0 _|exact qc (by assumption) _))));replace c_a:=((H7.out.stays bb)).cc3;have e_a:=((H7.out.stays bb)).ff3;have BU:=qh bu;clear bu))
 all_goals
  have hbu:Below W7.heap.size W7 U:=by assumption
  have HU:=qh (H7.out.stays hbu)
  obtain⟨Wf,hA,hB,hf⟩:=sets HU 1 2 q c L at2 bad2 10 ⟨#[]⟩ (.slice none 0 0) rfl rfl
  first|rewrite[←hA]|rewrite[←hB]
  (try simp only[nn] at hf);clear hA hB
  have hf:=hf.nilN
  have r0:=And.intro (hf.c3 1 rfl).1 (hf.c3 2 rfl).1
  have HF:=qh (And.intro (hf.told q c L ⟨(at2,bad2),.mk 10 ⟨#[]⟩ [],[],false⟩ (.slice none 0 0) (by simp[qb.kids])) (hf.drew.told q c L ⟨(at2,bad2),.mk 10 ⟨#[]⟩ [],[],false⟩ (.slice none 0 0) (by simp[qb.kids])))
  clear hf
  (try go_wp2)
  refine bodyPost_ret (v:=(.tuple #[pV q c L (at2,bad2),.agg #[.int .i64 10,.string ⟨#[]⟩,.slice none 0 0]])) (by simp[results,Tryz.results138,go_sem,r0]) rfl ?_
  first|exact HF.out.1|exact HF.out.2
structure ObjH(R:POps)(w wr:World)(B:Nat)(q:Option Addr)(c:Nat)(L:List PTok)(f:Nat)(r:PRes)(p:PSt)(l:List qb)(us:List Value)(pv:Option Addr)(cv f':Nat)(ks:List Fact):Prop where
 run:runP R L f' (.objL p l)=some r
 fuel:f'≤f
 fr:Fr (fun _=>False) w wr [⟨w.heap.size,78,[.slice q L.length c,.int .i64 (p.1:Int),.bool p.2]⟩,⟨w.heap.size+1,78,[.slice none 0 0,.int .i64 0,.bool false]⟩,⟨w.heap.size+1+1,24,[.int .i64 0,.string ⟨#[]⟩,.slice none 0 0]⟩,⟨B,24,[.int .i64 10,.string ⟨#[]⟩,.slice pv l.length cv]⟩] [rowN (.slice pv l.length cv) l us] ks
 kn:KN l us ks
theorem qW{l m:List qb}{x:qb}(h:qae l x=some m):l.length<1000000000∧m=l++[x]:=by
 unfold qae at h
 by_cases e:l.length<1000000000
 ·rw[if_pos e] at h;exact⟨e,(Option.some.inj h).symm⟩
 ·rw[if_neg e] at h;cases h
theorem qiF{R:POps}{q:Option Addr}{c:Nat}{L:List PTok}{f:Nat}(ih:PAll R q c L (f+1))(hl:L.length≤1000000000)(p p1:PSt)(r:PRes)(ho:opP L p ⟨#[40]⟩=false)(ho2:opP L p ⟨#[91]⟩=false)(ho3:opP L p ⟨#[123]⟩=true)(hp1:qs L p=some p1)(ho4:opP L p1 ⟨#[125]⟩=false)(hr:runP R L f (.objL p1 [])=some r):qn q c L (.bracket p) r:=by
 intro w h
 have H0:=qh (qD w q c L p)
 have QO1:=qh (fun U hU=>qp q c L p ⟨#[40]⟩ U (h.below hU))
 have QO2:=qh (fun U hU=>qp q c L p ⟨#[91]⟩ U (h.below hU))
 have QO3:=qh (fun U hU=>qp q c L p ⟨#[123]⟩ U (h.below hU))
 have QO4:=qh (fun U hU=>qp q c L p1 ⟨#[125]⟩ U (h.below hU))
 rw[ho] at QO1
 rw[ho2] at QO2
 rw[ho3] at QO3
 rw[ho4] at QO4
 have QN:=qh (fun U (hU:Below w.heap.size w U)=>qq q c L p p1 U hl hp1)
 have IH:=qh ih
 have HR:=qh hr
 have HP:=qh h
 clear ho ho2 ho3 ho4 hp1 h ih hr
 obtain⟨at',bad⟩:=p
 obtain⟨at1,bad1⟩:=p1
 go_enter Tryz.func138,Tryz.ntmps138
 go_upto_region 13 with(first
  |(go_at_call 98;with_reducible refine fx QO1 H0 ?_;clear QO1 H0;intro W1 H1;replace c_a:=(H1.out).cc3)
  |(go_at_call 98;with_reducible refine fx QO2 H1 ?_;clear QO2 H1;intro W2 H2;replace c_a:=(H2.out).cc3)
  |(go_at_call 98;with_reducible refine fx QO3 H2 ?_;clear QO3 H2;intro W3 H3;replace c_a:=(H3.out).cc3))
 have H4:=qh (H3.out.lay [.int .i64 10,.string ⟨#[]⟩,.slice none 0 0] 24)
 have e_a:=(H3.out).ff3
 clear H3
 replace k_a:=(H4.out).ccCCCC
 go_upto_region 14 with(go_at_call 94;with_reducible refine fx QN H4 ?_;clear QN H4;intro W5 H5;replace c_a:=(H5.out).ccCCCC)
 obtain⟨W6,hW,H6⟩:=ab3 H5 0 (.slice q L.length c) (.int .i64 (at1:Int)) (.bool bad1) rfl;rewrite[←hW];(try simp only[nn] at H6);clear hW H5
 replace c_a:=(H6.out).ccCCCC
 have e_a:=(H6.out).ff4
 go_wp2_with(go_at_call 98;with_reducible refine fx QO4 H6 ?_;clear QO4 H6;intro W7 H7;replace c_a:=(H7.out).ccCCCC)
 have H8:=qh (H7.out.rowNil 24 3)
 clear H7
 generalize W3.heap.size=B at*
 go_loopw [] (fun wr=>∃(f':Nat) (p:PSt) (l:List qb) (us:List Value) (pv:Option Addr) (cv:Nat) (ks:List Fact),Hid (ObjH R w wr B q c L f r p l us pv cv f' ks)) (fun wr=>qd4 wr w.heap.size L.length)
 case atStart=>exact⟨f,(at1,bad1),[],[],none,0,_,qh ⟨HR.out,Nat.le_refl _,H8.out,KN.nil _⟩⟩
 case round=>
  clear HR H8
  obtain⟨f',p,l,us,pv,cv,ks,HH⟩:=hrel
  obtain⟨g,rfl⟩:∃g,f'=g+1:=by
   cases f' with
   |zero=>have:=HH.out.run;rw[runP] at this;cases this
   |succ g=>exact⟨g,rfl⟩
  have hrun:=HH.out.run
  have hgf:=HH.out.fuel
  rw[runP] at hrun
  obtain⟨a,ha,hrun⟩:=Option.bind_eq_some_iff.1 hrun
  obtain⟨l',hl',hrun⟩:=Option.bind_eq_some_iff.1 hrun
  obtain⟨hlen,rfl⟩:=qW hl'
  have H1:=qh HH.out.fr
  have KN1:=qh HH.out.kn
  have HLEN:=qh HH.out.kn.1
  have QP:=qh (fun U (hU:Below w.heap.size w U)=>IH.out g (by omega) _ _ ha U (HP.out.below hU))
  have QO:=qh (fun U hU=>qp q c L a.st ⟨#[44]⟩ U (HP.out.below hU))
  clear ha hl'
  by_cases ho:opP L a.st ⟨#[44]⟩=true
  ·rw[if_pos ho] at hrun
   obtain⟨p2,hp2,hrun⟩:=Option.bind_eq_some_iff.1 hrun
   obtain⟨u0,hon,hrun⟩:=Option.bind_eq_some_iff.1 hrun
   have hnext:=qbK hp2 (qdz ho).1
   have hon2:=qaK hon
   rw[ho] at QO
   have QN:=qh (fun U (hU:Below w.heap.size w U)=>qq q c L a.st p2 U hl hp2)
   have HM:Hid (L.length-p2.1<L.length-p.1):=qh (by
    rw[hnext.2] at hon2⊢
    dsimp only at hon2⊢
    rcases hon2 with hx|hx
    ·cases hx
    ·have:=hnext.1;omega)
   have HRUN:=qh hrun
   clear hrun hnext hon hon2 hp2 ho
   obtain⟨at2,bad2⟩:=p
   obtain⟨at3,bad3⟩:=p2
   obtain⟨⟨ata,bada⟩,na,la,ba⟩:=a
   replace c_a:=(H1.out).ccCCCC
   have e_a:=(H1.out).ff4
   go_upto_region 17 with(go_at_call 141;with_reducible refine fm QP H1 ?_;clear QP H1;intro w2 pu_1 cu_1 hj;have e_a:=(hj).ff4;have H2:=hj.layM (q:=q) (c:=c) (L:=L) ata bada na (.slice pu_1 na.kids.length cu_1);(try simp only[nn] at H2);replace c_a:=(H2.out).ccCCCCCC;clear hj)
   obtain⟨w3,hW,H3⟩:=fr_w H2;rewrite[←hW];(try simp only[nn] at H3);clear hW H2
   replace c_a:=(H3.out).ccCCCCCC
   have e_0:=(H3.out).far 0 rfl;have e_1:=(H3.out).far 1 rfl;have e_2:=(H3.out).far 2 rfl;replace e_3:=(H3.out).far 3 rfl;replace e_5:=(H3.out).far 5 rfl
   go_upto_region 18 with(at_builtin;go_loud(refine q8 (H3.out.skip _) 0 rfl HLEN.out na (by simp) (World.alloc_heap_new w3 _) (by omega) rfl _ _ rfl rfl rfl ?_;intro p4 c4 w4 hf;have H3b:=qh hf;clear hf;replace c_a:=(H3b.out).ccCCCCCC))
   have h4:=H3b.out.set 3 2 rfl (.slice p4 (l.length+1) c4)
   obtain⟨w4b,hW,hj⟩:=qd h4
   rewrite[←hW]
   (try simp only[nn] at hj)
   have H4:=qh hj
   have KN4:=qh ((KN1.out.more (F:=qk (.slice pu_1 na.kids.length cu_1) na.kids)).snoc (x:=na) (u:=.slice pu_1 na.kids.length cu_1) List.mem_cons_self)
   clear h4 hW hj
   replace c_a:=(H4.out).ccCCCCCC
   go_wp2_with(first
    |(go_at_call 98;with_reducible refine fx QO H4 ?_;clear QO H4;intro w5 H5;replace c_a:=(H5.out).ccCCCCCC)
    |(go_at_call 94;with_reducible refine fx QN H5 ?_;clear QN H5;intro w6 H6;replace c_a:=(H6.out).ccCCCCCC))
   have h7:=Fr.set3 (x:=.slice q L.length c) (y:=.int .i64 (at3:Int)) (z:=.bool bad3) H6.out 0 rfl
   (try simp only[nn] at h7)
   have H7:=qh h7.drop4
   clear h7
   go_roundw
   case rel=>exact⟨g,(at3,bad3),l++[na],us++[.slice pu_1 na.kids.length cu_1],p4,c4,_,qh ⟨HRUN.out,by omega,by rw[List.length_append];exact H7.out,KN4.out⟩⟩
   case measure=>
    rw[H7.out.leftA 0 rfl,HH.out.fr.leftA 0 rfl]
    exact HM.out
  ·rw[if_neg ho] at hrun
   have ho':opP L a.st ⟨#[44]⟩=false:=by simpa using ho
   obtain⟨p2,hp2,hrun⟩:=Option.bind_eq_some_iff.1 hrun
   have er:=(Option.some.inj hrun).symm
   subst er
   rw[ho'] at QO
   have QD:=qh (fun U hU=>qt q c L a.st p2 ⟨#[125]⟩ U (HP.out.below hU) hp2)
   clear hrun hp2 ho ho'
   obtain⟨at2,bad2⟩:=p
   obtain⟨at3,bad3⟩:=p2
   obtain⟨⟨ata,bada⟩,na,la,ba⟩:=a
   replace c_a:=(H1.out).ccCCCC
   have e_a:=(H1.out).ff4
   go_upto_region 17 with(go_at_call 141;with_reducible refine fm QP H1 ?_;clear QP H1;intro w2 pu_1 cu_1 hj;have e_a:=(hj).ff4;have H2:=hj.layM (q:=q) (c:=c) (L:=L) ata bada na (.slice pu_1 na.kids.length cu_1);(try simp only[nn] at H2);replace c_a:=(H2.out).ccCCCCCC;clear hj)
   obtain⟨w3,hW,H3⟩:=fr_w H2;rewrite[←hW];(try simp only[nn] at H3);clear hW H2
   replace c_a:=(H3.out).ccCCCCCC
   have e_0:=(H3.out).far 0 rfl;have e_1:=(H3.out).far 1 rfl;have e_2:=(H3.out).far 2 rfl;replace e_3:=(H3.out).far 3 rfl;replace e_5:=(H3.out).far 5 rfl
   go_upto_region 18 with(at_builtin;go_loud(refine q8 (H3.out.skip _) 0 rfl HLEN.out na (by simp) (World.alloc_heap_new w3 _) (by omega) rfl _ _ rfl rfl rfl ?_;intro p4 c4 w4 hf;have H3b:=qh hf;clear hf;replace c_a:=(H3b.out).ccCCCCCC))
   have h4:=H3b.out.set 3 2 rfl (.slice p4 (l.length+1) c4)
   obtain⟨w4b,hW,hj⟩:=qd h4
   rewrite[←hW]
   (try simp only[nn] at hj)
   have H4:=qh hj
   have KN4:=qh ((KN1.out.more (F:=qk (.slice pu_1 na.kids.length cu_1) na.kids)).snoc (x:=na) (u:=.slice pu_1 na.kids.length cu_1) List.mem_cons_self)
   clear h4 hW hj
   replace c_a:=(H4.out).ccCCCCCC
   go_upto_region 19 with(go_at_call 98;with_reducible refine fx QO H4 ?_;clear QO H4;intro w5 H5;replace c_a:=(H5.out).ccCCCCCC)
   have h6:=H5.out.give1 KN4.out (by rw[List.length_append,List.length_singleton];omega)
   have H6:=qh h6
   clear h6 H5
   have QD2:=qh (fun U (hU:Below w5.heap.size w5 U)=>QD.out U (H6.out.low.trans (hU.mono H6.out.low.size)))
   obtain⟨u1,u2,u3,u4,u5,u6,u7,hb0,hb1⟩:=Fr.held (S:=(fun w'=>B1 (w2.heap.size) ((.slice q L.length c)) ((.int .i64 (ata:Int))) ((.bool bada)) w'∧B1 (B) ((.int .i64 10)) ((.string ⟨#[]⟩)) ((.slice p4 (l.length+1) c4)) w')) H6.out 1 2 (fun U bs' h e=>⟨((h).c3 4 (e 4 rfl)).1,((h).c3 3 (e 3 rfl)).1⟩) rfl rfl
   go_region_held3 ((fun w'=>B1 (w2.heap.size) ((.slice q L.length c)) ((.int .i64 (ata:Int))) ((.bool bada)) w'∧B1 (B) ((.int .i64 10)) ((.string ⟨#[]⟩)) ((.slice p4 (l.length+1) c4)) w'))
    (with_reducible first|exact HS4.out|exact HS5.out _|assumption|(first|apply u7.out|apply u4.out|apply u5.out|apply u6.out|apply u3.out|apply u2.out|apply u1.out);(with_reducible first|exact hb0|assumption|exact hb1 _|exact qc hb0 _|exact qc (by assumption) _))
    (first|(go_at_call 96;with_reducible refine(QD2.out _ (by(with_reducible first|exact hb0|assumption|exact hb1 _|exact qc hb0 _|exact qc (by assumption) _))).mono ?_;rintro _ U ⟨rfl,bu⟩;have bb:Below w5.heap.size w5 U:=Below.trans (by(with_reducible first|exact hb0|assumption|exact hb1 _|exact qc hb0 _|exact qc (by assumption) _)) (bu.mono (Below.size (show Below w5.heap.size w5 _ by(with_reducible first|exact hb0|assumption|exact hb1 _|exact qc hb0 _|exact qc (by assumption) _))));replace c_a:=((H6.out.stays bb)).cc3;have e_a:=((H6.out.stays bb)).ff3;have BU:=qh bu;clear bu))
   all_goals
    have hbu:Below w5.heap.size w5 U:=by assumption
    have HU:=qh (H6.out.stays hbu)
    obtain⟨Wf,hA,hB,hf⟩:=sets HU 1 2 q c L at3 bad3 10 ⟨#[]⟩ (.slice p4 (l.length+1) c4) rfl rfl
    first|rewrite[←hA]|rewrite[←hB]
    (try simp only[nn] at hf);clear hA hB
    have r0:=And.intro (hf.c3 1 rfl).1 (hf.c3 2 rfl).1
    have HF:=qh (And.intro (Fr.toldH q c L ⟨(at3,bad3),.mk 10 ⟨#[]⟩ (l++[na]),[],false⟩ hf) (Fr.toldH q c L ⟨(at3,bad3),.mk 10 ⟨#[]⟩ (l++[na]),[],false⟩ hf.drew))
    clear hf
    (try go_wp2)
    first
     |exact bodyPost_ret (by simp[results,Tryz.results138,go_sem,r0]) rfl HF.out.1
     |exact bodyPost_ret (by simp[results,Tryz.results138,go_sem,r0]) rfl HF.out.2
theorem qis{R:POps}{q:Option Addr}{c:Nat}{L:List PTok}{f:Nat}(ih:PAll R q c L (f+1))(hl:L.length≤1000000000)(p:PSt)(r:PRes)(hr:runP R L (f+1) (.bracket p)=some r):qn q c L (.bracket p) r:=by
 rw[runP] at hr
 have gi:=fun cm a (h:runP R L f cm=some a)=>ih f (Nat.lt_succ_self f) cm a h
 by_cases ho:opP L p ⟨#[40]⟩=true
 ·rw[if_pos ho] at hr
  obtain⟨p1,h1,hr⟩:=Option.bind_eq_some_iff.1 hr
  obtain⟨a,ha,hr⟩:=Option.bind_eq_some_iff.1 hr
  obtain⟨p2,h2,hr⟩:=Option.bind_eq_some_iff.1 hr
  cases hr
  exact qhp hl p p1 p2 a ho h1 (gi _ _ ha) h2
 ·rw[if_neg ho] at hr
  have ho':opP L p ⟨#[40]⟩=false:=by simpa using ho
  by_cases ho2:opP L p ⟨#[91]⟩=true
  ·rw[if_pos ho2] at hr
   obtain⟨p1,h1,hr⟩:=Option.bind_eq_some_iff.1 hr
   by_cases ho3:opP L p1 ⟨#[93]⟩=true
   ·rw[if_pos ho3] at hr
    obtain⟨p2,h2,hr⟩:=Option.bind_eq_some_iff.1 hr
    cases hr
    exact qix hl p p1 p2 ho' ho2 h1 ho3 h2
   ·rw[if_neg ho3] at hr
    obtain⟨a,ha,hr⟩:=Option.bind_eq_some_iff.1 hr
    obtain⟨p2,h2,hr⟩:=Option.bind_eq_some_iff.1 hr
    cases hr
    exact qhA hl p p1 p2 a ho' ho2 h1 (by simpa using ho3) (gi _ _ ha) h2
  ·rw[if_neg ho2] at hr
   have ho2':opP L p ⟨#[91]⟩=false:=by simpa using ho2
   by_cases ho3:opP L p ⟨#[123]⟩=true
   ·rw[if_pos ho3] at hr
    obtain⟨p1,h1,hr⟩:=Option.bind_eq_some_iff.1 hr
    by_cases ho4:opP L p1 ⟨#[125]⟩=true
    ·rw[if_pos ho4] at hr
     obtain⟨p2,h2,hr⟩:=Option.bind_eq_some_iff.1 hr
     cases hr
     exact qht hl p p1 p2 ho' ho2' ho3 h1 ho4 h2
    ·rw[if_neg ho4] at hr
     exact qiF ih hl p p1 r ho' ho2' ho3 h1 (by simpa using ho4) hr
   ·rw[if_neg ho3] at hr
    cases hr
    exact qhm hl p ho' ho2' (by simpa using ho3)
theorem qa8{t:ByteArray}{l:List UInt8}(h:t≠⟨l.toArray⟩):(t.toList=l)=False∧(t.toList==l)=false:=by
 have h':t.toList≠l:=fun e=>h (qc4 (by rw[e,ByteArray.toList_eq]))
 exact⟨eq_false h',beq_eq_false_iff_ne.2 h'⟩
theorem qkW{R:POps}(hR:ROps R){q:Option Addr}{c:Nat}{L:List PTok}(hL:qan L)(hl:L.length≤1000000000)(p:PSt)(p1:PSt)(a:PRes)(ht:(tokP L p).2=⟨#[105,102]⟩)(hp1:qs L p=some p1)(ha:qn q c L (.ifs p1) a):qn q c L (.worded p) ⟨a.st,a.n,[],false⟩:=by
 intro w h
 have H0:=qh (qD w q c L p)
 have QT:=qh (fun U hU=>qu q c L p U (h.below hU))
 have hsz:=hL.tok p
 (have QN:=qh (fun U (hU:Below w.heap.size w U)=>qq q c L p p1 U hl hp1);have QS:=qh (fun U hU=>ha U (h.below hU)))
 clear h hL hp1 ha
 generalize tokP L p=tok at*
 obtain⟨tk,tt⟩:=tok
 dsimp only at ht QT
 subst ht
 obtain⟨at',bad⟩:=p
 obtain⟨at1,bad1⟩:=p1
 obtain⟨⟨ata,bada⟩,n,l,b⟩:=a
 go_enter Tryz.func139,Tryz.ntmps139
 go_upto_region 4 with(first
  |(go_at_call 93;with_reducible refine fx QT H0 ?_;clear H0;intro W1 H1;replace c_a:=(H1.out).cc3)
  |(go_at_call 94;with_reducible refine fx QN H1 ?_;clear QN H1;intro W2 H2;replace c_a:=(H2.out).cc3)
  |(go_at_call 142;with_reducible refine fm QS H2 ?_;clear QS H2;intro w3 pu_1 cu_1 hj;have e_a:=(hj).ff3;have H3:=hj.layM (q:=q) (c:=c) (L:=L) ata bada n (.slice pu_1 n.kids.length cu_1);(try simp only[nn] at H3);replace c_a:=(H3.out).ccCCCCC;clear hj))
 obtain⟨W4,hW,H4⟩:=fr_w H3;rewrite[←hW];(try simp only[nn] at H4);clear hW H3
 replace c_a:=(H4.out).ccCCCCC
 go_region
 all_goals
  obtain⟨Wf,hA,hB,hf⟩:=sets H4 1 2 q c L ata bada n.kind n.text (.slice pu_1 n.kids.length cu_1) rfl rfl
  first|rewrite[←hA]|rewrite[←hB]
  (try simp only[nn] at hf);clear hA hB
  have hf:=hf.nilN
  have r0:=And.intro (hf.c3 1 rfl).1 (hf.c3 2 rfl).1
  have HF:=qh (And.intro (hf.told q c L ⟨(ata,bada),n,[],false⟩ (.slice pu_1 n.kids.length cu_1) (by simp)) (hf.drew.told q c L ⟨(ata,bada),n,[],false⟩ (.slice pu_1 n.kids.length cu_1) (by simp)))
  clear hf
  (try go_wp2)
  refine bodyPost_ret (v:=(.tuple #[pV q c L (ata,bada),.agg #[.int .i64 n.kind,.string n.text,.slice pu_1 n.kids.length cu_1]])) (by simp[results,Tryz.results139,go_sem,r0]) rfl ?_
  first|exact HF.out.1|exact HF.out.2
theorem qhn{R:POps}(hR:ROps R){q:Option Addr}{c:Nat}{L:List PTok}(hL:qan L)(hl:L.length≤1000000000)(p:PSt)(p1:PSt)(a:PRes)(ht:(tokP L p).2=⟨#[114,101,100,117,99,101]⟩)(hp1:qs L p=some p1)(ha:qn q c L (.fold p1 16 2) a):qn q c L (.worded p) ⟨a.st,a.n,[],false⟩:=by
 intro w h
 have H0:=qh (qD w q c L p)
 have QT:=qh (fun U hU=>qu q c L p U (h.below hU))
 have hsz:=hL.tok p
 (have QN:=qh (fun U (hU:Below w.heap.size w U)=>qq q c L p p1 U hl hp1);have QS:=qh (fun U hU=>ha U (h.below hU)))
 clear h hL hp1 ha
 generalize tokP L p=tok at*
 obtain⟨tk,tt⟩:=tok
 dsimp only at ht QT
 subst ht
 obtain⟨at',bad⟩:=p
 obtain⟨at1,bad1⟩:=p1
 obtain⟨⟨ata,bada⟩,n,l,b⟩:=a
 go_enter Tryz.func139,Tryz.ntmps139
 go_upto_region 7 with(first
  |(go_at_call 93;with_reducible refine fx QT H0 ?_;clear H0;intro W1 H1;replace c_a:=(H1.out).cc3)
  |(go_at_call 94;with_reducible refine fx QN H1 ?_;clear QN H1;intro W2 H2;replace c_a:=(H2.out).cc3)
  |(go_at_call 143;with_reducible refine fm QS H2 ?_;clear QS H2;intro w3 pu_1 cu_1 hj;have e_a:=(hj).ff3;have H3:=hj.layM (q:=q) (c:=c) (L:=L) ata bada n (.slice pu_1 n.kids.length cu_1);(try simp only[nn] at H3);replace c_a:=(H3.out).ccCCCCC;clear hj))
 obtain⟨W4,hW,H4⟩:=fr_w H3;rewrite[←hW];(try simp only[nn] at H4);clear hW H3
 replace c_a:=(H4.out).ccCCCCC
 go_region
 all_goals
  obtain⟨Wf,hA,hB,hf⟩:=sets H4 1 2 q c L ata bada n.kind n.text (.slice pu_1 n.kids.length cu_1) rfl rfl
  first|rewrite[←hA]|rewrite[←hB]
  (try simp only[nn] at hf);clear hA hB
  have hf:=hf.nilN
  have r0:=And.intro (hf.c3 1 rfl).1 (hf.c3 2 rfl).1
  have HF:=qh (And.intro (hf.told q c L ⟨(ata,bada),n,[],false⟩ (.slice pu_1 n.kids.length cu_1) (by simp)) (hf.drew.told q c L ⟨(ata,bada),n,[],false⟩ (.slice pu_1 n.kids.length cu_1) (by simp)))
  clear hf
  (try go_wp2)
  refine bodyPost_ret (v:=(.tuple #[pV q c L (ata,bada),.agg #[.int .i64 n.kind,.string n.text,.slice pu_1 n.kids.length cu_1]])) (by simp[results,Tryz.results139,go_sem,r0]) rfl ?_
  first|exact HF.out.1|exact HF.out.2
theorem qgt{R:POps}(hR:ROps R){q:Option Addr}{c:Nat}{L:List PTok}(hL:qan L)(hl:L.length≤1000000000)(p:PSt)(p1:PSt)(a:PRes)(ht:(tokP L p).2=⟨#[102,111,114,101,97,99,104]⟩)(hp1:qs L p=some p1)(ha:qn q c L (.fold p1 17 3) a):qn q c L (.worded p) ⟨a.st,a.n,[],false⟩:=by
 intro w h
 have H0:=qh (qD w q c L p)
 have QT:=qh (fun U hU=>qu q c L p U (h.below hU))
 have hsz:=hL.tok p
 (have QN:=qh (fun U (hU:Below w.heap.size w U)=>qq q c L p p1 U hl hp1);have QS:=qh (fun U hU=>ha U (h.below hU)))
 clear h hL hp1 ha
 generalize tokP L p=tok at*
 obtain⟨tk,tt⟩:=tok
 dsimp only at ht QT
 subst ht
 obtain⟨at',bad⟩:=p
 obtain⟨at1,bad1⟩:=p1
 obtain⟨⟨ata,bada⟩,n,l,b⟩:=a
 go_enter Tryz.func139,Tryz.ntmps139
 go_upto_region 10 with(first
  |(go_at_call 93;with_reducible refine fx QT H0 ?_;clear H0;intro W1 H1;replace c_a:=(H1.out).cc3)
  |(go_at_call 94;with_reducible refine fx QN H1 ?_;clear QN H1;intro W2 H2;replace c_a:=(H2.out).cc3)
  |(go_at_call 143;with_reducible refine fm QS H2 ?_;clear QS H2;intro w3 pu_1 cu_1 hj;have e_a:=(hj).ff3;have H3:=hj.layM (q:=q) (c:=c) (L:=L) ata bada n (.slice pu_1 n.kids.length cu_1);(try simp only[nn] at H3);replace c_a:=(H3.out).ccCCCCC;clear hj))
 obtain⟨W4,hW,H4⟩:=fr_w H3;rewrite[←hW];(try simp only[nn] at H4);clear hW H3
 replace c_a:=(H4.out).ccCCCCC
 go_region
 all_goals
  obtain⟨Wf,hA,hB,hf⟩:=sets H4 1 2 q c L ata bada n.kind n.text (.slice pu_1 n.kids.length cu_1) rfl rfl
  first|rewrite[←hA]|rewrite[←hB]
  (try simp only[nn] at hf);clear hA hB
  have hf:=hf.nilN
  have r0:=And.intro (hf.c3 1 rfl).1 (hf.c3 2 rfl).1
  have HF:=qh (And.intro (hf.told q c L ⟨(ata,bada),n,[],false⟩ (.slice pu_1 n.kids.length cu_1) (by simp)) (hf.drew.told q c L ⟨(ata,bada),n,[],false⟩ (.slice pu_1 n.kids.length cu_1) (by simp)))
  clear hf
  (try go_wp2)
  refine bodyPost_ret (v:=(.tuple #[pV q c L (ata,bada),.agg #[.int .i64 n.kind,.string n.text,.slice pu_1 n.kids.length cu_1]])) (by simp[results,Tryz.results139,go_sem,r0]) rfl ?_
  first|exact HF.out.1|exact HF.out.2
theorem qiw{R:POps}(hR:ROps R){q:Option Addr}{c:Nat}{L:List PTok}(hL:qan L)(hl:L.length≤1000000000)(p:PSt)(p1 p2:PSt)(t:ByteArray)(ht:(tokP L p).2=⟨#[98,114,101,97,107]⟩)(hp1:qs L p=some p1)(hp2:qcN L p1 5 1=some (p2,t)):qn q c L (.worded p) ⟨p2,.mk 28 t [],[],false⟩:=by
 intro w h
 have H0:=qh (qD w q c L p)
 have QT:=qh (fun U hU=>qu q c L p U (h.below hU))
 have hsz:=hL.tok p
 (have QN:=qh (fun U (hU:Below w.heap.size w U)=>qq q c L p p1 U hl hp1);have QK:Hid (∀U,Below w.heap.size w U→Calls Tryz.prog 126 #[pV q c L p1,.int .i64 5,.int .i64 1] U fun e w'=>e=.returned (.tuple #[pV q c L p2,.string t])∧Below U.heap.size U w'):=qh (fun U hU=>qdZ q c L p1 5 1 (p2,t) U (h.below hU) hp2))
 clear h hL hp1 hp2
 generalize tokP L p=tok at*
 obtain⟨tk,tt⟩:=tok
 dsimp only at ht QT
 subst ht
 obtain⟨at',bad⟩:=p
 obtain⟨at1,bad1⟩:=p1
 obtain⟨at2,bad2⟩:=p2
 go_enter Tryz.func139,Tryz.ntmps139
 go_upto_region 13 with(first
  |(go_at_call 93;with_reducible refine fx QT H0 ?_;clear H0;intro W1 H1;replace c_a:=(H1.out).cc3)
  |(go_at_call 94;with_reducible refine fx QN H1 ?_;clear QN H1;intro W2 H2;replace c_a:=(H2.out).cc3)
  |(go_at_call 126;go_loud((with_reducible refine(QK.out _ H2.out.low).mono ?_);rintro e W3 ⟨rfl,hb⟩;have hj:=H2.out.stays hb;have e_a:=(hj).ff3;have hm:=hj.lay [.slice q L.length c,.int .i64 (at2:Int),.bool bad2] 78;(try simp only[nn] at hm);have H3:=qh hm;replace c_a:=(H3.out).ccCCCC;clear hm hj hb)))
 go_wp2
 obtain⟨Wf,hA,hB,hf⟩:=sets H3 1 2 q c L at2 bad2 28 t (.slice none 0 0) rfl rfl
 first|rewrite[←hA]|rewrite[←hB]
 (try simp only[nn] at hf);clear hA hB
 have hf:=hf.nilN
 have r0:=And.intro (hf.c3 1 rfl).1 (hf.c3 2 rfl).1
 have HF:=qh (And.intro (Fr.toldH q c L ⟨(at2,bad2),.mk 28 t [],[],false⟩ hf) (Fr.toldH q c L ⟨(at2,bad2),.mk 28 t [],[],false⟩ hf.drew))
 clear hf
 (try go_wp2)
 first
  |exact bodyPost_ret (by simp[results,Tryz.results139,go_sem,r0]) rfl HF.out.1
  |exact bodyPost_ret (by simp[results,Tryz.results139,go_sem,r0]) rfl HF.out.2
theorem qjD{R:POps}(hR:ROps R){q:Option Addr}{c:Nat}{L:List PTok}(hL:qan L)(hl:L.length≤1000000000)(p:PSt)(hn:(tokP L p).2≠⟨#[105,102]⟩∧(tokP L p).2≠⟨#[114,101,100,117,99,101]⟩∧(tokP L p).2≠⟨#[102,111,114,101,97,99,104]⟩∧(tokP L p).2≠⟨#[98,114,101,97,107]⟩)(hk:R.key (tokP L p).2=true):qn q c L (.worded p) ⟨qR p,qj,[],false⟩:=by
 intro w h
 have H0:=qh (qD w q c L p)
 have QT:=qh (fun U hU=>qu q c L p U (h.below hU))
 have hsz:=hL.tok p
 (have QY:=qh (fun U=>hR.key (tokP L p).2 U hsz);rw[hk] at QY)
 clear h hL hk
 generalize tokP L p=tok at*
 obtain⟨tk,tt⟩:=tok
 dsimp only at hn QT QY hsz
 obtain⟨za_0,zb_0⟩:=qa8 (l:=[105,102]) hn.1
 obtain⟨za_1,zb_1⟩:=qa8 (l:=[114,101,100,117,99,101]) hn.2.1
 obtain⟨za_2,zb_2⟩:=qa8 (l:=[102,111,114,101,97,99,104]) hn.2.2.1
 obtain⟨za_3,zb_3⟩:=qa8 (l:=[98,114,101,97,107]) hn.2.2.2
 clear hn hsz
 obtain⟨at',bad⟩:=p
 have QW:Hid (∀U,Below w.heap.size w U→Calls Tryz.prog 68 #[.agg #[.slice q L.length c,.int .i64 (at':Int),.bool bad]] U fun e w'=>e=.returned (.agg #[.slice q L.length c,.int .i64 (at':Int),.bool true])∧Below U.heap.size U w'):=qh (fun U _=>qX q c L (at',bad) U)
 go_enter Tryz.func139,Tryz.ntmps139
 go_upto_region 15 with(first
  |(go_at_call 93;with_reducible refine fx QT H0 ?_;clear H0;intro W1 H1;replace c_a:=(H1.out).cc3)
  |(go_at_call 93;with_reducible refine fx QT H1 ?_;clear H1;intro W2 H2;replace c_a:=(H2.out).cc3)
  |(go_at_call 127;go_loud((with_reducible refine(QY.out _).mono ?_);rintro e W3 ⟨rfl,hb⟩;have H3:=qh (H2.out.stays hb);replace c_a:=(H3.out).cc3;clear hb)))
 go_wp2_with(go_at_call 68;with_reducible refine fx QW H3 ?_;clear QW H3;intro W4 H4;replace c_a:=(H4.out).cc3)
 obtain⟨Wf,hA,hB,hf⟩:=sets H4 1 2 q c L at' true 0 ⟨#[]⟩ (.slice none 0 0) rfl rfl
 first|rewrite[←hA]|rewrite[←hB]
 (try simp only[nn] at hf);clear hA hB
 have hf:=hf.nilN
 have r0:=And.intro (hf.c3 1 rfl).1 (hf.c3 2 rfl).1
 have HF:=qh (And.intro (hf.told q c L ⟨(at',true),qj,[],false⟩ (.slice none 0 0) (by simp[qb.kids,qj])) (hf.drew.told q c L ⟨(at',true),qj,[],false⟩ (.slice none 0 0) (by simp[qb.kids,qj])))
 clear hf
 (try go_wp2)
 refine bodyPost_ret (v:=(.tuple #[pV q c L (at',true),.agg #[.int .i64 0,.string ⟨#[]⟩,.slice none 0 0]])) (by simp[results,Tryz.results139,go_sem,r0]) rfl ?_
 first|exact HF.out.1|exact HF.out.2
theorem qjk{R:POps}(hR:ROps R){q:Option Addr}{c:Nat}{L:List PTok}(hL:qan L)(hl:L.length≤1000000000)(p:PSt)(p1:PSt)(hn:(tokP L p).2≠⟨#[105,102]⟩∧(tokP L p).2≠⟨#[114,101,100,117,99,101]⟩∧(tokP L p).2≠⟨#[102,111,114,101,97,99,104]⟩∧(tokP L p).2≠⟨#[98,114,101,97,107]⟩)(hk:R.key (tokP L p).2=false)(hp1:qs L p=some p1)(ho:opP L p1 ⟨#[40]⟩=false):qn q c L (.worded p) ⟨p1,.mk 13 (tokP L p).2 [],[],false⟩:=by
 intro w h
 have H0:=qh (qD w q c L p)
 have QT:=qh (fun U hU=>qu q c L p U (h.below hU))
 have hsz:=hL.tok p
 (have QY:=qh (fun U=>hR.key (tokP L p).2 U hsz);rw[hk] at QY;have QN:=qh (fun U (hU:Below w.heap.size w U)=>qq q c L p p1 U hl hp1);have QO:=qh (fun U hU=>qp q c L p1 ⟨#[40]⟩ U (h.below hU));rw[ho] at QO)
 clear h hL hk hp1 ho
 generalize tokP L p=tok at*
 obtain⟨tk,tt⟩:=tok
 dsimp only at hn QT QY hsz⊢
 obtain⟨za_0,zb_0⟩:=qa8 (l:=[105,102]) hn.1
 obtain⟨za_1,zb_1⟩:=qa8 (l:=[114,101,100,117,99,101]) hn.2.1
 obtain⟨za_2,zb_2⟩:=qa8 (l:=[102,111,114,101,97,99,104]) hn.2.2.1
 obtain⟨za_3,zb_3⟩:=qa8 (l:=[98,114,101,97,107]) hn.2.2.2
 clear hn hsz
 obtain⟨at',bad⟩:=p
 obtain⟨at1,bad1⟩:=p1
 go_enter Tryz.func139,Tryz.ntmps139
 go_upto_region 17 with(first
  |(go_at_call 93;with_reducible refine fx QT H0 ?_;clear H0;intro W1 H1;replace c_a:=(H1.out).cc3)
  |(go_at_call 93;with_reducible refine fx QT H1 ?_;clear H1;intro W2 H2;replace c_a:=(H2.out).cc3)
  |(go_at_call 127;go_loud((with_reducible refine(QY.out _).mono ?_);rintro e W3 ⟨rfl,hb⟩;have H3:=qh (H2.out.stays hb);replace c_a:=(H3.out).cc3;clear hb))
  |(go_at_call 93;with_reducible refine fx QT H3 ?_;clear H3;intro W4 H4;replace c_a:=(H4.out).cc3))
 obtain⟨W5,hW,hj⟩:=qd (H4.out.lay [.int .i64 13,.string tt,.slice none 0 0] 24)
 rewrite[←hW]
 (try simp only[nn] at hj)
 have H5:=qh hj
 have e_a:=(H4.out).ff3
 clear hj hW H4
 replace c_a:=(H5.out).ccCCCC
 have e_a:=(H5.out).ff4
 go_upto_region 18 with(go_at_call 94;with_reducible refine fx QN H5 ?_;clear QN H5;intro W6 H6;replace c_a:=(H6.out).ccCCCC)
 obtain⟨W7,hW,H7⟩:=ab3 H6 0 (.slice q L.length c) (.int .i64 (at1:Int)) (.bool bad1) rfl;rewrite[←hW];(try simp only[nn] at H7);clear hW H6
 replace c_a:=(H7.out).ccCCCC
 go_upto_region 19 with(go_at_call 98;with_reducible refine fx QO H7 ?_;clear QO H7;intro W8 H8;replace c_a:=(H8.out).ccCCCC)
 go_region
 all_goals
  obtain⟨Wf,hA,hB,hf⟩:=sets H8 1 2 q c L at1 bad1 13 tt (.slice none 0 0) rfl rfl
  first|rewrite[←hA]|rewrite[←hB]
  (try simp only[nn] at hf);clear hA hB
  have hf:=hf.nilN
  have r0:=And.intro (hf.c3 1 rfl).1 (hf.c3 2 rfl).1
  have HF:=qh (And.intro (Fr.toldH q c L ⟨(at1,bad1),.mk 13 tt [],[],false⟩ hf) (Fr.toldH q c L ⟨(at1,bad1),.mk 13 tt [],[],false⟩ hf.drew))
  clear hf
  (try go_wp2)
  first
   |exact bodyPost_ret (by simp[results,Tryz.results139,go_sem,r0]) rfl HF.out.1
   |exact bodyPost_ret (by simp[results,Tryz.results139,go_sem,r0]) rfl HF.out.2
structure ArgH(R:POps)(w wr:World)(B:Nat)(q:Option Addr)(c:Nat)(L:List PTok)(f:Nat)(r:PRes)(p:PSt)(t:ByteArray)(l:List qb)(us:List Value)(pv:Option Addr)(cv f':Nat)(ks:List Fact):Prop where
 run:runP R L f' (.argsL p t l)=some r
 fuel:f'≤f
 fr:Fr (fun _=>False) w wr [⟨w.heap.size,78,[.slice q L.length c,.int .i64 (p.1:Int),.bool p.2]⟩,⟨w.heap.size+1,78,[.slice none 0 0,.int .i64 0,.bool false]⟩,⟨w.heap.size+1+1,24,[.int .i64 0,.string ⟨#[]⟩,.slice none 0 0]⟩,⟨B,24,[.int .i64 13,.string t,.slice pv l.length cv]⟩] [rowN (.slice pv l.length cv) l us] ks
 kn:KN l us ks
theorem qiE{R:POps}(hR:ROps R){q:Option Addr}{c:Nat}{L:List PTok}(hL:qan L){f:Nat}(ih:PAll R q c L (f+1))(hl:L.length≤1000000000)(p p1:PSt)(r:PRes)(hn:(tokP L p).2≠⟨#[105,102]⟩∧(tokP L p).2≠⟨#[114,101,100,117,99,101]⟩∧(tokP L p).2≠⟨#[102,111,114,101,97,99,104]⟩∧(tokP L p).2≠⟨#[98,114,101,97,107]⟩)(hk:R.key (tokP L p).2=false)(hp1:qs L p=some p1)(ho:opP L p1 ⟨#[40]⟩=true)(hr:runP R L f (.argsL p1 (tokP L p).2 [])=some r):qn q c L (.worded p) r:=by
 intro w h
 have H0:=qh (qD w q c L p)
 have QT:=qh (fun U hU=>qu q c L p U (h.below hU))
 have hsz:=hL.tok p
 have QY:=qh (fun U=>hR.key (tokP L p).2 U hsz)
 rw[hk] at QY
 have QN:=qh (fun U (hU:Below w.heap.size w U)=>qq q c L p p1 U hl hp1)
 have QO:=qh (fun U hU=>qp q c L p1 ⟨#[40]⟩ U (h.below hU))
 rw[ho] at QO
 have IH:=qh ih
 have HR:=qh hr
 have HP:=qh h
 clear hk hp1 ho hr h ih hL
 generalize tokP L p=tok at*
 obtain⟨tk,tt⟩:=tok
 dsimp only at hn QT QY hsz HR⊢
 obtain⟨za_0,zb_0⟩:=qa8 (l:=[105,102]) hn.1
 obtain⟨za_1,zb_1⟩:=qa8 (l:=[114,101,100,117,99,101]) hn.2.1
 obtain⟨za_2,zb_2⟩:=qa8 (l:=[102,111,114,101,97,99,104]) hn.2.2.1
 obtain⟨za_3,zb_3⟩:=qa8 (l:=[98,114,101,97,107]) hn.2.2.2
 clear hn hsz
 obtain⟨at',bad⟩:=p
 obtain⟨at1,bad1⟩:=p1
 go_enter Tryz.func139,Tryz.ntmps139
 go_upto_region 17 with(first
  |(go_at_call 93;with_reducible refine fx QT H0 ?_;clear H0;intro W1 H1;replace c_a:=(H1.out).cc3)
  |(go_at_call 93;with_reducible refine fx QT H1 ?_;clear H1;intro W2 H2;replace c_a:=(H2.out).cc3)
  |(go_at_call 127;go_loud((with_reducible refine(QY.out _).mono ?_);rintro e W3 ⟨rfl,hb⟩;have H3:=qh (H2.out.stays hb);replace c_a:=(H3.out).cc3;clear hb))
  |(go_at_call 93;with_reducible refine fx QT H3 ?_;clear H3;intro W4 H4;replace c_a:=(H4.out).cc3))
 obtain⟨W5,hW,hj⟩:=qd (H4.out.lay [.int .i64 13,.string tt,.slice none 0 0] 24)
 rewrite[←hW]
 (try simp only[nn] at hj)
 have H5:=qh hj
 have e_a:=(H4.out).ff3
 clear hj hW H4
 replace c_a:=(H5.out).ccCCCC
 have e_a:=(H5.out).ff4
 go_upto_region 18 with(go_at_call 94;with_reducible refine fx QN H5 ?_;clear QN H5;intro W6 H6;replace c_a:=(H6.out).ccCCCC)
 obtain⟨W7,hW,H7⟩:=ab3 H6 0 (.slice q L.length c) (.int .i64 (at1:Int)) (.bool bad1) rfl;rewrite[←hW];(try simp only[nn] at H7);clear hW H6
 replace c_a:=(H7.out).ccCCCC
 go_wp2_with(go_at_call 98;with_reducible refine fx QO H7 ?_;clear QO H7;intro W8 H8a;replace c_a:=(H8a.out).ccCCCC)
 have H8:=qh (H8a.out.rowNil 24 3)
 clear H8a QT
 generalize W4.heap.size=B at*
 go_loopw [] (fun wr=>∃(f':Nat) (p:PSt) (l:List qb) (us:List Value) (pv:Option Addr) (cv:Nat) (ks:List Fact),Hid (ArgH R w wr B q c L f r p tt l us pv cv f' ks)) (fun wr=>qd4 wr w.heap.size L.length)
 case atStart=>exact⟨f,(at1,bad1),[],[],none,0,_,qh ⟨HR.out,Nat.le_refl _,H8.out,KN.nil _⟩⟩
 case round=>
  clear HR H8
  obtain⟨f',p,l,us,pv,cv,ks,HH⟩:=hrel
  obtain⟨g,rfl⟩:∃g,f'=g+1:=by
   cases f' with
   |zero=>have:=HH.out.run;rw[runP] at this;cases this
   |succ g=>exact⟨g,rfl⟩
  have hrun:=HH.out.run
  have hgf:=HH.out.fuel
  rw[runP] at hrun
  obtain⟨p0,hp0,hrun⟩:=Option.bind_eq_some_iff.1 hrun
  obtain⟨a,ha,hrun⟩:=Option.bind_eq_some_iff.1 hrun
  obtain⟨l',hl',hrun⟩:=Option.bind_eq_some_iff.1 hrun
  obtain⟨hlen,rfl⟩:=qW hl'
  have H1:=qh HH.out.fr
  have KN1:=qh HH.out.kn
  have HLEN:=qh HH.out.kn.1
  have QP:=qh (fun U (hU:Below w.heap.size w U)=>qB q c L p0 a (IH.out g (by omega) _ _ ha) U (HP.out.below hU))
  have QN0:=qh (fun U (hU:Below w.heap.size w U)=>qq q c L p p0 U hl hp0)
  have QO:=qh (fun U hU=>qp q c L a.st ⟨#[59]⟩ U (HP.out.below hU))
  clear ha hl' hp0
  by_cases ho:opP L a.st ⟨#[59]⟩=true
  ·rw[if_pos ho] at hrun
   obtain⟨u0,hon,hrun⟩:=Option.bind_eq_some_iff.1 hrun
   have hon2:=qaK hon
   have hlt:=qdz ho
   rw[ho] at QO
   have HM:Hid (L.length-a.st.1<L.length-p.1):=qh (by
    rcases hon2 with hx|hx
    ·rw[hlt.1] at hx;cases hx
    ·have:=hlt.2;omega)
   have HRUN:=qh hrun
   clear hrun hlt hon hon2 ho
   obtain⟨at2,bad2⟩:=p
   obtain⟨at0,bad0⟩:=p0
   obtain⟨⟨ata,bada⟩,na,la,ba⟩:=a
   replace c_a:=(H1.out).ccCCCC
   have e_a:=(H1.out).ff4
   go_upto_region 21 with(first|(go_at_call 94;with_reducible refine fx QN0 H1 ?_;clear QN0 H1;intro w1a H1a;replace c_a:=(H1a.out).ccCCCC)|(go_at_call 67;with_reducible refine fm QP H1a ?_;clear QP H1a;intro w2 pu_1 cu_1 hj;have e_a:=(hj).ff4;have H2:=hj.layM (q:=q) (c:=c) (L:=L) ata bada na (.slice pu_1 na.kids.length cu_1);(try simp only[nn] at H2);replace c_a:=(H2.out).ccCCCCCC;clear hj))
   obtain⟨w3,hW,H3⟩:=fr_w H2;rewrite[←hW];(try simp only[nn] at H3);clear hW H2
   replace c_a:=(H3.out).ccCCCCCC
   have e_0:=(H3.out).far 0 rfl;have e_1:=(H3.out).far 1 rfl;have e_2:=(H3.out).far 2 rfl;replace e_3:=(H3.out).far 3 rfl;replace e_5:=(H3.out).far 5 rfl
   go_upto_region 22 with(at_builtin;go_loud(refine q8 (H3.out.skip _) 0 rfl HLEN.out na (by simp) (World.alloc_heap_new w3 _) (by omega) rfl _ _ rfl rfl rfl ?_;intro p4 c4 w4 hf;have H3b:=qh hf;clear hf;replace c_a:=(H3b.out).ccCCCCCC))
   have h4:=H3b.out.set 3 2 rfl (.slice p4 (l.length+1) c4)
   obtain⟨w4b,hW,hj⟩:=qd h4
   rewrite[←hW]
   (try simp only[nn] at hj)
   have H4:=qh hj
   have KN4:=qh ((KN1.out.more (F:=qk (.slice pu_1 na.kids.length cu_1) na.kids)).snoc (x:=na) (u:=.slice pu_1 na.kids.length cu_1) List.mem_cons_self)
   clear h4 hW hj
   replace c_a:=(H4.out).ccCCCCCC
   go_wp2_with(go_at_call 98;with_reducible refine fx QO H4 ?_;clear QO H4;intro w5 H5;replace c_a:=(H5.out).ccCCCCCC)
   have h7:=Fr.set3 (x:=.slice q L.length c) (y:=.int .i64 (ata:Int)) (z:=.bool bada) H5.out 0 rfl
   (try simp only[nn] at h7)
   have H7:=qh h7.drop4
   clear h7
   go_roundw
   case rel=>exact⟨g,(ata,bada),l++[na],us++[.slice pu_1 na.kids.length cu_1],p4,c4,_,qh ⟨HRUN.out,by omega,by rw[List.length_append];exact H7.out,KN4.out⟩⟩
   case measure=>
    rw[H7.out.leftA 0 rfl,HH.out.fr.leftA 0 rfl]
    exact HM.out
  ·rw[if_neg ho] at hrun
   have ho':opP L a.st ⟨#[59]⟩=false:=by simpa using ho
   obtain⟨p2,hp2,hrun⟩:=Option.bind_eq_some_iff.1 hrun
   have er:=(Option.some.inj hrun).symm
   subst er
   rw[ho'] at QO
   have QD:=qh (fun U hU=>qt q c L a.st p2 ⟨#[41]⟩ U (HP.out.below hU) hp2)
   clear hrun hp2 ho ho'
   obtain⟨at2,bad2⟩:=p
   obtain⟨at0,bad0⟩:=p0
   obtain⟨at3,bad3⟩:=p2
   obtain⟨⟨ata,bada⟩,na,la,ba⟩:=a
   replace c_a:=(H1.out).ccCCCC
   have e_a:=(H1.out).ff4
   go_upto_region 21 with(first|(go_at_call 94;with_reducible refine fx QN0 H1 ?_;clear QN0 H1;intro w1a H1a;replace c_a:=(H1a.out).ccCCCC)|(go_at_call 67;with_reducible refine fm QP H1a ?_;clear QP H1a;intro w2 pu_1 cu_1 hj;have e_a:=(hj).ff4;have H2:=hj.layM (q:=q) (c:=c) (L:=L) ata bada na (.slice pu_1 na.kids.length cu_1);(try simp only[nn] at H2);replace c_a:=(H2.out).ccCCCCCC;clear hj))
   obtain⟨w3,hW,H3⟩:=fr_w H2;rewrite[←hW];(try simp only[nn] at H3);clear hW H2
   replace c_a:=(H3.out).ccCCCCCC
   have e_0:=(H3.out).far 0 rfl;have e_1:=(H3.out).far 1 rfl;have e_2:=(H3.out).far 2 rfl;replace e_3:=(H3.out).far 3 rfl;replace e_5:=(H3.out).far 5 rfl
   go_upto_region 22 with(at_builtin;go_loud(refine q8 (H3.out.skip _) 0 rfl HLEN.out na (by simp) (World.alloc_heap_new w3 _) (by omega) rfl _ _ rfl rfl rfl ?_;intro p4 c4 w4 hf;have H3b:=qh hf;clear hf;replace c_a:=(H3b.out).ccCCCCCC))
   have h4:=H3b.out.set 3 2 rfl (.slice p4 (l.length+1) c4)
   obtain⟨w4b,hW,hj⟩:=qd h4
   rewrite[←hW]
   (try simp only[nn] at hj)
   have H4:=qh hj
   have KN4:=qh ((KN1.out.more (F:=qk (.slice pu_1 na.kids.length cu_1) na.kids)).snoc (x:=na) (u:=.slice pu_1 na.kids.length cu_1) List.mem_cons_self)
   clear h4 hW hj
   replace c_a:=(H4.out).ccCCCCCC
   go_upto_region 23 with(go_at_call 98;with_reducible refine fx QO H4 ?_;clear QO H4;intro w5 H5;replace c_a:=(H5.out).ccCCCCCC)
   have h6:=H5.out.give1 KN4.out (by rw[List.length_append,List.length_singleton];omega)
   have H6:=qh h6
   clear h6 H5
   have QD2:=qh (fun U (hU:Below w5.heap.size w5 U)=>QD.out U (H6.out.low.trans (hU.mono H6.out.low.size)))
   obtain⟨u1,u2,u3,u4,u5,u6,u7,hb0,hb1⟩:=Fr.held (S:=(fun w'=>B1 (w2.heap.size) ((.slice q L.length c)) ((.int .i64 (ata:Int))) ((.bool bada)) w'∧B1 (B) ((.int .i64 13)) ((.string tt)) ((.slice p4 (l.length+1) c4)) w')) H6.out 1 2 (fun U bs' h e=>⟨((h).c3 4 (e 4 rfl)).1,((h).c3 3 (e 3 rfl)).1⟩) rfl rfl
   go_region_held3 ((fun w'=>B1 (w2.heap.size) ((.slice q L.length c)) ((.int .i64 (ata:Int))) ((.bool bada)) w'∧B1 (B) ((.int .i64 13)) ((.string tt)) ((.slice p4 (l.length+1) c4)) w'))
    (with_reducible first|exact HS4.out|exact HS5.out _|assumption|(first|apply u7.out|apply u4.out|apply u5.out|apply u6.out|apply u3.out|apply u2.out|apply u1.out);(with_reducible first|exact hb0|assumption|exact hb1 _|exact qc hb0 _|exact qc (by assumption) _))
    (first|(go_at_call 96;with_reducible refine(QD2.out _ (by(with_reducible first|exact hb0|assumption|exact hb1 _|exact qc hb0 _|exact qc (by assumption) _))).mono ?_;rintro _ U ⟨rfl,bu⟩;have bb:Below w5.heap.size w5 U:=Below.trans (by(with_reducible first|exact hb0|assumption|exact hb1 _|exact qc hb0 _|exact qc (by assumption) _)) (bu.mono (Below.size (show Below w5.heap.size w5 _ by(with_reducible first|exact hb0|assumption|exact hb1 _|exact qc hb0 _|exact qc (by assumption) _))));replace c_a:=((H6.out.stays bb)).cc3;have e_a:=((H6.out.stays bb)).ff3;have BU:=qh bu;clear bu))
   all_goals
    have hbu:Below w5.heap.size w5 U:=by assumption
    have HU:=qh (H6.out.stays hbu)
    obtain⟨Wf,hA,hB,hf⟩:=sets HU 1 2 q c L at3 bad3 13 tt (.slice p4 (l.length+1) c4) rfl rfl
    first|rewrite[←hA]|rewrite[←hB]
    (try simp only[nn] at hf);clear hA hB
    have r0:=And.intro (hf.c3 1 rfl).1 (hf.c3 2 rfl).1
    have HF:=qh (And.intro (Fr.toldH q c L ⟨(at3,bad3),.mk 13 tt (l++[na]),[],false⟩ hf) (Fr.toldH q c L ⟨(at3,bad3),.mk 13 tt (l++[na]),[],false⟩ hf.drew))
    clear hf
    (try go_wp2)
    first
     |exact bodyPost_ret (by simp[results,Tryz.results139,go_sem,r0]) rfl HF.out.1
     |exact bodyPost_ret (by simp[results,Tryz.results139,go_sem,r0]) rfl HF.out.2
theorem qiM{R:POps}(hR:ROps R){q:Option Addr}{c:Nat}{L:List PTok}(hL:qan L){f:Nat}(ih:PAll R q c L (f+1))(hl:L.length≤1000000000)(p:PSt)(r:PRes)(hr:runP R L (f+1) (.worded p)=some r):qn q c L (.worded p) r:=by
 rw[runP] at hr
 have gi:=fun cm a (h:runP R L f cm=some a)=>ih f (Nat.lt_succ_self f) cm a h
 dsimp only at hr
 by_cases h_if:(tokP L p).2=⟨#[105,102]⟩
 ·rw[if_pos h_if] at hr
  obtain⟨p1,h1,hr⟩:=Option.bind_eq_some_iff.1 hr
  exact qkW hR hL hl p p1 r h_if h1 (gi _ _ hr)
 rw[if_neg h_if] at hr
 by_cases h_reduce:(tokP L p).2=⟨#[114,101,100,117,99,101]⟩
 ·rw[if_pos h_reduce] at hr
  obtain⟨p1,h1,hr⟩:=Option.bind_eq_some_iff.1 hr
  exact qhn hR hL hl p p1 r h_reduce h1 (gi _ _ hr)
 rw[if_neg h_reduce] at hr
 by_cases h_foreach:(tokP L p).2=⟨#[102,111,114,101,97,99,104]⟩
 ·rw[if_pos h_foreach] at hr
  obtain⟨p1,h1,hr⟩:=Option.bind_eq_some_iff.1 hr
  exact qgt hR hL hl p p1 r h_foreach h1 (gi _ _ hr)
 rw[if_neg h_foreach] at hr
 by_cases h_break:(tokP L p).2=⟨#[98,114,101,97,107]⟩
 ·rw[if_pos h_break] at hr
  obtain⟨p1,h1,hr⟩:=Option.bind_eq_some_iff.1 hr
  obtain⟨⟨p2,s⟩,h2,hr⟩:=Option.bind_eq_some_iff.1 hr
  cases hr
  exact qiw hR hL hl p p1 p2 s h_break h1 h2
 rw[if_neg h_break] at hr
 have hn:=And.intro h_if (And.intro h_reduce (And.intro h_foreach h_break))
 by_cases hk:R.key (tokP L p).2=true
 ·rw[if_pos hk] at hr
  cases hr
  exact qjD hR hL hl p hn hk
 ·rw[if_neg hk] at hr
  have hk':R.key (tokP L p).2=false:=by simpa using hk
  obtain⟨p1,h1,hr⟩:=Option.bind_eq_some_iff.1 hr
  by_cases ho:opP L p1 ⟨#[40]⟩=true
  ·rw[if_pos ho] at hr
   exact qiE hR hL ih hl p p1 r hn hk' h1 ho hr
  ·rw[if_neg ho] at hr
   cases hr
   exact qjk hR hL hl p p1 hn hk' h1 (by simpa using ho)
structure IfH(R:POps)(w wr:World)(B:Nat)(q:Option Addr)(c:Nat)(L:List PTok)(f:Nat)(r:PRes)(p:PSt)(l:List qb)(us:List Value)(pv:Option Addr)(cv f':Nat)(ks:List Fact):Prop where
 run:runP R L f' (.ifsL p l)=some r
 fuel:f'≤f
 fr:Fr (fun _=>False) w wr [⟨w.heap.size,78,[.slice q L.length c,.int .i64 (p.1:Int),.bool p.2]⟩,⟨w.heap.size+1,78,[.slice none 0 0,.int .i64 0,.bool false]⟩,⟨w.heap.size+1+1,24,[.int .i64 0,.string ⟨#[]⟩,.slice none 0 0]⟩,⟨B,24,[.int .i64 14,.string ⟨#[]⟩,.slice pv l.length cv]⟩] [rowN (.slice pv l.length cv) l us] ks
 kn:KN l us ks
theorem qll{R:POps}{q:Option Addr}{c:Nat}{L:List PTok}{f:Nat}(ih:PAll R q c L (f+1))(hl:L.length≤1000000000)(p:PSt)(o:PRes)(ha:runP R L f (.ifsL p [])=some o)(p9:PSt)(hw:qv L o.st ⟨#[101,108,115,101]⟩=false)(h9:q7 L o.st ⟨#[101,110,100]⟩=some p9):qn q c L (.ifs p) ⟨p9,.mk 14 ⟨#[]⟩ o.l,[],false⟩:=by
 intro w h
 have H0:=qh (qD w q c L p)
 have IH:=qh ih
 have HR:=qh ha
 have HP:=qh h
 (have QE:=qh (fun U hU=>qC q c L o.st ⟨#[101,108,115,101]⟩ U (HP.out.below hU));rw[hw] at QE;have QZ:=qh (fun U hU=>qt q c L o.st p9 ⟨#[101,110,100]⟩ U (HP.out.below hU) h9);obtain⟨at9,bad9⟩:=p9)
 clear h ih ha hw h9
 obtain⟨at',bad⟩:=p
 go_enter Tryz.func142,Tryz.ntmps142
 go_wp2_with fail
 have h1:=(Fr.lay (W:=_) H0.out [.int .i64 14,.string ⟨#[]⟩,.slice none 0 0] 24)
 rw[World.size_alloc,World.size_alloc,World.size_alloc] at h1
 have H1:=qh (h1.rowNil 24 3)
 clear h1 H0
 go_loopw [] (fun wr=>∃(f':Nat) (p:PSt) (l:List qb) (us:List Value) (pv:Option Addr) (cv:Nat) (ks:List Fact),Hid (IfH R w wr (w.heap.size+1+1+1) q c L f o p l us pv cv f' ks)) (fun wr=>qd4 wr w.heap.size L.length)
 case atStart=>exact⟨f,(at',bad),[],[],none,0,_,qh ⟨HR.out,Nat.le_refl _,H1.out,KN.nil _⟩⟩
 case round=>
  clear HR H1
  obtain⟨f',p,l,us,pv,cv,ks,HH⟩:=hrel
  obtain⟨g,rfl⟩:∃g,f'=g+1:=by
   cases f' with
   |zero=>have:=HH.out.run;rw[runP] at this;cases this
   |succ g=>exact⟨g,rfl⟩
  have hrun:=HH.out.run
  have hgf:=HH.out.fuel
  rw[runP] at hrun
  obtain⟨a,ha,hrun⟩:=Option.bind_eq_some_iff.1 hrun
  obtain⟨p1,hp1,hrun⟩:=Option.bind_eq_some_iff.1 hrun
  obtain⟨b,hb,hrun⟩:=Option.bind_eq_some_iff.1 hrun
  obtain⟨l1,hl1,hrun⟩:=Option.bind_eq_some_iff.1 hrun
  obtain⟨l2,hl2,hrun⟩:=Option.bind_eq_some_iff.1 hrun
  obtain⟨hlen,rfl⟩:=qW hl1
  obtain⟨hlen2,rfl⟩:=qW hl2
  have H1:=qh HH.out.fr
  have KN1:=qh HH.out.kn
  have HLEN:=qh HH.out.kn.1
  have QA:=qh (fun U (hU:Below w.heap.size w U)=>qB q c L p a (IH.out g (by omega) _ _ ha) U (HP.out.below hU))
  have QD:=qh (fun U (hU:Below w.heap.size w U)=>qt q c L a.st p1 ⟨#[116,104,101,110]⟩ U (HP.out.below hU) hp1)
  have QB:=qh (fun U (hU:Below w.heap.size w U)=>qB q c L p1 b (IH.out g (by omega) _ _ hb) U (HP.out.below hU))
  have QW:=qh (fun U hU=>qC q c L b.st ⟨#[101,108,105,102]⟩ U (HP.out.below hU))
  clear ha hp1 hb hl1 hl2
  by_cases ho:qv L b.st ⟨#[101,108,105,102]⟩=true
  ·rw[if_pos ho] at hrun
   obtain⟨p2,hp2,hrun⟩:=Option.bind_eq_some_iff.1 hrun
   obtain⟨u0,hon,hrun⟩:=Option.bind_eq_some_iff.1 hrun
   have hnext:=qbK hp2 (qfc ho).1
   have hon2:=qaK hon
   rw[ho] at QW
   have QN:=qh (fun U (hU:Below w.heap.size w U)=>qq q c L b.st p2 U hl hp2)
   have HM:Hid (L.length-p2.1<L.length-p.1):=qh (by
    rw[hnext.2] at hon2⊢
    dsimp only at hon2⊢
    rcases hon2 with hx|hx
    ·cases hx
    ·have:=hnext.1;omega)
   have HRUN:=qh hrun
   clear hrun hnext hon hon2 hp2 ho
   obtain⟨at2,bad2⟩:=p
   obtain⟨at3,bad3⟩:=p2
   obtain⟨at1,bad1⟩:=p1
   obtain⟨⟨ata,bada⟩,na,la,ba⟩:=a
   obtain⟨⟨atb,badb⟩,nb,lb,bb⟩:=b
   replace c_a:=(H1.out).ccCCCC
   have e_a:=(H1.out).ff4
   go_upto_region 4 with(first
    |(go_at_call 67;with_reducible refine fm QA H1 ?_;clear QA H1;intro w2 pu_1 cu_1 hj;have e_a:=(hj).ff4;have H2:=hj.layM (q:=q) (c:=c) (L:=L) ata bada na (.slice pu_1 na.kids.length cu_1);(try simp only[nn] at H2);replace c_a:=(H2.out).ccCCCCCC;clear hj)
    |(go_at_call 96;with_reducible refine fx QD H2 ?_;clear QD H2;intro w2a H2a;replace c_a:=(H2a.out).ccCCCCCC)
    |(go_at_call 67;with_reducible refine fm QB H2a ?_;clear QB H2a;intro w3 pu_2 cu_2 hj;have e_a:=(hj).ff6;have H3:=hj.layM (q:=q) (c:=c) (L:=L) atb badb nb (.slice pu_2 nb.kids.length cu_2);(try simp only[nn] at H3);replace c_a:=(H3.out).ccCCCCCCCC;clear hj))
   obtain⟨w4,hW,H4⟩:=fr_w H3;rewrite[←hW];(try simp only[nn] at H4);clear hW H3
   replace c_a:=(H4.out).ccCCCCCCCC
   have e_0:=(H4.out).far 0 rfl;have e_1:=(H4.out).far 1 rfl;have e_2:=(H4.out).far 2 rfl;replace e_3:=(H4.out).far 3 rfl;replace e_5:=(H4.out).far 5 rfl;replace e_7:=(H4.out).far 7 rfl
   go_upto_region 5 with(at_builtin;go_loud(refine qc5 (H4.out.skip _) 0 rfl HLEN.out na nb (by simp) (by simp) (World.alloc_heap_new w4 _) (by omega) rfl _ _ rfl rfl rfl ?_;intro p4 c4 w5 hf;have H5:=qh hf;clear hf;replace c_a:=(H5.out).ccCCCCCCCC))
   have h6:=H5.out.set 3 2 rfl (.slice p4 (l.length+2) c4)
   obtain⟨w6,hW,hj⟩:=qd h6
   rewrite[←hW]
   (try simp only[nn] at hj)
   have H6:=qh hj
   have KN4:=qh (((KN1.out.mono (fun f hf=>List.mem_cons_of_mem (qk (.slice pu_2 nb.kids.length cu_2) nb.kids) (List.mem_cons_of_mem (qk (.slice pu_1 na.kids.length cu_1) na.kids) hf))).snoc (x:=na) (u:=.slice pu_1 na.kids.length cu_1) (List.mem_cons_of_mem _ List.mem_cons_self)).snoc (x:=nb) (u:=.slice pu_2 nb.kids.length cu_2) List.mem_cons_self)
   clear h6 hW hj H5
   replace c_a:=(H6.out).ccCCCCCCCC
   go_wp2_with(first
    |(go_at_call 64;with_reducible refine fx QW H6 ?_;clear QW H6;intro w7 H7;replace c_a:=(H7.out).ccCCCCCCCC)
    |(go_at_call 94;with_reducible refine fx QN H7 ?_;clear QN H7;intro w8 H8;replace c_a:=(H8.out).ccCCCCCCCC))
   have h9:=Fr.set3 (x:=.slice q L.length c) (y:=.int .i64 (at3:Int)) (z:=.bool bad3) H8.out 0 rfl
   (try simp only[nn] at h9)
   have H9:=qh h9.drop4
   clear h9
   go_roundw
   case rel=>exact⟨g,(at3,bad3),l++[na]++[nb],us++[.slice pu_1 na.kids.length cu_1]++[.slice pu_2 nb.kids.length cu_2],p4,c4,_,qh ⟨HRUN.out,by omega,by rw[List.length_append,List.length_append];exact H9.out,KN4.out⟩⟩
   case measure=>
    rw[H9.out.leftA 0 rfl,HH.out.fr.leftA 0 rfl]
    exact HM.out
  ·rw[if_neg ho] at hrun
   have ho':qv L b.st ⟨#[101,108,105,102]⟩=false:=by simpa using ho
   have er:=(Option.some.inj hrun).symm
   subst er
   rw[ho'] at QW
   clear hrun ho ho'
   obtain⟨at2,bad2⟩:=p
   obtain⟨at1,bad1⟩:=p1
   obtain⟨⟨ata,bada⟩,na,la,ba⟩:=a
   obtain⟨⟨atb,badb⟩,nb,lb,bb⟩:=b
   replace c_a:=(H1.out).ccCCCC
   have e_a:=(H1.out).ff4
   go_upto_region 4 with(first
    |(go_at_call 67;with_reducible refine fm QA H1 ?_;clear QA H1;intro w2 pu_1 cu_1 hj;have e_a:=(hj).ff4;have H2:=hj.layM (q:=q) (c:=c) (L:=L) ata bada na (.slice pu_1 na.kids.length cu_1);(try simp only[nn] at H2);replace c_a:=(H2.out).ccCCCCCC;clear hj)
    |(go_at_call 96;with_reducible refine fx QD H2 ?_;clear QD H2;intro w2a H2a;replace c_a:=(H2a.out).ccCCCCCC)
    |(go_at_call 67;with_reducible refine fm QB H2a ?_;clear QB H2a;intro w3 pu_2 cu_2 hj;have e_a:=(hj).ff6;have H3:=hj.layM (q:=q) (c:=c) (L:=L) atb badb nb (.slice pu_2 nb.kids.length cu_2);(try simp only[nn] at H3);replace c_a:=(H3.out).ccCCCCCCCC;clear hj))
   obtain⟨w4,hW,H4⟩:=fr_w H3;rewrite[←hW];(try simp only[nn] at H4);clear hW H3
   replace c_a:=(H4.out).ccCCCCCCCC
   have e_0:=(H4.out).far 0 rfl;have e_1:=(H4.out).far 1 rfl;have e_2:=(H4.out).far 2 rfl;replace e_3:=(H4.out).far 3 rfl;replace e_5:=(H4.out).far 5 rfl;replace e_7:=(H4.out).far 7 rfl
   go_upto_region 5 with(at_builtin;go_loud(refine qc5 (H4.out.skip _) 0 rfl HLEN.out na nb (by simp) (by simp) (World.alloc_heap_new w4 _) (by omega) rfl _ _ rfl rfl rfl ?_;intro p4 c4 w5 hf;have H5:=qh hf;clear hf;replace c_a:=(H5.out).ccCCCCCCCC))
   have h6:=H5.out.set 3 2 rfl (.slice p4 (l.length+2) c4)
   obtain⟨w6,hW,hj⟩:=qd h6
   rewrite[←hW]
   (try simp only[nn] at hj)
   have H6:=qh hj
   have KN4:=qh (((KN1.out.mono (fun f hf=>List.mem_cons_of_mem (qk (.slice pu_2 nb.kids.length cu_2) nb.kids) (List.mem_cons_of_mem (qk (.slice pu_1 na.kids.length cu_1) na.kids) hf))).snoc (x:=na) (u:=.slice pu_1 na.kids.length cu_1) (List.mem_cons_of_mem _ List.mem_cons_self)).snoc (x:=nb) (u:=.slice pu_2 nb.kids.length cu_2) List.mem_cons_self)
   clear h6 hW hj H5
   replace c_a:=(H6.out).ccCCCCCCCC
   go_upto_region 6 with(go_at_call 64;with_reducible refine fx QW H6 ?_;clear QW H6;intro w7 H7;replace c_a:=(H7.out).ccCCCCCCCC)
   go_upto_region 8 with(fail)
   obtain⟨w8,hW,H8o⟩:=ab3 H7 0 (.slice q L.length c) (.int .i64 (atb:Int)) (.bool badb) rfl;rewrite[←hW];(try simp only[nn] at H8o);clear hW H7
   have H8:=qh H8o.out.drop4
   clear H8o
   replace c_a:=(H8.out).ccCCCC
   have e_a:=(H8.out).ff4
   go_upto_region 13 with(go_at_call 64;with_reducible refine fx QE H8 ?_;clear QE H8;intro w9 H9;replace c_a:=(H9.out).ccCCCC)
   have H10:=qh (H9.out.give1 KN4.out (by rw[List.length_append,List.length_singleton];omega))
   clear H9
   have QZ2:=qh (fun U (hU:Below w9.heap.size w9 U)=>QZ.out U (H10.out.low.trans (hU.mono H10.out.low.size)))
   obtain⟨u1,u2,u3,u4,u5,u6,u7,hb0,hb1⟩:=Fr.held (S:=(fun w'=>B1 (w.heap.size) ((.slice q L.length c)) ((.int .i64 (atb:Int))) ((.bool badb)) w'∧B1 (w.heap.size+1+1+1) ((.int .i64 14)) ((.string ⟨#[]⟩)) ((.slice p4 (l.length+2) c4)) w')) H10.out 1 2 (fun U bs' h e=>⟨((h).c3 0 (e 0 rfl)).1,((h).c3 3 (e 3 rfl)).1⟩) rfl rfl
   go_region_held3 ((fun w'=>B1 (w.heap.size) ((.slice q L.length c)) ((.int .i64 (atb:Int))) ((.bool badb)) w'∧B1 (w.heap.size+1+1+1) ((.int .i64 14)) ((.string ⟨#[]⟩)) ((.slice p4 (l.length+2) c4)) w'))
    (with_reducible first|exact HS4.out|exact HS5.out _|assumption|(first|apply u7.out|apply u4.out|apply u5.out|apply u6.out|apply u3.out|apply u2.out|apply u1.out);(with_reducible first|exact hb0|assumption|exact hb1 _|exact qc hb0 _|exact qc (by assumption) _))
    (first|(go_at_call 96;with_reducible refine(QZ2.out _ (by(with_reducible first|exact hb0|assumption|exact hb1 _|exact qc hb0 _|exact qc (by assumption) _))).mono ?_;rintro _ U ⟨rfl,bu⟩;have bb:Below w9.heap.size w9 U:=Below.trans (by(with_reducible first|exact hb0|assumption|exact hb1 _|exact qc hb0 _|exact qc (by assumption) _)) (bu.mono (Below.size (show Below w9.heap.size w9 _ by(with_reducible first|exact hb0|assumption|exact hb1 _|exact qc hb0 _|exact qc (by assumption) _))));replace c_a:=((H10.out.stays bb)).cc3;have e_a:=((H10.out.stays bb)).ff3;have BU:=qh bu;clear bu))
   all_goals
    have hbu:Below w9.heap.size w9 U:=by assumption
    have HU:=qh (H10.out.stays hbu)
    obtain⟨Wf,hA,hB,hf⟩:=sets HU 1 2 q c L at9 bad9 14 ⟨#[]⟩ (.slice p4 (l.length+2) c4) rfl rfl
    first|rewrite[←hA]|rewrite[←hB]
    (try simp only[nn] at hf);clear hA hB
    rw[show l++[na]++[nb]=l++[na,nb] by simp] at hf
    have r0:=And.intro (hf.c3 1 rfl).1 (hf.c3 2 rfl).1
    have HF:=qh (And.intro (Fr.toldH q c L ⟨(at9,bad9),.mk 14 ⟨#[]⟩ (l++[na,nb]),[],false⟩ hf) (Fr.toldH q c L ⟨(at9,bad9),.mk 14 ⟨#[]⟩ (l++[na,nb]),[],false⟩ hf.drew))
    clear hf
    (try go_wp2)
    first
     |exact bodyPost_ret (by simp[results,Tryz.results142,go_sem,r0]) rfl HF.out.1
     |exact bodyPost_ret (by simp[results,Tryz.results142,go_sem,r0]) rfl HF.out.2
theorem qm1{R:POps}{q:Option Addr}{c:Nat}{L:List PTok}{f:Nat}(ih:PAll R q c L (f+1))(hl:L.length≤1000000000)(p:PSt)(o:PRes)(ha:runP R L f (.ifsL p [])=some o)(p8 p9:PSt)(e':PRes)(l9:List qb)(hw:qv L o.st ⟨#[101,108,115,101]⟩=true)(h8:qs L o.st=some p8)(he:qn q c L (.exp p8 1) e')(hl9:qae o.l e'.n=some l9)(h9:q7 L e'.st ⟨#[101,110,100]⟩=some p9):qn q c L (.ifs p) ⟨p9,.mk 14 ⟨#[101,108,115,101]⟩ l9,[],false⟩:=by
 intro w h
 have H0:=qh (qD w q c L p)
 have IH:=qh ih
 have HR:=qh ha
 have HP:=qh h
 (have QE:=qh (fun U hU=>qC q c L o.st ⟨#[101,108,115,101]⟩ U (HP.out.below hU));rw[hw] at QE;have QN8:=qh (fun U (hU:Below w.heap.size w U)=>qq q c L o.st p8 U hl h8);have QP:=qh (fun U (hU:Below w.heap.size w U)=>qB q c L p8 e' he U (HP.out.below hU));have QZ:=qh (fun U hU=>qt q c L e'.st p9 ⟨#[101,110,100]⟩ U (HP.out.below hU) h9);obtain⟨hlen9,el9⟩:=qW hl9;have HL9:=qh hlen9;have EL9:=qh el9;obtain⟨at8,bad8⟩:=p8;obtain⟨at9,bad9⟩:=p9;obtain⟨⟨ate,bade⟩,ne,le,be⟩:=e')
 clear h ih ha hw h8 he hl9 h9 hlen9 el9
 obtain⟨at',bad⟩:=p
 go_enter Tryz.func142,Tryz.ntmps142
 go_wp2_with fail
 have h1:=(Fr.lay (W:=_) H0.out [.int .i64 14,.string ⟨#[]⟩,.slice none 0 0] 24)
 rw[World.size_alloc,World.size_alloc,World.size_alloc] at h1
 have H1:=qh (h1.rowNil 24 3)
 clear h1 H0
 go_loopw [] (fun wr=>∃(f':Nat) (p:PSt) (l:List qb) (us:List Value) (pv:Option Addr) (cv:Nat) (ks:List Fact),Hid (IfH R w wr (w.heap.size+1+1+1) q c L f o p l us pv cv f' ks)) (fun wr=>qd4 wr w.heap.size L.length)
 case atStart=>exact⟨f,(at',bad),[],[],none,0,_,qh ⟨HR.out,Nat.le_refl _,H1.out,KN.nil _⟩⟩
 case round=>
  clear HR H1
  obtain⟨f',p,l,us,pv,cv,ks,HH⟩:=hrel
  obtain⟨g,rfl⟩:∃g,f'=g+1:=by
   cases f' with
   |zero=>have:=HH.out.run;rw[runP] at this;cases this
   |succ g=>exact⟨g,rfl⟩
  have hrun:=HH.out.run
  have hgf:=HH.out.fuel
  rw[runP] at hrun
  obtain⟨a,ha,hrun⟩:=Option.bind_eq_some_iff.1 hrun
  obtain⟨p1,hp1,hrun⟩:=Option.bind_eq_some_iff.1 hrun
  obtain⟨b,hb,hrun⟩:=Option.bind_eq_some_iff.1 hrun
  obtain⟨l1,hl1,hrun⟩:=Option.bind_eq_some_iff.1 hrun
  obtain⟨l2,hl2,hrun⟩:=Option.bind_eq_some_iff.1 hrun
  obtain⟨hlen,rfl⟩:=qW hl1
  obtain⟨hlen2,rfl⟩:=qW hl2
  have H1:=qh HH.out.fr
  have KN1:=qh HH.out.kn
  have HLEN:=qh HH.out.kn.1
  have QA:=qh (fun U (hU:Below w.heap.size w U)=>qB q c L p a (IH.out g (by omega) _ _ ha) U (HP.out.below hU))
  have QD:=qh (fun U (hU:Below w.heap.size w U)=>qt q c L a.st p1 ⟨#[116,104,101,110]⟩ U (HP.out.below hU) hp1)
  have QB:=qh (fun U (hU:Below w.heap.size w U)=>qB q c L p1 b (IH.out g (by omega) _ _ hb) U (HP.out.below hU))
  have QW:=qh (fun U hU=>qC q c L b.st ⟨#[101,108,105,102]⟩ U (HP.out.below hU))
  clear ha hp1 hb hl1 hl2
  by_cases ho:qv L b.st ⟨#[101,108,105,102]⟩=true
  ·rw[if_pos ho] at hrun
   obtain⟨p2,hp2,hrun⟩:=Option.bind_eq_some_iff.1 hrun
   obtain⟨u0,hon,hrun⟩:=Option.bind_eq_some_iff.1 hrun
   have hnext:=qbK hp2 (qfc ho).1
   have hon2:=qaK hon
   rw[ho] at QW
   have QN:=qh (fun U (hU:Below w.heap.size w U)=>qq q c L b.st p2 U hl hp2)
   have HM:Hid (L.length-p2.1<L.length-p.1):=qh (by
    rw[hnext.2] at hon2⊢
    dsimp only at hon2⊢
    rcases hon2 with hx|hx
    ·cases hx
    ·have:=hnext.1;omega)
   have HRUN:=qh hrun
   clear hrun hnext hon hon2 hp2 ho
   obtain⟨at2,bad2⟩:=p
   obtain⟨at3,bad3⟩:=p2
   obtain⟨at1,bad1⟩:=p1
   obtain⟨⟨ata,bada⟩,na,la,ba⟩:=a
   obtain⟨⟨atb,badb⟩,nb,lb,bb⟩:=b
   replace c_a:=(H1.out).ccCCCC
   have e_a:=(H1.out).ff4
   go_upto_region 4 with(first
    |(go_at_call 67;with_reducible refine fm QA H1 ?_;clear QA H1;intro w2 pu_1 cu_1 hj;have e_a:=(hj).ff4;have H2:=hj.layM (q:=q) (c:=c) (L:=L) ata bada na (.slice pu_1 na.kids.length cu_1);(try simp only[nn] at H2);replace c_a:=(H2.out).ccCCCCCC;clear hj)
    |(go_at_call 96;with_reducible refine fx QD H2 ?_;clear QD H2;intro w2a H2a;replace c_a:=(H2a.out).ccCCCCCC)
    |(go_at_call 67;with_reducible refine fm QB H2a ?_;clear QB H2a;intro w3 pu_2 cu_2 hj;have e_a:=(hj).ff6;have H3:=hj.layM (q:=q) (c:=c) (L:=L) atb badb nb (.slice pu_2 nb.kids.length cu_2);(try simp only[nn] at H3);replace c_a:=(H3.out).ccCCCCCCCC;clear hj))
   obtain⟨w4,hW,H4⟩:=fr_w H3;rewrite[←hW];(try simp only[nn] at H4);clear hW H3
   replace c_a:=(H4.out).ccCCCCCCCC
   have e_0:=(H4.out).far 0 rfl;have e_1:=(H4.out).far 1 rfl;have e_2:=(H4.out).far 2 rfl;replace e_3:=(H4.out).far 3 rfl;replace e_5:=(H4.out).far 5 rfl;replace e_7:=(H4.out).far 7 rfl
   go_upto_region 5 with(at_builtin;go_loud(refine qc5 (H4.out.skip _) 0 rfl HLEN.out na nb (by simp) (by simp) (World.alloc_heap_new w4 _) (by omega) rfl _ _ rfl rfl rfl ?_;intro p4 c4 w5 hf;have H5:=qh hf;clear hf;replace c_a:=(H5.out).ccCCCCCCCC))
   have h6:=H5.out.set 3 2 rfl (.slice p4 (l.length+2) c4)
   obtain⟨w6,hW,hj⟩:=qd h6
   rewrite[←hW]
   (try simp only[nn] at hj)
   have H6:=qh hj
   have KN4:=qh (((KN1.out.mono (fun f hf=>List.mem_cons_of_mem (qk (.slice pu_2 nb.kids.length cu_2) nb.kids) (List.mem_cons_of_mem (qk (.slice pu_1 na.kids.length cu_1) na.kids) hf))).snoc (x:=na) (u:=.slice pu_1 na.kids.length cu_1) (List.mem_cons_of_mem _ List.mem_cons_self)).snoc (x:=nb) (u:=.slice pu_2 nb.kids.length cu_2) List.mem_cons_self)
   clear h6 hW hj H5
   replace c_a:=(H6.out).ccCCCCCCCC
   go_wp2_with(first
    |(go_at_call 64;with_reducible refine fx QW H6 ?_;clear QW H6;intro w7 H7;replace c_a:=(H7.out).ccCCCCCCCC)
    |(go_at_call 94;with_reducible refine fx QN H7 ?_;clear QN H7;intro w8 H8;replace c_a:=(H8.out).ccCCCCCCCC))
   have h9:=Fr.set3 (x:=.slice q L.length c) (y:=.int .i64 (at3:Int)) (z:=.bool bad3) H8.out 0 rfl
   (try simp only[nn] at h9)
   have H9:=qh h9.drop4
   clear h9
   go_roundw
   case rel=>exact⟨g,(at3,bad3),l++[na]++[nb],us++[.slice pu_1 na.kids.length cu_1]++[.slice pu_2 nb.kids.length cu_2],p4,c4,_,qh ⟨HRUN.out,by omega,by rw[List.length_append,List.length_append];exact H9.out,KN4.out⟩⟩
   case measure=>
    rw[H9.out.leftA 0 rfl,HH.out.fr.leftA 0 rfl]
    exact HM.out
  ·rw[if_neg ho] at hrun
   have ho':qv L b.st ⟨#[101,108,105,102]⟩=false:=by simpa using ho
   have er:=(Option.some.inj hrun).symm
   subst er
   rw[ho'] at QW
   clear hrun ho ho'
   obtain⟨at2,bad2⟩:=p
   obtain⟨at1,bad1⟩:=p1
   obtain⟨⟨ata,bada⟩,na,la,ba⟩:=a
   obtain⟨⟨atb,badb⟩,nb,lb,bb⟩:=b
   replace c_a:=(H1.out).ccCCCC
   have e_a:=(H1.out).ff4
   go_upto_region 4 with(first
    |(go_at_call 67;with_reducible refine fm QA H1 ?_;clear QA H1;intro w2 pu_1 cu_1 hj;have e_a:=(hj).ff4;have H2:=hj.layM (q:=q) (c:=c) (L:=L) ata bada na (.slice pu_1 na.kids.length cu_1);(try simp only[nn] at H2);replace c_a:=(H2.out).ccCCCCCC;clear hj)
    |(go_at_call 96;with_reducible refine fx QD H2 ?_;clear QD H2;intro w2a H2a;replace c_a:=(H2a.out).ccCCCCCC)
    |(go_at_call 67;with_reducible refine fm QB H2a ?_;clear QB H2a;intro w3 pu_2 cu_2 hj;have e_a:=(hj).ff6;have H3:=hj.layM (q:=q) (c:=c) (L:=L) atb badb nb (.slice pu_2 nb.kids.length cu_2);(try simp only[nn] at H3);replace c_a:=(H3.out).ccCCCCCCCC;clear hj))
   obtain⟨w4,hW,H4⟩:=fr_w H3;rewrite[←hW];(try simp only[nn] at H4);clear hW H3
   replace c_a:=(H4.out).ccCCCCCCCC
   have e_0:=(H4.out).far 0 rfl;have e_1:=(H4.out).far 1 rfl;have e_2:=(H4.out).far 2 rfl;replace e_3:=(H4.out).far 3 rfl;replace e_5:=(H4.out).far 5 rfl;replace e_7:=(H4.out).far 7 rfl
   go_upto_region 5 with(at_builtin;go_loud(refine qc5 (H4.out.skip _) 0 rfl HLEN.out na nb (by simp) (by simp) (World.alloc_heap_new w4 _) (by omega) rfl _ _ rfl rfl rfl ?_;intro p4 c4 w5 hf;have H5:=qh hf;clear hf;replace c_a:=(H5.out).ccCCCCCCCC))
   have h6:=H5.out.set 3 2 rfl (.slice p4 (l.length+2) c4)
   obtain⟨w6,hW,hj⟩:=qd h6
   rewrite[←hW]
   (try simp only[nn] at hj)
   have H6:=qh hj
   have KN4:=qh (((KN1.out.mono (fun f hf=>List.mem_cons_of_mem (qk (.slice pu_2 nb.kids.length cu_2) nb.kids) (List.mem_cons_of_mem (qk (.slice pu_1 na.kids.length cu_1) na.kids) hf))).snoc (x:=na) (u:=.slice pu_1 na.kids.length cu_1) (List.mem_cons_of_mem _ List.mem_cons_self)).snoc (x:=nb) (u:=.slice pu_2 nb.kids.length cu_2) List.mem_cons_self)
   clear h6 hW hj H5
   replace c_a:=(H6.out).ccCCCCCCCC
   go_upto_region 6 with(go_at_call 64;with_reducible refine fx QW H6 ?_;clear QW H6;intro w7 H7;replace c_a:=(H7.out).ccCCCCCCCC)
   go_upto_region 8 with(fail)
   obtain⟨w8,hW,H8o⟩:=ab3 H7 0 (.slice q L.length c) (.int .i64 (atb:Int)) (.bool badb) rfl;rewrite[←hW];(try simp only[nn] at H8o);clear hW H7
   have H8:=qh H8o.out.drop4
   clear H8o
   replace c_a:=(H8.out).ccCCCC
   have e_a:=(H8.out).ff4
   go_upto_region 10 with(first
    |(go_at_call 64;with_reducible refine fx QE H8 ?_;clear QE H8;intro w9 H9;replace c_a:=(H9.out).ccCCCC)
    |(go_at_call 94;with_reducible refine fx QN8 H9 ?_;clear QN8 H9;intro w10 H10;replace c_a:=(H10.out).ccCCCC)
    |(go_at_call 67;with_reducible refine fm QP H10 ?_;clear QP H10;intro w11 pu_3 cu_3 hj;have e_a:=(hj).ff4;have H11:=hj.layM (q:=q) (c:=c) (L:=L) ate bade ne (.slice pu_3 ne.kids.length cu_3);(try simp only[nn] at H11);replace c_a:=(H11.out).ccCCCCCC;clear hj))
   obtain⟨w12,hW,H12⟩:=fr_w H11;rewrite[←hW];(try simp only[nn] at H12);clear hW H11
   replace c_a:=(H12.out).ccCCCCCC
   go_upto_region 11 with(fail)
   obtain⟨w13,hW,H13⟩:=ab3 H12 0 (.slice q L.length c) (.int .i64 (ate:Int)) (.bool bade) rfl;rewrite[←hW];(try simp only[nn] at H13);clear hW H12
   replace c_a:=(H13.out).ccCCCCCC
   go_upto_region 12 with(fail)
   obtain⟨w14,hW,hj⟩:=qd (H13.out.set 3 1 rfl (.string ⟨#[101,108,115,101]⟩))
   rewrite[←hW]
   (try simp only[nn] at hj)
   have H14:=qh hj
   clear hj hW H13
   replace c_a:=(H14.out).ccCCCCCC
   have e_0:=(H14.out).far 0 rfl;have e_1:=(H14.out).far 1 rfl;have e_2:=(H14.out).far 2 rfl;replace e_3:=(H14.out).far 3 rfl;replace e_5:=(H14.out).far 5 rfl
   have hlen9:=HL9.out
   go_upto_region 13 with(at_builtin;go_loud(refine q8 (H14.out.skip _) 0 rfl KN4.out.1 ne (by simp) (World.alloc_heap_new w14 _) (by omega) rfl _ _ rfl rfl rfl ?_;intro p15 c15 w15 hf;generalize (l++[na]++[nb]).length +1=z15 at hf⊢;have H15:=qh hf;clear hf;replace c_a:=(H15.out).ccCCCCCC))
   obtain⟨w16,hW,hj⟩:=qd (H15.out.set 3 2 rfl (.slice p15 z15 c15))
   rewrite[←hW]
   (try simp only[nn] at hj)
   have H16:=qh (hj.give1 ((KN4.out.more (F:=qk (.slice pu_3 ne.kids.length cu_3) ne.kids)).snoc (x:=ne) (u:=.slice pu_3 ne.kids.length cu_3) List.mem_cons_self) (by simp only[List.length_append,List.length_singleton] at hlen9⊢;omega))
   clear hj hW H15
   replace c_a:=(H16.out).ccCCCCCC
   have QZ2:=qh (fun U (hU:Below w16.heap.size w16 U)=>QZ.out U (H16.out.low.trans (hU.mono H16.out.low.size)))
   obtain⟨u1,u2,u3,u4,u5,u6,u7,hb0,hb1⟩:=Fr.held (S:=(fun w'=>B1 (w.heap.size) ((.slice q L.length c)) ((.int .i64 (ate:Int))) ((.bool bade)) w'∧B1 (w.heap.size+1+1+1) ((.int .i64 14)) ((.string ⟨#[101,108,115,101]⟩)) ((.slice p15 z15 c15)) w')) H16.out 1 2 (fun U bs' h e=>⟨((h).c3 0 (e 0 rfl)).1,((h).c3 3 (e 3 rfl)).1⟩) rfl rfl
   go_region_held3 ((fun w'=>B1 (w.heap.size) ((.slice q L.length c)) ((.int .i64 (ate:Int))) ((.bool bade)) w'∧B1 (w.heap.size+1+1+1) ((.int .i64 14)) ((.string ⟨#[101,108,115,101]⟩)) ((.slice p15 z15 c15)) w'))
    (with_reducible first|exact HS4.out|exact HS5.out _|assumption|(first|apply u7.out|apply u4.out|apply u5.out|apply u6.out|apply u3.out|apply u2.out|apply u1.out);(with_reducible first|exact hb0|assumption|exact hb1 _|exact qc hb0 _|exact qc (by assumption) _))
    (first|(go_at_call 96;with_reducible refine(QZ2.out _ (by(with_reducible first|exact hb0|assumption|exact hb1 _|exact qc hb0 _|exact qc (by assumption) _))).mono ?_;rintro _ U ⟨rfl,bu⟩;have bb:Below w16.heap.size w16 U:=Below.trans (by(with_reducible first|exact hb0|assumption|exact hb1 _|exact qc hb0 _|exact qc (by assumption) _)) (bu.mono (Below.size (show Below w16.heap.size w16 _ by(with_reducible first|exact hb0|assumption|exact hb1 _|exact qc hb0 _|exact qc (by assumption) _))));replace c_a:=((H16.out.stays bb)).cc3;have e_a:=((H16.out.stays bb)).ff3;have BU:=qh bu;clear bu))
   all_goals
    have hbu:Below w16.heap.size w16 U:=by assumption
    have HU:=qh (H16.out.stays hbu)
    obtain⟨Wf,hA,hB,hf⟩:=sets HU 1 2 q c L at9 bad9 14 ⟨#[101,108,115,101]⟩ (.slice p15 z15 c15) rfl rfl
    first|rewrite[←hA]|rewrite[←hB]
    (try simp only[nn] at hf);clear hA hB
    have el:l9=l++[na]++[nb]++[ne]:=EL9.out
    rw[←el] at hf
    clear el
    have r0:=And.intro (hf.c3 1 rfl).1 (hf.c3 2 rfl).1
    have HF:=qh (And.intro (Fr.toldH q c L ⟨(at9,bad9),.mk 14 ⟨#[101,108,115,101]⟩ l9,[],false⟩ hf) (Fr.toldH q c L ⟨(at9,bad9),.mk 14 ⟨#[101,108,115,101]⟩ l9,[],false⟩ hf.drew))
    clear hf
    (try go_wp2)
    first
     |exact bodyPost_ret (by simp[results,Tryz.results142,go_sem,r0]) rfl HF.out.1
     |exact bodyPost_ret (by simp[results,Tryz.results142,go_sem,r0]) rfl HF.out.2
theorem qmc{R:POps}{q:Option Addr}{c:Nat}{L:List PTok}{f:Nat}(ih:PAll R q c L (f+1))(hl:L.length≤1000000000)(p:PSt)(r:PRes)(hr:runP R L (f+1) (.ifs p)=some r):qn q c L (.ifs p) r:=by
 rw[runP] at hr
 have gi:=fun cm a (h:runP R L f cm=some a)=>ih f (Nat.lt_succ_self f) cm a h
 obtain⟨o,ho,hr⟩:=Option.bind_eq_some_iff.1 hr
 by_cases hw:qv L o.st ⟨#[101,108,115,101]⟩=true
 ·rw[if_pos hw] at hr
  obtain⟨p8,h8,hr⟩:=Option.bind_eq_some_iff.1 hr
  obtain⟨e',he,hr⟩:=Option.bind_eq_some_iff.1 hr
  obtain⟨l9,hl9,hr⟩:=Option.bind_eq_some_iff.1 hr
  obtain⟨p9,h9,hr⟩:=Option.bind_eq_some_iff.1 hr
  cases hr
  exact qm1 ih hl p o ho p8 p9 e' l9 hw h8 (gi _ _ he) hl9 h9
 ·rw[if_neg hw] at hr
  obtain⟨p9,h9,hr⟩:=Option.bind_eq_some_iff.1 hr
  cases hr
  exact qll ih hl p o ho p9 (by simpa using hw) h9
theorem qit{q:Option Addr}{c:Nat}{L:List PTok}(hl:L.length≤1000000000)(p:PSt)(p1:PSt)(t:ByteArray)(hk:(tokP L p).1=5)(ht:qbq L p=some t)(hp1:qs L p=some p1):qn q c L (.pattern p) ⟨p1,.mk 4 t [],[],false⟩:=by
 intro w h
 have H0:=qh (qD w q c L p)
 have QT:=qh (fun U hU=>qu q c L p U (h.below hU))
 (have QN:=qh (fun U=>qq q c L p p1 U hl hp1);unfold qbq at ht)
 clear h hp1
 generalize tokP L p=tok at*
 obtain⟨tk,tt⟩:=tok
 dsimp only at hk ht QT
 subst hk
 have hs:1≤tt.size:=by
  by_cases hs:1≤tt.size
  ·exact hs
  ·rw[if_neg hs] at ht;cases ht
 rw[if_pos hs] at ht
 obtain rfl:=Option.some.inj ht
 have hcut:=qb3 tt 1
 have u2:(1:Int)≤(tt.size:Int):=by omega
 clear ht
 obtain⟨at',bad⟩:=p
 obtain⟨at1,bad1⟩:=p1
 go_enter Tryz.func129,Tryz.ntmps129
 go_upto_region 2 with(go_at_call 93;with_reducible refine fx QT H0 ?_;clear H0;intro W1 H1;replace c_a:=(H1.out).cc3)
 have QT2:=qh (fun U (hU:Below W1.heap.size W1 U)=>QT.out U (H1.out.low.trans (hU.mono H1.out.low.size)))
 obtain⟨u1,u2,u3,u4,u5,u6,u7,hb0,hb1⟩:=Fr.held (S:=(fun w'=>B1 (w.heap.size) ((.slice q L.length c)) ((.int .i64 (at':Int))) ((.bool bad)) w')) H1.out 1 2 (fun U bs' h e=>(h.c3 0 (e 0 rfl)).1) rfl rfl
 go_region_held3 ((fun w'=>B1 (w.heap.size) ((.slice q L.length c)) ((.int .i64 (at':Int))) ((.bool bad)) w'))
  (with_reducible first|exact HS4.out|exact HS5.out _|assumption|(first|apply u7.out|apply u4.out|apply u5.out|apply u6.out|apply u3.out|apply u2.out|apply u1.out);(with_reducible first|exact hb0|assumption|exact hb1 _|exact qc hb0 _|exact qc (by assumption) _))
  (first|(go_at_call 94;with_reducible refine(QN.out _).mono ?_;rintro _ U ⟨rfl,bu⟩;have bb:Below W1.heap.size W1 U:=Below.trans (by(with_reducible first|exact hb0|assumption|exact hb1 _|exact qc hb0 _|exact qc (by assumption) _)) (bu.mono (Below.size (show Below W1.heap.size W1 _ by(with_reducible first|exact hb0|assumption|exact hb1 _|exact qc hb0 _|exact qc (by assumption) _))));replace c_a:=((H1.out.stays bb)).cc3;have e_a:=((H1.out.stays bb)).ff3;have BU:=qh bu;clear bu)|(go_at_call 93;with_reducible refine(QT2.out _ (by(with_reducible first|exact hb0|assumption|exact hb1 _|exact qc hb0 _|exact qc (by assumption) _))).mono ?_;rintro _ U ⟨rfl,bu⟩;have bb:Below W1.heap.size W1 U:=Below.trans (by(with_reducible first|exact hb0|assumption|exact hb1 _|exact qc hb0 _|exact qc (by assumption) _)) (bu.mono (Below.size (show Below W1.heap.size W1 _ by(with_reducible first|exact hb0|assumption|exact hb1 _|exact qc hb0 _|exact qc (by assumption) _))));replace c_a:=((H1.out.stays bb)).cc3;have e_a:=((H1.out.stays bb)).ff3;have BU:=qh bu;clear bu))
 all_goals
  have hbu:Below W1.heap.size W1 U:=by assumption
  have HU:=qh (H1.out.stays hbu)
  obtain⟨Wf,hA,hB,hf⟩:=sets HU 1 2 q c L at1 bad1 4 (cutB tt 1) (.slice none 0 0) rfl rfl
  first|rewrite[←hA]|rewrite[←hB]
  (try simp only[nn] at hf);clear hA hB
  have hf:=hf.nilN
  have r0:=And.intro (hf.c3 1 rfl).1 (hf.c3 2 rfl).1
  have HF:=qh (And.intro (hf.told q c L ⟨(at1,bad1),.mk 4 (cutB tt 1) [],[],false⟩ (.slice none 0 0) (by simp[qb.kids])) (hf.drew.told q c L ⟨(at1,bad1),.mk 4 (cutB tt 1) [],[],false⟩ (.slice none 0 0) (by simp[qb.kids])))
  clear hf
  (try go_wp2)
  refine bodyPost_ret (v:=(.tuple #[pV q c L (at1,bad1),.agg #[.int .i64 4,.string (cutB tt 1),.slice none 0 0]])) (by simp[results,Tryz.results129,go_sem,r0]) rfl ?_
  first|exact HF.out.1|exact HF.out.2
theorem qhi{q:Option Addr}{c:Nat}{L:List PTok}(hl:L.length≤1000000000)(p:PSt)(hk:(tokP L p).1≠5)(ho:opP L p ⟨#[123]⟩=false)(ho2:opP L p ⟨#[91]⟩=false):qn q c L (.pattern p) ⟨qR p,.mk 35 ⟨#[]⟩ [],[],false⟩:=by
 intro w h
 have H0:=qh (qD w q c L p)
 have QT:=qh (fun U hU=>qu q c L p U (h.below hU))
 (have QO:=qh (fun U hU=>qp q c L p ⟨#[123]⟩ U (h.below hU));have QO2:=qh (fun U hU=>qp q c L p ⟨#[91]⟩ U (h.below hU));rw[ho] at QO;rw[ho2] at QO2)
 clear h ho ho2
 generalize tokP L p=tok at*
 obtain⟨tk,tt⟩:=tok
 dsimp only at hk QT
 have ya_5:(tk==5)=false:=beq_eq_false_iff_ne.2 hk;have yb_5:(tk=5)=False:=eq_false hk;have yc_5:(tk != 5)=true:=by simpa using hk
 clear hk
 obtain⟨at',bad⟩:=p
 have QW:Hid (∀U,Calls Tryz.prog 68 #[.agg #[.slice q L.length c,.int .i64 (at':Int),.bool bad]] U fun e w'=>e=.returned (.agg #[.slice q L.length c,.int .i64 (at':Int),.bool true])∧Below U.heap.size U w'):=qh (fun U=>qX q c L (at',bad) U)
 go_enter Tryz.func129,Tryz.ntmps129
 go_upto_region 3 with(go_at_call 93;with_reducible refine fx QT H0 ?_;clear H0;intro W1 H1;replace c_a:=(H1.out).cc3)
 have e_a:=(H1.out).ff3
 go_upto_region 4 with(fail)
 obtain⟨W2,hW,hj⟩:=qd (H1.out.lay [.int .i64 35,.string ⟨#[]⟩,.slice none 0 0] 24)
 rewrite[←hW]
 (try simp only[nn] at hj)
 have H2:=qh hj
 clear hj hW H1
 replace c_a:=(H2.out).ccCCCC
 go_upto_region 9 with(first|(go_at_call 98;with_reducible refine fx QO H2 ?_;clear QO H2;intro W3 H3;replace c_a:=(H3.out).ccCCCC)|(go_at_call 98;with_reducible refine fx QO2 H3 ?_;clear QO2 H3;intro W4 H4;replace c_a:=(H4.out).ccCCCC))
 obtain⟨u1,u2,u3,u4,u5,u6,u7,hb0,hb1⟩:=Fr.held (S:=(fun w'=>B1 (w.heap.size) ((.slice q L.length c)) ((.int .i64 (at':Int))) ((.bool bad)) w'∧B1 (W1.heap.size) ((.int .i64 35)) ((.string ⟨#[]⟩)) ((.slice none 0 0)) w')) H4.out 1 2 (fun U bs' h e=>⟨((h).c3 0 (e 0 rfl)).1,((h).c3 3 (e 3 rfl)).1⟩) rfl rfl
 go_region_held3 ((fun w'=>B1 (w.heap.size) ((.slice q L.length c)) ((.int .i64 (at':Int))) ((.bool bad)) w'∧B1 (W1.heap.size) ((.int .i64 35)) ((.string ⟨#[]⟩)) ((.slice none 0 0)) w'))
  (with_reducible first|exact HS4.out|exact HS5.out _|assumption|(first|apply u7.out|apply u4.out|apply u5.out|apply u6.out|apply u3.out|apply u2.out|apply u1.out);(with_reducible first|exact hb0|assumption|exact hb1 _|exact qc hb0 _|exact qc (by assumption) _))
  (first|(go_at_call 68;with_reducible refine(QW.out _).mono ?_;rintro _ U ⟨rfl,bu⟩;have bb:Below W4.heap.size W4 U:=Below.trans (by(with_reducible first|exact hb0|assumption|exact hb1 _|exact qc hb0 _|exact qc (by assumption) _)) (bu.mono (Below.size (show Below W4.heap.size W4 _ by(with_reducible first|exact hb0|assumption|exact hb1 _|exact qc hb0 _|exact qc (by assumption) _))));replace c_a:=((H4.out.stays bb)).cc3;have e_a:=((H4.out.stays bb)).ff3;have BU:=qh bu;clear bu))
 all_goals
  have hbu:Below W4.heap.size W4 U:=by assumption
  have HU:=qh (H4.out.stays hbu)
  obtain⟨Wf,hA,hB,hf⟩:=sets HU 1 2 q c L at' true 35 ⟨#[]⟩ (.slice none 0 0) rfl rfl
  first|rewrite[←hA]|rewrite[←hB]
  (try simp only[nn] at hf);clear hA hB
  have hf:=hf.nilN
  have r0:=And.intro (hf.c3 1 rfl).1 (hf.c3 2 rfl).1
  have HF:=qh (And.intro (hf.told q c L ⟨(at',true),.mk 35 ⟨#[]⟩ [],[],false⟩ (.slice none 0 0) (by simp[qb.kids])) (hf.drew.told q c L ⟨(at',true),.mk 35 ⟨#[]⟩ [],[],false⟩ (.slice none 0 0) (by simp[qb.kids])))
  clear hf
  (try go_wp2)
  refine bodyPost_ret (v:=(.tuple #[pV q c L (at',true),.agg #[.int .i64 35,.string ⟨#[]⟩,.slice none 0 0]])) (by simp[results,Tryz.results129,go_sem,r0]) rfl ?_
  first|exact HF.out.1|exact HF.out.2
structure PatH(R:POps)(w wr:World)(B:Nat)(q:Option Addr)(c:Nat)(L:List PTok)(f:Nat)(kind:Int)(r:PRes)(p:PSt)(l:List qb)(us:List Value)(pv:Option Addr)(cv f':Nat)(ks:List Fact):Prop where
 run:runP R L f' (.patL p kind l)=some r
 fuel:f'≤f
 fr:Fr (fun _=>False) w wr [⟨w.heap.size,78,[.slice q L.length c,.int .i64 (p.1:Int),.bool p.2]⟩,⟨w.heap.size+1,78,[.slice none 0 0,.int .i64 0,.bool false]⟩,⟨w.heap.size+1+1,24,[.int .i64 0,.string ⟨#[]⟩,.slice none 0 0]⟩,⟨B,24,[.int .i64 kind,.string ⟨#[]⟩,.slice pv l.length cv]⟩] [rowN (.slice pv l.length cv) l us] ks
 kn:KN l us ks
theorem qhV{R:POps}{q:Option Addr}{c:Nat}{L:List PTok}{f:Nat}(ih:PAll R q c L (f+1))(hl:L.length≤1000000000)(p:PSt)(r:PRes)(hk:(tokP L p).1≠5)(ho:opP L p ⟨#[123]⟩=false)(ho2:opP L p ⟨#[91]⟩=true)(hr:runP R L f (.patL p 35 [])=some r):qn q c L (.pattern p) r:=by
 intro w h
 have H0:=qh (qD w q c L p)
 have QT:=qh (fun U hU=>qu q c L p U (h.below hU))
 (have QO1:=qh (fun U hU=>qp q c L p ⟨#[123]⟩ U (h.below hU));have QO2:=qh (fun U hU=>qp q c L p ⟨#[91]⟩ U (h.below hU));rw[ho] at QO1;rw[ho2] at QO2)
 have IH:=qh ih
 have HR:=qh hr
 have HP:=qh h
 clear h ih hr ho ho2
 generalize tokP L p=tok at*
 obtain⟨tk,tt⟩:=tok
 dsimp only at hk QT
 have ya_5:(tk==5)=false:=beq_eq_false_iff_ne.2 hk;have yb_5:(tk=5)=False:=eq_false hk;have yc_5:(tk != 5)=true:=by simpa using hk
 clear hk
 obtain⟨at',bad⟩:=p
 go_enter Tryz.func129,Tryz.ntmps129
 go_upto_region 3 with(go_at_call 93;with_reducible refine fx QT H0 ?_;clear H0;intro W1 H1;replace c_a:=(H1.out).cc3)
 have e_a:=(H1.out).ff3
 go_upto_region 4 with(fail)
 obtain⟨W2,hW,hj⟩:=qd (H1.out.lay [.int .i64 35,.string ⟨#[]⟩,.slice none 0 0] 24)
 rewrite[←hW]
 (try simp only[nn] at hj)
 have H2:=qh hj
 clear hj hW H1
 replace c_a:=(H2.out).ccCCCC
 (go_wp2_with(first|(go_at_call 98;with_reducible refine fx QO1 H2 ?_;clear QO1 H2;intro W3 H3;replace c_a:=(H3.out).ccCCCC)|(go_at_call 98;with_reducible refine fx QO2 H3 ?_;clear QO2 H3;intro W4 H7;replace c_a:=(H7.out).ccCCCC)))
 have H8:=qh (H7.out.rowNil 24 3)
 clear H7 QT
 generalize W1.heap.size=B at*
 go_loopw [] (fun wr=>∃(f':Nat) (p:PSt) (l:List qb) (us:List Value) (pv:Option Addr) (cv:Nat) (ks:List Fact),Hid (PatH R w wr B q c L f 35 r p l us pv cv f' ks)) (fun wr=>qd4 wr w.heap.size L.length)
 case atStart=>exact⟨f,(at',bad),[],[],none,0,_,qh ⟨HR.out,Nat.le_refl _,H8.out,KN.nil _⟩⟩
 case round=>
  clear HR H8
  obtain⟨f',p,l,us,pv,cv,ks,HH⟩:=hrel
  obtain⟨g,rfl⟩:∃g,f'=g+1:=by
   cases f' with
   |zero=>have:=HH.out.run;rw[runP] at this;cases this
   |succ g=>exact⟨g,rfl⟩
  have hrun:=HH.out.run
  have hgf:=HH.out.fuel
  rw[runP] at hrun
  obtain⟨p1,hp1,hrun⟩:=Option.bind_eq_some_iff.1 hrun
  obtain⟨a,ha,hrun⟩:=Option.bind_eq_some_iff.1 hrun
  obtain⟨l1,hl1,hrun⟩:=Option.bind_eq_some_iff.1 hrun
  obtain⟨hlen,rfl⟩:=qW hl1
  simp only[reduceIte,Int.reduceEq] at ha hrun
  have H1:=qh HH.out.fr
  have KN1:=qh HH.out.kn
  have HLEN:=qh HH.out.kn.1
  have QN:=qh (fun U (hU:Below w.heap.size w U)=>qq q c L p p1 U hl hp1)
  have QP:=qh (fun U (hU:Below w.heap.size w U)=>IH.out g (by omega) _ _ ha U (HP.out.below hU))
  have QO:=qh (fun U hU=>qp q c L a.st ⟨#[44]⟩ U (HP.out.below hU))
  clear hp1 ha hl1
  by_cases ho:opP L a.st ⟨#[44]⟩=true
  ·rw[if_pos ho] at hrun
   obtain⟨u0,hon,hrun⟩:=Option.bind_eq_some_iff.1 hrun
   have hon2:=qaK hon
   have hlt:=qdz ho
   rw[ho] at QO
   have HM:Hid (L.length-a.st.1<L.length-p.1):=qh (by
    rcases hon2 with hx|hx
    ·rw[hlt.1] at hx;cases hx
    ·have:=hlt.2;omega)
   have HRUN:=qh hrun
   clear hrun hlt hon hon2 ho
   obtain⟨at2,bad2⟩:=p
   obtain⟨at1,bad1⟩:=p1
   obtain⟨⟨ata,bada⟩,na,la,ba⟩:=a
   replace c_a:=(H1.out).ccCCCC
   have e_a:=(H1.out).ff4
   go_upto_region 11 with(go_at_call 94;with_reducible refine fx QN H1 ?_;clear QN H1;intro w2 hj;have e_a:=(hj.out).ff4;have H2:=hj.out.layP q c L at1 bad1;(try simp only[nn] at H2);replace c_a:=(H2.out).ccCCCCC;clear hj)
   obtain⟨w3,hW,H3⟩:=fr_w H2;rewrite[←hW];(try simp only[nn] at H3);clear hW H2
   replace c_a:=(H3.out).ccCCCCC
   have e_a:=(H3.out).ff5
   go_upto_region 12 with(fail)
   obtain⟨w4,hW,hj⟩:=qd (H3.out.lay [.int .i64 0,.string ⟨#[]⟩,.slice none 0 0] 24)
   rewrite[←hW]
   (try simp only[nn] at hj)
   have H4:=qh hj
   clear hj hW H3
   replace c_a:=(H4.out).ccCCCCCC
   have e_a:=(H4.out).ff6
   go_upto_region 17 with(go_at_call 129;with_reducible refine fm QP H4 ?_;clear QP H4;intro w5 pu_1 cu_1 hj;have e_a:=(hj).ff6;have H5:=hj.layM (q:=q) (c:=c) (L:=L) ata bada na (.slice pu_1 na.kids.length cu_1);(try simp only[nn] at H5);replace c_a:=(H5.out).ccCCCCCCCC;clear hj)
   obtain⟨w6,hW,H6⟩:=fr_w H5;rewrite[←hW];(try simp only[nn] at H6);clear hW H5
   replace c_a:=(H6.out).ccCCCCCCCC
   go_upto_region 18 with(fail)
   obtain⟨w7,hW,H7⟩:=ab3 H6 4 (.slice q L.length c) (.int .i64 (ata:Int)) (.bool bada) rfl;rewrite[←hW];(try simp only[nn] at H7);clear hW H6
   replace c_a:=(H7.out).ccCCCCCCCC
   go_upto_region 19 with(fail)
   obtain⟨w8,hW,H8⟩:=ab3 H7 5 (.int .i64 na.kind) (.string na.text) (.slice pu_1 na.kids.length cu_1) rfl;rewrite[←hW];(try simp only[nn] at H8);clear hW H7
   replace c_a:=(H8.out).ccCCCCCCCC
   have e_a:=(H8.out).ff6
   go_upto_region 20 with(at_builtin;go_loud(refine q8 (H8.out.skip _) 0 rfl HLEN.out na (by simp) (World.alloc_heap_new w8 _) (by omega) rfl _ _ rfl rfl rfl ?_;intro p4 c4 w9 hf;have H9:=qh hf;clear hf;replace c_a:=(H9.out).ccCCCCCC))
   have h4:=H9.out.set 3 2 rfl (.slice p4 (l.length+1) c4)
   obtain⟨w10,hW,hj⟩:=qd h4
   rewrite[←hW]
   (try simp only[nn] at hj)
   have H10:=qh hj
   have KN4:=qh ((KN1.out.more (F:=qk (.slice pu_1 na.kids.length cu_1) na.kids)).snoc (x:=na) (u:=.slice pu_1 na.kids.length cu_1) List.mem_cons_self)
   clear h4 hW hj
   replace c_a:=(H10.out).ccCCCCCC
   go_wp2_with(go_at_call 98;with_reducible refine fx QO H10 ?_;clear QO H10;intro w11 H11;replace c_a:=(H11.out).ccCCCCCC)
   have h7:=Fr.set3 (x:=.slice q L.length c) (y:=.int .i64 (ata:Int)) (z:=.bool bada) H11.out 0 rfl
   (try simp only[nn] at h7)
   have H12:=qh h7.drop4
   clear h7
   go_roundw
   case rel=>exact⟨g,(ata,bada),l++[na],us++[.slice pu_1 na.kids.length cu_1],p4,c4,_,qh ⟨HRUN.out,by omega,by rw[List.length_append];exact H12.out,KN4.out⟩⟩
   case measure=>
    rw[H12.out.leftA 0 rfl,HH.out.fr.leftA 0 rfl]
    exact HM.out
  ·rw[if_neg ho] at hrun
   have ho':opP L a.st ⟨#[44]⟩=false:=by simpa using ho
   obtain⟨p2,hp2,hrun⟩:=Option.bind_eq_some_iff.1 hrun
   have er:=(Option.some.inj hrun).symm
   subst er
   rw[ho'] at QO
   have QD:=qh (fun U hU=>qt q c L a.st p2 ⟨#[93]⟩ U (HP.out.below hU) hp2)
   clear hrun hp2 ho ho'
   obtain⟨at2,bad2⟩:=p
   obtain⟨at1,bad1⟩:=p1
   obtain⟨at3,bad3⟩:=p2
   obtain⟨⟨ata,bada⟩,na,la,ba⟩:=a
   replace c_a:=(H1.out).ccCCCC
   have e_a:=(H1.out).ff4
   go_upto_region 11 with(go_at_call 94;with_reducible refine fx QN H1 ?_;clear QN H1;intro w2 hj;have e_a:=(hj.out).ff4;have H2:=hj.out.layP q c L at1 bad1;(try simp only[nn] at H2);replace c_a:=(H2.out).ccCCCCC;clear hj)
   obtain⟨w3,hW,H3⟩:=fr_w H2;rewrite[←hW];(try simp only[nn] at H3);clear hW H2
   replace c_a:=(H3.out).ccCCCCC
   have e_a:=(H3.out).ff5
   go_upto_region 12 with(fail)
   obtain⟨w4,hW,hj⟩:=qd (H3.out.lay [.int .i64 0,.string ⟨#[]⟩,.slice none 0 0] 24)
   rewrite[←hW]
   (try simp only[nn] at hj)
   have H4:=qh hj
   clear hj hW H3
   replace c_a:=(H4.out).ccCCCCCC
   have e_a:=(H4.out).ff6
   go_upto_region 17 with(go_at_call 129;with_reducible refine fm QP H4 ?_;clear QP H4;intro w5 pu_1 cu_1 hj;have e_a:=(hj).ff6;have H5:=hj.layM (q:=q) (c:=c) (L:=L) ata bada na (.slice pu_1 na.kids.length cu_1);(try simp only[nn] at H5);replace c_a:=(H5.out).ccCCCCCCCC;clear hj)
   obtain⟨w6,hW,H6⟩:=fr_w H5;rewrite[←hW];(try simp only[nn] at H6);clear hW H5
   replace c_a:=(H6.out).ccCCCCCCCC
   go_upto_region 18 with(fail)
   obtain⟨w7,hW,H7⟩:=ab3 H6 4 (.slice q L.length c) (.int .i64 (ata:Int)) (.bool bada) rfl;rewrite[←hW];(try simp only[nn] at H7);clear hW H6
   replace c_a:=(H7.out).ccCCCCCCCC
   go_upto_region 19 with(fail)
   obtain⟨w8,hW,H8⟩:=ab3 H7 5 (.int .i64 na.kind) (.string na.text) (.slice pu_1 na.kids.length cu_1) rfl;rewrite[←hW];(try simp only[nn] at H8);clear hW H7
   replace c_a:=(H8.out).ccCCCCCCCC
   have e_a:=(H8.out).ff6
   go_upto_region 20 with(at_builtin;go_loud(refine q8 (H8.out.skip _) 0 rfl HLEN.out na (by simp) (World.alloc_heap_new w8 _) (by omega) rfl _ _ rfl rfl rfl ?_;intro p4 c4 w9 hf;have H9:=qh hf;clear hf;replace c_a:=(H9.out).ccCCCCCC))
   have h4:=H9.out.set 3 2 rfl (.slice p4 (l.length+1) c4)
   obtain⟨w10,hW,hj⟩:=qd h4
   rewrite[←hW]
   (try simp only[nn] at hj)
   have H10:=qh hj
   have KN4:=qh ((KN1.out.more (F:=qk (.slice pu_1 na.kids.length cu_1) na.kids)).snoc (x:=na) (u:=.slice pu_1 na.kids.length cu_1) List.mem_cons_self)
   clear h4 hW hj
   replace c_a:=(H10.out).ccCCCCCC
   go_upto_region 21 with(go_at_call 98;with_reducible refine fx QO H10 ?_;clear QO H10;intro w11 H11;replace c_a:=(H11.out).ccCCCCCC)
   have h6:=H11.out.give1 KN4.out (by rw[List.length_append,List.length_singleton];omega)
   have H6:=qh h6
   clear h6 H11
   have QD2:=qh (fun U (hU:Below w11.heap.size w11 U)=>QD.out U (H6.out.low.trans (hU.mono H6.out.low.size)))
   obtain⟨u1,u2,u3,u4,u5,u6,u7,hb0,hb1⟩:=Fr.held (S:=(fun w'=>B1 (w2.heap.size) ((.slice q L.length c)) ((.int .i64 (ata:Int))) ((.bool bada)) w'∧B1 (B) ((.int .i64 35)) ((.string ⟨#[]⟩)) ((.slice p4 (l.length+1) c4)) w')) H6.out 1 2 (fun U bs' h e=>⟨((h).c3 4 (e 4 rfl)).1,((h).c3 3 (e 3 rfl)).1⟩) rfl rfl
   go_region_held3 ((fun w'=>B1 (w2.heap.size) ((.slice q L.length c)) ((.int .i64 (ata:Int))) ((.bool bada)) w'∧B1 (B) ((.int .i64 35)) ((.string ⟨#[]⟩)) ((.slice p4 (l.length+1) c4)) w'))
    (with_reducible first|exact HS4.out|exact HS5.out _|assumption|(first|apply u7.out|apply u4.out|apply u5.out|apply u6.out|apply u3.out|apply u2.out|apply u1.out);(with_reducible first|exact hb0|assumption|exact hb1 _|exact qc hb0 _|exact qc (by assumption) _))
    (first|(go_at_call 96;with_reducible refine(QD2.out _ (by(with_reducible first|exact hb0|assumption|exact hb1 _|exact qc hb0 _|exact qc (by assumption) _))).mono ?_;rintro _ U ⟨rfl,bu⟩;have bb:Below w11.heap.size w11 U:=Below.trans (by(with_reducible first|exact hb0|assumption|exact hb1 _|exact qc hb0 _|exact qc (by assumption) _)) (bu.mono (Below.size (show Below w11.heap.size w11 _ by(with_reducible first|exact hb0|assumption|exact hb1 _|exact qc hb0 _|exact qc (by assumption) _))));replace c_a:=((H6.out.stays bb)).cc3;have e_a:=((H6.out.stays bb)).ff3;have BU:=qh bu;clear bu))
   all_goals
    have hbu:Below w11.heap.size w11 U:=by assumption
    have HU:=qh (H6.out.stays hbu)
    obtain⟨Wf,hA,hB,hf⟩:=sets HU 1 2 q c L at3 bad3 35 ⟨#[]⟩ (.slice p4 (l.length+1) c4) rfl rfl
    first|rewrite[←hA]|rewrite[←hB]
    (try simp only[nn] at hf);clear hA hB
    have r0:=And.intro (hf.c3 1 rfl).1 (hf.c3 2 rfl).1
    have HF:=qh (And.intro (Fr.toldH q c L ⟨(at3,bad3),.mk 35 ⟨#[]⟩ (l++[na]),[],false⟩ hf) (Fr.toldH q c L ⟨(at3,bad3),.mk 35 ⟨#[]⟩ (l++[na]),[],false⟩ hf.drew))
    clear hf
    (try go_wp2)
    first
     |exact bodyPost_ret (by simp[results,Tryz.results129,go_sem,r0]) rfl HF.out.1
     |exact bodyPost_ret (by simp[results,Tryz.results129,go_sem,r0]) rfl HF.out.2
theorem qiT{R:POps}{q:Option Addr}{c:Nat}{L:List PTok}{f:Nat}(ih:PAll R q c L (f+1))(hl:L.length≤1000000000)(p:PSt)(r:PRes)(hk:(tokP L p).1≠5)(ho:opP L p ⟨#[123]⟩=true)(hr:runP R L f (.patL p 36 [])=some r):qn q c L (.pattern p) r:=by
 intro w h
 have H0:=qh (qD w q c L p)
 have QT:=qh (fun U hU=>qu q c L p U (h.below hU))
 (have QO1:=qh (fun U hU=>qp q c L p ⟨#[123]⟩ U (h.below hU));rw[ho] at QO1)
 have IH:=qh ih
 have HR:=qh hr
 have HP:=qh h
 clear h ih hr ho
 generalize tokP L p=tok at*
 obtain⟨tk,tt⟩:=tok
 dsimp only at hk QT
 have ya_5:(tk==5)=false:=beq_eq_false_iff_ne.2 hk;have yb_5:(tk=5)=False:=eq_false hk;have yc_5:(tk != 5)=true:=by simpa using hk
 clear hk
 obtain⟨at',bad⟩:=p
 go_enter Tryz.func129,Tryz.ntmps129
 go_upto_region 3 with(go_at_call 93;with_reducible refine fx QT H0 ?_;clear H0;intro W1 H1;replace c_a:=(H1.out).cc3)
 have e_a:=(H1.out).ff3
 go_upto_region 4 with(fail)
 obtain⟨W2,hW,hj⟩:=qd (H1.out.lay [.int .i64 35,.string ⟨#[]⟩,.slice none 0 0] 24)
 rewrite[←hW]
 (try simp only[nn] at hj)
 have H2:=qh hj
 clear hj hW H1
 replace c_a:=(H2.out).ccCCCC
 (go_upto_region 6 with(go_at_call 98;with_reducible refine fx QO1 H2 ?_;clear QO1 H2;intro W3 H3;replace c_a:=(H3.out).ccCCCC);go_upto_region 7 with(fail);(obtain⟨W4,hW,hj⟩:=qd (H3.out.set 3 0 rfl (.int .i64 36));rewrite[←hW];(try simp only[nn] at hj);have H7:=qh hj;clear hj hW H3;replace c_a:=(H7.out).ccCCCC);go_wp2_with fail)
 have H8:=qh (H7.out.rowNil 24 3)
 clear H7 QT
 generalize W1.heap.size=B at*
 go_loopw [] (fun wr=>∃(f':Nat) (p:PSt) (l:List qb) (us:List Value) (pv:Option Addr) (cv:Nat) (ks:List Fact),Hid (PatH R w wr B q c L f 36 r p l us pv cv f' ks)) (fun wr=>qd4 wr w.heap.size L.length)
 case atStart=>exact⟨f,(at',bad),[],[],none,0,_,qh ⟨HR.out,Nat.le_refl _,H8.out,KN.nil _⟩⟩
 case round=>
  clear HR H8
  obtain⟨f',p,l,us,pv,cv,ks,HH⟩:=hrel
  obtain⟨g,rfl⟩:∃g,f'=g+1:=by
   cases f' with
   |zero=>have:=HH.out.run;rw[runP] at this;cases this
   |succ g=>exact⟨g,rfl⟩
  have hrun:=HH.out.run
  have hgf:=HH.out.fuel
  rw[runP] at hrun
  obtain⟨p1,hp1,hrun⟩:=Option.bind_eq_some_iff.1 hrun
  obtain⟨a,ha,hrun⟩:=Option.bind_eq_some_iff.1 hrun
  obtain⟨l1,hl1,hrun⟩:=Option.bind_eq_some_iff.1 hrun
  obtain⟨hlen,rfl⟩:=qW hl1
  simp only[reduceIte,Int.reduceEq] at ha hrun
  have H1:=qh HH.out.fr
  have KN1:=qh HH.out.kn
  have HLEN:=qh HH.out.kn.1
  have QN:=qh (fun U (hU:Below w.heap.size w U)=>qq q c L p p1 U hl hp1)
  have QP:=qh (fun U (hU:Below w.heap.size w U)=>IH.out g (by omega) _ _ ha U (HP.out.below hU))
  have QO:=qh (fun U hU=>qp q c L a.st ⟨#[44]⟩ U (HP.out.below hU))
  clear hp1 ha hl1
  by_cases ho:opP L a.st ⟨#[44]⟩=true
  ·rw[if_pos ho] at hrun
   obtain⟨u0,hon,hrun⟩:=Option.bind_eq_some_iff.1 hrun
   have hon2:=qaK hon
   have hlt:=qdz ho
   rw[ho] at QO
   have HM:Hid (L.length-a.st.1<L.length-p.1):=qh (by
    rcases hon2 with hx|hx
    ·rw[hlt.1] at hx;cases hx
    ·have:=hlt.2;omega)
   have HRUN:=qh hrun
   clear hrun hlt hon hon2 ho
   obtain⟨at2,bad2⟩:=p
   obtain⟨at1,bad1⟩:=p1
   obtain⟨⟨ata,bada⟩,na,la,ba⟩:=a
   replace c_a:=(H1.out).ccCCCC
   have e_a:=(H1.out).ff4
   go_upto_region 11 with(go_at_call 94;with_reducible refine fx QN H1 ?_;clear QN H1;intro w2 hj;have e_a:=(hj.out).ff4;have H2:=hj.out.layP q c L at1 bad1;(try simp only[nn] at H2);replace c_a:=(H2.out).ccCCCCC;clear hj)
   obtain⟨w3,hW,H3⟩:=fr_w H2;rewrite[←hW];(try simp only[nn] at H3);clear hW H2
   replace c_a:=(H3.out).ccCCCCC
   have e_a:=(H3.out).ff5
   go_upto_region 12 with(fail)
   obtain⟨w4,hW,hj⟩:=qd (H3.out.lay [.int .i64 0,.string ⟨#[]⟩,.slice none 0 0] 24)
   rewrite[←hW]
   (try simp only[nn] at hj)
   have H4:=qh hj
   clear hj hW H3
   replace c_a:=(H4.out).ccCCCCCC
   have e_a:=(H4.out).ff6
   go_upto_region 14 with(go_at_call 134;with_reducible refine fm QP H4 ?_;clear QP H4;intro w5 pu_1 cu_1 hj;have e_a:=(hj).ff6;have H5:=hj.layM (q:=q) (c:=c) (L:=L) ata bada na (.slice pu_1 na.kids.length cu_1);(try simp only[nn] at H5);replace c_a:=(H5.out).ccCCCCCCCC;clear hj)
   obtain⟨w6,hW,H6⟩:=fr_w H5;rewrite[←hW];(try simp only[nn] at H6);clear hW H5
   replace c_a:=(H6.out).ccCCCCCCCC
   go_upto_region 15 with(fail)
   obtain⟨w7,hW,H7⟩:=ab3 H6 4 (.slice q L.length c) (.int .i64 (ata:Int)) (.bool bada) rfl;rewrite[←hW];(try simp only[nn] at H7);clear hW H6
   replace c_a:=(H7.out).ccCCCCCCCC
   go_upto_region 19 with(fail)
   obtain⟨w8,hW,H8⟩:=ab3 H7 5 (.int .i64 na.kind) (.string na.text) (.slice pu_1 na.kids.length cu_1) rfl;rewrite[←hW];(try simp only[nn] at H8);clear hW H7
   replace c_a:=(H8.out).ccCCCCCCCC
   have e_a:=(H8.out).ff6
   go_upto_region 20 with(at_builtin;go_loud(refine q8 (H8.out.skip _) 0 rfl HLEN.out na (by simp) (World.alloc_heap_new w8 _) (by omega) rfl _ _ rfl rfl rfl ?_;intro p4 c4 w9 hf;have H9:=qh hf;clear hf;replace c_a:=(H9.out).ccCCCCCC))
   have h4:=H9.out.set 3 2 rfl (.slice p4 (l.length+1) c4)
   obtain⟨w10,hW,hj⟩:=qd h4
   rewrite[←hW]
   (try simp only[nn] at hj)
   have H10:=qh hj
   have KN4:=qh ((KN1.out.more (F:=qk (.slice pu_1 na.kids.length cu_1) na.kids)).snoc (x:=na) (u:=.slice pu_1 na.kids.length cu_1) List.mem_cons_self)
   clear h4 hW hj
   replace c_a:=(H10.out).ccCCCCCC
   go_wp2_with(go_at_call 98;with_reducible refine fx QO H10 ?_;clear QO H10;intro w11 H11;replace c_a:=(H11.out).ccCCCCCC)
   have h7:=Fr.set3 (x:=.slice q L.length c) (y:=.int .i64 (ata:Int)) (z:=.bool bada) H11.out 0 rfl
   (try simp only[nn] at h7)
   have H12:=qh h7.drop4
   clear h7
   go_roundw
   case rel=>exact⟨g,(ata,bada),l++[na],us++[.slice pu_1 na.kids.length cu_1],p4,c4,_,qh ⟨HRUN.out,by omega,by rw[List.length_append];exact H12.out,KN4.out⟩⟩
   case measure=>
    rw[H12.out.leftA 0 rfl,HH.out.fr.leftA 0 rfl]
    exact HM.out
  ·rw[if_neg ho] at hrun
   have ho':opP L a.st ⟨#[44]⟩=false:=by simpa using ho
   obtain⟨p2,hp2,hrun⟩:=Option.bind_eq_some_iff.1 hrun
   have er:=(Option.some.inj hrun).symm
   subst er
   rw[ho'] at QO
   have QD:=qh (fun U hU=>qt q c L a.st p2 ⟨#[125]⟩ U (HP.out.below hU) hp2)
   clear hrun hp2 ho ho'
   obtain⟨at2,bad2⟩:=p
   obtain⟨at1,bad1⟩:=p1
   obtain⟨at3,bad3⟩:=p2
   obtain⟨⟨ata,bada⟩,na,la,ba⟩:=a
   replace c_a:=(H1.out).ccCCCC
   have e_a:=(H1.out).ff4
   go_upto_region 11 with(go_at_call 94;with_reducible refine fx QN H1 ?_;clear QN H1;intro w2 hj;have e_a:=(hj.out).ff4;have H2:=hj.out.layP q c L at1 bad1;(try simp only[nn] at H2);replace c_a:=(H2.out).ccCCCCC;clear hj)
   obtain⟨w3,hW,H3⟩:=fr_w H2;rewrite[←hW];(try simp only[nn] at H3);clear hW H2
   replace c_a:=(H3.out).ccCCCCC
   have e_a:=(H3.out).ff5
   go_upto_region 12 with(fail)
   obtain⟨w4,hW,hj⟩:=qd (H3.out.lay [.int .i64 0,.string ⟨#[]⟩,.slice none 0 0] 24)
   rewrite[←hW]
   (try simp only[nn] at hj)
   have H4:=qh hj
   clear hj hW H3
   replace c_a:=(H4.out).ccCCCCCC
   have e_a:=(H4.out).ff6
   go_upto_region 14 with(go_at_call 134;with_reducible refine fm QP H4 ?_;clear QP H4;intro w5 pu_1 cu_1 hj;have e_a:=(hj).ff6;have H5:=hj.layM (q:=q) (c:=c) (L:=L) ata bada na (.slice pu_1 na.kids.length cu_1);(try simp only[nn] at H5);replace c_a:=(H5.out).ccCCCCCCCC;clear hj)
   obtain⟨w6,hW,H6⟩:=fr_w H5;rewrite[←hW];(try simp only[nn] at H6);clear hW H5
   replace c_a:=(H6.out).ccCCCCCCCC
   go_upto_region 15 with(fail)
   obtain⟨w7,hW,H7⟩:=ab3 H6 4 (.slice q L.length c) (.int .i64 (ata:Int)) (.bool bada) rfl;rewrite[←hW];(try simp only[nn] at H7);clear hW H6
   replace c_a:=(H7.out).ccCCCCCCCC
   go_upto_region 19 with(fail)
   obtain⟨w8,hW,H8⟩:=ab3 H7 5 (.int .i64 na.kind) (.string na.text) (.slice pu_1 na.kids.length cu_1) rfl;rewrite[←hW];(try simp only[nn] at H8);clear hW H7
   replace c_a:=(H8.out).ccCCCCCCCC
   have e_a:=(H8.out).ff6
   go_upto_region 20 with(at_builtin;go_loud(refine q8 (H8.out.skip _) 0 rfl HLEN.out na (by simp) (World.alloc_heap_new w8 _) (by omega) rfl _ _ rfl rfl rfl ?_;intro p4 c4 w9 hf;have H9:=qh hf;clear hf;replace c_a:=(H9.out).ccCCCCCC))
   have h4:=H9.out.set 3 2 rfl (.slice p4 (l.length+1) c4)
   obtain⟨w10,hW,hj⟩:=qd h4
   rewrite[←hW]
   (try simp only[nn] at hj)
   have H10:=qh hj
   have KN4:=qh ((KN1.out.more (F:=qk (.slice pu_1 na.kids.length cu_1) na.kids)).snoc (x:=na) (u:=.slice pu_1 na.kids.length cu_1) List.mem_cons_self)
   clear h4 hW hj
   replace c_a:=(H10.out).ccCCCCCC
   go_upto_region 21 with(go_at_call 98;with_reducible refine fx QO H10 ?_;clear QO H10;intro w11 H11;replace c_a:=(H11.out).ccCCCCCC)
   have h6:=H11.out.give1 KN4.out (by rw[List.length_append,List.length_singleton];omega)
   have H6:=qh h6
   clear h6 H11
   have QD2:=qh (fun U (hU:Below w11.heap.size w11 U)=>QD.out U (H6.out.low.trans (hU.mono H6.out.low.size)))
   obtain⟨u1,u2,u3,u4,u5,u6,u7,hb0,hb1⟩:=Fr.held (S:=(fun w'=>B1 (w2.heap.size) ((.slice q L.length c)) ((.int .i64 (ata:Int))) ((.bool bada)) w'∧B1 (B) ((.int .i64 36)) ((.string ⟨#[]⟩)) ((.slice p4 (l.length+1) c4)) w')) H6.out 1 2 (fun U bs' h e=>⟨((h).c3 4 (e 4 rfl)).1,((h).c3 3 (e 3 rfl)).1⟩) rfl rfl
   go_region_held3 ((fun w'=>B1 (w2.heap.size) ((.slice q L.length c)) ((.int .i64 (ata:Int))) ((.bool bada)) w'∧B1 (B) ((.int .i64 36)) ((.string ⟨#[]⟩)) ((.slice p4 (l.length+1) c4)) w'))
    (with_reducible first|exact HS4.out|exact HS5.out _|assumption|(first|apply u7.out|apply u4.out|apply u5.out|apply u6.out|apply u3.out|apply u2.out|apply u1.out);(with_reducible first|exact hb0|assumption|exact hb1 _|exact qc hb0 _|exact qc (by assumption) _))
    (first|(go_at_call 96;with_reducible refine(QD2.out _ (by(with_reducible first|exact hb0|assumption|exact hb1 _|exact qc hb0 _|exact qc (by assumption) _))).mono ?_;rintro _ U ⟨rfl,bu⟩;have bb:Below w11.heap.size w11 U:=Below.trans (by(with_reducible first|exact hb0|assumption|exact hb1 _|exact qc hb0 _|exact qc (by assumption) _)) (bu.mono (Below.size (show Below w11.heap.size w11 _ by(with_reducible first|exact hb0|assumption|exact hb1 _|exact qc hb0 _|exact qc (by assumption) _))));replace c_a:=((H6.out.stays bb)).cc3;have e_a:=((H6.out.stays bb)).ff3;have BU:=qh bu;clear bu))
   all_goals
    have hbu:Below w11.heap.size w11 U:=by assumption
    have HU:=qh (H6.out.stays hbu)
    obtain⟨Wf,hA,hB,hf⟩:=sets HU 1 2 q c L at3 bad3 36 ⟨#[]⟩ (.slice p4 (l.length+1) c4) rfl rfl
    first|rewrite[←hA]|rewrite[←hB]
    (try simp only[nn] at hf);clear hA hB
    have r0:=And.intro (hf.c3 1 rfl).1 (hf.c3 2 rfl).1
    have HF:=qh (And.intro (Fr.toldH q c L ⟨(at3,bad3),.mk 36 ⟨#[]⟩ (l++[na]),[],false⟩ hf) (Fr.toldH q c L ⟨(at3,bad3),.mk 36 ⟨#[]⟩ (l++[na]),[],false⟩ hf.drew))
    clear hf
    (try go_wp2)
    first
     |exact bodyPost_ret (by simp[results,Tryz.results129,go_sem,r0]) rfl HF.out.1
     |exact bodyPost_ret (by simp[results,Tryz.results129,go_sem,r0]) rfl HF.out.2
theorem qh9{R:POps}{q:Option Addr}{c:Nat}{L:List PTok}{f:Nat}(ih:PAll R q c L (f+1))(hl:L.length≤1000000000)(p:PSt)(r:PRes)(hr:runP R L (f+1) (.pattern p)=some r):qn q c L (.pattern p) r:=by
 rw[runP] at hr
 by_cases hk:(tokP L p).1=5
 ·rw[if_pos hk] at hr
  obtain⟨t,ht,hr⟩:=Option.bind_eq_some_iff.1 hr
  obtain⟨p1,h1,hr⟩:=Option.bind_eq_some_iff.1 hr
  cases hr
  exact qit hl p p1 t hk ht h1
 ·rw[if_neg hk] at hr
  by_cases ho:opP L p ⟨#[123]⟩=true
  ·rw[if_pos ho] at hr
   exact qiT ih hl p r hk ho hr
  ·rw[if_neg ho] at hr
   have ho':opP L p ⟨#[123]⟩=false:=by simpa using ho
   by_cases ho2:opP L p ⟨#[91]⟩=true
   ·rw[if_pos ho2] at hr
    exact qhV ih hl p r hk ho' ho2 hr
   ·rw[if_neg ho2] at hr
    cases hr
    exact qhi hl p hk ho' (by simpa using ho2)
theorem Fr.krow{w W:World}{bs:List Bx}{ks:List Fact}{v:Value}{l:List qb}{us:List Value}(h:Fr (fun _=>False) w W bs [rowN v l us] ks)(hk:KN l us ks):KRow w.heap.size (fun b=>w.heap.size≤b) W v l us:=
 ⟨h.row _ (List.mem_singleton_self _),hk.1,fun i x u hx hu=>((h.get (hk.2 i x u hx hu):qo W _ u x.kids).within).mono fun b hb=>⟨hb.1.1.resolve_left (fun e=>e),hb.2,fun e=>hb.1.2 (.inr (by simp[Rw.owns,rowN,e]))⟩⟩
theorem fr_in2(w:World)(q:Option Addr)(c:Nat)(L:List PTok)(p:PSt):Fr (fun _=>False) w ((w.alloc (.cells #[.slice q L.length c,.int .i64 (p.1:Int),.bool p.2] 78)).alloc (.cells #[.slice none 0 0,.int .i64 0,.bool false] 78))
  [⟨w.heap.size,78,[.slice q L.length c,.int .i64 (p.1:Int),.bool p.2]⟩,⟨w.heap.size+1,78,[.slice none 0 0,.int .i64 0,.bool false]⟩] [] []:=(Fr.new0 w).lay2 _ _ _ _
structure ParH(R:POps)(w wr:World)(q:Option Addr)(c:Nat)(L:List PTok)(f:Nat)(r:PRes)(p:PSt)(l:List qb)(us:List Value)(pv:Option Addr)(cv f':Nat)(ks:List Fact):Prop where
 run:runP R L f' (.params p l)=some r
 fuel:f'≤f
 fr:Fr (fun _=>False) w wr [⟨w.heap.size,78,[.slice q L.length c,.int .i64 (p.1:Int),.bool p.2]⟩,⟨w.heap.size+1,78,[.slice none 0 0,.int .i64 0,.bool false]⟩] [rowN (.slice pv l.length cv) l us] ks
 kn:KN l us ks
def qdl(q:Option Addr)(c:Nat)(L:List PTok)(w:World)(r:PRes)(e:Ending)(w':World):Prop:=∃v us,e=.returned (.tuple #[pV q c L r.st,v])∧KRow w.heap.size (fun b=>w.heap.size≤b) w' v r.l us∧Below w.heap.size w w'
theorem Fr.drop2{R:Nat→Prop}{w W:World}{bs:List Bx}{rs:List Rw}{ks:List Fact}{a b:Bx}(h:Fr R w W (a::b::bs) rs ks):Fr R w W [a,b] rs ks:=Fr.drop (bs:=[a,b]) h
theorem qjn{R:POps}(hR:ROps R){q:Option Addr}{c:Nat}{L:List PTok}(hL:qan L){f:Nat}(ih:PAll R q c L (f+1))(hl:L.length≤1000000000)(p:PSt)(r:PRes)(hr:runP R L (f+1) (.params p [])=some r):qn q c L (.params p []) r:=by
 intro w h
 have H0:=qh (fr_in2 w q c L p)
 have HR:=qh hr
 have HP:=qh h
 show Calls Tryz.prog 99 #[pV q c L p] w (qdl q c L w r)
 clear h ih hr
 obtain⟨at',bad⟩:=p
 go_enter Tryz.func99,Tryz.ntmps99
 go_wp2_with fail
 have H1:=qh (H0.out.rowNil 24 3)
 clear H0
 go_loopw [4] (fun b wr=>∃(f':Nat) (p:PSt) (l:List qb) (us:List Value) (pv:Option Addr) (cv:Nat) (ks:List Fact),b=.slice pv l.length cv∧Hid (ParH R w wr q c L (f+1) r p l us pv cv f' ks)) (fun _ wr=>qd4 wr w.heap.size L.length)
 case atStart=>exact⟨f+1,(at',bad),[],[],none,0,_,rfl,qh ⟨HR.out,Nat.le_refl _,H1.out,KN.nil _⟩⟩
 case round=>
  clear HR H1
  obtain⟨f',p,l,us,pv,cv,ks,rfl,HH⟩:=hrel
  obtain⟨g,rfl⟩:∃g,f'=g+1:=by
   cases f' with
   |zero=>have:=HH.out.run;rw[runP] at this;cases this
   |succ g=>exact⟨g,rfl⟩
  have hrun:=HH.out.run
  have hgf:=HH.out.fuel
  rw[runP] at hrun
  have H1:=qh HH.out.fr
  have KN1:=qh HH.out.kn
  have HLEN:=qh HH.out.kn.1
  have QT:=qh (fun U (hU:Below w.heap.size w U)=>qu q c L p U (HP.out.below hU))
  have hsz:=hL.tok p
  have QPL:=qh (fun U=>hR.plain (tokP L p).2 U hsz)
  by_cases hc:(tokP L p).1≠5∧((tokP L p).1≠3∨R.plain (tokP L p).2=false)
  ·rw[if_pos hc] at hrun
   by_cases h3:(tokP L p).1=3
   ·have hpl:R.plain (tokP L p).2=false:=hc.2.resolve_left (fun e=>e h3)
    rw[hpl] at QPL
    clear hpl hc hsz
    generalize tokP L p=tok at*
    obtain⟨tk,tt⟩:=tok
    dsimp only at h3 QT QPL
    subst h3
    have er:=(Option.some.inj hrun).symm
    subst er
    clear hrun
    obtain⟨at2,bad2⟩:=p
    have QW:Hid (∀U,Calls Tryz.prog 68 #[.agg #[.slice q L.length c,.int .i64 (at2:Int),.bool bad2]] U fun e w'=>e=.returned (.agg #[.slice q L.length c,.int .i64 (at2:Int),.bool true])∧Below U.heap.size U w'):=qh (fun U=>qX q c L (at2,bad2) U)
    replace c_a:=(H1.out).ccCC
    go_wp2_with(first|(go_at_call 93;go_loud((with_reducible refine(QT.out _ H1.out.low).mono ?_);rintro e w2 ⟨rfl,hb⟩;have hj:=H1.out.stays hb;have e_a:=(hj).ff2;have hm:=hj.lay [.int .i64 3,.string tt] 60;(try simp only[nn] at hm);have H2:=qh hm;replace c_a:=(H2.out).ccCCT;clear hm hj hb))|(go_at_call 118;go_loud((with_reducible refine(QPL.out _).mono ?_);rintro e w3 ⟨rfl,hb⟩;have H3:=qh (H2.out.stays hb);replace c_a:=(H3.out).ccCCT;clear hb;(try clear H2)))|(go_at_call 68;go_loud((with_reducible refine(QW.out _).mono ?_);rintro e w4 ⟨rfl,hb⟩;have H4:=qh (H3.out.stays hb);replace c_a:=(H4.out).ccCCT;clear hb;(try clear H3))))
    obtain⟨Wf,hW,hf⟩:=qd (Fr.set3 (x:=.slice q L.length c) (y:=.int .i64 (at2:Int)) (z:=.bool true) H4.out 1 rfl)
    rewrite[←hW]
    (try simp only[nn] at hf)
    obtain⟨⟨r0,r1,r2⟩,-⟩:=hf.c3 1 rfl
    have HF:Hid (qdl q c L w ⟨(at2,true),qj,l,false⟩ (.returned (.tuple #[pV q c L (at2,true),(.slice pv l.length cv)])) Wf):=qh ⟨_,_,rfl,hf.krow KN1.out,hf.low⟩
    clear hf hW
    (try go_wp2)
    exact bodyPost_ret (by simp[results,Tryz.results99,go_sem,r0,r1,r2]) rfl HF.out
   ·have h5:=hc.1
    clear hc hsz QPL
    generalize tokP L p=tok at*
    obtain⟨tk,tt⟩:=tok
    dsimp only at h3 h5 QT
    have ya_3:(tk==3)=false:=beq_eq_false_iff_ne.2 h3;have yb_3:(tk=3)=False:=eq_false h3;have yc_3:(tk != 3)=true:=by simpa using h3
    have ya_5:(tk==5)=false:=beq_eq_false_iff_ne.2 h5;have yb_5:(tk=5)=False:=eq_false h5;have yc_5:(tk != 5)=true:=by simpa using h5
    clear h3 h5
    have er:=(Option.some.inj hrun).symm
    subst er
    clear hrun
    obtain⟨at2,bad2⟩:=p
    have QW:Hid (∀U,Calls Tryz.prog 68 #[.agg #[.slice q L.length c,.int .i64 (at2:Int),.bool bad2]] U fun e w'=>e=.returned (.agg #[.slice q L.length c,.int .i64 (at2:Int),.bool true])∧Below U.heap.size U w'):=qh (fun U=>qX q c L (at2,bad2) U)
    replace c_a:=(H1.out).ccCC
    go_wp2_with(first|(go_at_call 93;go_loud((with_reducible refine(QT.out _ H1.out.low).mono ?_);rintro e w2 ⟨rfl,hb⟩;have hj:=H1.out.stays hb;have e_a:=(hj).ff2;have hm:=hj.lay [.int .i64 tk,.string tt] 60;(try simp only[nn] at hm);have H2:=qh hm;replace c_a:=(H2.out).ccCCT;clear hm hj hb))|(go_at_call 68;go_loud((with_reducible refine(QW.out _).mono ?_);rintro e w4 ⟨rfl,hb⟩;have H4:=qh (H2.out.stays hb);replace c_a:=(H4.out).ccCCT;clear hb;(try clear H2))))
    obtain⟨Wf,hW,hf⟩:=qd (Fr.set3 (x:=.slice q L.length c) (y:=.int .i64 (at2:Int)) (z:=.bool true) H4.out 1 rfl)
    rewrite[←hW]
    (try simp only[nn] at hf)
    obtain⟨⟨r0,r1,r2⟩,-⟩:=hf.c3 1 rfl
    have HF:Hid (qdl q c L w ⟨(at2,true),qj,l,false⟩ (.returned (.tuple #[pV q c L (at2,true),(.slice pv l.length cv)])) Wf):=qh ⟨_,_,rfl,hf.krow KN1.out,hf.low⟩
    clear hf hW
    (try go_wp2)
    exact bodyPost_ret (by simp[results,Tryz.results99,go_sem,r0,r1,r2]) rfl HF.out
  ·rw[if_neg hc] at hrun
   obtain⟨l1,hl1,hr2⟩:=Option.bind_eq_some_iff.1 hrun
   clear hrun
   obtain⟨hlen,rfl⟩:=qW hl1
   obtain⟨p1,hp1,hr3⟩:=Option.bind_eq_some_iff.1 hr2
   have hrun:=hr3
   clear hr2 hr3
   have QN:=qh (fun U (hU:Below w.heap.size w U)=>qq q c L p p1 U hl hp1)
   have QO:=qh (fun U hU=>qp q c L p1 ⟨#[59]⟩ U (HP.out.below hU))
   clear hl1 hp1
   by_cases h5:(tokP L p).1=5
   ·clear hc hsz QPL
    generalize tokP L p=tok at*
    obtain⟨tk,tt⟩:=tok
    dsimp only at h5 QT hrun
    subst h5
    have KN4:=qh ((KN1.out.more (F:=qk (.slice none 0 0) [])).snoc (x:=.mk 30 tt []) (u:=.slice none 0 0) List.mem_cons_self)
    by_cases ho:opP L p1 ⟨#[59]⟩=true
    ·rw[if_pos ho] at hrun
     obtain⟨p2,hp2,hrun⟩:=Option.bind_eq_some_iff.1 hrun
     obtain⟨u0,hon,hrun⟩:=Option.bind_eq_some_iff.1 hrun
     have hnext:=qbK hp2 (qdz ho).1
     have hon2:=qaK hon
     rw[ho] at QO
     have QN2:=qh (fun U (hU:Below w.heap.size w U)=>qq q c L p1 p2 U hl hp2)
     have HM:Hid (L.length-p2.1<L.length-p.1):=qh (by
      rw[hnext.2] at hon2⊢
      dsimp only at hon2⊢
      rcases hon2 with hx|hx
      ·cases hx
      ·have:=hnext.1;omega)
     have HRUN:=qh hrun
     clear hrun hnext hon hon2 hp2 ho
     obtain⟨at2,bad2⟩:=p
     obtain⟨at1,bad1⟩:=p1
     obtain⟨at3,bad3⟩:=p2
     replace c_a:=(H1.out).ccCC
     go_upto_region 5 with(first
      |(go_at_call 93;go_loud((with_reducible refine(QT.out _ H1.out.low).mono ?_);rintro e w2 ⟨rfl,hb⟩;have hj:=H1.out.stays hb;have e_a:=(hj).ff2;have hm:=hj.lay [.int .i64 5,.string tt] 60;(try simp only[nn] at hm);have H2:=qh hm;replace c_a:=(H2.out).ccCCT;clear hm hj hb))
      |(fail))
     obtain⟨w3b,hW,H3b⟩:=fr_w H2;rewrite[←hW];(try simp only[nn] at H3b);clear hW H2
     replace c_a:=(H3b.out).ccCCT
     have e_a:=(H3b.out).ff2
     go_upto_region 6 with(at_builtin;go_loud(refine q8 (H3b.out.nilN.skip _) 0 rfl HLEN.out (.mk 30 tt []) List.mem_cons_self (World.alloc_heap_new _ _) (by omega) rfl _ _ rfl rfl rfl ?_;intro p4 c4 w4 hf;(try simp only[nn] at hf);have H4:=qh hf;clear hf;replace c_a:=(H4.out).ccCCT))
     go_upto_region 7 with(go_at_call 94;with_reducible refine fx QN H4 ?_;clear QN H4;intro w5 H5;replace c_a:=(H5.out).ccCCT)
     obtain⟨w6,hW,H6⟩:=ab3 H5 0 (.slice q L.length c) (.int .i64 (at1:Int)) (.bool bad1) rfl;rewrite[←hW];(try simp only[nn] at H6);clear hW H5
     replace c_a:=(H6.out).ccCCT
     go_wp2_with(first
      |(go_at_call 98;with_reducible refine fx QO H6 ?_;clear QO H6;intro w7 H7;replace c_a:=(H7.out).ccCCT)
      |(go_at_call 94;with_reducible refine fx QN2 H7 ?_;clear QN2 H7;intro w8 H8;replace c_a:=(H8.out).ccCCT))
     have h9:=Fr.set3 (x:=.slice q L.length c) (y:=.int .i64 (at3:Int)) (z:=.bool bad3) H8.out 0 rfl
     (try simp only[nn] at h9)
     have H9:=qh h9.drop2
     clear h9
     go_roundw
     case rel=>exact⟨g,(at3,bad3),l++[.mk 30 tt []],us++[.slice none 0 0],p4,c4,_,by rw[List.length_append];rfl,qh ⟨HRUN.out,by omega,by rw[List.length_append];exact H9.out,KN4.out⟩⟩
     case measure=>
      rw[H9.out.leftA 0 rfl,HH.out.fr.leftA 0 rfl]
      exact HM.out
    ·rw[if_neg ho] at hrun
     have ho':opP L p1 ⟨#[59]⟩=false:=by simpa using ho
     obtain⟨p2,hp2,hrun⟩:=Option.bind_eq_some_iff.1 hrun
     have er:=(Option.some.inj hrun).symm
     subst er
     rw[ho'] at QO
     have QD:=qh (fun U hU=>qt q c L p1 p2 ⟨#[41]⟩ U (HP.out.below hU) hp2)
     clear hrun hp2 ho ho'
     obtain⟨at2,bad2⟩:=p
     obtain⟨at1,bad1⟩:=p1
     obtain⟨at3,bad3⟩:=p2
     replace c_a:=(H1.out).ccCC
     go_upto_region 5 with(first
      |(go_at_call 93;go_loud((with_reducible refine(QT.out _ H1.out.low).mono ?_);rintro e w2 ⟨rfl,hb⟩;have hj:=H1.out.stays hb;have e_a:=(hj).ff2;have hm:=hj.lay [.int .i64 5,.string tt] 60;(try simp only[nn] at hm);have H2:=qh hm;replace c_a:=(H2.out).ccCCT;clear hm hj hb))
      |(fail))
     obtain⟨w3b,hW,H3b⟩:=fr_w H2;rewrite[←hW];(try simp only[nn] at H3b);clear hW H2
     replace c_a:=(H3b.out).ccCCT
     have e_a:=(H3b.out).ff2
     go_upto_region 6 with(at_builtin;go_loud(refine q8 (H3b.out.nilN.skip _) 0 rfl HLEN.out (.mk 30 tt []) List.mem_cons_self (World.alloc_heap_new _ _) (by omega) rfl _ _ rfl rfl rfl ?_;intro p4 c4 w4 hf;(try simp only[nn] at hf);have H4:=qh hf;clear hf;replace c_a:=(H4.out).ccCCT))
     go_upto_region 7 with(go_at_call 94;with_reducible refine fx QN H4 ?_;clear QN H4;intro w5 H5;replace c_a:=(H5.out).ccCCT)
     obtain⟨w6,hW,H6⟩:=ab3 H5 0 (.slice q L.length c) (.int .i64 (at1:Int)) (.bool bad1) rfl;rewrite[←hW];(try simp only[nn] at H6);clear hW H5
     replace c_a:=(H6.out).ccCCT
     go_wp2_with(first
      |(go_at_call 98;with_reducible refine fx QO H6 ?_;clear QO H6;intro w7 H7;replace c_a:=(H7.out).ccCCT)
      |(go_at_call 96;with_reducible refine fx QD H7 ?_;clear QD H7;intro w8 H8;replace c_a:=(H8.out).ccCCT))
     obtain⟨Wf,hW,hf⟩:=qd (Fr.set3 (x:=.slice q L.length c) (y:=.int .i64 (at3:Int)) (z:=.bool bad3) H8.out 1 rfl)
     rewrite[←hW]
     (try simp only[nn] at hf)
     obtain⟨⟨r0,r1,r2⟩,-⟩:=hf.c3 1 rfl
     have HF:Hid (qdl q c L w ⟨(at3,bad3),qj,(l++[.mk 30 tt []]),false⟩ (.returned (.tuple #[pV q c L (at3,bad3),(.slice p4 (l.length+1) c4)])) Wf):=qh ⟨_,_,rfl,hf.krow KN4.out,hf.low⟩
     clear hf hW
     (try go_wp2)
     exact bodyPost_ret (by simp[results,Tryz.results99,go_sem,r0,r1,r2]) rfl HF.out
   ·have h3:(tokP L p).1=3:=by
     by_cases h3:(tokP L p).1=3
     ·exact h3
     ·exact absurd ⟨h5,.inl h3⟩ hc
    have hpl:R.plain (tokP L p).2=true:=by
     by_cases hp:R.plain (tokP L p).2=false
     ·exact absurd ⟨h5,.inr hp⟩ hc
     ·simpa using hp
    rw[hpl] at QPL
    clear hpl hc hsz h5
    generalize tokP L p=tok at*
    obtain⟨tk,tt⟩:=tok
    dsimp only at h3 QT QPL hrun
    subst h3
    have KN4:=qh ((KN1.out.more (F:=qk (.slice none 0 0) [])).snoc (x:=.mk 30 tt []) (u:=.slice none 0 0) List.mem_cons_self)
    by_cases ho:opP L p1 ⟨#[59]⟩=true
    ·rw[if_pos ho] at hrun
     obtain⟨p2,hp2,hrun⟩:=Option.bind_eq_some_iff.1 hrun
     obtain⟨u0,hon,hrun⟩:=Option.bind_eq_some_iff.1 hrun
     have hnext:=qbK hp2 (qdz ho).1
     have hon2:=qaK hon
     rw[ho] at QO
     have QN2:=qh (fun U (hU:Below w.heap.size w U)=>qq q c L p1 p2 U hl hp2)
     have HM:Hid (L.length-p2.1<L.length-p.1):=qh (by
      rw[hnext.2] at hon2⊢
      dsimp only at hon2⊢
      rcases hon2 with hx|hx
      ·cases hx
      ·have:=hnext.1;omega)
     have HRUN:=qh hrun
     clear hrun hnext hon hon2 hp2 ho
     obtain⟨at2,bad2⟩:=p
     obtain⟨at1,bad1⟩:=p1
     obtain⟨at3,bad3⟩:=p2
     replace c_a:=(H1.out).ccCC
     go_upto_region 5 with(first
      |(go_at_call 93;go_loud((with_reducible refine(QT.out _ H1.out.low).mono ?_);rintro e w2 ⟨rfl,hb⟩;have hj:=H1.out.stays hb;have e_a:=(hj).ff2;have hm:=hj.lay [.int .i64 3,.string tt] 60;(try simp only[nn] at hm);have H2:=qh hm;replace c_a:=(H2.out).ccCCT;clear hm hj hb))
      |(go_at_call 118;go_loud((with_reducible refine(QPL.out _).mono ?_);rintro e w3 ⟨rfl,hb⟩;have H3:=qh (H2.out.stays hb);replace c_a:=(H3.out).ccCCT;clear hb;(try clear H2))))
     obtain⟨w3b,hW,H3b⟩:=fr_w H3;rewrite[←hW];(try simp only[nn] at H3b);clear hW H3
     replace c_a:=(H3b.out).ccCCT
     have e_a:=(H3b.out).ff2
     go_upto_region 6 with(at_builtin;go_loud(refine q8 (H3b.out.nilN.skip _) 0 rfl HLEN.out (.mk 30 tt []) List.mem_cons_self (World.alloc_heap_new _ _) (by omega) rfl _ _ rfl rfl rfl ?_;intro p4 c4 w4 hf;(try simp only[nn] at hf);have H4:=qh hf;clear hf;replace c_a:=(H4.out).ccCCT))
     go_upto_region 7 with(go_at_call 94;with_reducible refine fx QN H4 ?_;clear QN H4;intro w5 H5;replace c_a:=(H5.out).ccCCT)
     obtain⟨w6,hW,H6⟩:=ab3 H5 0 (.slice q L.length c) (.int .i64 (at1:Int)) (.bool bad1) rfl;rewrite[←hW];(try simp only[nn] at H6);clear hW H5
     replace c_a:=(H6.out).ccCCT
     go_wp2_with(first
      |(go_at_call 98;with_reducible refine fx QO H6 ?_;clear QO H6;intro w7 H7;replace c_a:=(H7.out).ccCCT)
      |(go_at_call 94;with_reducible refine fx QN2 H7 ?_;clear QN2 H7;intro w8 H8;replace c_a:=(H8.out).ccCCT))
     have h9:=Fr.set3 (x:=.slice q L.length c) (y:=.int .i64 (at3:Int)) (z:=.bool bad3) H8.out 0 rfl
     (try simp only[nn] at h9)
     have H9:=qh h9.drop2
     clear h9
     go_roundw
     case rel=>exact⟨g,(at3,bad3),l++[.mk 30 tt []],us++[.slice none 0 0],p4,c4,_,by rw[List.length_append];rfl,qh ⟨HRUN.out,by omega,by rw[List.length_append];exact H9.out,KN4.out⟩⟩
     case measure=>
      rw[H9.out.leftA 0 rfl,HH.out.fr.leftA 0 rfl]
      exact HM.out
    ·rw[if_neg ho] at hrun
     have ho':opP L p1 ⟨#[59]⟩=false:=by simpa using ho
     obtain⟨p2,hp2,hrun⟩:=Option.bind_eq_some_iff.1 hrun
     have er:=(Option.some.inj hrun).symm
     subst er
     rw[ho'] at QO
     have QD:=qh (fun U hU=>qt q c L p1 p2 ⟨#[41]⟩ U (HP.out.below hU) hp2)
     clear hrun hp2 ho ho'
     obtain⟨at2,bad2⟩:=p
     obtain⟨at1,bad1⟩:=p1
     obtain⟨at3,bad3⟩:=p2
     replace c_a:=(H1.out).ccCC
     go_upto_region 5 with(first
      |(go_at_call 93;go_loud((with_reducible refine(QT.out _ H1.out.low).mono ?_);rintro e w2 ⟨rfl,hb⟩;have hj:=H1.out.stays hb;have e_a:=(hj).ff2;have hm:=hj.lay [.int .i64 3,.string tt] 60;(try simp only[nn] at hm);have H2:=qh hm;replace c_a:=(H2.out).ccCCT;clear hm hj hb))
      |(go_at_call 118;go_loud((with_reducible refine(QPL.out _).mono ?_);rintro e w3 ⟨rfl,hb⟩;have H3:=qh (H2.out.stays hb);replace c_a:=(H3.out).ccCCT;clear hb;(try clear H2))))
     obtain⟨w3b,hW,H3b⟩:=fr_w H3;rewrite[←hW];(try simp only[nn] at H3b);clear hW H3
     replace c_a:=(H3b.out).ccCCT
     have e_a:=(H3b.out).ff2
     go_upto_region 6 with(at_builtin;go_loud(refine q8 (H3b.out.nilN.skip _) 0 rfl HLEN.out (.mk 30 tt []) List.mem_cons_self (World.alloc_heap_new _ _) (by omega) rfl _ _ rfl rfl rfl ?_;intro p4 c4 w4 hf;(try simp only[nn] at hf);have H4:=qh hf;clear hf;replace c_a:=(H4.out).ccCCT))
     go_upto_region 7 with(go_at_call 94;with_reducible refine fx QN H4 ?_;clear QN H4;intro w5 H5;replace c_a:=(H5.out).ccCCT)
     obtain⟨w6,hW,H6⟩:=ab3 H5 0 (.slice q L.length c) (.int .i64 (at1:Int)) (.bool bad1) rfl;rewrite[←hW];(try simp only[nn] at H6);clear hW H5
     replace c_a:=(H6.out).ccCCT
     go_wp2_with(first
      |(go_at_call 98;with_reducible refine fx QO H6 ?_;clear QO H6;intro w7 H7;replace c_a:=(H7.out).ccCCT)
      |(go_at_call 96;with_reducible refine fx QD H7 ?_;clear QD H7;intro w8 H8;replace c_a:=(H8.out).ccCCT))
     obtain⟨Wf,hW,hf⟩:=qd (Fr.set3 (x:=.slice q L.length c) (y:=.int .i64 (at3:Int)) (z:=.bool bad3) H8.out 1 rfl)
     rewrite[←hW]
     (try simp only[nn] at hf)
     obtain⟨⟨r0,r1,r2⟩,-⟩:=hf.c3 1 rfl
     have HF:Hid (qdl q c L w ⟨(at3,bad3),qj,(l++[.mk 30 tt []]),false⟩ (.returned (.tuple #[pV q c L (at3,bad3),(.slice p4 (l.length+1) c4)])) Wf):=qh ⟨_,_,rfl,hf.krow KN4.out,hf.low⟩
     clear hf hW
     (try go_wp2)
     exact bodyPost_ret (by simp[results,Tryz.results99,go_sem,r0,r1,r2]) rfl HF.out
structure PoH(R:POps)(w wr:World)(B:Nat)(q:Option Addr)(c:Nat)(L:List PTok)(f:Nat)(r:PRes)(p:PSt)(n:qb)(pn:Option Addr)(cn f':Nat)(ks:List Fact):Prop where
 run:runP R L f' (.postL p n)=some r
 fuel:f'≤f
 fr:Fr (fun _=>False) w wr [⟨w.heap.size,78,[.slice q L.length c,.int .i64 (p.1:Int),.bool p.2]⟩,⟨w.heap.size+1,78,[.slice none 0 0,.int .i64 0,.bool false]⟩,⟨w.heap.size+1+1,24,[.int .i64 0,.string ⟨#[]⟩,.slice none 0 0]⟩,⟨B,24,[.int .i64 n.kind,.string n.text,.slice pn n.kids.length cn]⟩] [] ks
 kid:qk (.slice pn n.kids.length cn) n.kids∈ks
theorem ql4{R:POps}{q:Option Addr}{c:Nat}{L:List PTok}{f:Nat}(ih:PAll R q c L (f+1))(hl:L.length≤1000000000)(p:PSt)(r:PRes)(hr:runP R L (f+1) (.post p)=some r):qn q c L (.post p) r:=by
 intro w h
 have H0:=qh (qD w q c L p)
 rw[runP] at hr
 obtain⟨o,ho,hr⟩:=Option.bind_eq_some_iff.1 hr
 have QA:=qh (fun U hU=>ih f (Nat.lt_succ_self f) _ _ ho U (h.below hU))
 have IH:=qh ih
 have HR:=qh hr
 have HP:=qh h
 clear ho h ih hr
 obtain⟨at',bad⟩:=p
 obtain⟨⟨ato,bado⟩,no,lo,bo⟩:=o
 dsimp only at HR
 go_enter Tryz.func128,Tryz.ntmps128
 go_wp2_with(go_at_call 132;with_reducible refine fm QA H0 ?_;clear QA H0;intro w1 pu_1 cu_1 hj;have e_a:=(hj).ff3;have hl:=hj.layN;have hm:=(Fr.set3 (x:=.int .i64 no.kind) (y:=.string no.text) (z:=.slice pu_1 no.kids.length cu_1) (Fr.set3 (x:=.slice q L.length c) (y:=.int .i64 (ato:Int)) (z:=.bool bado) hl 0 rfl) 3 rfl);(try simp only[nn] at hm);have H1:=qh hm;replace c_a:=(H1.out).ccCCCC;replace k_0:=(hl).c3 0 rfl;clear hm hj hl)
 generalize w1.heap.size=B at*
 go_loopw [] (fun wr=>∃(f':Nat) (p:PSt) (n:qb) (pn:Option Addr) (cn:Nat) (ks:List Fact),Hid (PoH R w wr B q c L f r p n pn cn f' ks)) (fun wr=>qd0 wr w.heap.size L.length)
 case atStart=>exact⟨f,(ato,bado),no,pu_1,cu_1,_,qh ⟨HR.out,Nat.le_refl _,H1.out,List.mem_cons_self⟩⟩
 case round=>
  clear HR H1
  obtain⟨f',p,n,pn,cn,ks,HH⟩:=hrel
  obtain⟨g,rfl⟩:∃g,f'=g+1:=by
   cases f' with
   |zero=>have:=HH.out.run;rw[runP] at this;cases this
   |succ g=>exact⟨g,rfl⟩
  have hrun:=HH.out.run
  have hgf:=HH.out.fuel
  rw[runP] at hrun
  have H1:=qh HH.out.fr
  have KH:=qh HH.out.kid
  obtain⟨at1,bad1⟩:=p
  by_cases hbad:bad1=true
  ·subst hbad
   rw[if_pos rfl] at hrun
   have er:=(Option.some.inj hrun).symm
   subst er
   clear hrun
   replace c_a:=(H1.out).ccCCCC
   have e_a:=(H1.out).ff4
   go_upto_region 24 with(fail)
   go_region
   all_goals
    obtain⟨Wf,hA,hB,hf⟩:=sets H1 1 2 q c L at1 true n.kind n.text (.slice pn n.kids.length cn) rfl rfl
    first|rewrite[←hA]|rewrite[←hB]
    (try simp only[nn] at hf);clear hA hB
    have hf:=hf.nilN
    have r0:=And.intro (hf.c3 1 rfl).1 (hf.c3 2 rfl).1
    have HF:=qh (And.intro (hf.told q c L ⟨(at1,true),n,[],false⟩ (.slice pn n.kids.length cn) (List.mem_cons_of_mem _ KH.out)) (hf.drew.told q c L ⟨(at1,true),n,[],false⟩ (.slice pn n.kids.length cn) (List.mem_cons_of_mem _ KH.out)))
    clear hf
    (try go_wp2)
    refine bodyPost_ret (v:=(.tuple #[pV q c L (at1,true),.agg #[.int .i64 n.kind,.string n.text,.slice pn n.kids.length cn]])) (by simp[results,Tryz.results128,go_sem,r0]) rfl ?_
    first|exact HF.out.1|exact HF.out.2
  ·have hbf:bad1=false:=by simpa using hbad
   subst hbf
   clear hbad
   rw[if_neg (by simp)] at hrun
   have QT:=qh (fun U (hU:Below w.heap.size w U)=>qu q c L (at1,false) U (HP.out.below hU))
   have hdt:∀x,qbq L (at1,false)=some x→1≤(tokP L (at1,false)).2.size ∧x=cutB (tokP L (at1,false)).2 1:=fun x hx=>by
    unfold qbq at hx
    by_cases hs:1≤(tokP L (at1,false)).2.size
    ·rw[if_pos hs] at hx;exact⟨hs,(Option.some.inj hx).symm⟩
    ·rw[if_neg hs] at hx;cases hx
   by_cases k4:(tokP L (at1,false)).1=4
   ·rw[if_pos k4] at hrun
    obtain⟨t,ht,hr2⟩:=Option.bind_eq_some_iff.1 hrun
    obtain⟨p1,hp1,hr3⟩:=Option.bind_eq_some_iff.1 hr2
    clear hrun hr2
    obtain⟨hs,rfl⟩:=hdt t ht
    have hnext:=qbK hp1 rfl
    have QN:=qh (fun U (hU:Below w.heap.size w U)=>qq q c L (at1,false) p1 U hl hp1)
    clear hdt ht hp1
    generalize tokP L (at1,false)=tok at*
    obtain⟨tk,tt⟩:=tok
    dsimp only at k4 hs QT hr3
    subst k4
    have HRUN:=qh hr3
    have HN:=qh hnext
    have hcut:=qb3 tt 1
    have u2:(1:Int)≤(tt.size:Int):=by omega
    clear hr3 hnext hs
    obtain⟨at3,bad3⟩:=p1
    replace c_a:=(H1.out).ccCCCC
    have e_a:=(H1.out).ff4
    go_upto_region 6 with(go_at_call 93;with_reducible refine fx QT H1 ?_;clear QT H1;intro w2 hj;have e_a:=(hj.out).ff4;have H2:=hj.out.layT 4 tt;(try simp only[nn] at H2);replace c_a:=(H2.out).ccCCCCT;clear hj)
    obtain⟨w3,hW,H3⟩:=fr_w H2;rewrite[←hW];(try simp only[nn] at H3);clear hW H2
    replace c_a:=(H3.out).ccCCCCT
    have e_a:=(H3.out).ff5
    have H4:=qh (H3.out.lit1 n KH.out)
    replace k_3:=(H4.out).c3 3 rfl
    obtain⟨⟨kt0,kt1⟩,-⟩:=H4.out.c2 4 rfl
    go_region
    all_goals
     obtain⟨w5,hW,hj⟩:=qd (Fr.drew (Fr.set3 (x:=.int .i64 21) (y:=.string (cutB tt 1)) (z:=.slice (some ⟨w3.heap.size,0,none⟩) 1 1) H4.out 3 rfl))
     rewrite[←hW]
     (try simp only[nn] at hj)
     have H5:=qh hj
     clear hW hj
     replace c_a:=(H5.out).ccCCCC
     go_wp2_with(go_at_call 94;with_reducible refine fx QN H5 ?_;clear QN H5;intro w6 H6;replace c_a:=(H6.out).ccCCCC)
     have h7:=Fr.set3 (x:=.slice q L.length c) (y:=.int .i64 (at3:Int)) (z:=.bool bad3) H6.out 0 rfl
     (try simp only[nn] at h7)
     have H7:=qh h7.drop4
     clear h7
     go_roundw
     case rel=>exact⟨g,(at3,bad3),.mk 21 (cutB tt 1) [n],some ⟨w3.heap.size,0,none⟩,1,_,qh ⟨HRUN.out,by omega,H7.out,List.mem_cons_self⟩⟩
     case measure=>
      rw[H7.out.leftB 0 rfl,HH.out.fr.leftB 0 rfl]
      have hn:=HN.out
      obtain⟨e1,e2⟩:=Prod.mk.inj hn.2
      subst e1
      subst e2
      have:=hn.1
      simp only[Bool.false_eq_true,if_false] at this⊢
      omega
   ·rw[if_neg k4] at hrun
    clear hdt
    generalize tokP L (at1,false)=tok at*
    obtain⟨tk,tt⟩:=tok
    dsimp only at k4 QT
    have ya_4:(tk==4)=false:=beq_eq_false_iff_ne.2 k4;have yb_4:(tk=4)=False:=eq_false k4;have yc_4:(tk != 4)=true:=by simpa using k4
    clear k4
    by_cases h1:opP L (at1,false) ⟨#[63]⟩=true
    ·rw[if_pos h1] at hrun
     have QO1:=qh (fun U (hU:Below w.heap.size w U)=>qp q c L (at1,false) ⟨#[63]⟩ U (HP.out.below hU));rw[h1] at QO1
     obtain⟨p1,hp1,hr3⟩:=Option.bind_eq_some_iff.1 hrun
     clear hrun
     have hnext:=qbK hp1 rfl
     have QN:=qh (fun U (hU:Below w.heap.size w U)=>qq q c L (at1,false) p1 U hl hp1)
     have HRUN:=qh hr3
     have HN:=qh hnext
     clear hp1 hr3 hnext h1
     obtain⟨at3,bad3⟩:=p1
     replace c_a:=(H1.out).ccCCCC
     have e_a:=(H1.out).ff4
     go_upto_region 9 with(first
      |(go_at_call 93;with_reducible refine fx QT H1 ?_;clear QT H1;intro w2 hj;have e_a:=(hj.out).ff4;have H2:=hj.out.layT tk tt;(try simp only[nn] at H2);replace c_a:=(H2.out).ccCCCCT;clear hj)
      |(go_at_call 98;with_reducible refine fx QO1 H2 ?_;clear QO1 H2;intro w3 H3;replace c_a:=(H3.out).ccCCCCT))
     have e_a:=(H3.out).ff4
     have H4:=qh (H3.out.lit1 n KH.out)
     replace k_3:=(H4.out).c3 3 rfl
     go_upto_region 10 with(fail)
     obtain⟨w5,hW,hj⟩:=qd (Fr.set3 (x:=.int .i64 23) (y:=.string ⟨#[]⟩) (z:=.slice (some ⟨w3.heap.size,0,none⟩) 1 1) H4.out 3 rfl)
     rewrite[←hW]
     (try simp only[nn] at hj)
     have H5:=qh hj
     clear hW hj
     replace c_a:=(H5.out).ccCCCC
     go_wp2_with(go_at_call 94;with_reducible refine fx QN H5 ?_;clear QN H5;intro w6 H6;replace c_a:=(H6.out).ccCCCC)
     have h7:=Fr.set3 (x:=.slice q L.length c) (y:=.int .i64 (at3:Int)) (z:=.bool bad3) H6.out 0 rfl
     (try simp only[nn] at h7)
     have H7:=qh h7.drop4
     clear h7
     go_roundw
     case rel=>exact⟨g,(at3,bad3),.mk 23 ⟨#[]⟩ [n],some ⟨w3.heap.size,0,none⟩,1,_,qh ⟨HRUN.out,by omega,H7.out,List.mem_cons_self⟩⟩
     case measure=>
      rw[H7.out.leftB 0 rfl,HH.out.fr.leftB 0 rfl]
      have hn:=HN.out
      obtain⟨e1,e2⟩:=Prod.mk.inj hn.2
      subst e1
      subst e2
      have:=hn.1
      simp only[Bool.false_eq_true,if_false] at this⊢
      omega
    ·rw[if_neg h1] at hrun
     have h1':opP L (at1,false) ⟨#[63]⟩=false:=by simpa using h1
     clear h1
     have h1:=h1'
     clear h1'
     have QO1:=qh (fun U (hU:Below w.heap.size w U)=>qp q c L (at1,false) ⟨#[63]⟩ U (HP.out.below hU));rw[h1] at QO1
     clear h1
     by_cases h2:opP L (at1,false) ⟨#[91]⟩=true
     ·rw[if_pos h2] at hrun
      have QO2:=qh (fun U (hU:Below w.heap.size w U)=>qp q c L (at1,false) ⟨#[91]⟩ U (HP.out.below hU));rw[h2] at QO2
      obtain⟨a,ha,hr2⟩:=Option.bind_eq_some_iff.1 hrun
      obtain⟨u0,hon,hr3⟩:=Option.bind_eq_some_iff.1 hr2
      have hon2:=qaK hon
      have hlt:=qdz h2
      have HRUN:=qh hr3
      have HON:=qh hon2
      have HLT:=qh hlt.2
      have QW:Hid (∀U,Below w.heap.size w U→∀S un,qo U S un n.kids→Calls Tryz.prog 133 #[pV q c L (at1,false),.agg #[.int .i64 n.kind,.string n.text,un],.string ⟨#[]⟩] U (WPost q c L S U a)):=qh (fun U hU S un hk=>IH.out g (by omega) _ _ ha U S un (HP.out.below hU) hk)
      clear hrun hr2 hr3 hon hon2 hlt ha h2
      obtain⟨⟨ata,bada⟩,na,la,ba⟩:=a
      replace c_a:=(H1.out).ccCCCC
      have e_a:=(H1.out).ff4
      go_upto_region 13 with(first
       |(go_at_call 93;with_reducible refine fx QT H1 ?_;clear QT H1;intro w2 hj;have e_a:=(hj.out).ff4;have H2:=hj.out.layT tk tt;(try simp only[nn] at H2);replace c_a:=(H2.out).ccCCCCT;clear hj)
       |(go_at_call 98;with_reducible refine fx QO1 H2 ?_;clear QO1 H2;intro w3 H3;replace c_a:=(H3.out).ccCCCCT)
       |(go_at_call 98;with_reducible refine fx QO2 H3 ?_;clear QO2 H3;intro w4 H4;replace c_a:=(H4.out).ccCCCCT)
       |(go_at_call 133;go_loud(have hkk:qo _ _ (.slice pn n.kids.length cn) n.kids:=H4.out.get KH.out;(with_reducible refine(QW.out _ H4.out.low _ _ hkk).mono ?_);rintro e w5 ⟨u,rfl,hk,hb⟩;obtain⟨pu_1,cu_1,rfl,lu⟩:=hk.shape;have hj:=(H4.out.stays hb).more (qk _ _) hk (fun x hx _=>hx.elim id fun hx=>⟨.inr (Nat.le_trans H4.out.low.size hx),fun ht=>absurd (H4.out.tk_lt ht) (Nat.not_lt.2 hx)⟩);have e_a:=(hj).ff5;have hm:=(hj.lay2 [.slice q L.length c,.int .i64 (ata:Int),.bool bada] 78 [.int .i64 na.kind,.string na.text,.slice pu_1 na.kids.length cu_1] 24);(try simp only[nn] at hm);have H5:=qh hm;replace c_a:=(H5.out).ccCCCCxCC;clear hm hj hk hb lu hkk;(try clear H4);(try clear QW))))
      obtain⟨w6,hW,H6⟩:=fr_w H5;rewrite[←hW];(try simp only[nn] at H6);clear hW H5
      replace c_a:=(H6.out).ccCCCCxCC
      go_upto_region 14 with(fail)
      obtain⟨w7,hW,H7⟩:=ab3 H6 0 (.slice q L.length c) (.int .i64 (ata:Int)) (.bool bada) rfl;rewrite[←hW];(try simp only[nn] at H7);clear hW H6
      replace c_a:=(H7.out).ccCCCCxCC
      go_wp2_with fail
      have h7:=Fr.set3 (x:=.int .i64 na.kind) (y:=.string na.text) (z:=.slice pu_1 na.kids.length cu_1) H7.out 3 rfl
      (try simp only[nn] at h7)
      have H8:=qh h7.drop4
      clear h7
      go_roundw
      case rel=>exact⟨g,(ata,bada),na,pu_1,cu_1,_,qh ⟨HRUN.out,by omega,H8.out,List.mem_cons_self⟩⟩
      case measure=>
       rw[H8.out.leftB 0 rfl,HH.out.fr.leftB 0 rfl]
       have hx:=HON.out
       have hy:=HLT.out
       dsimp only at hx hy⊢
       simp only[Bool.false_eq_true,if_false]
       split
       ·omega
       ·rename_i hz;rcases hx with hx|hx;exact absurd hx hz;omega
     ·rw[if_neg h2] at hrun
      have h2':opP L (at1,false) ⟨#[91]⟩=false:=by simpa using h2
      clear h2
      have h2:=h2'
      clear h2'
      have QO2:=qh (fun U (hU:Below w.heap.size w U)=>qp q c L (at1,false) ⟨#[91]⟩ U (HP.out.below hU));rw[h2] at QO2
      clear h2
      by_cases h3:opP L (at1,false) ⟨#[46]⟩=true
      ·rw[if_pos h3] at hrun
       have QO3:=qh (fun U (hU:Below w.heap.size w U)=>qp q c L (at1,false) ⟨#[46]⟩ U (HP.out.below hU));rw[h3] at QO3
       obtain⟨p1,hp1,hr2⟩:=Option.bind_eq_some_iff.1 hrun
       have hlt:=qdz h3
       have HLT:=qh hlt.2
       have QN:=qh (fun U (hU:Below w.heap.size w U)=>qq q c L (at1,false) p1 U hl hp1)
       have QO4:=qh (fun U (hU:Below w.heap.size w U)=>qp q c L p1 ⟨#[91]⟩ U (HP.out.below hU))
       clear hrun hp1 hlt h3
       by_cases h4:opP L p1 ⟨#[91]⟩=true
       ·rw[if_pos h4] at hr2
        rw[h4] at QO4
        obtain⟨a,ha,hr3⟩:=Option.bind_eq_some_iff.1 hr2
        obtain⟨u0,hon,hr4⟩:=Option.bind_eq_some_iff.1 hr3
        have hon2:=qaK hon
        have HRUN:=qh hr4
        have HON:=qh hon2
        have QW:Hid (∀U,Below w.heap.size w U→∀S un,qo U S un n.kids→Calls Tryz.prog 133 #[pV q c L p1,.agg #[.int .i64 n.kind,.string n.text,un],.string ⟨#[46]⟩] U (WPost q c L S U a)):=qh (fun U hU S un hk=>IH.out g (by omega) _ _ ha U S un (HP.out.below hU) hk)
        clear hr2 hr3 hr4 hon hon2 ha h4
        obtain⟨at5,bad5⟩:=p1
        obtain⟨⟨ata,bada⟩,na,la,ba⟩:=a
        replace c_a:=(H1.out).ccCCCC
        have e_a:=(H1.out).ff4
        go_upto_region 17 with(first
         |(go_at_call 93;with_reducible refine fx QT H1 ?_;clear QT H1;intro w2 hj;have e_a:=(hj.out).ff4;have H2:=hj.out.layT tk tt;(try simp only[nn] at H2);replace c_a:=(H2.out).ccCCCCT;clear hj)
         |(go_at_call 98;with_reducible refine fx QO1 H2 ?_;clear QO1 H2;intro w3 H3;replace c_a:=(H3.out).ccCCCCT)
         |(go_at_call 98;with_reducible refine fx QO2 H3 ?_;clear QO2 H3;intro w4 H4;replace c_a:=(H4.out).ccCCCCT)
         |(go_at_call 98;with_reducible refine fx QO3 H4 ?_;clear QO3 H4;intro w5 H5;replace c_a:=(H5.out).ccCCCCT)
         |(go_at_call 94;with_reducible refine fx QN H5 ?_;clear QN H5;intro w6 H6;replace c_a:=(H6.out).ccCCCCT))
        obtain⟨w7,hW,H7⟩:=ab3 H6 0 (.slice q L.length c) (.int .i64 (at5:Int)) (.bool bad5) rfl;rewrite[←hW];(try simp only[nn] at H7);clear hW H6
        replace c_a:=(H7.out).ccCCCCT
        go_upto_region 19 with(first
         |(go_at_call 98;with_reducible refine fx QO4 H7 ?_;clear QO4 H7;intro w8 H8;replace c_a:=(H8.out).ccCCCCT)
         |(go_at_call 133;go_loud(have hkk:qo _ _ (.slice pn n.kids.length cn) n.kids:=H8.out.get KH.out;(with_reducible refine(QW.out _ H8.out.low _ _ hkk).mono ?_);rintro e w9 ⟨u,rfl,hk,hb⟩;obtain⟨pu_1,cu_1,rfl,lu⟩:=hk.shape;have hj:=(H8.out.stays hb).more (qk _ _) hk (fun x hx _=>hx.elim id fun hx=>⟨.inr (Nat.le_trans H8.out.low.size hx),fun ht=>absurd (H8.out.tk_lt ht) (Nat.not_lt.2 hx)⟩);have e_a:=(hj).ff5;have hm:=(hj.lay2 [.slice q L.length c,.int .i64 (ata:Int),.bool bada] 78 [.int .i64 na.kind,.string na.text,.slice pu_1 na.kids.length cu_1] 24);(try simp only[nn] at hm);have H9:=qh hm;replace c_a:=(H9.out).ccCCCCxCC;clear hm hj hk hb lu hkk;(try clear H8);(try clear QW))))
        obtain⟨w10,hW,H10⟩:=fr_w H9;rewrite[←hW];(try simp only[nn] at H10);clear hW H9
        replace c_a:=(H10.out).ccCCCCxCC
        go_upto_region 20 with(fail)
        obtain⟨w11,hW,H11⟩:=ab3 H10 0 (.slice q L.length c) (.int .i64 (ata:Int)) (.bool bada) rfl;rewrite[←hW];(try simp only[nn] at H11);clear hW H10
        replace c_a:=(H11.out).ccCCCCxCC
        go_wp2_with fail
        have h7:=Fr.set3 (x:=.int .i64 na.kind) (y:=.string na.text) (z:=.slice pu_1 na.kids.length cu_1) H11.out 3 rfl
        (try simp only[nn] at h7)
        have H12:=qh h7.drop4
        clear h7
        go_roundw
        case rel=>exact⟨g,(ata,bada),na,pu_1,cu_1,_,qh ⟨HRUN.out,by omega,H12.out,List.mem_cons_self⟩⟩
        case measure=>
         rw[H12.out.leftB 0 rfl,HH.out.fr.leftB 0 rfl]
         have hx:=HON.out
         have hy:=HLT.out
         dsimp only at hx hy⊢
         simp only[Bool.false_eq_true,if_false]
         split
         ·omega
         ·rename_i hz;rcases hx with hx|hx;exact absurd hx hz;omega
       ·rw[if_neg h4] at hr2
        have h4':opP L p1 ⟨#[91]⟩=false:=by simpa using h4
        rw[h4'] at QO4
        obtain⟨a,ha,hr3⟩:=Option.bind_eq_some_iff.1 hr2
        obtain⟨u0,hon,hr4⟩:=Option.bind_eq_some_iff.1 hr3
        have hon2:=qaK hon
        have HRUN:=qh hr4
        have HON:=qh hon2
        have QS:=qh (fun U (hU:Below w.heap.size w U)=>IH.out g (by omega) _ _ ha U (HP.out.below hU))
        clear hr2 hr3 hr4 hon hon2 ha h4 h4'
        obtain⟨at5,bad5⟩:=p1
        obtain⟨⟨ata,bada⟩,na,la,ba⟩:=a
        replace c_a:=(H1.out).ccCCCC
        have e_a:=(H1.out).ff4
        go_upto_region 17 with(first
         |(go_at_call 93;with_reducible refine fx QT H1 ?_;clear QT H1;intro w2 hj;have e_a:=(hj.out).ff4;have H2:=hj.out.layT tk tt;(try simp only[nn] at H2);replace c_a:=(H2.out).ccCCCCT;clear hj)
         |(go_at_call 98;with_reducible refine fx QO1 H2 ?_;clear QO1 H2;intro w3 H3;replace c_a:=(H3.out).ccCCCCT)
         |(go_at_call 98;with_reducible refine fx QO2 H3 ?_;clear QO2 H3;intro w4 H4;replace c_a:=(H4.out).ccCCCCT)
         |(go_at_call 98;with_reducible refine fx QO3 H4 ?_;clear QO3 H4;intro w5 H5;replace c_a:=(H5.out).ccCCCCT)
         |(go_at_call 94;with_reducible refine fx QN H5 ?_;clear QN H5;intro w6 H6;replace c_a:=(H6.out).ccCCCCT))
        obtain⟨w7,hW,H7⟩:=ab3 H6 0 (.slice q L.length c) (.int .i64 (at5:Int)) (.bool bad5) rfl;rewrite[←hW];(try simp only[nn] at H7);clear hW H6
        replace c_a:=(H7.out).ccCCCCT
        go_upto_region 22 with(first
         |(go_at_call 98;with_reducible refine fx QO4 H7 ?_;clear QO4 H7;intro w8 H8;replace c_a:=(H8.out).ccCCCCT)
         |(go_at_call 95;with_reducible refine fm QS H8 ?_;clear QS H8;intro w9 pu_1 cu_1 hj;have e_a:=(hj).ff5;have H9:=hj.layM (q:=q) (c:=c) (L:=L) ata bada na (.slice pu_1 na.kids.length cu_1);(try simp only[nn] at H9);replace c_a:=(H9.out).ccCCCCxCC;clear hj))
        obtain⟨w10,hW,H10⟩:=fr_w H9;rewrite[←hW];(try simp only[nn] at H10);clear hW H9
        replace c_a:=(H10.out).ccCCCCxCC
        go_upto_region 23 with(fail)
        obtain⟨w11,hW,H11⟩:=ab3 H10 0 (.slice q L.length c) (.int .i64 (ata:Int)) (.bool bada) rfl;rewrite[←hW];(try simp only[nn] at H11);clear hW H10
        replace c_a:=(H11.out).ccCCCCxCC
        have e_a:=(H11.out).ff5
        have H12:=qh (H11.out.lit2 n na (List.mem_cons_of_mem _ KH.out) (v:=.slice pu_1 na.kids.length cu_1) List.mem_cons_self)
        replace k_3:=(H12.out).c3 3 rfl
        go_wp2_with fail
        have h7:=Fr.set3 (x:=.int .i64 22) (y:=.string ⟨#[]⟩) (z:=.slice (some ⟨w11.heap.size,0,none⟩) 2 2) H12.out 3 rfl
        (try simp only[nn] at h7)
        have H13:=qh h7.drop4
        clear h7
        go_roundw
        case rel=>exact⟨g,(ata,bada),.mk 22 ⟨#[]⟩ [n,na],some ⟨w11.heap.size,0,none⟩,2,_,qh ⟨HRUN.out,by omega,H13.out,List.mem_cons_self⟩⟩
        case measure=>
         rw[H13.out.leftB 0 rfl,HH.out.fr.leftB 0 rfl]
         have hx:=HON.out
         have hy:=HLT.out
         dsimp only at hx hy⊢
         simp only[Bool.false_eq_true,if_false]
         split
         ·omega
         ·rename_i hz;rcases hx with hx|hx;exact absurd hx hz;omega
      ·rw[if_neg h3] at hrun
       have h3':opP L (at1,false) ⟨#[46]⟩=false:=by simpa using h3
       clear h3
       have h3:=h3'
       clear h3'
       have QO3:=qh (fun U (hU:Below w.heap.size w U)=>qp q c L (at1,false) ⟨#[46]⟩ U (HP.out.below hU));rw[h3] at QO3
       have er:=(Option.some.inj hrun).symm
       subst er
       clear hrun h3
       replace c_a:=(H1.out).ccCCCC
       have e_a:=(H1.out).ff4
       go_upto_region 4 with(first
        |(go_at_call 93;with_reducible refine fx QT H1 ?_;clear QT H1;intro w2 hj;have e_a:=(hj.out).ff4;have H2:=hj.out.layT tk tt;(try simp only[nn] at H2);replace c_a:=(H2.out).ccCCCCT;clear hj)
        |(go_at_call 98;with_reducible refine fx QO1 H2 ?_;clear QO1 H2;intro w3 H3;replace c_a:=(H3.out).ccCCCCT)
        |(go_at_call 98;with_reducible refine fx QO2 H3 ?_;clear QO2 H3;intro w4 H4;replace c_a:=(H4.out).ccCCCCT)
        |(go_at_call 98;with_reducible refine fx QO3 H4 ?_;clear QO3 H4;intro w5 H5;replace c_a:=(H5.out).ccCCCCT))
       go_region
       all_goals
        obtain⟨Wf,hA,hB,hf⟩:=sets H5 1 2 q c L at1 false n.kind n.text (.slice pn n.kids.length cn) rfl rfl
        first|rewrite[←hA]|rewrite[←hB]
        (try simp only[nn] at hf);clear hA hB
        have hf:=hf.nilN
        have r0:=And.intro (hf.c3 1 rfl).1 (hf.c3 2 rfl).1
        have HF:=qh (And.intro (hf.told q c L ⟨(at1,false),n,[],false⟩ (.slice pn n.kids.length cn) (List.mem_cons_of_mem _ KH.out)) (hf.drew.told q c L ⟨(at1,false),n,[],false⟩ (.slice pn n.kids.length cn) (List.mem_cons_of_mem _ KH.out)))
        clear hf
        (try go_wp2)
        refine bodyPost_ret (v:=(.tuple #[pV q c L (at1,false),.agg #[.int .i64 n.kind,.string n.text,.slice pn n.kids.length cn]])) (by simp[results,Tryz.results128,go_sem,r0]) rfl ?_
        first|exact HF.out.1|exact HF.out.2
end Go.Proofs.YtakbenifinnpfaaGreatDoor
