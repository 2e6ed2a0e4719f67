/- NonconflictComposes returns true for all arguments, and leaves its arguments as they were. The condition: three tables of Go's library (math/bits, internal/strconv) hold what their source text lays, and the card ties this to the text. -/
import Derived.OpenShut
import Derived.Test.YtfdeiphkmjdifaaGreatDoorRows
import Derived.Test.YtfdeiphkmjdifaaGreatDoorTie
import Derived.Test.YtfdeiphkmjdifaaGreatDoorCards
import Derived.Test.YtfdeiphkmjdifaaGreatDoorProg
import Derived.ProofKit
import Derived.Deep.Slices
import Derived.Lay
import Derived.LaidMore
import Derived.LaidHandle
import Derived.SevenTiedAt
import Derived.Stop.Joined
import Derived.Test.YtfdeiphkmjdifaaGreatDoorQc6
set_option maxRecDepth 100000
namespace Go.Proofs.YtfdeiphkmjdifaaGreatDoor
section
open Go.Proofs.Tryz Go Go.ChangeShapes Go.WideShapes Go.ChangeAt Go.RowKit Go.Deep
theorem Fw.law{P:Program}{f:FuncId}{ts:List TV}(h:Fw P f ⟨0,[]⟩ ts [] (.b true) []){w:World}{vs:List Value}(ha:All3 (fun _=> .bool false) ⟨w,fun _=>0⟩ ts vs):Calls P f vs.toArray w fun e w'=>e= .returned (.bool true)∧Below w.heap.size w w':=
 Calls.mono (h.is [] (fun _=> .bool false) ⟨w,fun _=>0⟩ vs rfl (yNr _) List.nodup_nil (fun t ht=>by cases ht) ha (fun i o h=>by simp at h)) fun e W' ⟨v,s',hw,he,hm,β',_,hv,_⟩=>by
  obtain⟨hv,_⟩:=hv;subst hw;subst hv;exact⟨he,(hm.weak (S':=No) fun t ⟨i,hi,_⟩=>by cases hi).below⟩
theorem All3.c{β:Nat→Value}{s:Sig}{x:TV}{xs:List TV}{v:Value}{us:List Value}(h:x.p β s v)(h2:All3 β s xs us):All3 β s (x::xs) (v::us):=⟨v,us,h,h2,rfl⟩
theorem op_u8 :Op prog (rK .u8) (fun n=>0≤n∧n<256) 5:=by
 intro H enc w fuel cs x h;obtain⟨y,h1,h2⟩:=(Op.int (P:=prog) (k:= .u8) underlying5) H enc w fuel cs x h;refine⟨y,h1,?_⟩;simp [IntKind.min,IntKind.max,IntKind.signed,IntKind.bits] at h2;omega
theorem Op.arr3{α:Type}{r:Rep α}{Q:α→Prop}{P:Program}{t e:TypeId}(ht:P.underlying t=some (.array 3 e))(ho:Op P r Q e)(c1:P.cellsOf e=r.sz)(ct:P.cellsOf t=r.sz+r.sz+r.sz):Op P (rP r (rP r r)) (fun y=>Q y.1∧Q y.2.1∧Q y.2.2) t:=by
 intro H enc w fuel cs x h;obtain⟨xs,m,_,_,h3,h4,h5⟩:=DataW.trod_array ht h;rw [c1] at h5;have g:∀i,i<3→∃y:α,r.rd ⟨w,fun _=>0⟩ ((cs.drop (i*r.sz)).take r.sz) y∧Q y:=fun i hi=>by
  obtain⟨x,hx⟩:∃x,xs[i]? =some x:=⟨xs[i]'(by omega),yGe (by omega)⟩;exact ho H enc w m _ x (by rw [h5 i hi,hx])
 obtain⟨y0,a0,b0⟩:=g 0 (by omega);obtain⟨y1,a1,b1⟩:=g 1 (by omega);obtain⟨y2,a2,b2⟩:=g 2 (by omega);rw [Nat.zero_mul,List.drop_zero] at a0;rw [Nat.one_mul] at a1;refine⟨(y0,y1,y2),⟨_,_,?_,a0,_,_,rfl,a1,a2⟩,b0,b1,b2⟩;have e2:((cs.drop (2*r.sz)).take r.sz)=cs.drop (2*r.sz):=List.take_of_length_le (by rw [List.length_drop];omega);rw [e2,show 2*r.sz=r.sz+r.sz by omega,←List.drop_drop,List.take_append_drop,List.take_append_drop]
theorem yfH :prog.cellTypes prog.depth 24=some [5,5,5,5,22]:=by kernel_rfl
theorem yfI :prog.cellsOf 24= [5,5,5,5,22].length:=by kernel_rfl
theorem arr5{cs:Array Value}(h:cs.size=5):∃a b c d e,cs= #[a,b,c,d,e]:=by
 obtain⟨l⟩:=cs
 match l,h with
 | [a,b,c,d,e],_=>exact⟨a,b,c,d,e,rfl⟩
theorem tc_u8 :prog.cellsOf 5=1:=by kernel_rfl
theorem tc_a3 :prog.cellsOf 118=3:=by kernel_rfl
theorem tc_l3 :prog.cellsOf 22=1:=by kernel_rfl
theorem y8z{w:World}{r:Reach}{base:Nat}{v:Value}(h:Cell.okWide prog w r base 5 v):∃n:Int,v= .int .u8 n∧0≤n∧n<256:=by
 simp only [Cell.okWide,underlying5] at h;cases v <;> simp_all [Cell.ok];rename_i k n;obtain⟨rfl,h2⟩:=h;simp [IntKind.has,IntKind.min,IntKind.max,IntKind.signed,IntKind.bits] at h2;omega
section
variable{H:Type}{enc:TypeId×Value→H}{w:World}{base:Nat}{v:Value}{d:DataW H}{ps:List MemPlace}
/-- A draft. -/
theorem yeQ(hok:Value.okWide prog w .any base 24 v)(h:DataW.Trod enc prog w 0 (fun _=>true) true 24 v d ps):∃x:Int×Int×Int×Int×List (Int×Int×Int),((0≤x.1∧x.1<256)∧(0≤x.2.1∧x.2.1<256)∧(0≤x.2.2.1∧x.2.2.1<256)∧(0≤x.2.2.2.1∧x.2.2.2.1<256)∧∀y∈x.2.2.2.2,(0≤y.1∧y.1<256)∧(0≤y.2.1∧y.2.1<256)∧0≤y.2.2∧y.2.2<256)∧∀β,(TV.a (lx24 x)).p β ⟨w,fun _=>0⟩ v:=by
 obtain⟨cs,rfl,h1,h2⟩:=ygI underlying24 yfH yfI hok;obtain⟨v0,v1,v2,v3,v4,rfl⟩:=arr5 h1;obtain⟨fuel,hf⟩:=h;obtain⟨c0,e0,o0⟩:=h2 0 5 rfl;obtain⟨c1,e1,o1⟩:=h2 1 5 rfl;obtain⟨c2,e2,o2⟩:=h2 2 5 rfl;obtain⟨c3,e3,o3⟩:=h2 3 5 rfl;obtain⟨c4,e4,o4⟩:=h2 4 22 rfl;cases e0;cases e1;cases e2;cases e3;cases e4;obtain⟨n0,rfl,k0⟩:=y8z o0;obtain⟨n1,rfl,k1⟩:=y8z o1;obtain⟨n2,rfl,k2⟩:=y8z o2;obtain⟨n3,rfl,k3⟩:=y8z o3;obtain⟨m4,x4,g4⟩:=yeP underlying24 hf 4 22 rfl rfl rfl tc_l3 rfl;obtain⟨a,c,xs,rfl,r4,q4⟩:=yfF underlying22 tc_a3 (Op.arr3 underlying118 op_u8 tc_u8 tc_a3) o4 g4;refine⟨(n0,n1,n2,n3,xs),⟨k0,k1,k2,k3,fun x hx=>q4 x hx⟩,fun β=>⟨[_,_,_,_,_],⟨_,_,⟨rfl,rfl⟩,⟨_,_,⟨rfl,rfl⟩,⟨_,_,⟨rfl,rfl⟩,⟨_,_,⟨rfl,rfl⟩,⟨_,_,⟨_,_,rfl,r4⟩,rfl,rfl⟩,rfl⟩,rfl⟩,rfl⟩,rfl⟩,rfl⟩⟩
end
theorem yOwn :ownKnob prog.godebug=none:=by kernel_rfl
theorem yLaid :laidOutB prog=true:=by kernel_rfl
section
variable{H:Type}{enc:TypeId×Value→H}
def ycF(P:Program)(ts:List TypeId):Bool:=ts.all fun t=>P.readableRec t&&decide (t<P.types.size)
theorem y9d{P:Program}(hl:laidOutB P=true){W W':World}(hb:Below W.heap.size W W'){sp:Nat→Bool}:∀{ts:List TypeId} {vs:List Value} {ds:List (DataW H)} {ps:List MemPlace},ycF P ts=true→
  DataW.TrodAll enc P W 0 (fun _=>true) true ts vs ds ps→(∀x∈ps,x.block<W.heap.size)→(∀x∈ps,sp x.block=true)→DataW.TrodAll enc P W' 0 sp true ts vs ds ps
 | [],[],[],_,_,h,_,_=>h
 | [],_::_,_,_,_,h,_,_=>h.elim
 | [],[],_::_,_,_,h,_,_=>h.elim
 | t::ts,[],_,_,_,h,_,_=>h.elim
 | t::ts,_::_,[],_,_,h,_,_=>h.elim
 | t::ts,v::vs,d::ds,ps,hc,⟨p,q,h1,h2,e⟩,hlt,hsp=>by
  subst e;unfold ycF at hc;rw [List.all_cons,yAe,yAe] at hc;exact⟨p,q,WideElems.Trod_stays hl hc.1.1 (of_decide_eq_true hc.1.2) h1 (fun x hx=>hb.same (hlt x (yMl _ hx))) (fun x hx=>hsp x (yMl _ hx)),
   y9d hl hb hc.2 h2 (fun x hx=>hlt x (yMr _ hx)) (fun x hx=>hsp x (yMr _ hx)),rfl⟩
theorem yfJ{P:Program}(hl:laidOutB P=true){f:Func}{s:ChangeSpec}{apart fresh handsOn again:Bool}{W W':World}{args:Array Value}{ds:List (DataW H)}{before:List MemPlace}{tb:TypeId}{b:Bool}
  (hW:DataW.Whole enc P f.params.toList s.vars apart W args.toList ds [] before) (hv:s.vars= []) (hc:ycF P f.params.toList=true) (hrt:f.resultTypes= #[tb]) (ht:P.underlying tb=some .bool)
  (hr:(s.fn H (ds++[])).results= [.lit (.bool b)]) (ha:(s.fn H (ds++[])).args=ds) (hvn:(s.fn H (ds++[])).vars= []) (hb:Below W.heap.size W W'):
  s.post enc P f apart fresh handsOn again W args (.bool b) W':=by
 have hlt:∀p∈before,p.block<W.heap.size:=fun p hp=>hW.lt p hp;have hWc:=hW;obtain⟨p,q,hA,hV,rfl,hz,hn⟩:=hWc;rw [hv] at hV;obtain⟨-,rfl⟩:=trodVars_none hV;rw [List.append_nil] at hlt hz hn;have hargs:∀sp:Nat→Bool,(∀x∈p,sp x.block=true)→DataW.TrodAll enc P W' 0 sp true f.params.toList args.toList (s.fn H (ds++[])).args p:=fun sp hsp=>by
  rw [ha];exact y9d hl hb hc hA hlt hsp
 have hres:∀(b0:Nat) (sp:Nat→Bool) (hd:Bool),DataW.TrodAll enc P W' b0 sp hd f.resultTypes.toList ((Value.bool b).resultList f.resultTypes.size) (s.fn H (ds++[])).results []:=fun _ _ _=>by
  rw [hr,hrt];exact trodAll_mk1 (shut_bool ht b)
 have hvars:∀sp:Nat→Bool,DataW.TrodVars enc P W' sp s.vars (s.fn H (ds++[])).vars []:=fun sp=>by rw [hv,hvn];rfl
 have hold:∀x∈p,(fun b=>decide (b<W.heap.size)) x.block=true:=fun x hx=>by simpa using hlt x hx
 refine⟨ds,[],p++[],[],p,[],hW,hres _ _ _,hargs _ hold,hvars _,World.keptBut_mono (fun x hx=>?_) (hb.frame (· ∈p)),fun _=>?_⟩
 ·exact ⟨by rwa [List.append_nil],Or.inr (.inl hx)⟩
 ·have hok:=ok_one (f:=f) (W':=W') (by rw [hrt]) rfl (okWide_bool_mk (W':=W') ht b);refine⟨hok,_,_,([]++p)++[],⟨[]++p,[],trodAll_append (hargs _ (fun _ _=>rfl)) (hres _ _ _),hvars _,rfl,?_,?_⟩,?_⟩
  ·intro b0 off hp;have hin:MemPlace.cell b0 off∈p:=by simpa using hp
   rw [hb.frozen (hlt _ hin)];exact hz b0 off hin
  ·intro hap;simpa using hn hap
  ·intro x hx _;simpa using hx
end
def lay24 : List (String × DataW Unit) := [("math/bits.deBruijn32tab", Rows.laid_math_bits_deBruijn32tab), ("math/bits.deBruijn64tab", Rows.laid_math_bits_deBruijn64tab), ("internal/strconv.uint64pow10", Rows.laid_internal_strconv_uint64pow10)]
theorem yeR(os:Os)(args:Array Value):laidMetH prog lay24 ((World.laidAll prog os lay24).forCall (fun _ _=>0) ⟨#[],args,[]⟩).memory:=
 laidMetH_of_parts3 (fuel:=8) (laidMet_laidAll args (by kernel_rfl) (by kernel_rfl)) (by kernel_rfl) (by kernel_rfl)
theorem y6y(os:Os)(started:os.Started)(H:Type)(enc:TypeId×Value→H):
  ReturnsInHanded {} Tryz.checked os 6 .any (fun w args=>(Rows.nonconflictComposesSpec.pre enc prog Tryz.f6 [] false w args∧laidMetH prog lay24 w)∧sizedMet enc prog Tryz.f6 (OpenSpec.ofChange Rows.nonconflictComposesSpec) false w args) (Rows.nonconflictComposesSpec.post enc prog Tryz.f6 false true false false):=by
 refine returnsInHanded_of_change_and (C:=Tryz.checked) (X:=fun w _=>laidMetH prog lay24 w) (fun _ _ _ hh h=>h.of_heap hh) yOwn started (by kernel_rfl) func6
  (ChangeSpec.witness_shaped (enc:=enc) (C:=Tryz.checked) (os:=os) (X:=fun w _=>laidMetH prog lay24 w) false (World.laidAll prog os lay24) #[.agg #[.int .u8 0,.int .u8 0,.int .u8 0,.int .u8 0,.slice none 0 0],.agg #[.int .u8 0,.int .u8 0,.int .u8 0,.int .u8 0,.slice none 0 0]] 8 (World.laidAll_os _ _ _) (World.shaped_of_ZipB (by kernel_rfl) (by kernel_rfl)) (by kernel_rfl) (by kernel_rfl) (by kernel_rfl) (yeR os _)) ?_
 intro W base args ds gs before hval0 hW _ _ _ _;have hval:∀(j:Nat) t v,Tryz.f6.params[j]? =some t→args[j]? =some v→Value.okWide prog W .any base t v:=hval0;have hW':=hW;obtain⟨p,q,hA0,hV,rfl,hfz,hnd⟩:=hW;have hA:DataW.TrodAll enc prog W 0 (fun _=>true) true Tryz.f6.params.toList args.toList ds p:=hA0;rw [Tryz.params6] at hA hval;obtain⟨v0,v1,d0,d1,p0,p1,rfl,rfl,rfl,h0,h1⟩:=trodAll_two hA;obtain⟨x,g0,r0⟩:=yeQ (hval 0 24 v0 rfl rfl) h0;obtain⟨y,g1,r1⟩:=yeQ (hval 1 24 v1 rfl rfl) h1;obtain⟨rfl,rfl⟩:=trodVars_none hV;clear hA0 hval0;refine Calls.mono ((y4p (ycE (d:=x) (o:=y) ⟨g0.1,g0.2.1,g0.2.2.1,g0.2.2.2.1,g0.2.2.2.2⟩ ⟨g1.1,g1.2.1,g1.2.2.1,g1.2.2.2.1,g1.2.2.2.2⟩)).law (All3.c (r0 _) (All3.c (r1 _) rfl))) fun e W' ⟨he,hbl⟩=>?_;subst he;exact⟨_,rfl,yfJ yLaid hW' rfl (by kernel_rfl) (by kernel_rfl) underlying4 rfl rfl rfl hbl⟩
end
section
open Go.Proofs.Tryz Go Go.RowKit
set_option maxRecDepth 100000
theorem ygn :prog.stopsHeard=true:=by kernel_rfl
theorem ygo :prog.mayEnter=true:=by kernel_rfl
theorem ygp :(laidOutB prog&&mapsRowed prog)=true:=by kernel_rfl
theorem ygq :(prog.stops==[])=true:=by kernel_rfl
theorem yfK :(prog.stopKnobs==[])=true:=by kernel_rfl
theorem yfL :false=prog.looks []:=by kernel_rfl
end
section
open Go.Proofs.Tryz Go Go.ChangeShapes Go.WideShapes Go.ChangeAt Go.RowKit Go.Deep
theorem y7Z :(Rows.nonconflictComposesRow.inPlace==prog.inPlace 6)=true:=by kernel_rfl
theorem y8a :(Rows.nonconflictComposesRow.unfollowed==prog.unfollowed 6)=true:=by kernel_rfl
theorem y8b :(Rows.nonconflictComposesRow.recurses==prog.recurses 6)=true:=by kernel_rfl
theorem y8c :(Rows.nonconflictComposesRow.named==prog.varsNamed 6)=true:=by kernel_rfl
theorem y8d :(Rows.nonconflictComposesRow.lifted==prog.liftsFinal)=true:=by kernel_rfl
theorem y6z :joinedFacts prog 6 Tryz.f6 Rows.nonconflictComposesSpec Rows.nonconflictComposesRow=true:=by
 have h8:=ygp;rw [yAe] at h8;unfold joinedFacts;rw [h8.1,h8.2,y7Z,y8a,y8b,y8c,y8d,ygn,ygo,ygq,yfK];change (_:Bool)=true;kernel_rfl
theorem y6O :Rows.NonconflictComposesSaid:=
 OpenClaim.holds_of_wide 6 Tryz.f6 rfl rfl rfl rfl rfl rfl rfl ⟨rfl,rfl,rfl,rfl,rfl⟩ rfl rfl rfl rfl rfl (by kernel_rfl) func6 y6z
  (of_decide_eq_true (by kernel_rfl)) (by unfold Func.isWrapper;first | (rw [iP (by decide +kernel)];kernel_rfl)|(rw [iN (by decide +kernel)];exact⟨rfl,rfl⟩))
  (fun os started H enc _=>y6y os started H enc)
theorem nonconflictComposes_k12 :false=Rows.nonconflictComposesRow.goesBy prog:=by kernel_rfl
theorem nonconflictComposes_k13 : prog.funcNamed "overseer/overseerlaw33.NonconflictComposes" = some 6 := by kernel_rfl
theorem nonconflictComposes_k14 :(Tryz.f6.params.toList.all fun u=>!(prog.wantsStandIn u))=true:=by kernel_rfl
theorem nonconflictComposes_k15 :Rows.nonconflictComposesRow.wfByText (OpenSpec.ofChange Rows.nonconflictComposesSpec)=true:=by kernel_rfl
theorem nonconflictComposes_card_holds :Rows.NonconflictComposesCardSaid:=
 Claim7.holds_tied_plain_at .later [] [.data,.data,.data] true _ false
  y6O (fun _ h=>by cases h) nonconflictComposes_k15 (fun _ h=>by cases h) nonconflictComposes_row_tie rfl ⟨rfl,rfl⟩ (by kernel_rfl) rfl
  (fun f fn hf hfn=>by
   obtain rfl:f=6:=ySi (nonconflictComposes_k13.symm.trans hf) |>.symm;obtain rfl:fn=Tryz.f6:=(ySi (func6.symm.trans hfn)).symm;exact⟨yfL,fun j t ht=>by
    have hm:t∈Tryz.f6.params:=Array.mem_of_getElem? ht;exact(show prog.wantsStandIn t=false by simpa using yAt.1 nonconflictComposes_k14 t (Array.mem_toList_iff.2 hm))⟩)
  nonconflictComposes_k12
end
end Go.Proofs.YtfdeiphkmjdifaaGreatDoor
