/- Parts of the proof, without what nothing here names. -/
import Derived.Test.YtfdeiphkmjdifaaGreatDoorProg
import Derived.RangeFuncNested
import Derived.RangeFuncBound
import Derived.RangeFuncCalls
import Derived.RangeFuncLeaves
import Derived.Shelf.SlSortCmp.InsertionK
import Derived.Shelf.SlSortCmp.NoneTotal
import Derived.Calls
import GoSem.Step
import Derived.Ground.SlsfProg
import Derived.Test.YtfdeiphkmjdifaaGreatDoorKt3
namespace Go.Proofs.YtfdeiphkmjdifaaGreatDoor
section
open Go.Proofs.Tryz Go Go.RowKit Go.Sort
section
variable{α β:Type}{r:Rep α}{s:Sig}{t:Nat}{T:TypeId}{a:Option Addr}{cap:Nat}{xs ys:List α}
theorem yh4{enc:β→Value}[Inhabited β]{w:World}{b off n:Nat}{d:Array β}{os:Array Obj}{cur:Array Value}{fr:Nat×Nat}(h:w.heap[b]? =some (.cells cur T fr)):(grow (putRow enc (Sort.ahead w n) b off d) os).heap[b]? =some (.cells (putCells enc off d cur) T fr):=by
 have hb:b<w.heap.size:=(yAs.1 h).1;show((w.heap.modify b (onCells (putCells enc off d)))++os)[b]? =_;rw [Array.getElem?_append_left (by simpa using hb),Array.getElem?_modify,iP rfl,h];rfl
theorem ydp{enc:β→Value}[Inhabited β]{w:World}{b b' off n:Nat}{d:Array β}{os:Array Obj}(hb:b'<w.heap.size)(hne:b'≠b):(grow (putRow enc (Sort.ahead w n) b off d) os).heap[b']? =w.heap[b']? :=by
 show((w.heap.modify b (onCells (putCells enc off d)))++os)[b']? =_;rw [Array.getElem?_append_left (by simpa using hb),Array.getElem?_modify,iN (Ne.symm hne)]
theorem RowAt.put{b off:Nat}{cur:Array Value}{vs:List Value}(h:RowAt r s t T b off cap cur vs xs)(h1:r.sz=1)(ht:0<t){enc:β→Value}[Inhabited β]{d:Array β}(hd:d.size=xs.length)(hy:ys.length=xs.length)(hr:∀j,j<d.size→∀h2:j<ys.length,r.rd s [enc d[j]!] ys[j]){w':World}(hw:∃n os,w'=grow (putRow enc (Sort.ahead s.w n) b off d) os):
  ∃s',w'=s'.w∧Mv (One t) s s'∧RowT r s' t T (some ⟨b,off,none⟩) cap ys:=by
 obtain⟨n,os,rfl⟩:=hw;have hb:b<s.w.heap.size:=(yAs.1 h.heap).1;refine⟨⟨_,fun b=>if b<s.w.heap.size then s.tag b else 0⟩,rfl,⟨rfl,rfl,rfl,?_,fun b' hb' hn=>⟨ydp hb' fun e=>hn (by rw [e];exact h.tag),iP hb'⟩⟩,?_⟩
 ·show _≤((s.w.heap.modify b _)++os).size;simp
 ·have hm:Mv (One t) s ⟨grow (putRow enc (Sort.ahead s.w n) b off d) os,fun b=>if b<s.w.heap.size then s.tag b else 0⟩:=⟨rfl,rfl,rfl,(by show _≤((s.w.heap.modify b _)++os).size;simp),fun b' hb' hn=>⟨ydp hb' fun e=>hn (by rw [e];exact h.tag),iP hb'⟩⟩;have hle:=hm.le (by show ¬0=t;omega);have hcap:=h.cap;have hcs:((putCells enc off d cur).toList.drop off).take (ys.length*1)=(d.toList.map enc):=by
   rw [Nat.mul_one];apply List.ext_getElem?;intro j;rw [List.getElem?_take,List.getElem?_drop,List.getElem?_map];by_cases hj:j<ys.length
   ·rw [iP hj,Array.getElem?_toList,putCells,Array.getElem?_mapIdx,Array.getElem?_eq_getElem (by omega),Option.map_some,iP ⟨by omega,by omega⟩,Nat.add_sub_cancel_left,Array.getElem?_toList,Array.getElem?_eq_getElem (by omega),Option.map_some,getElem!_pos _ _ (by omega)]
   ·rw [iN hj,Array.getElem?_toList,Array.getElem?_eq_none (by omega)];rfl
  refine⟨d.toList.map enc,⟨by rw [h1,Nat.mul_one,yLm,Array.length_toList];omega,.inr ⟨b,off,cap,putCells enc off d cur,rfl,⟨yh4 h.heap,?_,yZl _⟩,by omega,hcap.2.1,?_,by rw [h1];exact hcs⟩⟩,Cells.of h1 (by simp;omega) fun j hj hj2=>?_⟩
  ·show (if b<s.w.heap.size then s.tag b else 0)=t;rw [iP hb];exact h.tag
  ·rw [h1,Nat.mul_one,putCells,Array.size_mapIdx];exact hcap.2.2
  ·have hjd:j<d.size:=by simpa using hj
   have:=hr j hjd hj2;rw [getElem!_pos d j hjd] at this;rw [List.getElem_map,Array.getElem_toList];exact r.mono hle this
theorem RowAt.holds{b off:Nat}{cur:Array Value}{vs:List Value}(h:RowAt r s t T b off cap cur vs xs){enc:β→Value}[Inhabited β]{d:Array β}(hd:d.size=vs.length)(he:∀j (h:j<vs.length),enc d[j]! =vs[j]):Holds enc s.w b off d:=fun j hj=>by
 have hc:=h.cell j (by omega);refine⟨?_,?_⟩
 ·unfold World.cell?;rw [h.heap];show cur[off+j]? =_;rw [hc,he j (by omega)]
 ·unfold World.frozen?;rw [h.heap];show(decide (0≤off+j)&&decide (off+j<0))=false;simp
end
def isI(x:Int):LI→LI
 | []=> [x]
 | y::l=>if x≤y then x::y::l else y::isI x l
def isL :LI→LI
 | []=> []
 | x::l=>isI x (isL l)
theorem ybG(x:Int):∀l:LI,(isI x l).Perm (x::l)
 | []=> .refl _
 | y::l=>by
  unfold isI;split
  ·exact .refl _
  ·exact ((ybG x l).cons y).trans (.swap x y l)
theorem y2e :∀l:LI,(isL l).Perm l
 | []=> .refl _
 | x::l=>(ybG x _).trans ((y2e l).cons x)
theorem yh5(x:Int):∀{l:LI},l.Pairwise (· ≤ ·)→(isI x l).Pairwise (· ≤ ·)
 | [],_=>by simp [isI]
 | y::l,h=>by
  obtain⟨h1,h2⟩:=yPc.1 h;unfold isI;split
  ·rename_i hxy;refine yPc.2 ⟨fun z hz=>?_,h⟩;rcases yMo.1 hz with rfl|hz
   ·exact hxy
   ·exact Int.le_trans hxy (h1 z hz)
  ·rename_i hxy;refine yPc.2 ⟨fun z hz=>?_,yh5 x h2⟩;rcases yMo.1 ((ybG x l).mem_iff.1 hz) with rfl|hz
   ·omega
   ·exact h1 z hz
theorem ycg :∀l:LI,(isL l).Pairwise (· ≤ ·)
 | []=> .nil
 | x::l=>yh5 x (ycg l)
theorem ykn(l:LI):isL l=l.mergeSort fun x y=>decide (x≤y):=by
 refine List.Perm.eq_of_pairwise (le:=(· ≤ ·)) (fun a b _ _ h1 h2=>Int.le_antisymm h1 h2) (ycg l) ?_ ((y2e l).trans (List.mergeSort_perm l _).symm);exact(List.pairwise_mergeSort (le:=fun x y:Int=>decide (x≤y)) (fun a b c h1 h2=>by simp at *;omega) (fun a b=>by simp;omega) l).imp fun h=>by simpa using h
def yK(p0:LI):Option LI:=if p0.length≤4294967296 then some (isL p0) else none
theorem yax{s:Sig}{p0:LI}{t0:Nat}{a1:Option Addr}{c1:Nat}{r:LI}(zt0:0<t0)(h1:RowT (rK .i64) s t0 3 a1 c1 p0)(hm:yK p0=some r):
  Calls prog 60 #[.slice a1 p0.length c1] s.w (RetS (One t0) s fun v s'=>v= .tuple #[]∧RowT (rK .i64) s' t0 3 a1 c1 r):=by
 obtain⟨hl,rfl⟩:p0.length≤4294967296∧p0.mergeSort (fun x y=>decide (x≤y))=r:=by
  unfold yK at hm;rw [ykn] at hm;split at hm
  ·exact ⟨by assumption,ySi hm⟩
  ·cases hm
 rcases h1.seen rfl with ⟨rfl,rfl,rfl⟩|⟨b,off,cur,vs,rfl,h⟩
 ·refine (Tryz.slices_Sort_int_none none 0 s.w).mono ?_;rintro e w' ⟨rfl,rfl⟩;exact⟨_,s,rfl,rfl,Mv.refl _ _,rfl,by simpa using RowT.nil⟩
 ·have hv:∀j (h2:j<vs.length) (h3:j<p0.length),vs[j]= .int .i64 p0[j]:=fun j h2 h3=>by
   have:=h.rd j h2 h3;exact List.head_eq_of_cons_eq this
  have hlen:=h.len;have hb:b<s.w.heap.size:=(yAs.1 h.heap).1;refine(Tryz.slices_Sort_int b off c1 p0 s.w (h.holds (by simp [hlen]) fun j hj=>?_) hb (by omega)).mono ?_
  ·rw [hv j hj (by omega),getElem!_pos _ _ (by simp;omega)];simp
  ·rintro e w' ⟨rfl,hw⟩;obtain⟨s',hw',hm,hr⟩:=h.put rfl zt0 (ys:=p0.mergeSort fun x y=>decide (x≤y)) (by simp) (by simp) (fun j hj h2=>by
    have e:=getElem!_pos (p0.mergeSort fun x y=>decide (x≤y)).toArray j hj;rw [e];show [_]= [_];simp) hw
   exact⟨_,s',hw',rfl,hm,rfl,hr⟩
end
section
open Go.Proofs.Tryz Go Go.RowKit
structure Mk (s:Sig) (t D:Nat):Prop where
 mark:s.w.heap[D]? =some (.deferred (some []))
 tm:s.tag D=t
theorem bs26 :Bs prog 26 3 1 [.int .i64 0]:=Bs.mk' underlying26 (by kernel_rfl) (by kernel_rfl) rfl
theorem el3 :El prog 3 1 8:=El.mk' (z:= .int .i64 0) (by kernel_rfl) (by kernel_rfl) (by kernel_rfl) rfl
theorem nag26 :NAg prog 26:=NAg.mk' underlying26 rfl (by kernel_rfl)
theorem cf60 :Cf prog 60:=Cf.mk func60 (by kernel_rfl) (by kernel_rfl)
theorem y7s{p0:LI}{r:ByteArray}(hm:y4d p0=some r):Fw prog 153 ⟨0,[]⟩ [.f qI p0] [] (.o (lV (.string r))) []:=
 ⟨fun ts β s vs _ _ _ _ ⟨v,us,⟨a,c,e,h⟩,hu,e2⟩ _=>by
  have hu:us= []:=hu;subst hu;subst e;subst e2;exact Calls.mono (yce h hm) fun en w' ⟨v,s',e1,e2,m,hv⟩=>⟨v,s',e1,e2,m.no,β,fun _ _=>rfl,⟨hv,rfl⟩,fun i o ho=>by simp at ho⟩⟩
end
end Go.Proofs.YtfdeiphkmjdifaaGreatDoor
set_option maxRecDepth 100000
set_option maxHeartbeats 8000000
namespace Go.Proofs.YtfdeiphkmjdifaaGreatDoor
section
open Go.Proofs.Tryz Go Go.RowKit
noncomputable section
variable{p0 p1:LI}{p2:Int}
abbrev Arr55 :=(Int×Int×Int×Int×Int)×(Int×Int×Int×Int×Int)×(Int×Int×Int×Int×Int)×(Int×Int×Int×Int×Int)×(Int×Int×Int×Int×Int)
abbrev yq :=Int×Int×Arr55
abbrev EdgL :=List (Int×Int×Int)
abbrev KeyT :=(Int×Int)×Int
theorem nag3 :NAg prog 3:=NAg.mk' underlying3 rfl (by kernel_rfl)
theorem sl26 :Sl prog 26 3 1:=Sl.mk' underlying26 (by kernel_rfl)
theorem lv3{y:Int}:Lv qI y [lI y]:= .k
theorem cf138 :CF 138:=cM func138 (by kernel_rfl)
theorem cf215 :CF 215:=cM func215 (by kernel_rfl)
theorem cf226 :CF 226:=cM func226 (by kernel_rfl)
theorem cf141 :CF 141:=cM func141 (by kernel_rfl)
theorem cf64 :CF 64:=cM func64 (by kernel_rfl)
theorem cf65 :CF 65:=cM func65 (by kernel_rfl)
theorem yS :FAb 112 0 0:=fAm 0 0 1 underlying112 R (by kernel_rfl)
theorem y1V :FAb 112 1 1:=fAm 1 1 1 underlying112 R (by kernel_rfl)
theorem y1W :FAb 112 2 2:=fAm 2 2 1 underlying112 R (by kernel_rfl)
theorem ag112 :Ag prog 112 3:=Ag.mk' underlying112 rfl (by kernel_rfl)
theorem cf111 :CF 111:=cM func111 (by kernel_rfl)
theorem cf112 :CF 112:=cM func112 (by kernel_rfl)
theorem cf69 :CF 69:=cM func69 (by kernel_rfl)
theorem y5z :FAb 29 0 0:=fAm 0 0 1 underlying29 R (by kernel_rfl)
theorem y2G :FAb 29 1 1:=fAm 1 1 1 underlying29 R (by kernel_rfl)
theorem y6t :FAb 29 2 2:=fAm 2 2 1 underlying29 R (by kernel_rfl)
theorem y6u :FAb 29 3 3:=fAm 3 3 1 underlying29 R (by kernel_rfl)
theorem y2f :FAb 29 4 4:=fAm 4 4 1 underlying29 R (by kernel_rfl)
theorem nag27 :NAg prog 27:=NAg.mk' underlying27 rfl (by kernel_rfl)
theorem pl162 :Pl prog 162 (plK 1 2 0) [.slice none 0 0,.slice none 0 0]:=Pl.arr underlying162 (by kernel_rfl) (by kernel_rfl)
theorem sl27 :Sl prog 27 112 3:=Sl.mk' underlying27 (by kernel_rfl)
theorem zz112 :(prog.info? 112).bind (·.zero)=some (.agg #[.int .i64 0,.int .i64 0,.int .i64 0]):=by kernel_rfl
theorem lv112{y:Int×Int×Int}:Lv qT y [lI y.1,lI y.2.1,lI y.2.2]:=(.p .k (.p .k .k))
abbrev lx29(y:LI×Int×LI×LI×EdgL):List LV:=[lF qI y.1,lI y.2.1,lF qI y.2.2.1,lF qI y.2.2.2.1,lF qT y.2.2.2.2]
theorem cf227 :CF 227:=cM func227 (by kernel_rfl)
theorem pl112 :Pl prog 112 [(0,1),(1,1),(2,1)] [.int .i64 0,.int .i64 0,.int .i64 0]:=Pl.str underlying112 (by kernel_rfl) (by kernel_rfl)
theorem ag29 :Ag prog 29 5:=Ag.mk' underlying29 rfl (by kernel_rfl)
theorem cf281 :CF 281:=cM func281 (by kernel_rfl)
theorem cf58 :CF 58:=cM func58 (by kernel_rfl)
theorem nag4 :NAg prog 4:=NAg.mk' underlying4 rfl (by kernel_rfl)
theorem sl177 :Sl prog 177 4 1:=Sl.mk' underlying177 (by kernel_rfl)
theorem zr4 :Zr prog rB 4 1 false:=Zr.mk' (v:= .bool false) (by kernel_rfl) (by kernel_rfl) (by kernel_rfl) (fun _=>rfl)
theorem lv4{y:Bool}:Lv rB y [lB y]:= .b
theorem cf279 :CF 279:=cM func279 (by kernel_rfl)
theorem cf280 :CF 280:=cM func280 (by kernel_rfl)
theorem cf240 :CF 240:=cM func240 (by kernel_rfl)
theorem cf45 :CF 45:=cM func45 (by kernel_rfl)
theorem flr3 :FlatR (rK .i64):=fun _ _ _ _ h=>h
theorem cf159 :CF 159:=cM func159 (by kernel_rfl)
theorem cf241 :CF 241:=cM func241 (by kernel_rfl)
theorem cf139 :CF 139:=cM func139 (by kernel_rfl)
theorem cf243 :CF 243:=cM func243 (by kernel_rfl)
theorem cf242 :CF 242:=cM func242 (by kernel_rfl)
theorem md216 :Md prog 216 9 3 kvS (rK .i64) 0 (.int .i64 0):=Md.mk' underlying216 (KE.string underlying9) (by kernel_rfl) (fun _=>rfl)
theorem nag9 :NAg prog 9:=NAg.mk' underlying9 rfl (by kernel_rfl)
theorem sl222 :Sl prog 222 9 1:=Sl.mk' underlying222 (by kernel_rfl)
theorem lv9{y:ByteArray}:Lv rStr y [lV (.string y)]:= .s
theorem zc3 :Zv prog qI 3 (0:Int):=⟨.int .i64 0,by kernel_rfl,by kernel_rfl,fun _=>rfl⟩
theorem cf164 :CF 164:=cM func164 (by kernel_rfl)
theorem cf165 :CF 165:=cM func165 (by kernel_rfl)
theorem cf61 :CF 61:=cM func61 (by kernel_rfl)
theorem bs222 :Bs prog 222 9 1 [.string (⟨#[]⟩:ByteArray)]:=Bs.mk' underlying222 (by kernel_rfl) (by kernel_rfl) rfl
theorem bs74 :Bs prog 74 26 1 [.slice none 0 0]:=Bs.mk' underlying74 (by kernel_rfl) (by kernel_rfl) rfl
theorem cf160 :CF 160:=cM func160 (by kernel_rfl)
theorem cf161 :CF 161:=cM func161 (by kernel_rfl)
theorem cf162 :CF 162:=cM func162 (by kernel_rfl)
theorem cf163 :CF 163:=cM func163 (by kernel_rfl)
theorem cf166 :CF 166:=cM func166 (by kernel_rfl)
theorem cf167 :CF 167:=cM func167 (by kernel_rfl)
theorem cf21 :CF 21:=cM func21 (by kernel_rfl)
theorem el26 :El prog 26 1 24:=El.mk' (z:= .slice none 0 0) (by kernel_rfl) (by kernel_rfl) (by kernel_rfl) rfl
theorem el9 :El prog 9 1 16:=El.mk' (z:= .string (⟨#[]⟩:ByteArray)) (by kernel_rfl) (by kernel_rfl) (by kernel_rfl) rfl
theorem nag74 :NAg prog 74:=NAg.mk' underlying74 rfl (by kernel_rfl)
theorem sl221 :Sl prog 221 74 1:=Sl.mk' underlying221 (by kernel_rfl)
theorem sl74 :Sl prog 74 26 1:=Sl.mk' underlying74 (by kernel_rfl)
theorem zv74 :Zr prog rVal 74 24 (.slice none 0 0):=Zr.mk' (v:= .slice none 0 0) (by kernel_rfl) (by kernel_rfl) (by kernel_rfl) (fun _=>⟨rfl,rfl⟩)
theorem lv26{y:LI}:Lv (rL qI) y [lF qI y]:= .l
theorem lv74{y:List LI}:Lv (rL (rL qI)) y [lF (rL qI) y]:= .l
theorem cf83 :CF 83:=cM func83 (by kernel_rfl)
theorem bs27 :Bs prog 27 112 3 [.int .i64 0,.int .i64 0,.int .i64 0]:=Bs.mk' underlying27 (by kernel_rfl) (by kernel_rfl) rfl
theorem cf24 :CF 24:=cM func24 (by kernel_rfl)
theorem cf59 :CF 59:=cM func59 (by kernel_rfl)
theorem cf62 :CF 62:=cM func62 (by kernel_rfl)
theorem cf63 :CF 63:=cM func63 (by kernel_rfl)
theorem el112 :El prog 112 3 24:=El.mk' (z:= .agg #[.int .i64 0,.int .i64 0,.int .i64 0]) (by kernel_rfl) (by kernel_rfl) (by kernel_rfl) rfl
theorem md121 :Md prog 121 112 4 kvE rB false (.bool false):=Md.mk' underlying121 (KE.edge underlying112 (by kernel_rfl) ⟨rfl,rfl,rfl⟩ ⟨rfl,rfl,rfl⟩ ⟨by decide,by decide,by decide⟩ underlying3 (NAg.mk' underlying3 rfl (by kernel_rfl)).agg) (by kernel_rfl) (fun _=>rfl)
theorem pl29 :Pl prog 29 [(0,1),(1,1),(2,1),(3,1),(4,1)] [.slice none 0 0,.int .i64 0,.slice none 0 0,.slice none 0 0,.slice none 0 0]:=Pl.str underlying29 (by kernel_rfl) (by kernel_rfl)
theorem zz26 :(prog.info? 26).bind (·.zero)=some (.slice none 0 0):=by kernel_rfl
theorem zz29 :(prog.info? 29).bind (·.zero)=some (.agg #[.slice none 0 0,.int .i64 0,.slice none 0 0,.slice none 0 0,.slice none 0 0]):=by kernel_rfl
theorem cf110 :CF 110:=cM func110 (by kernel_rfl)
theorem cf41 :CF 41:=cM func41 (by kernel_rfl)
theorem y5U :FAb 60 0 0:=fAm 0 0 1 underlying60 R (by kernel_rfl)
theorem y4o :FAb 60 1 1:=fAm 1 1 1 underlying60 R (by kernel_rfl)
theorem y5A :FAb 60 3 3:=fAm 3 3 1 underlying60 R (by kernel_rfl)
abbrev rE60 :Rep AutT:=(rP (rL qI) (rP qI (rP (rL qI) (rL qT))))
abbrev lx60(y:AutT):List LV:=[lF qI y.1,lI y.2.1,lF qI y.2.2.1,lF qT y.2.2.2]
theorem ag60 :Ag prog 60 4:=Ag.mk' underlying60 rfl (by kernel_rfl)
theorem cf181 :CF 181:=cM func181 (by kernel_rfl)
theorem cf182 :CF 182:=cM func182 (by kernel_rfl)
theorem y6v :FAb 60 2 2:=fAm 2 2 1 underlying60 R (by kernel_rfl)
theorem cf114 :CF 114:=cM func114 (by kernel_rfl)
theorem sl49 :Sl prog 49 60 4:=Sl.mk' underlying49 (by kernel_rfl)
theorem zz60 :(prog.info? 60).bind (·.zero)=some (.agg #[.slice none 0 0,.int .i64 0,.slice none 0 0,.slice none 0 0]):=by kernel_rfl
theorem lv60{y:AutT}:Lv rE60 y [lF qI y.1,lI y.2.1,lF qI y.2.2.1,lF qT y.2.2.2]:=(.p .l (.p .k (.p .l .l)))
theorem cf140 :CF 140:=cM func140 (by kernel_rfl)
theorem cf66 :CF 66:=cM func66 (by kernel_rfl)
theorem ag212 :Ag prog 212 3:=Ag.mk' underlying212 rfl (by kernel_rfl)
theorem bs210 :Bs prog 210 128 1 [.map none]:=Bs.mk' underlying210 (by kernel_rfl) (by kernel_rfl) rfl
theorem cf148 :CF 148:=cM func148 (by kernel_rfl)
theorem el128 :El prog 128 1 8:=El.mk' (z:= .map none) (by kernel_rfl) (by kernel_rfl) (by kernel_rfl) rfl
theorem ycX :FAb 212 2 2:=fAm 2 2 1 underlying212 R (by kernel_rfl)
theorem md128 :Md prog 128 70 3 kvP (rK .i64) 0 (.int .i64 0):=Md.mk' underlying128 (KE.pair' underlying70 (by kernel_rfl) underlying3 (by kernel_rfl) (NAg.mk' underlying3 rfl (by kernel_rfl)).agg) (by kernel_rfl) (fun _=>rfl)
theorem yej :NAg prog 210:=NAg.mk' underlying210 rfl (by kernel_rfl)
theorem pl212 :Pl prog 212 [(0,1),(1,1),(2,1)] [.slice none 0 0,.slice none 0 0,.slice none 0 0]:=Pl.str underlying212 (by kernel_rfl) (by kernel_rfl)
theorem pl70 :Pl prog 70 (plK 1 2 0) [.int .i64 0,.int .i64 0]:=Pl.arr underlying70 (by kernel_rfl) (by kernel_rfl)
theorem zz212 :(prog.info? 212).bind (·.zero)=some (.agg #[.slice none 0 0,.slice none 0 0,.slice none 0 0]):=by kernel_rfl
theorem yb1 :FAb 212 0 0:=fAm 0 0 1 underlying212 R (by kernel_rfl)
theorem nag49 :NAg prog 49:=NAg.mk' underlying49 rfl (by kernel_rfl)
theorem zr3 :Zr prog (rK .i64) 3 8 (0:Int):=Zr.mk' (v:= .int .i64 0) (by kernel_rfl) (by kernel_rfl) (by kernel_rfl) (fun _=>rfl)
theorem ych :NAg prog 128:=NAg.mk' underlying128 rfl (by kernel_rfl)
theorem sl210 :Sl prog 210 128 1:=Sl.mk' underlying210 (by kernel_rfl)
theorem lv128{y:List KeyT}:Lv (rM kvP qI) y [lM kvP qI y]:= .m
theorem cf151 :CF 151:=cM func151 (by kernel_rfl)
theorem cf152 :CF 152:=cM func152 (by kernel_rfl)
theorem cf153 :CF 153:=cM func153 (by kernel_rfl)
theorem cf154 :CF 154:=cM func154 (by kernel_rfl)
theorem cf155 :CF 155:=cM func155 (by kernel_rfl)
theorem cf48 :CF 48:=cM func48 (by kernel_rfl)
theorem yfB :FAb 212 1 1:=fAm 1 1 1 underlying212 R (by kernel_rfl)
theorem pl60 :Pl prog 60 [(0,1),(1,1),(2,1),(3,1)] [.slice none 0 0,.int .i64 0,.slice none 0 0,.slice none 0 0]:=Pl.str underlying60 (by kernel_rfl) (by kernel_rfl)
theorem cf158 :CF 158:=cM func158 (by kernel_rfl)
theorem cf156 :CF 156:=cM func156 (by kernel_rfl)
theorem cf157 :CF 157:=cM func157 (by kernel_rfl)
theorem cf79 :CF 79:=cM func79 (by kernel_rfl)
theorem cf80 :CF 80:=cM func80 (by kernel_rfl)
theorem cf81 :CF 81:=cM func81 (by kernel_rfl)
theorem cf82 :CF 82:=cM func82 (by kernel_rfl)
theorem cf20 :CF 20:=cM func20 (by kernel_rfl)
theorem cf147 :CF 147:=cM func147 (by kernel_rfl)
theorem ag70 :Ag prog 70 2:=Ag.mk' underlying70 rfl (by kernel_rfl)
theorem bs34 :Bs prog 34 70 2 [.int .i64 0,.int .i64 0]:=Bs.mk' underlying34 (by kernel_rfl) (by kernel_rfl) rfl
theorem el70 :El prog 70 2 16:=El.mk' (z:= .agg #[.int .i64 0,.int .i64 0]) (by kernel_rfl) (by kernel_rfl) (by kernel_rfl) rfl
theorem nag34 :NAg prog 34:=NAg.mk' underlying34 rfl (by kernel_rfl)
theorem sl34 :Sl prog 34 70 2:=Sl.mk' underlying34 (by kernel_rfl)
abbrev rE70 :Rep (Int×Int):=(rP qI qI)
theorem cf228 :CF 228:=cM func228 (by kernel_rfl)
theorem cf36 :CF 36:=cM func36 (by kernel_rfl)
theorem ar70 :Ar prog 70 2 3 1:=Ar.mk' underlying70 (by kernel_rfl)
theorem lv70{y:Int×Int}:Lv rE70 y [lI y.1,lI y.2]:=(.p .k .k)
theorem zc70 :Zv prog rE70 70 ((0:Int),(0:Int)):=⟨.agg #[.int .i64 0,.int .i64 0],by kernel_rfl,by kernel_rfl,fun _=>⟨[.int .i64 0],[.int .i64 0],rfl,rfl,rfl⟩⟩
theorem cf142 :CF 142:=cM func142 (by kernel_rfl)
theorem cf143 :CF 143:=cM func143 (by kernel_rfl)
theorem cf68 :CF 68:=cM func68 (by kernel_rfl)
theorem cf94 :CF 94:=cM func94 (by kernel_rfl)
theorem cf96 :CF 96:=cM func96 (by kernel_rfl)
theorem flr70 :FlatR (rP (rK .i64) (rK .i64)):=fun _ _ _ _ h=>h
theorem ia70 :IA prog 70 2 1:=IA.mk underlying70 (by kernel_rfl)
theorem cf67 :CF 67:=cM func67 (by kernel_rfl)
theorem cf70 :CF 70:=cM func70 (by kernel_rfl)
theorem pl126 :Pl prog 126 (plK 5 2 0) [.slice none 0 0,.int .i64 0,.slice none 0 0,.slice none 0 0,.slice none 0 0,.slice none 0 0,.int .i64 0,.slice none 0 0,.slice none 0 0,.slice none 0 0]:=Pl.arr underlying126 (by kernel_rfl) (by kernel_rfl)
theorem zz128 :(prog.info? 128).bind (·.zero)=some (.map none):=by kernel_rfl
theorem zz34 :(prog.info? 34).bind (·.zero)=some (.slice none 0 0):=by kernel_rfl
theorem zz70 :(prog.info? 70).bind (·.zero)=some (.agg #[.int .i64 0,.int .i64 0]):=by kernel_rfl
theorem cf150 :CF 150:=cM func150 (by kernel_rfl)
theorem zc112 :Zv prog qT 112 ((0:Int),(0:Int),(0:Int)):=⟨.agg #[.int .i64 0,.int .i64 0,.int .i64 0],by kernel_rfl,by kernel_rfl,fun _=>⟨[.int .i64 0],[.int .i64 0,.int .i64 0],rfl,rfl,⟨[.int .i64 0],[.int .i64 0],rfl,rfl,rfl⟩⟩⟩
theorem cf92 :CF 92:=cM func92 (by kernel_rfl)
theorem cf149 :CF 149:=cM func149 (by kernel_rfl)
theorem cf77 :CF 77:=cM func77 (by kernel_rfl)
theorem zv26 :Zr prog rVal 26 24 (.slice none 0 0):=Zr.mk' (v:= .slice none 0 0) (by kernel_rfl) (by kernel_rfl) (by kernel_rfl) (fun _=>⟨rfl,rfl⟩)
theorem cf144 :CF 144:=cM func144 (by kernel_rfl)
theorem cf13 :CF 13:=cM func13 (by kernel_rfl)
theorem cf14 :CF 14:=cM func14 (by kernel_rfl)
theorem cf71 :CF 71:=cM func71 (by kernel_rfl)
theorem cf74 :CF 74:=cM func74 (by kernel_rfl)
theorem cf75 :CF 75:=cM func75 (by kernel_rfl)
theorem cf76 :CF 76:=cM func76 (by kernel_rfl)
theorem yek :FlatR (rP (rK .i64) (rP (rK .i64) (rK .i64))):=fun _ _ _ _ h=>h
theorem bs49 :Bs prog 49 60 4 [.slice none 0 0,.int .i64 0,.slice none 0 0,.slice none 0 0]:=Bs.mk' underlying49 (by kernel_rfl) (by kernel_rfl) rfl
theorem cf17 :CF 17:=cM func17 (by kernel_rfl)
theorem cf19 :CF 19:=cM func19 (by kernel_rfl)
theorem nag5 :NAg prog 5:=NAg.mk' underlying5 rfl (by kernel_rfl)
theorem cf11 :CF 11:=cM func11 (by kernel_rfl)
theorem cf230 :CF 230:=cM func230 (by kernel_rfl)
theorem cf231 :CF 231:=cM func231 (by kernel_rfl)
theorem cf145 :CF 145:=cM func145 (by kernel_rfl)
theorem cf229 :CF 229:=cM func229 (by kernel_rfl)
theorem cf232 :CF 232:=cM func232 (by kernel_rfl)
theorem cf146 :CF 146:=cM func146 (by kernel_rfl)
theorem yaO :FAb 45 0 0:=fAm 0 0 1 underlying45 R (by kernel_rfl)
theorem yko :FAb 45 1 1:=fAm 1 1 1 underlying45 R (by kernel_rfl)
theorem ykp :FAb 45 2 2:=fAm 2 2 25 underlying45 R (by kernel_rfl)
theorem ia42 :IA prog 42 5 1:=IA.mk underlying42 (by kernel_rfl)
theorem ia43 :IA prog 43 5 5:=IA.mk underlying43 (by kernel_rfl)
abbrev lx45(y:yq):List LV:=[lV (.int .u8 y.1),lV (.int .u8 y.2.1),lV (.int .u8 y.2.2.1.1),lV (.int .u8 y.2.2.1.2.1),lV (.int .u8 y.2.2.1.2.2.1),lV (.int .u8 y.2.2.1.2.2.2.1),lV (.int .u8 y.2.2.1.2.2.2.2),lV (.int .u8 y.2.2.2.1.1),lV (.int .u8 y.2.2.2.1.2.1),lV (.int .u8 y.2.2.2.1.2.2.1),lV (.int .u8 y.2.2.2.1.2.2.2.1),lV (.int .u8 y.2.2.2.1.2.2.2.2),lV (.int .u8 y.2.2.2.2.1.1),lV (.int .u8 y.2.2.2.2.1.2.1),lV (.int .u8 y.2.2.2.2.1.2.2.1),lV (.int .u8 y.2.2.2.2.1.2.2.2.1),lV (.int .u8 y.2.2.2.2.1.2.2.2.2),lV (.int .u8 y.2.2.2.2.2.1.1),lV (.int .u8 y.2.2.2.2.2.1.2.1),lV (.int .u8 y.2.2.2.2.2.1.2.2.1),lV (.int .u8 y.2.2.2.2.2.1.2.2.2.1),lV (.int .u8 y.2.2.2.2.2.1.2.2.2.2),lV (.int .u8 y.2.2.2.2.2.2.1),lV (.int .u8 y.2.2.2.2.2.2.2.1),lV (.int .u8 y.2.2.2.2.2.2.2.2.1),lV (.int .u8 y.2.2.2.2.2.2.2.2.2.1),lV (.int .u8 y.2.2.2.2.2.2.2.2.2.2)]
theorem ag45 :Ag prog 45 27:=Ag.mk' underlying45 rfl (by kernel_rfl)
theorem cf72 :CF 72:=cM func72 (by kernel_rfl)
theorem cf73 :CF 73:=cM func73 (by kernel_rfl)
theorem el60 :El prog 60 4 80:=El.mk' (z:= .agg #[.slice none 0 0,.int .i64 0,.slice none 0 0,.slice none 0 0]) (by kernel_rfl) (by kernel_rfl) (by kernel_rfl) rfl
theorem ykq :FAb 48 0 0:=fAm 0 0 4 underlying48 R (by kernel_rfl)
theorem ykr :FAb 48 1 4:=fAm 1 4 108 underlying48 R (by kernel_rfl)
theorem yks :FAb 48 2 112:=fAm 2 112 1 underlying48 R (by kernel_rfl)
theorem ia41 :IA prog 41 4 1:=IA.mk underlying41 (by kernel_rfl)
theorem ia46 :IA prog 46 4 27:=IA.mk underlying46 (by kernel_rfl)
theorem nag40 :NAg prog 40:=NAg.mk' underlying40 rfl (by kernel_rfl)
theorem zz45 :(prog.info? 45).bind (·.zero)=some (.agg #[.int .u8 0,.int .u8 0,.int .u8 0,.int .u8 0,.int .u8 0,.int .u8 0,.int .u8 0,.int .u8 0,.int .u8 0,.int .u8 0,.int .u8 0,.int .u8 0,.int .u8 0,.int .u8 0,.int .u8 0,.int .u8 0,.int .u8 0,.int .u8 0,.int .u8 0,.int .u8 0,.int .u8 0,.int .u8 0,.int .u8 0,.int .u8 0,.int .u8 0,.int .u8 0,.int .u8 0]):=by kernel_rfl
abbrev lx48(y:(Int×Int×Int×Int)×(yq×yq×yq×yq)×Int):List LV:=[lV (.int .u8 y.1.1),lV (.int .u8 y.1.2.1),lV (.int .u8 y.1.2.2.1),lV (.int .u8 y.1.2.2.2),lV (.int .u8 y.2.1.1.1),lV (.int .u8 y.2.1.1.2.1),lV (.int .u8 y.2.1.1.2.2.1.1),lV (.int .u8 y.2.1.1.2.2.1.2.1),lV (.int .u8 y.2.1.1.2.2.1.2.2.1),lV (.int .u8 y.2.1.1.2.2.1.2.2.2.1),lV (.int .u8 y.2.1.1.2.2.1.2.2.2.2),lV (.int .u8 y.2.1.1.2.2.2.1.1),lV (.int .u8 y.2.1.1.2.2.2.1.2.1),lV (.int .u8 y.2.1.1.2.2.2.1.2.2.1),lV (.int .u8 y.2.1.1.2.2.2.1.2.2.2.1),lV (.int .u8 y.2.1.1.2.2.2.1.2.2.2.2),lV (.int .u8 y.2.1.1.2.2.2.2.1.1),lV (.int .u8 y.2.1.1.2.2.2.2.1.2.1),lV (.int .u8 y.2.1.1.2.2.2.2.1.2.2.1),lV (.int .u8 y.2.1.1.2.2.2.2.1.2.2.2.1),lV (.int .u8 y.2.1.1.2.2.2.2.1.2.2.2.2),lV (.int .u8 y.2.1.1.2.2.2.2.2.1.1),lV (.int .u8 y.2.1.1.2.2.2.2.2.1.2.1),lV (.int .u8 y.2.1.1.2.2.2.2.2.1.2.2.1),lV (.int .u8 y.2.1.1.2.2.2.2.2.1.2.2.2.1),lV (.int .u8 y.2.1.1.2.2.2.2.2.1.2.2.2.2),lV (.int .u8 y.2.1.1.2.2.2.2.2.2.1),lV (.int .u8 y.2.1.1.2.2.2.2.2.2.2.1),lV (.int .u8 y.2.1.1.2.2.2.2.2.2.2.2.1),lV (.int .u8 y.2.1.1.2.2.2.2.2.2.2.2.2.1),lV (.int .u8 y.2.1.1.2.2.2.2.2.2.2.2.2.2),lV (.int .u8 y.2.1.2.1.1),lV (.int .u8 y.2.1.2.1.2.1),lV (.int .u8 y.2.1.2.1.2.2.1.1),lV (.int .u8 y.2.1.2.1.2.2.1.2.1),lV (.int .u8 y.2.1.2.1.2.2.1.2.2.1),lV (.int .u8 y.2.1.2.1.2.2.1.2.2.2.1),lV (.int .u8 y.2.1.2.1.2.2.1.2.2.2.2),lV (.int .u8 y.2.1.2.1.2.2.2.1.1),lV (.int .u8 y.2.1.2.1.2.2.2.1.2.1),lV (.int .u8 y.2.1.2.1.2.2.2.1.2.2.1),lV (.int .u8 y.2.1.2.1.2.2.2.1.2.2.2.1),lV (.int .u8 y.2.1.2.1.2.2.2.1.2.2.2.2),lV (.int .u8 y.2.1.2.1.2.2.2.2.1.1),lV (.int .u8 y.2.1.2.1.2.2.2.2.1.2.1),lV (.int .u8 y.2.1.2.1.2.2.2.2.1.2.2.1),lV (.int .u8 y.2.1.2.1.2.2.2.2.1.2.2.2.1),lV (.int .u8 y.2.1.2.1.2.2.2.2.1.2.2.2.2),lV (.int .u8 y.2.1.2.1.2.2.2.2.2.1.1),lV (.int .u8 y.2.1.2.1.2.2.2.2.2.1.2.1),lV (.int .u8 y.2.1.2.1.2.2.2.2.2.1.2.2.1),lV (.int .u8 y.2.1.2.1.2.2.2.2.2.1.2.2.2.1),lV (.int .u8 y.2.1.2.1.2.2.2.2.2.1.2.2.2.2),lV (.int .u8 y.2.1.2.1.2.2.2.2.2.2.1),lV (.int .u8 y.2.1.2.1.2.2.2.2.2.2.2.1),lV (.int .u8 y.2.1.2.1.2.2.2.2.2.2.2.2.1),lV (.int .u8 y.2.1.2.1.2.2.2.2.2.2.2.2.2.1),lV (.int .u8 y.2.1.2.1.2.2.2.2.2.2.2.2.2.2),lV (.int .u8 y.2.1.2.2.1.1),lV (.int .u8 y.2.1.2.2.1.2.1),lV (.int .u8 y.2.1.2.2.1.2.2.1.1),lV (.int .u8 y.2.1.2.2.1.2.2.1.2.1),lV (.int .u8 y.2.1.2.2.1.2.2.1.2.2.1),lV (.int .u8 y.2.1.2.2.1.2.2.1.2.2.2.1),lV (.int .u8 y.2.1.2.2.1.2.2.1.2.2.2.2),lV (.int .u8 y.2.1.2.2.1.2.2.2.1.1),lV (.int .u8 y.2.1.2.2.1.2.2.2.1.2.1),lV (.int .u8 y.2.1.2.2.1.2.2.2.1.2.2.1),lV (.int .u8 y.2.1.2.2.1.2.2.2.1.2.2.2.1),lV (.int .u8 y.2.1.2.2.1.2.2.2.1.2.2.2.2),lV (.int .u8 y.2.1.2.2.1.2.2.2.2.1.1),lV (.int .u8 y.2.1.2.2.1.2.2.2.2.1.2.1),lV (.int .u8 y.2.1.2.2.1.2.2.2.2.1.2.2.1),lV (.int .u8 y.2.1.2.2.1.2.2.2.2.1.2.2.2.1),lV (.int .u8 y.2.1.2.2.1.2.2.2.2.1.2.2.2.2),lV (.int .u8 y.2.1.2.2.1.2.2.2.2.2.1.1),lV (.int .u8 y.2.1.2.2.1.2.2.2.2.2.1.2.1),lV (.int .u8 y.2.1.2.2.1.2.2.2.2.2.1.2.2.1),lV (.int .u8 y.2.1.2.2.1.2.2.2.2.2.1.2.2.2.1),lV (.int .u8 y.2.1.2.2.1.2.2.2.2.2.1.2.2.2.2),lV (.int .u8 y.2.1.2.2.1.2.2.2.2.2.2.1),lV (.int .u8 y.2.1.2.2.1.2.2.2.2.2.2.2.1),lV (.int .u8 y.2.1.2.2.1.2.2.2.2.2.2.2.2.1),lV (.int .u8 y.2.1.2.2.1.2.2.2.2.2.2.2.2.2.1),lV (.int .u8 y.2.1.2.2.1.2.2.2.2.2.2.2.2.2.2),lV (.int .u8 y.2.1.2.2.2.1),lV (.int .u8 y.2.1.2.2.2.2.1),lV (.int .u8 y.2.1.2.2.2.2.2.1.1),lV (.int .u8 y.2.1.2.2.2.2.2.1.2.1),lV (.int .u8 y.2.1.2.2.2.2.2.1.2.2.1),lV (.int .u8 y.2.1.2.2.2.2.2.1.2.2.2.1),lV (.int .u8 y.2.1.2.2.2.2.2.1.2.2.2.2),lV (.int .u8 y.2.1.2.2.2.2.2.2.1.1),lV (.int .u8 y.2.1.2.2.2.2.2.2.1.2.1),lV (.int .u8 y.2.1.2.2.2.2.2.2.1.2.2.1),lV (.int .u8 y.2.1.2.2.2.2.2.2.1.2.2.2.1),lV (.int .u8 y.2.1.2.2.2.2.2.2.1.2.2.2.2),lV (.int .u8 y.2.1.2.2.2.2.2.2.2.1.1),lV (.int .u8 y.2.1.2.2.2.2.2.2.2.1.2.1),lV (.int .u8 y.2.1.2.2.2.2.2.2.2.1.2.2.1),lV (.int .u8 y.2.1.2.2.2.2.2.2.2.1.2.2.2.1),lV (.int .u8 y.2.1.2.2.2.2.2.2.2.1.2.2.2.2),lV (.int .u8 y.2.1.2.2.2.2.2.2.2.2.1.1),lV (.int .u8 y.2.1.2.2.2.2.2.2.2.2.1.2.1),lV (.int .u8 y.2.1.2.2.2.2.2.2.2.2.1.2.2.1),lV (.int .u8 y.2.1.2.2.2.2.2.2.2.2.1.2.2.2.1),lV (.int .u8 y.2.1.2.2.2.2.2.2.2.2.1.2.2.2.2),lV (.int .u8 y.2.1.2.2.2.2.2.2.2.2.2.1),lV (.int .u8 y.2.1.2.2.2.2.2.2.2.2.2.2.1),lV (.int .u8 y.2.1.2.2.2.2.2.2.2.2.2.2.2.1),lV (.int .u8 y.2.1.2.2.2.2.2.2.2.2.2.2.2.2.1),lV (.int .u8 y.2.1.2.2.2.2.2.2.2.2.2.2.2.2.2),lV (.int .u8 y.2.2)]
theorem cf109 :CF 109:=cM func109 (by kernel_rfl)
theorem cf39 :CF 39:=cM func39 (by kernel_rfl)
theorem cf98 :CF 98:=cM func98 (by kernel_rfl)
theorem cf99 :CF 99:=cM func99 (by kernel_rfl)
theorem cf30 :CF 30:=cM func30 (by kernel_rfl)
theorem cf78 :CF 78:=cM func78 (by kernel_rfl)
theorem ag48 :Ag prog 48 113:=Ag.mk' underlying48 rfl (by kernel_rfl)
theorem cf16 :CF 16:=cM func16 (by kernel_rfl)
theorem cf18 :CF 18:=cM func18 (by kernel_rfl)
theorem cf22 :CF 22:=cM func22 (by kernel_rfl)
theorem cf23 :CF 23:=cM func23 (by kernel_rfl)
def y4A(p0:LI)(p1:Int)(a:Int):Option (Int⊕(Unit⊕Int)):=
 if decide (a<(p0.length:Int)) then
  (idx p0 a).bind fun b=>
  if((decide (b<0))||(decide (b≥p1))) then
   some (.inr (.inr (2)))
  else
   (if decide (a>0) then
    (idx p0 (W (a-1))).bind fun d=>
    some (decide (b≤d))
   else
    some false).bind fun c=>
   if c then
    some (.inr (.inr (5)))
   else
    some (.inl (W (a+1)))
 else
  some (.inr (.inl ()))
def y1G(p0:LI)(p1:Int):Option Int:=
 (iter (y4A p0 p1) 0).bind fun a=>
 match a with
 | .inl c=>
  some 0
 | .inr (b)=>
  some b
theorem y4K{p1:Int}{r:Int}(hm:y1G p0 p1=some r):
  F0 111 [.f qI p0,.i p1] [] (.i r) []:=by
 refine Fw.mk2 func111 ntmps111 R (fun C=>?_) R;refine .sr (.an R (.seq (.sv R (.ln sl26 R (.mv R (.ns (.block (bS hm fun o p hm=>?_))))))));refine .cutU (z:= .exit 0) (fun h=> .inl h=o) (fun (h:Unit)=>⟨[],[],0⟩) ?_ fun u=>?_
 ·rintro h rfl;dsimp only at hm;refine .blkE (.seqN (.sr (.an R (.ret ?_))));cases hm;exact .r0 results111 (.tmp R .nil) R R
 refine .cutU (z:= .ret) (fun g=> .inr (g)=o) (fun (g:Int)=>⟨[(4,.i g)],[],0⟩) ?_ fun n=>?_
 ·rintro g rfl;dsimp only at hm;refine .blkR (.seqR ?_);cases hm;exact .r0 results111 (.tmp R .nil) R R
 refine .iter (fun (a:Int)=>⟨[(9,.i a),(8,.i p0.length),(7,.f qI p0),(0,.f qI p0),(1,.i p1)],[],0⟩) p [] R ?_;intro a x hm t e;refine .sr (.bi R (.ns (.seq ?_)));refine .cc hm R (fun hm=>?_) fun hm=> .xx ((u _ (e _ (oj hm))).s0 R);refine .sn (.seq (.block (.sv R (bS hm fun c q hm=> .ix sl26 q R (.le nag3 lv3 R (.sa R (.an R (.seq (.sv R (.bi R (.mv R ?_)))))))))));refine .cut 4 (fun (j:Bool)=>((decide (c<0))||(decide (c≥p1)))=j) (fun j=>⟨[(20,.b j),(6,.i c),(5,.i a),(9,.i a),(8,.i p0.length),(7,.f qI p0),(0,.f qI p0),(1,.i p1)],[],0⟩) ?_ ?_
 ·rintro _ rfl;refine .ns (.cc hm R (fun hm=> .sr (.an R (.ret (.seqR (.blkR (.seqR (.seqR ((n _ (e _ (oj hm))).s0 R)))))))) fun hm=>?_);refine .sn (.sv R (.bi R (.mv R (bS hm fun v eb19 hm=>?_))));refine .cut 8 (fun (k:Bool)=>v=k) (fun k=>⟨[(31,.b k),(9,.i a),(8,.i p0.length),(7,.f qI p0),(0,.f qI p0),(1,.i p1)],[],0⟩) ?_ ?_
  ·rintro _ rfl;exact .ns (.cc hm R (fun hm=> .sr (.an R (.ret (.blkR (.seqR (.seqR ((n _ (e _ (oj hm))).s0 R))))))) fun hm=> .skip (.blkN (.seqN (.reg (.bi R (.mv R (.nil ((t _ (oj hm)).s0 R))))))))
  ·intro m;rcases ifS eb19 with ⟨hc,hm⟩|⟨hc,hm⟩
   ·refine .know (d:=23) R hc ?_;exact .mg R (.mg R (.mg R (.bg R (bS hm fun w s hm=> .op (O.ix sl26 (Gu.mk R R) R R s R) R (.leg nag3 lv3 R (.bg R (.pT R ((m (decide (c≤w)) (oj hm)).s0 R))))))))
   ·refine .know (d:=23) R hc ?_;exact .s2 R R (.s2 R R (.s2 R R (.sk R (.pF R ((m false (oj hm)).s0 R)))))
 ·intro l;rcases yEt (decide (c<0)) with hc|hc
  ·refine .know (d:=16) R hc ?_;exact .s2 R R (.sk R (.pT R ((l true (orT hc).symm).s0 R)))
  ·refine .know (d:=16) R hc ?_;exact .mg R (.mg R (.bg R (.pF R ((l (decide (c≥p1)) (orF hc).symm).s0 R))))
def y1J(p0:Int):Option Bool:=
 some (p0 != p0)
theorem y5P{p0:Int}{r:Bool}(hm:y1J p0=some r):
  F0 138 [.i p0] [] (.b r) []:=by
 refine Fw.mk2 func138 ntmps138 R (fun C=>?_) R;refine .sr (.an R (.sv R (.mv R (.bi R (.an R (.ret ?_))))));cases hm;exact .r0 results138 (.tmp R .nil) R R
def y6J(p0:Int)(p1:Int):Option Bool:=
 (y1J p0).bind fun b=>
 (if b then
  (y1J p1).bind fun c=>
  some (!c)
 else
  some false).bind fun a=>
 some (a||(decide (p0<p1)))
theorem ybH{p0:Int}{p1:Int}{r:Bool}(hm:y6J p0 p1=some r):
  F0 215 [.i p0,.i p1] [] (.b r) []:=by
 refine Fw.mk2 func215 ntmps215 R (fun C=>?_) R;refine .sr (.an R (.sv R (bS hm fun l h hm=> .c0 (y5P h) cf138 R (.mv R (bS hm fun a eb2 hm=>?_)))));refine .cut 4 (fun (c:Bool)=>a=c) (fun c=>⟨[(11,.b c),(0,.i p0),(1,.i p1)],[],0⟩) ?_ ?_
 ·rintro _ rfl;refine .mv R ?_;refine .cut 4 (fun (e:Bool)=>(a||(decide (p0<p1)))=e) (fun e=>⟨[(16,.b e)],[],0⟩) ?_ ?_
  ·rintro _ rfl;refine .an R (.ret ?_);cases hm;exact .r0 results215 (.tmp R .nil) R R
  ·intro g;rcases yEt a with hc|hc
   ·refine .know (d:=12) R hc ?_;exact .s2 R R (.sk R (.pT R ((g true (orT hc).symm).s0 R)))
   ·refine .know (d:=12) R hc ?_;exact .mg R (.mg R (.bg R (.pF R ((g (decide (p0<p1)) (orF hc).symm).s0 R))))
 ·intro f;rcases ifS eb2 with ⟨hc,hm⟩|⟨hc,hm⟩
  ·refine .know (d:=7) R hc ?_;exact .mg R (bS hm fun k j hm=> .op (O.ca0 (y5P j) cf138 R R (Gu.mk R R) R R R) R (.op (O.not (Gu.mk R R) R R) R (.pT R ((f (!k) (oj hm)).s0 R))))
  ·refine .know (d:=7) R hc ?_;exact .s2 R R (.sk R (.pF R ((f false (oj hm)).s0 R)))
def y4I(p0:Int):Option Bool:=
 some (p0 != p0)
theorem y7t{p0:Int}{r:Bool}(hm:y4I p0=some r):
  F0 226 [.i p0] [] (.b r) []:=by
 refine Fw.mk2 func226 ntmps226 R (fun C=>?_) R;refine .sr (.an R (.sv R (.mv R (.bi R (.an R (.ret ?_))))));cases hm;exact .r0 results226 (.tmp R .nil) R R
def y1g(p0:LI)(p1:Int)(a:Int×Int):Option ((Int×Int)⊕Int):=
 if decide (a.2<a.1) then
  (idx p0 (W ((IntKind.u64.wrap (W (a.2+a.1))).fdiv (2 ^ (min (1:Int).toNat 64))))).bind fun c=>
  (y6J c p1).bind fun b=>
  if b then
   some (.inl (a.1,W ((W ((IntKind.u64.wrap (W (a.2+a.1))).fdiv (2 ^ (min (1:Int).toNat 64))))+1)))
  else
   some (.inl (W ((IntKind.u64.wrap (W (a.2+a.1))).fdiv (2 ^ (min (1:Int).toNat 64))),a.2))
 else
  some (.inr a.2)
def y4W(p0:LI)(p1:Int):Option (Int×Bool):=
 (iter (y1g p0 p1) ((p0.length:Int),0)).bind fun a=>
 (if decide (a<(p0.length:Int)) then
  (idx p0 a).bind fun g=>
  (if (g==p1) then
   some true
  else
   (idx p0 a).bind fun h=>
   (y4I h).bind fun e=>
   (if e then
    (y4I p1).bind fun f=>
    some f
   else
    some false).bind fun d=>
   some d).bind fun c=>
  some c
 else
  some false).bind fun b=>
 some (a,b)
theorem y7O{p1:Int}{r:Int×Bool}(hm:y4W p0 p1=some r):
  F0 141 [.f qI p0,.i p1] [] (.tp [.i r.1,.b r.2]) []:=by
 refine Fw.mk2 func141 ntmps141 R (fun C=>?_) R;refine .sr (.sa R (.an R (.sv R (.ln sl26 R (.an R (.sv R (.sa R (.an R (.seq (.block (bS hm fun a x hm=>?_)))))))))));refine .cut1 (z:= .exit 0) a (fun (a:Int)=>⟨[(7,.i a),(6,.i p0.length),(0,.f qI p0),(1,.i p1)],[],0⟩) ?_ fun K9=>?_
 ·skip
  refine .blkE (.seqN (.sv R (.mv R (.mv R (.bi R (.mv R (bS hm fun w eb10 hm=>?_)))))));refine .cut 18 (fun (e:Bool)=>w=e) (fun e=>⟨[(53,.b e),(31,.i a)],[],0⟩) ?_ ?_
  ·rintro _ rfl;refine .sa R (.an R (.ret ?_));cases hm;exact .r0 results141 (.tmp R (.tmp R .nil)) R R
  ·intro j;rcases ifS eb10 with ⟨hc,hm⟩|⟨hc,hm⟩
   ·refine .know (d:=35) R hc ?_;refine .mg R (.mg R (bS hm fun G t hm=> .op (O.ix sl26 (Gu.mk R R) R R t R) R (.leg nag3 lv3 R (.mg R (.bg R (.mg R (bS hm fun m eb14 hm=>?_)))))));refine .cut 10 (fun (g:Bool)=>m=g) (fun g=>⟨[(52,.b g),(35,.b true),(31,.i a)],[],0⟩) ?_ ?_
    ·rintro _ rfl;exact .pT R ((j m (oj hm)).s0 R)
    ·intro k;rcases ifS eb14 with ⟨hc,hm⟩|⟨hc,hm⟩
     ·refine .know (d:=42) R hc ?_;exact .s2 R R (.s2 R R (.s2 R R (.su R (.su R (.sk R (.op (O.pkT (Gu.mk R R) R R R R) R ((k true (oj hm)).s0 R)))))))
     ·refine .know (d:=42) R hc ?_;refine .mg R (.mg R (bS hm fun H u hm=> .op (O.ix sl26 (Gu.mk R R) R R u R) R (.leg nag3 lv3 R (bS hm fun E p hm=> .op (O.ca0 (y7t p) cf226 R R (Gu.mk R R) R R R) R (.mg R (bS hm fun n eb19 hm=>?_))))));refine .cut 3 (fun (h:Bool)=>n=h) (fun h=>⟨[(51,.b h),(42,.b false),(35,.b true),(31,.i a)],[],0⟩) ?_ ?_
      ·rintro _ rfl;exact .op (O.pkF (Gu.mk R R) R R R R) R ((k n (oj hm)).s0 R)
      ·intro l;rcases ifS eb19 with ⟨hc,hm⟩|⟨hc,hm⟩
       ·refine .know (d:=48) R hc ?_;exact .mg R (bS hm fun B q hm=> .op (O.ca0 (y7t q) cf226 R R (Gu.mk R R) R R R) R (.op (O.pkT (Gu.mk R R) R R R R) R ((l B (oj hm)).s0 R)))
       ·refine .know (d:=48) R hc ?_;exact .s2 R R (.op (O.pkF (Gu.mk R R) R R R R) R ((l false (oj hm)).s0 R))
   ·refine .know (d:=35) R hc ?_;exact .s2 R R (.s2 R R (.s2 R R (.sk R (.su R (.su R (.su R (.su R (.su R (.su R (.su R (.su R (.su R (.sk R (.pF R ((j false (oj hm)).s0 R)))))))))))))))
 refine .iter (fun (c:Int×Int)=>⟨[(8,.i c.1),(7,.i c.2),(6,.i p0.length),(0,.f qI p0),(1,.i p1)],[],0⟩) x [] R ?_;intro c D hm o y;refine .seq (.sv R (.mv R (.bi R (.ns ?_))));refine .cc hm R (fun hm=>?_) fun hm=> .xx ((K9 _ (y _ (oj hm))).s0 R);refine .sn (.block (.sv R (.mv R (.bi R (.op (O.cv underlying3 underlying157 Z R R) R (.op (O.shr Z R R (by decide) R) R (.op (O.cv underlying157 underlying3 Z R R) R (.an R (.sv R (.mv R (bS hm fun I v hm=> .ix sl26 v R (.le nag3 lv3 R (.mv R (bS hm fun F s hm=> .c0 (ybH s) cf215 R (.ns ?_)))))))))))))));exact .cc hm R (fun hm=> .reg (.mv R (.bi R (.sa R (.nil (.blkN ((o _ (oj hm)).s0 R))))))) fun hm=> .reg (.mv R (.sa R (.nil (.blkN ((o _ (oj hm)).s0 R)))))
def yp(p0:LI)(p1:Int):Option Bool:=
 (y4W p0 p1).bind fun a=>
 some a.2
theorem yI{p1:Int}{r:Bool}(hm:yp p0 p1=some r):
  F0 69 [.f qI p0,.i p1] [] (.b r) []:=by
 refine Fw.mk2 func69 ntmps69 R (fun C=>?_) R;refine .sr (.an R (.sv R (.mv R (bS hm fun c a hm=> .c0 (y7O a) cf141 R (.mv R (.ex R (.ex R (.sa R (.an R (.sv R (.an R (.ret ?_))))))))))));cases hm;exact .r0 results69 (.tmp R .nil) R R
def yx(p0:Int)(p1:Int):Option Int:=
 (y1J p0).bind fun b=>
 (y1J p1).bind fun a=>
 if b then
  if a then
   some 0
  else
   some (-1)
 else
  if a then
   some 1
  else
   if decide (p0<p1) then
    some (-1)
   else
    if decide (p0>p1) then
     some 1
    else
     some 0
theorem yJ{p0:Int}{p1:Int}{r:Int}(hm:yx p0 p1=some r):
    F0 65 [.i p0,.i p1] [] (.i r) []:=by
  refine Fw.mk2 func65 ntmps65 R (fun C=>?_) R;refine .sr (.an R (.sv R (bS hm fun c a hm=> .c0 (y5P a) cf138 R (.an R (.sv R (bS hm fun d b hm=> .c0 (y5P b) cf138 R (.an R (.seq (.sv R (.ns ?_))))))))));refine .cc hm R (fun hm=>?_) fun hm=>?_
  ·refine .seq (.sv R (.ns ?_));refine .cc hm R (fun hm=>?_) fun hm=>?_
   ·refine .sr (.an R (.ret (.seqR (.seqR ?_))));cases hm;exact .r0 results65 (.tmp R .nil) R R
   ·refine .sn (.sr (.an R (.ret (.seqR ?_))));cases hm;exact .r0 results65 (.tmp R .nil) R R
  ·refine .sn (.seq (.sv R (.ns ?_)));refine .cc hm R (fun hm=>?_) fun hm=>?_
   ·refine .sr (.an R (.ret (.seqR ?_)));cases hm;exact .r0 results65 (.tmp R .nil) R R
   ·refine .sn (.seq (.sv R (.mv R (.bi R (.ns ?_)))));refine .cc hm R (fun hm=>?_) fun hm=>?_
    ·refine .sr (.an R (.ret (.seqR ?_)));cases hm;exact .r0 results65 (.tmp R .nil) R R
    ·refine .sn (.seq (.sv R (.mv R (.bi R (.ns ?_)))));refine .cc hm R (fun hm=>?_) fun hm=>?_
     ·refine .sr (.an R (.ret (.seqR ?_)));cases hm;exact .r0 results65 (.tmp R .nil) R R
     ·refine .sn (.sr (.an R (.ret ?_)));cases hm;exact .r0 results65 (.tmp R .nil) R R
def y6l(p0:LI)(a:Int):Option (Int⊕(Unit⊕Int)):=
 if decide (a<(p0.length:Int)) then
  (idx p0 a).bind fun b=>
  if(b != 0) then
   some (.inr (.inr (b)))
  else
   some (.inl (W (a+1)))
 else
  some (.inr (.inl ()))
def y5V(p0:LI):Option Int:=
 (iter (y6l p0) 0).bind fun a=>
 match a with
 | .inl c=>
  some 0
 | .inr (b)=>
  some b
theorem y7z{r:Int}(hm:y5V p0=some r):
  F0 64 [.f qI p0] [] (.i r) []:=by
 refine Fw.mk2 func64 ntmps64 R (fun C=>?_) R;refine .sr (.an R (.sr (.an R (.seq (.sv R (.ln sl26 R (.mv R (.ns (.block (bS hm fun j g hm=>?_))))))))));refine .cutU (z:= .exit 0) (fun e=> .inl e=j) (fun (e:Unit)=>⟨[(3,.i 0)],[],0⟩) ?_ fun K7=>?_
 ·rintro e rfl;dsimp only at hm;refine .blkE (.seqN (.sv R (.an R (.ret ?_))));cases hm;exact .r0 results64 (.tmp R .nil) R R
 refine .cutU (z:= .ret) (fun a=> .inr (a)=j) (fun (a:Int)=>⟨[(2,.i a)],[],0⟩) ?_ fun K9=>?_
 ·rintro a rfl;dsimp only at hm;refine .blkR (.seqR ?_);cases hm;exact .r0 results64 (.tmp R .nil) R R
 refine .iter (fun (c:Int)=>⟨[(8,.i c),(7,.i p0.length),(6,.f qI p0),(3,.i 0)],[],0⟩) g [] R ?_;intro c k hm h b;refine .sr (.bi R (.ns (.seq ?_)));refine .cc hm R (fun hm=>?_) fun hm=> .xx ((K7 _ (b _ (oj hm))).s0 R);refine .sn (.seq (.block (.sr (bS hm fun l d hm=> .ix sl26 d R (.le nag3 lv3 R (.an R (.sv R (.mv R (.bi R (.ns ?_))))))))));exact .cc hm R (fun hm=> .sv R (.an R (.ret (.blkR (.seqR (.seqR ((K9 _ (b _ (oj hm))).s0 R))))))) fun hm=> .skip (.blkN (.seqN (.reg (.bi R (.mv R (.nil ((h _ (oj hm)).s0 R)))))))
def yc(p0:Int×Int×Int)(p1:Int×Int×Int):Option Int:=
 (yx p0.1 p1.1).bind fun a=>
 (yx p0.2.1 p1.2.1).bind fun b=>
 (yx p0.2.2 p1.2.2).bind fun c=>
 (y5V ([a,b,c]:LI)).bind fun d=>
 some d
theorem y4u{p0:Int×Int×Int}{p1:Int×Int×Int}{r:Int}(hm:yc p0 p1=some r):
  F0 112 [.a [lI p0.1,lI p0.2.1,lI p0.2.2],.a [lI p1.1,lI p1.2.1,lI p1.2.2]] [] (.i r) []:=by
 refine Fw.mk2 func112 ntmps112 R (fun C=>?_) R;refine .sr (.bo 0 R (.bo 1 R (.an R (.seq ?_))));refine .sub (τ:=⟨[(3,.q 1 0),(2,.q 0 0)],[(1,.bx 112 [lI p1.1,lI p1.2.1,lI p1.2.2]),(0,.bx 112 [lI p0.1,lI p0.2.1,lI p0.2.2])],2⟩) ?_ [] R;refine bS hm fun g b hm=>bS hm fun h d hm=>bS hm fun j e hm=>bS hm fun l f hm=>?_;refine .drw [(2,[]),(2,[oT]),(2,[]),(2,[oF,oF,oT]),(2,tT 4),(2,[]),(2,[oF,oF,oF,oF,oF,oT]),(2,[]),(2,[oF,oF,oF,oF,oF,oF,oF,oT]),(2,tT 9),(2,[]),(2,[oF,oF,oF,oF,oF,oF,oF,oF,oF,oF,oT]),(2,[]),(2,[oF,oF,oF,oF,oF,oF,oF,oF,oF,oF,oF,oF,oT]),(2,tT 14),(2,tT 15),(2,tT 16),(2,tT 17)] [_,_,_,_,_,_,_,_,_,_,_,_,_,_,_,_,_,_] ⟨[(4,.i l)],[],2⟩ ⟨O.faP yS Z R R,zB nag3 R,O.faP yS Z R R,zB nag3 R,O.ca0 (yJ b) cf65 R R Z R R R,O.faP y1V Z R R,zB nag3 R,O.faP y1V Z R R,zB nag3 R,O.ca0 (yJ d) cf65 R R Z R R R,O.faP y1W Z R R,zB nag3 R,O.faP y1W Z R R,zB nag3 R,O.ca0 (yJ e) cf65 R R Z R R R,O.bsF (r:=qI) (zs:=([g,h,j]:LI)) bs26 R R Z R R R (.c .k (.c .k (.c .k .n))) R R R,O.ca0 (y7z f) cf64 R R Z R R R,O.as Z R R,trivial⟩ (by kernel_rfl) R ?_;refine .seqN (.ret ?_);cases hm;exact .r0 results112 (.tmp R .nil) R R
def y2W(a:Int)(b:Bool):Option (Int⊕(Unit⊕Int)):=
 if b then
  some (.inr (.inr (5)))
 else
  some (.inl (W (a+1)))
def y2X(p0:LI×Int×LI×LI×EdgL)(a:Int):Option (Int⊕(Unit⊕Int)):=
 if decide (a<(p0.2.2.2.2.length:Int)) then
  (idx p0.2.2.2.2 a).bind fun b=>
  if((((decide (b.1<0))||(decide (b.1≥p0.2.1)))||(decide (b.2.2<0)))||(decide (b.2.2≥p0.2.1))) then
   some (.inr (.inr (2)))
  else
   (if (b.2.1 != (-1)) then
    (yp p0.1 b.2.1).bind fun e=>
    some (!e)
   else
    some false).bind fun c=>
   if c then
    some (.inr (.inr (9)))
   else
    if decide (a>0) then
     (idx p0.2.2.2.2 (W (a-1))).bind fun f=>
     (yc f b).bind fun d=>
     y2W a (decide (d≥0))
    else
     y2W a false
 else
  some (.inr (.inl ()))
def yD(p0:LI×Int×LI×LI×EdgL)(a:Int):Option (Int⊕(Unit⊕Int)):=
 if decide (a<2) then
  (idx ([p0.2.2.1,p0.2.2.2.1]:List LI) a).bind fun c=>
  (y1G c p0.2.1).bind fun b=>
  if(b != 0) then
   some (.inr (.inr (b)))
  else
   some (.inl (W (a+1)))
 else
  some (.inr (.inl ()))
def yE(p0:LI×Int×LI×LI×EdgL):Option Int:=
 if decide (p0.2.1<0) then
  some 2
 else
  if decide (p0.2.1>4096) then
   some 3
  else
   (y1G p0.1 32).bind fun b=>
   if(b != 0) then
    some b
   else
    (iter (yD p0) 0).bind fun e=>
    match e with
    | .inl g=>
     (iter (y2X p0) 0).bind fun a=>
     match a with
     | .inl f=>
      some 0
     | .inr (c)=>
      some c
    | .inr (d)=>
     some d
theorem y3c{p0:LI×Int×LI×LI×EdgL}{r:Int}(hm:yE p0=some r):
    F0 45 [.a (lx29 p0)] [] (.i r) []:=by
  refine Fw.mk2 func45 ntmps45 R (fun C=>?_) R;refine .sr (.bo 0 R (.an R (.seq (.block (.sr (.fa y2G R (.lb nag3 R (.bi R (.an R ?_)))))))));refine .cc hm R (fun hm=>?_) fun hm=>?_
  ·refine .sr (.an R (.ret (.blkR (.seqR ?_))));cases hm;exact .r0 results45 (.tmp R .nil) R R
  ·refine .sr (.fa y2G R (.lb nag3 R (.bi R (.an R ?_))));refine .cc hm R (fun hm=>?_) fun hm=>?_
   ·refine .sr (.an R (.ret (.blkR (.seqR ?_))));cases hm;exact .r0 results45 (.tmp R .nil) R R
   ·refine .skip (.blkN (.seqN (.seq (.sr (.fa y5z R (.lb nag26 R (bS hm fun r1 a3 hm=> .c0 (y4K a3) cf111 R (.an R (.sv R (.bi R (.ns ?_)))))))))));refine .cc hm R (fun hm=>?_) fun hm=>?_
    ·refine .sv R (.an R (.ret (.seqR ?_)));cases hm;exact .r0 results45 (.tmp R .nil) R R
    ·refine .sn (.seq (.sr (.fa y6t R (.lb nag26 R (.fa y6u R (.lb nag26 R (.bu [lF qI p0.2.2.1,lF qI p0.2.2.2.1] pl162 R (.mv R (.ns (.block (bS hm fun o6 a2 hm=>?_)))))))))));refine .cutU (z:= .exit 1) (fun X=> .inl X=o6) (fun (X:Unit)=>⟨[(1,.q 0 0)],[(0,.bx 29 (lx29 p0))],1⟩) ?_ fun K9=>?_
     · rintro X rfl;dsimp only at hm;refine .blkE (.seqN (.seq (.sr (.fa y2f R (.lb nag27 R (.ln sl27 R (.mv R (.ns (.block (bS hm fun L N hm=>?_))))))))));refine .cutU (z:= .exit 3) (fun t=> .inl t=L) (fun (t:Unit)=>⟨[],[],0⟩) ?_ fun Y=>?_
       · rintro t rfl;dsimp only at hm;refine .blkE (.seqN (.sr (.an R (.ret ?_))));cases hm;exact .r0 results45 (.tmp R .nil) R R
       refine .cutU (z:= .ret) (fun m=> .inr (m)=L) (fun (m:Int)=>⟨[(2,.i m)],[],0⟩) ?_ fun p=>?_
       · rintro m rfl;dsimp only at hm;refine .blkR (.seqR ?_);cases hm;exact .r0 results45 (.tmp R .nil) R R
       refine .iter (fun (e:Int)=>⟨[(42,.i e),(41,.i p0.2.2.2.2.length),(40,.f qT p0.2.2.2.2),(1,.q 0 0)],[(0,.bx 29 (lx29 p0))],1⟩) N [] R ?_;intro e F hm W h;refine .sr (.bi R (.ns (.seq ?_)));refine .cc hm R (fun hm=>?_) fun hm=> .xx ((Y _ (h _ (oj hm))).s0 R);refine .sn (.seq (.block (.sv R (bS hm fun c T hm=> .ix sl27 T R (.lg [lI c.1,lI c.2.1,lI c.2.2] ag112 R (.E lv112) R (.al 1 zz112 R (.sa R (.st ag112.sz R (.ns (.block (.sr (.fa yS R (.lb nag3 R (.bi R (.mv R ?_)))))))))))))));refine .cut 6 (fun (u:Bool)=>((decide (c.1<0))||(decide (c.1≥p0.2.1)))=u) (fun u=>⟨[(57,.b u),(7,.i e),(8,.q 1 0),(42,.i e),(41,.i p0.2.2.2.2.length),(40,.f qT p0.2.2.2.2),(1,.q 0 0)],[(1,.bx 112 [lI c.1,lI c.2.1,lI c.2.2]),(0,.bx 29 (lx29 p0))],2⟩) ?_ ?_
       · rintro _ rfl;refine .mv R ?_;refine .cut 4 (fun (v:Bool)=>(((decide (c.1<0))||(decide (c.1≥p0.2.1)))||(decide (c.2.2<0)))=v) (fun v=>⟨[(62,.b v),(7,.i e),(8,.q 1 0),(42,.i e),(41,.i p0.2.2.2.2.length),(40,.f qT p0.2.2.2.2),(1,.q 0 0)],[(1,.bx 112 [lI c.1,lI c.2.1,lI c.2.2]),(0,.bx 29 (lx29 p0))],2⟩) ?_ ?_
         · rintro _ rfl;refine .mv R ?_;refine .cut 6 (fun (w:Bool)=>((((decide (c.1<0))||(decide (c.1≥p0.2.1)))||(decide (c.2.2<0)))||(decide (c.2.2≥p0.2.1)))=w) (fun w=>⟨[(69,.b w),(7,.i e),(8,.q 1 0),(42,.i e),(41,.i p0.2.2.2.2.length),(40,.f qT p0.2.2.2.2),(1,.q 0 0)],[(1,.bx 112 [lI c.1,lI c.2.1,lI c.2.2]),(0,.bx 29 (lx29 p0))],2⟩) ?_ ?_
           · rintro _ rfl;refine .an R (.cc hm R (fun hm=> .sr (.an R (.ret (.blkR (.blkR (.seqR (.seqR ((p _ (h _ (oj hm))).s0 R)))))))) fun hm=>?_);refine .sr (.fa y1V R (.lb nag3 R (.bi R (.mv R (bS hm fun a1 eb42 hm=>?_)))));refine .cut 7 (fun (x:Bool)=>a1=x) (fun x=>⟨[(81,.b x),(7,.i e),(8,.q 1 0),(42,.i e),(41,.i p0.2.2.2.2.length),(40,.f qT p0.2.2.2.2),(1,.q 0 0)],[(1,.bx 112 [lI c.1,lI c.2.1,lI c.2.2]),(0,.bx 29 (lx29 p0))],2⟩) ?_ ?_
             · rintro _ rfl;refine .an R (.cc hm R (fun hm=> .sr (.an R (.ret (.blkR (.blkR (.seqR (.seqR ((p _ (h _ (oj hm))).s0 R)))))))) fun hm=>?_);refine .join1 (fun (k:Bool)=>y2W e k=some F) (fun k=>⟨[(82,.b k),(42,.i e),(41,.i p0.2.2.2.2.length),(40,.f qT p0.2.2.2.2),(1,.q 0 0)],[(0,.bx 29 (lx29 p0))],1⟩) ?_ ?_
               · intro k hm;exact .cc hm R (fun hm=> .sr (.an R (.ret (.blkR (.blkR (.seqR (.seqR ((p _ (h _ (oj hm))).s0 R)))))))) fun hm=> .skip (.blkN (.blkN (.seqN (.reg (.bi R (.mv R (.nil ((W _ (oj hm)).s0 R))))))))
               · intro o;refine .sub (τ:=⟨[(7,.i e),(8,.q 1 0),(42,.i e),(41,.i p0.2.2.2.2.length),(40,.f qT p0.2.2.2.2),(1,.q 0 0)],[(1,.bx 112 [lI c.1,lI c.2.1,lI c.2.2]),(0,.bx 29 (lx29 p0))],2⟩) ?_ [] R;refine .drP 2 [(2,[]),(2,[oT])] [_,_] ⟨zM R,O.bi Z R R R R,trivial⟩ fun s=>?_;rcases ifS hm with ⟨j,hm⟩|⟨j,hm⟩
                 · skip
                   exact bS hm fun D U hm=>bS hm fun a5 P hm=> .drF s [(2,[oT,oT]),(2,tT 3),(2,tT 4),(2,tT 3),(2,tA 3 (fA 2 (tT 1))),(2,tT 7),(2,tT 8),(2,tT 3),(2,tT 10),(2,tT 11),(2,tT 12),(2,tT 13)] [_,_,_,_,_,_,_,_,_,_,_,_] ⟨[(82,.b (decide (a5≥0))),(42,.i e),(41,.i p0.2.2.2.2.length),(40,.f qT p0.2.2.2.2),(1,.q 0 0)],[(0,.bx 29 (lx29 p0))],2⟩ ⟨O.kn (zM R) j,O.faP y2f (Gu.mk R R) R R,O.ld nag27 (Gu.mk R R) R (.B R) R R,O.mv (Gu.mk R R) R R,O.bi (Gu.mk R R) R R R R,O.ix sl27 (Gu.mk R R) R R U R,O.lg (l':=[lI D.1,lI D.2.1,lI D.2.2]) ag112 (Gu.mk R R) R (.E lv112) R R R,O.lg (l':=[lI c.1,lI c.2.1,lI c.2.2]) ag112 (Gu.mk R R) R (.B R) R R R,O.ca0 (y4u P) cf112 R R (Gu.mk R R) R R R,O.bi (Gu.mk R R) R R R R,O.pkT Z R R R R,O.as Z R R,trivial⟩ (by kernel_rfl) R ((o _ hm).s0 R)
                 · skip
                   exact .drF s [(2,[oT,oT]),(2,tT 3),(2,tT 4),(2,tT 3),(2,tA 3 (fA 2 (tT 1))),(2,tT 7),(2,tT 8),(2,tT 3),(2,tT 10),(2,tT 11),(2,tT 12),(2,tT 13)] [_,_,_,_,_,_,_,_,_,_,_,_] ⟨[(82,.b false),(42,.i e),(41,.i p0.2.2.2.2.length),(40,.f qT p0.2.2.2.2),(1,.q 0 0)],[(0,.bx 29 (lx29 p0))],2⟩ ⟨O.kn (zM R) j,zK R,zK R,zK R,zK R,zK R,zK R,zK R,zK R,zK R,O.pkF Z R R R R,O.as Z R R,trivial⟩ (by kernel_rfl) R ((o _ hm).s0 R)
             · intro J;rcases ifS eb42 with ⟨hc,hm⟩|⟨hc,hm⟩
               · refine .know (d:=74) R hc ?_;exact .fag y5z R (.lbg nag26 R (.fag y1V R (.lbg nag3 R (bS hm fun a6 Q hm=> .op (O.ca0 (yI Q) cf69 R R (Gu.mk R R) R R R) R (.op (O.not (Gu.mk R R) R R) R (.pT R ((J (!a6) (oj hm)).s0 R)))))))
               · refine .know (d:=74) R hc ?_;exact .s2 R R (.s2 R R (.s2 R R (.pF R ((J false (oj hm)).s0 R))))
           · intro I;rcases yEt (((decide (c.1<0))||(decide (c.1≥p0.2.1)))||(decide (c.2.2<0))) with hc|hc
             · refine .know (d:=63) R hc ?_;exact .s2 R R (.s2 R R (.sk R (.pT R ((I true (orT hc).symm).s0 R))))
             · refine .know (d:=63) R hc ?_;exact .fag y1W R (.lbg nag3 R (.fag y2G R (.lbg nag3 R (.bg R (.pF R ((I (decide (c.2.2≥p0.2.1)) (orF hc).symm).s0 R))))))
         · intro H;rcases yEt ((decide (c.1<0))||(decide (c.1≥p0.2.1))) with hc|hc
           · refine .know (d:=58) R hc ?_;exact .s2 R R (.sk R (.pT R ((H true (orT hc).symm).s0 R)))
           · refine .know (d:=58) R hc ?_;exact .fag y1W R (.lbg nag3 R (.bg R (.pF R ((H (decide (c.2.2<0)) (orF hc).symm).s0 R))))
       · intro G;rcases yEt (decide (c.1<0)) with hc|hc
         · refine .know (d:=51) R hc ?_;exact .s2 R R (.s2 R R (.sk R (.pT R ((G true (orT hc).symm).s0 R))))
         · refine .know (d:=51) R hc ?_;exact .fag yS R (.lbg nag3 R (.fag y2G R (.lbg nag3 R (.bg R (.pF R ((G (decide (c.1≥p0.2.1)) (orF hc).symm).s0 R))))))
     refine .cutU (z:= .ret) (fun n=> .inr (n)=o6) (fun (n:Int)=>⟨[(2,.i n)],[],0⟩) ?_ fun a0=>?_
     · rintro n rfl;dsimp only at hm;refine .blkR (.seqR ?_);cases hm;exact .r0 results45 (.tmp R .nil) R R
     refine .iter (fun (M:Int)=>⟨[(28,.i M),(27,.g [lF qI p0.2.2.1,lF qI p0.2.2.2.1]),(1,.q 0 0)],[(0,.bx 29 (lx29 p0))],1⟩) a2 [] R ?_;intro M a7 hm a4 K;refine .sr (.bi R (.ns (.seq ?_)));refine .cc hm R (fun hm=>?_) fun hm=> .xx ((K9 _ (K _ (oj hm))).s0 R);refine .sn (.seq (.block (.sr (bS hm fun a9 V hm=> .op (O.ixL (f:=fun y=>lF qI y) (xs:=([p0.2.2.1,p0.2.2.2.1]:List LI)) nag26 underlying162 Z R R R V R) R (.an R (.sv R (.fa y2G R (.lb nag3 R (bS hm fun a8 S hm=> .c0 (y4K S) cf111 R (.an R (.sv R (.bi R (.ns ?_)))))))))))));exact .cc hm R (fun hm=> .sv R (.an R (.ret (.blkR (.seqR (.seqR ((a0 _ (K _ (oj hm))).s0 R))))))) fun hm=> .skip (.blkN (.seqN (.reg (.bi R (.mv R (.nil ((a4 _ (oj hm)).s0 R)))))))
def yB(b:Int)(a:Bool):Option (Int×Bool):=
 some (b,a)
def yh(p0:List (Int×Int×Int))(p1:Int×Int×Int)(p2:(Int×Int×Int)→(Int×Int×Int)→Option Int)(a:Int×Int):Option ((Int×Int)⊕Int):=
 if decide (a.2<a.1) then
  (idx p0 (W ((IntKind.u64.wrap (W (a.2+a.1))).fdiv (2 ^ (min (1:Int).toNat 64))))).bind fun c=>
  (p2 c p1).bind fun b=>
  if decide (b<0) then
   some (.inl (a.1,W ((W ((IntKind.u64.wrap (W (a.2+a.1))).fdiv (2 ^ (min (1:Int).toNat 64))))+1)))
  else
   some (.inl (W ((IntKind.u64.wrap (W (a.2+a.1))).fdiv (2 ^ (min (1:Int).toNat 64))),a.2))
 else
  some (.inr a.2)
def yk(p0:List (Int×Int×Int))(p1:Int×Int×Int)(p2:(Int×Int×Int)→(Int×Int×Int)→Option Int):Option (Int×Bool):=
 (iter (yh p0 p1 p2) ((p0.length:Int),0)).bind fun a=>
 if decide (a<(p0.length:Int)) then
  (idx p0 a).bind fun c=>
  (p2 c p1).bind fun b=>
  yB a (b==0)
 else
  yB a false
theorem y1p{p0:List (Int×Int×Int)}{p1:Int×Int×Int}{p2:(Int×Int×Int)→(Int×Int×Int)→Option Int}{r:Int×Bool}(hm:yk p0 p1 p2=some r):
  F0 227 [.f qT p0,.a [lI p1.1,lI p1.2.1,lI p1.2.2],.o (lW prog (fun (x:(Int×Int×Int)×(Int×Int×Int))=> [.a [lI x.1.1,lI x.1.2.1,lI x.1.2.2],.a [lI x.2.1,lI x.2.2.1,lI x.2.2.2]]) (fun (r:Int)=> .i r) (fun x=>p2 x.1 x.2))] [] (.tp [.i r.1,.b r.2]) []:=by
 refine Fw.mk2 func227 ntmps227 R (fun C=>?_) R;refine .sr (.bo 0 R (.sa R (.an R (.sv R (.ln sl27 R (.an R (.sv R (.sa R (.an R (.seq (.block (bS hm fun d w hm=>?_))))))))))));refine .cut1 (z:= .exit 0) d (fun (d:Int)=>⟨[(9,.i d),(8,.i p0.length),(4,.q 0 0),(0,.f qT p0),(2,.o (lW prog (fun (x:(Int×Int×Int)×(Int×Int×Int))=> [.a [lI x.1.1,lI x.1.2.1,lI x.1.2.2],.a [lI x.2.1,lI x.2.2.1,lI x.2.2.2]]) (fun (r:Int)=> .i r) (fun x=>p2 x.1 x.2)))],[(0,.bx 112 [lI p1.1,lI p1.2.1,lI p1.2.2])],1⟩) ?_ fun K9=>?_
 ·skip
  refine .blkE (.seqN ?_);refine .join1 (fun (g:Bool)=>yB d g=some r) (fun g=>⟨[(7,.b g),(6,.i d)],[],0⟩) ?_ ?_
  ·intro g hm;refine .ret ?_;cases hm;exact .r0 results227 (.tmp R (.tmp R .nil)) R R
  ·intro k;refine .sub (τ:=⟨[(9,.i d),(8,.i p0.length),(4,.q 0 0),(0,.f qT p0),(2,.o (lW prog (fun (x:(Int×Int×Int)×(Int×Int×Int))=> [.a [lI x.1.1,lI x.1.2.1,lI x.1.2.2],.a [lI x.2.1,lI x.2.2.1,lI x.2.2.2]]) (fun (r:Int)=> .i r) (fun x=>p2 x.1 x.2)))],[(0,.bx 112 [lI p1.1,lI p1.2.1,lI p1.2.2])],1⟩) ?_ [] R;refine .drP 4 [(1,[]),(1,[]),(1,[]),(1,[oF,oT,oT])] [_,_,_,_] ⟨zM R,zM R,zM R,O.bi Z R R R R,trivial⟩ fun n=>?_;rcases ifS hm with ⟨e,hm⟩|⟨e,hm⟩
   ·skip
    refine bS hm fun h u hm=>bS hm fun F s hm=>?_;refine .drF n [(1,fA 1 (tT 3)),(1,fA 1 (tT 4)),(1,fA 1 (tT 4)),(1,fA 1 (tT 4)),(1,fA 1 (tA 4 (fA 1 (tT 2)))),(1,fA 1 (tA 4 (fA 1 (tT 3)))),(1,fA 1 (tT 4)),(1,fA 1 (tT 10)),(1,fA 1 (tT 11)),(1,fA 1 (tT 12)),(1,tT 12),(1,tT 15)] [_,_,_,_,_,_,_,_,_,_,_,_] ⟨[(7,.b (F==0)),(6,.i d)],[],1⟩ ⟨O.kn (zM R) e,O.mv (Gu.mk R R) R R,O.mv (Gu.mk R R) R R,O.mv (Gu.mk R R) R R,O.ix sl27 (Gu.mk R R) R R u R,O.lg (l':=[lI h.1,lI h.2.1,lI h.2.2]) ag112 (Gu.mk R R) R (.E lv112) R R R,O.lg (l':=[lI p1.1,lI p1.2.1,lI p1.2.2]) ag112 (Gu.mk R R) R (.B R) R R R,O.fv (args:=(fun (x:(Int×Int×Int)×(Int×Int×Int))=> [.a [lI x.1.1,lI x.1.2.1,lI x.1.2.2],.a [lI x.2.1,lI x.2.2.1,lI x.2.2.2]])) (res:=(fun (r:Int)=> .i r)) (m:=(fun x=>p2 x.1 x.2)) (y:=(h,p1)) R R R (Gu.mk R R) R s R R,O.bi (Gu.mk R R) R R R R,O.pkT Z R R R R,O.as Z R R,O.as Z R R,trivial⟩ (by kernel_rfl) R ?_;exact(k _ hm).sub [] R
   ·skip
    exact .drF n [(1,fA 1 (tT 3)),(1,fA 1 (tT 4)),(1,fA 1 (tT 4)),(1,fA 1 (tT 4)),(1,fA 1 (tA 4 (fA 1 (tT 2)))),(1,fA 1 (tA 4 (fA 1 (tT 3)))),(1,fA 1 (tT 4)),(1,fA 1 (tT 10)),(1,fA 1 (tT 11)),(1,fA 1 (tT 12)),(1,tT 12),(1,tT 15)] [_,_,_,_,_,_,_,_,_,_,_,_] ⟨[(7,.b false),(6,.i d)],[],1⟩ ⟨O.kn (zM R) e,zK R,zK R,zK R,zK R,zK R,zK R,zK R,zK R,O.pkF Z R R R R,O.as Z R R,O.as Z R R,trivial⟩ (by kernel_rfl) R ((k _ hm).s0 R)
 refine .iter (fun (c:Int×Int)=>⟨[(10,.i c.1),(9,.i c.2),(8,.i p0.length),(4,.q 0 0),(0,.f qT p0),(2,.o (lW prog (fun (x:(Int×Int×Int)×(Int×Int×Int))=> [.a [lI x.1.1,lI x.1.2.1,lI x.1.2.2],.a [lI x.2.1,lI x.2.2.1,lI x.2.2.2]]) (fun (r:Int)=> .i r) (fun x=>p2 x.1 x.2)))],[(0,.bx 112 [lI p1.1,lI p1.2.1,lI p1.2.2])],1⟩) w [] R ?_;intro c H hm p D;refine .seq (.sv R (.mv R (.bi R (.ns ?_))));refine .cc hm R (fun hm=>?_) fun hm=> .xx ((K9 _ (D _ (oj hm))).s0 R);refine .sn (.block (.sv R (.mv R (.bi R (.op (O.cv underlying3 underlying157 Z R R) R (.op (O.shr Z R R (by decide) R) R (.op (O.cv underlying157 underlying3 Z R R) R (.an R (.seq ?_)))))))));refine .sub (τ:=⟨[(11,.i (W ((IntKind.u64.wrap (W (c.2+c.1))).fdiv (2 ^ (min (1:Int).toNat 64))))),(10,.i c.1),(9,.i c.2),(8,.i p0.length),(4,.q 0 0),(0,.f qT p0),(2,.o (lW prog (fun (x:(Int×Int×Int)×(Int×Int×Int))=> [.a [lI x.1.1,lI x.1.2.1,lI x.1.2.2],.a [lI x.2.1,lI x.2.2.1,lI x.2.2.2]]) (fun (r:Int)=> .i r) (fun x=>p2 x.1 x.2)))],[(0,.bx 112 [lI p1.1,lI p1.2.1,lI p1.2.2])],1⟩) ?_ [] R;refine bS hm fun j v hm=>bS hm fun G t hm=>?_;refine .drw [(1,[]),(1,[]),(1,[]),(1,[oF,oT,oT]),(1,fA 1 (tT 3)),(1,[]),(1,tT 6),(1,tT 7)] [_,_,_,_,_,_,_,_] ⟨[(31,.b (decide (G<0))),(11,.i (W ((IntKind.u64.wrap (W (c.2+c.1))).fdiv (2 ^ (min (1:Int).toNat 64))))),(10,.i c.1),(9,.i c.2),(8,.i p0.length),(4,.q 0 0),(0,.f qT p0),(2,.o (lW prog (fun (x:(Int×Int×Int)×(Int×Int×Int))=> [.a [lI x.1.1,lI x.1.2.1,lI x.1.2.2],.a [lI x.2.1,lI x.2.2.1,lI x.2.2.2]]) (fun (r:Int)=> .i r) (fun x=>p2 x.1 x.2)))],[(0,.bx 112 [lI p1.1,lI p1.2.1,lI p1.2.2])],1⟩ ⟨zM R,zM R,zM R,O.ix sl27 Z R R v R,O.lg (l':=[lI j.1,lI j.2.1,lI j.2.2]) ag112 Z R (.E lv112) R R R,O.lg (l':=[lI p1.1,lI p1.2.1,lI p1.2.2]) ag112 Z R (.B R) R R R,O.fv (args:=(fun (x:(Int×Int×Int)×(Int×Int×Int))=> [.a [lI x.1.1,lI x.1.2.1,lI x.1.2.2],.a [lI x.2.1,lI x.2.2.1,lI x.2.2.2]])) (res:=(fun (r:Int)=> .i r)) (m:=(fun x=>p2 x.1 x.2)) (y:=(j,p1)) R R R Z R t R R,O.bi Z R R R R,trivial⟩ (by kernel_rfl) R ?_;exact .seqN (.cc hm R (fun hm=> .reg (.mv R (.bi R (.sa R (.nil (.blkN ((p _ (oj hm)).s0 R))))))) fun hm=> .reg (.mv R (.sa R (.nil (.blkN ((p _ (oj hm)).s0 R))))))
def y3d(p1:Int)(p2:Int)(d:List (Int×Int×Int))(a:Int×LI):Option ((Int×LI)⊕LI):=
 if decide (a.1<(d.length:Int)) then
  (idx d a.1).bind fun b=>
  if((b.1 != p1)||(b.2.1 != p2)) then
   some (.inr a.2)
  else
   (app a.2 ([b.2.2]:LI)).bind fun c=>
   some (.inl (W (a.1+1),c))
 else
  some (.inr a.2)
def y2H(p0:LI×Int×LI×LI×EdgL)(p1:Int)(p2:Int):Option LI:=
 (yk p0.2.2.2.2 (p1,p2,(-1)) yc).bind fun b=>
 (slc p0.2.2.2.2 b.1 (p0.2.2.2.2.length:Int)).bind fun c=>
 (iter (y3d p1 p2 c) (0,([]:LI))).bind fun a=>
 some a
theorem y6m{p0:LI×Int×LI×LI×EdgL}{p1:Int}{r:LI}(hm:y2H p0 p1 p2=some r):
  F0 281 [.a (lx29 p0),.i p1,.i p2] [] (.h 0) [rwI r]:=by
 refine Fw.mk2 func281 ntmps281 R (fun C=>?_) R;refine .sr (.bo 0 R (.an R (.sr (.fa y2f R (.lb nag27 R (.mv R (.mv R (.bu [lI p1,lI p2,lI (-1)] pl112 R (bS hm fun G y hm=> .op (O.ca0c (y1p y) cf227 R R Z R ⟨⟨R,.rf⟩,⟨R,.rf⟩,⟨R,(.c (.fn cf112 (fun x r h=>y4u h) (fun _=>R)) .n)⟩,trivial⟩ R R) R (.mv R (.ex R (.ex R (.sa R (.an R (.sr (.an R (.seq (.sr (.fa y2f R (.lb nag27 R (.mv R (bS hm fun o B hm=> .op (O.sf sl27 Z R R B R) R (.ln sl27 R (.mv R (.ns (.block ?_))))))))))))))))))))))))));refine bS hm fun l t hm=>?_;refine .cut1 (z:= .exit 0) l (fun (l:LI)=>⟨[(9,.h 0)],[(0,rwI l)],1⟩) ?_ fun s=>?_
 ·skip
  refine .blkE (.seqN (.sv R (.an R (.ret ?_))));cases hm;exact .rr [0] results281 (.tmp R .nil) R I3 ⟨⟨_,R,I4⟩,trivial⟩
 refine .nlg qI 3 9 0 R R (.iter (fun (g:Int×LI)=>⟨[(26,.i g.1),(25,.i o.length),(24,.f qT o),(9,.h 0),(1,.i p1),(2,.i p2)],[(0,rwI g.2)],1⟩) t [(0,1)] R ?_);intro g D hm w j;refine .sr (.bi R (.ns (.seq ?_)));refine .cc hm R (fun hm=>?_) fun hm=> .xx ((s _ (j _ (oj hm))).s0 R);refine .sn (.seq (.block (.sr (bS hm fun e u hm=> .ix sl27 u R (.lg [lI e.1,lI e.2.1,lI e.2.2] ag112 R (.E lv112) R (.al 1 zz112 R (.st ag112.sz R (.ns (.seq (.sr (.fa yS R (.lb nag3 R (.mv R (.bi R (.mv R ?_)))))))))))))));refine .cut 5 (fun (m:Bool)=>((e.1 != p1)||(e.2.1 != p2))=m) (fun m=>⟨[(39,.b m),(11,.q 1 0),(26,.i g.1),(25,.i o.length),(24,.f qT o),(9,.h 0),(1,.i p1),(2,.i p2)],[(1,.bx 112 [lI e.1,lI e.2.1,lI e.2.2]),(0,rwI g.2)],2⟩) ?_ ?_
 ·rintro _ rfl;exact .ns (.cc hm R (fun hm=> .exit (.seqX (.blkX R (.seqX (.seqX ((s _ (j _ (oj hm))).s0 R)))))) fun hm=> .sn (.reg (.mv R (.fa y1W R (.lb nag3 R (.bf (r:=qI) ([e.2.2]:LI) bs26 R (.c .k .n) R (bS hm fun F v hm=> .ap 2 underlying26 el3 R R (.fr R) v (.sa R (.nil (.blkN (.seqN (.reg (.bi R (.mv R (.nil ((w _ (oj hm)).sub [(0,2)] R))))))))))))))))
 ·intro p;rcases yEt (e.1 != p1) with hc|hc
  ·refine .know (d:=34) R hc ?_;exact .s2 R R (.s2 R R (.pT R ((p true (orT hc).symm).s0 R)))
  ·refine .know (d:=34) R hc ?_;exact .fag y1V R (.lbg nag3 R (.mg R (.bg R (.pF R ((p (e.2.1 != p2) (orF hc).symm).s0 R)))))
def yA(a:LI×Int×LI×LI×EdgL)(p0:Int):Option LI:=
 (y2H a p0 (-1)).bind fun b=>
 some b
theorem y7u{a:LI×Int×LI×LI×EdgL}{p0:Int}{r:LI}(hm:yA a p0=some r):
  F0 280 [.i p0,.o (lQ 29 (lx29 a) 0)] [] (.h 0) [rwI r]:=by
 refine Fw.mk2 func280 ntmps280 R (fun C=>?_) R;refine .sr (.an R (.sr (.lg (lx29 a) ag29 R .Q R (.mv R (bS hm fun c b hm=> .cm (r':= .h 0) [0] [(0,rwI c)] (some 1) (y6m b) cf281 R ⟨⟨_,R,I4⟩,trivial⟩ R (.an R (.ret ?_)))))));cases hm;exact .rr [0] results280 (.tmp R .nil) R I3 ⟨⟨_,R,I4⟩,trivial⟩
def yn(p0:LI):Option LI:=
 (app ([]:LI) p0).bind fun a=>
 some a
theorem yC{r:LI}(hm:yn p0=some r):
  F0 58 [.f qI p0] [] (.h 0) [rwI r]:=by
 unfold yn at hm;refine Fw.mk2 func58 ntmps58 R (fun C=>?_) R;refine .sr (.an R (.seq (.sv R (.op (O.nil? underlying26 Z R R R) R (.ns ?_)))));refine .cN R (fun hz=>?_) ?_
 ·subst hz;replace hm:some ([]:LI)=some r:=by simpa [app,slc,slc3] using hm
  refine .sr (.an R (.ret (.seqR (.nlg qI 3 2 0 R R ?_))));cases hm;exact .rr [0] results58 (.tmp R .nil) R I3 ⟨⟨_,R,I4⟩,trivial⟩
 ·skip
  refine .sn (.sr (.op (O.b0O (r:=qI) 0 R bs26 R Z R) R (.mv R (bS hm fun b a hm=> .ap 1 underlying26 el3 R R (.fr R) a (.an R (.ret ?_))))));cases hm;exact .rr [1] results58 (.tmp R .nil) R I3 ⟨⟨_,R,I4⟩,trivial⟩
def y1h(a:Int×LI)(b:LI):Option ((Int×LI)⊕LI):=
 some (.inl (W (a.1+1),b))
def y1i(b:List Bool)(a:Int×LI):Option ((Int×LI)⊕LI):=
 if decide (a.1<(b.length:Int)) then
  (idx b a.1).bind fun c=>
  if c then
   (app a.2 ([a.1]:LI)).bind fun d=>
   y1h a d
  else
   y1h a a.2
 else
  some (.inr a.2)
def yL(p2:Int→Option LI)(a:LI×List Bool):Option ((LI×List Bool)⊕(List Bool)):=
 if decide ((a.1.length:Int)>0) then
  (idx a.1 (W ((a.1.length:Int)-1))).bind fun b=>
  (slc a.1 0 (W ((a.1.length:Int)-1))).bind fun c=>
  (idx a.2 b).bind fun e=>
  if(!e) then
   (idx a.2 b).bind fun h=>
   (upd a.2 b true).bind fun f=>
   (p2 b).bind fun d=>
   (app c d).bind fun g=>
   some (.inl (g,f))
  else
   some (.inl (c,a.2))
 else
  some (.inr a.2)
def y4X(p0:Int)(p1:LI)(p2:Int→Option LI):Option LI:=
 (mkL p0 false).bind fun d=>
 (yn p1).bind fun c=>
 (iter (yL p2) (c,d)).bind fun a=>
 (iter (y1i a) (0,([]:LI))).bind fun b=>
 some b
theorem y7P{p0:Int}{p2:Int→Option LI}{r:LI}(hm:y4X p0 p1 p2=some r):
  F0 279 [.i p0,.f qI p1,.o (lW prog (fun (x:Int)=> [.i x]) (fun (r:LI)=> .f qI r) p2)] [] (.h 0) [rwI r]:=by
 refine Fw.mk2 func279 ntmps279 R (fun C=>?_) R;refine .sr (.an R (.sv R (bS hm fun x1 N hm=> .op (O.mk (z:=false) 0 underlying177 zr4 R R Z R R N R) R (.an R (.sv R (bS hm fun S M hm=> .cm (r':= .h 1) [1] [(0,rwI S)] (some 2) (yC M) cf58 R ⟨⟨_,R,I4⟩,trivial⟩ R (.an R (.seq (.block (bS hm fun d v hm=>?_))))))))));refine .cut1 (z:= .exit 0) d (fun (d:List Bool)=>⟨[(7,.h 0)],[(0,ROW rB 4 d)],1⟩) ?_ fun K=>?_
 ·skip
  refine .blkE (.seqN (.sr (.an R (.seq (.sv R (.lh sl177 R (.mv R (.ns (.block (bS hm fun t w hm=>?_))))))))));refine .cut1 (z:= .exit 2) t (fun (t:LI)=>⟨[(10,.h 0)],[(0,rwI t)],1⟩) ?_ fun L=>?_
  ·skip
   refine .blkE (.seqN (.sv R (.an R (.ret ?_))));cases hm;exact .rr [0] results279 (.tmp R .nil) R I3 ⟨⟨_,R,I4⟩,trivial⟩
  refine .nlg qI 3 10 0 R R (.iter (fun (a:Int×LI)=>⟨[(46,.i a.1),(45,.i d.length),(44,.h 0),(10,.h 1)],[(0,ROW rB 4 d),(1,rwI a.2)],2⟩) w [] R ?_);intro a u hm J I;refine .sr (.bi R (.ns (.seq ?_)));refine .cc hm R (fun hm=>?_) fun hm=> .xx ((L _ (I _ (oj hm))).sub [(0,1)] R);refine .sn ?_;refine .join1 (fun (g:LI)=>y1h a g=some u) (fun g=>⟨[(10,.h 0),(46,.i a.1),(45,.i d.length),(44,.h 1)],[(0,rwI g),(1,ROW rB 4 d)],2⟩) ?_ ?_
  ·intro g hm;exact .reg (.bi R (.mv R (.nil ((J _ (oj hm)).sub [(0,1),(1,0)] R))))
  ·intro j;refine .block (.sv R (bS hm fun U l hm=> .op (O.ir sl177 Z R R R l R) R (.op (O.ld nag4 Z R (.R R l lv4) R R) R (.sa R (.an R (.sv R (.ns ?_)))))));exact .cc hm R (fun hm=> .reg (.mv R (.mv R (.bf (r:=qI) ([a.1]:LI) bs26 R (.c .k .n) R (bS hm fun V D hm=> .ap 2 underlying26 el3 R R (.fr R) D (.sa R (.nil (.blkN ((j _ hm).sub [(0,2),(1,0)] R))))))))) fun hm=> .skip (.blkN ((j _ hm).sub [(0,1),(1,0)] R))
 refine .iter (fun (e:LI×List Bool)=>⟨[(8,.h 0),(7,.h 1),(2,.o (lW prog (fun (x:Int)=> [.i x]) (fun (r:LI)=> .f qI r) p2))],[(0,rwI e.1),(1,ROW rB 4 e.2)],2⟩) v [(0,1),(1,0)] R ?_;intro e Q hm s H;refine .seq (.sv R (.lh sl26 R (.bi R (.ns ?_))));refine .cc hm R (fun hm=>?_) fun hm=> .xx ((K _ (H _ (oj hm))).sub [(0,1)] R);refine .sn (.block (.sv R (.mv R (.lh sl26 R (.bi R (bS hm fun P m hm=> .op (O.ir sl26 Z R R R m R) R (.op (O.ld nag3 Z R (.R R m lv3) R R) R (.an R (.sv R (.mv R (.lh sl26 R (.bi R (bS hm fun W E hm=> .op (O.sho 2 sl26 R Z R R R E R) R (.an R (.sv R (.mv R (bS hm fun X p hm=> .op (O.ir sl177 Z R R R p R) R (.op (O.ld nag4 Z R (.R R p lv4) R R) R (.no R (.ns ?_))))))))))))))))))));refine .cc hm R (fun hm=>?_) fun hm=> .skip (.blkN ((s _ (oj hm)).sub [(0,2)] R));refine .sv R (.mv R (bS hm fun Y q hm=> .op (O.ir sl177 Z R R R q R) R (bS hm fun a0 F hm=> .op (O.su (z:=true) nag4.sz Z R R q F R R R lv4 R .b) R (.ns (.reg (.mv R (.mv R (.mv R (bS hm fun T B hm=>?_)))))))));refine .op (O.fv (y:=P) R R R Z R B R R) R ?_;exact bS hm fun a1 G hm=> .ap 3 underlying26 el3 R R (.fr R) G (.sa R (.nil (.blkN ((s _ (oj hm)).sub [(0,3)] R))))
def yT(p0:LI×Int×LI×LI×EdgL)(p1:LI):Option LI:=
 (y4X p0.2.1 p1 (yA p0)).bind fun a=>
 some a
theorem y4v{p0:LI×Int×LI×LI×EdgL}{r:LI}(hm:yT p0 p1=some r):
  F0 240 [.a (lx29 p0),.f qI p1] [] (.h 0) [rwI r]:=by
 refine Fw.mk2 func240 ntmps240 R (fun C=>?_) R;refine .sr (.bo 0 R (.an R (.sr (.fa y2G R (.lb nag3 R (.mv R (.fz 0 [2] [] R R fB R R (.op (O.mf (args:=(fun (x:Int)=> [.i x])) (res:=(fun (r:LI)=> .f qI r)) (m:=(yA p0)) cf280 (fun x r h=>Fw.fz (y7u h)) (fun _=>R) R Z R R) R (bS hm fun c b hm=> .cm (r':= .h 1) [1] [(0,rwI c)] (some 2) (y7P b) cf279 R ⟨⟨_,R,I4⟩,trivial⟩ R (.an R (.ret ?_)))))))))));cases hm;exact .rr [1] results240 (.tmp R .nil) R I3 ⟨⟨_,R,I4⟩,trivial⟩
def y1x(p0:LI×Int×LI×LI×EdgL)(p1:LI):Option (LI×Int):=
 (yE p0).bind fun a=>
 if(a != 0) then
  some (([]:LI),a)
 else
  (y1G p1 p0.2.1).bind fun b=>
  if(b != 0) then
   some (([]:LI),b)
  else
   (yT p0 p1).bind fun c=>
   some (c,0)
theorem y5W{p0:LI×Int×LI×LI×EdgL}{r:LI×Int}(hm:y1x p0 p1=some r):
    F0 159 [.a (lx29 p0),.f qI p1] [] (.tp [.h 0,.i r.2]) [rwI r.1]:=by
  refine Fw.mk2 func159 ntmps159 R (fun C=>?_) R;refine .sr (.bo 0 R (.sa R (.an R (.seq (.sr (.lg (lx29 p0) ag29 R (.B R) R (bS hm fun g b hm=> .c0 (y3c b) cf45 R (.an R (.sv R (.bi R (.ns ?_)))))))))));refine .cc hm R (fun hm=>?_) fun hm=>?_
  ·refine .sv R (.sa R (.an R (.ret (.seqR (.nlg qI 3 4 0 R R ?_)))));cases hm;exact .rr [1] results159 (.tmp R (.tmp R .nil)) R I3 ⟨⟨_,R,I4⟩,trivial⟩
  ·refine .sn (.seq (.sv R (.fa y2G R (.lb nag3 R (bS hm fun j c hm=> .c0 (y4K c) cf111 R (.an R (.sv R (.bi R (.ns ?_)))))))));refine .cc hm R (fun hm=>?_) fun hm=>?_
   ·refine .sv R (.sa R (.an R (.ret (.seqR (.nlg qI 3 4 0 R R ?_)))));cases hm;exact .rr [1] results159 (.tmp R (.tmp R .nil)) R I3 ⟨⟨_,R,I4⟩,trivial⟩
   ·refine .sn (.sr (.lg (lx29 p0) ag29 R (.B R) R (.mv R (bS hm fun e d hm=> .cm (r':= .h 1) [1] [(0,rwI e)] (some 2) (y4v d) cf240 R ⟨⟨_,R,I4⟩,trivial⟩ R (.sa R (.an R (.ret ?_)))))));cases hm;exact .rr [1] results159 (.tmp R (.tmp R .nil)) R I3 ⟨⟨_,R,I4⟩,trivial⟩
def y3e(p0:LI×Int×LI×LI×EdgL)(p2:Int)(b:LI)(a:Int×LI):Option ((Int×LI)⊕LI):=
 if decide (a.1<(b.length:Int)) then
  (idx b a.1).bind fun d=>
  (y2H p0 d p2).bind fun c=>
  (app a.2 c).bind fun e=>
  some (.inl (W (a.1+1),e))
 else
  some (.inr a.2)
def y4e(p0:LI×Int×LI×LI×EdgL)(p1:LI)(p2:Int):Option LI:=
 (yT p0 p1).bind fun c=>
 (iter (y3e p0 p2 c) (0,([]:LI))).bind fun b=>
 (yT p0 b).bind fun a=>
 some a
theorem y8i{p0:LI×Int×LI×LI×EdgL}{r:LI}(hm:y4e p0 p1 p2=some r):
  F0 241 [.a (lx29 p0),.f qI p1,.i p2] [] (.h 0) [rwI r]:=by
 refine Fw.mk2 func241 ntmps241 R (fun C=>?_) R;refine .sr (.bo 0 R (.an R (.sr (.an R (.seq (.sr (.lg (lx29 p0) ag29 R (.B R) R (.mv R (bS hm fun k n hm=> .cm (r':= .h 1) [1] [(0,rwI k)] (some 2) (y4v n) cf240 R ⟨⟨_,R,I4⟩,trivial⟩ R (.lh sl26 R (.mv R (.ns (.block (bS hm fun j m hm=>?_))))))))))))));refine .cut1 (z:= .exit 0) j (fun (j:LI)=>⟨[(7,.h 0),(3,.q 1 0)],[(0,rwI j),(1,.bx 29 (lx29 p0))],2⟩) ?_ fun l=>?_
 ·skip
  refine .blkE (.seqN (.sr (.lg (lx29 p0) ag29 R (.B R) R (.mv R (bS hm fun s d hm=> .op (O.caY (r':= .h 2) [2] [(0,rwI s)] (some 3) (y4v d) cf240 R R Z R R ⟨⟨R,LnL.rf⟩,⟨R,.hr R,trivial⟩,trivial⟩ R ⟨.row flr3,trivial⟩ (fun _ _ _ _ h=>h) ⟨⟨_,R,I4⟩,trivial⟩ I3 R) R (.an R (.ret ?_)))))));cases hm;exact .rr [2] results241 (.tmp R .nil) R I3 ⟨⟨_,R,I4⟩,trivial⟩
 refine .nlg qI 3 7 0 R R (.iter (fun (c:Int×LI)=>⟨[(14,.i c.1),(13,.i k.length),(12,.h 0),(7,.h 1),(3,.q 2 0),(2,.i p2)],[(0,rwI k),(1,rwI c.2),(2,.bx 29 (lx29 p0))],3⟩) m [(0,1),(1,2),(2,0)] R ?_);intro c u hm p o;refine .sr (.bi R (.ns (.seq ?_)));exact .cc hm R (fun hm=> .sn (.seq (.block (.sr (bS hm fun v b hm=> .op (O.ir sl26 Z R R R b R) R (.op (O.ld nag3 Z R (.R R b lv3) R R) R (.an R (.reg (.mv R (.lg (lx29 p0) ag29 R (.B R) R (.mv R (.mv R (bS hm fun t e hm=> .cm (r':= .h 3) [3] [(0,rwI t)] (some 4) (y6m e) cf281 R ⟨⟨_,R,I4⟩,trivial⟩ R (bS hm fun w g hm=> .ap 4 underlying26 el3 R R (.ow R R) g (.sa R (.nil (.blkN (.seqN (.reg (.bi R (.mv R (.nil ((p _ (oj hm)).sub [(1,4)] R))))))))))))))))))))))) fun hm=> .xx ((l _ (o _ (oj hm))).sub [(0,1),(1,2)] R)
def y4f(p0:LI×Int×LI×LI×EdgL)(p1:LI)(p2:Int):Option (LI×Int):=
 (y1x p0 p1).bind fun a=>
 if(a.2 != 0) then
  some (([]:LI),a.2)
 else
  (yp p0.1 p2).bind fun b=>
  if(!b) then
   some (([]:LI),9)
  else
   (y4e p0 p1 p2).bind fun c=>
   some (c,0)
theorem y8j{p0:LI×Int×LI×LI×EdgL}{r:LI×Int}(hm:y4f p0 p1 p2=some r):
    F0 160 [.a (lx29 p0),.f qI p1,.i p2] [] (.tp [.h 0,.i r.2]) [rwI r.1]:=by
  refine Fw.mk2 func160 ntmps160 R (fun C=>?_) R;refine .sr (.bo 0 R (.sa R (.an R (.seq (.sr (.lg (lx29 p0) ag29 R (.B R) R (.mv R (bS hm fun e b hm=> .cm (r':= .tp [.h 1,.i e.2]) [1] [(0,rwI e.1)] (some 2) (y5W b) cf159 R ⟨⟨_,R,I4⟩,trivial⟩ R (.mv R (.ex R (.ex R (.sa R (.an R (.sv R (.bi R (.ns ?_))))))))))))))));refine .cc hm R (fun hm=>?_) fun hm=>?_
  ·refine .sv R (.sa R (.an R (.ret (.seqR (.nlg qI 3 6 0 R R ?_)))));cases hm;exact .rr [2] results160 (.tmp R (.tmp R .nil)) R I3 ⟨⟨_,R,I4⟩,trivial⟩
  ·refine .sn (.seq (.sr (.fa y5z R (.lb nag26 R (.mv R (bS hm fun j c hm=> .c0 (yI c) cf69 R (.no R (.ns ?_))))))));refine .cc hm R (fun hm=>?_) fun hm=>?_
   ·refine .sr (.sa R (.an R (.ret (.seqR (.nlg qI 3 6 0 R R ?_)))));cases hm;exact .rr [2] results160 (.tmp R (.tmp R .nil)) R I3 ⟨⟨_,R,I4⟩,trivial⟩
   ·refine .sn (.sr (.lg (lx29 p0) ag29 R (.B R) R (.mv R (.mv R (bS hm fun g d hm=> .cm (r':= .h 2) [2] [(0,rwI g)] (some 3) (y8i d) cf241 R ⟨⟨_,R,I4⟩,trivial⟩ R (.sa R (.an R (.ret ?_))))))));cases hm;exact .rr [2] results160 (.tmp R (.tmp R .nil)) R I3 ⟨⟨_,R,I4⟩,trivial⟩
def y4p(p2:Bool→Bool→Option Bool)(a:LI×LI×LI)(d:Bool)(e:Bool)(b:LI)(c:LI)(f:Int):Option ((LI×LI×LI)⊕LI):=
 (p2 d e).bind fun g=>
 if g then
  (app a.1 ([f]:LI)).bind fun h=>
  some (.inl (h,b,c))
 else
  some (.inl (a.1,b,c))
def y1d(p2:Bool→Bool→Option Bool)(a:LI×LI×LI)(c:Bool)(b:Bool)(d:LI)(e:Int):Option ((LI×LI×LI)⊕LI):=
 if b then
  (idx a.2.2 0).bind fun f=>
  (slc a.2.2 1 (a.2.2.length:Int)).bind fun g=>
  y4p p2 a c b d g f
 else
  y4p p2 a c b d a.2.2 e
def y1e(p2:Bool→Bool→Option Bool)(a:LI×LI×LI)(b:Bool)(c:Bool):Option ((LI×LI×LI)⊕LI):=
 if b then
  (idx a.2.1 0).bind fun d=>
  (slc a.2.1 1 (a.2.1.length:Int)).bind fun e=>
  y1d p2 a b c e d
 else
  y1d p2 a b c a.2.1 0
def y1H(p2:Bool→Bool→Option Bool)(a:LI×LI×LI)(b:Bool):Option ((LI×LI×LI)⊕LI):=
 if decide ((a.2.2.length:Int)>0) then
  if((a.2.1.length:Int)==0) then
   y1e p2 a b true
  else
   (idx a.2.2 0).bind fun c=>
   (idx a.2.1 0).bind fun d=>
   y1e p2 a b (decide (c≤d))
 else
  y1e p2 a b false
def y1I(p2:Bool→Bool→Option Bool)(a:LI×LI×LI):Option ((LI×LI×LI)⊕LI):=
 if((decide ((a.2.1.length:Int)>0))||(decide ((a.2.2.length:Int)>0))) then
  if decide ((a.2.1.length:Int)>0) then
   if((a.2.2.length:Int)==0) then
    y1H p2 a true
   else
    (idx a.2.1 0).bind fun b=>
    (idx a.2.2 0).bind fun c=>
    y1H p2 a (decide (b≤c))
  else
   y1H p2 a false
 else
  some (.inr a.1)
def y4w(p0:LI)(p1:LI)(p2:Bool→Bool→Option Bool):Option LI:=
 (iter (y1I p2) (([]:LI),p0,p1)).bind fun a=>
 some a
theorem y6w{p2:Bool→Bool→Option Bool}{r:LI}(hm:y4w p0 p1 p2=some r):
  F0 139 [.f qI p0,.f qI p1,.o (lW prog (fun (x:Bool×Bool)=> [.b x.1,.b x.2]) (fun (r:Bool)=> .b r) (fun x=>p2 x.1 x.2))] [] (.h 0) [rwI r]:=by
 refine Fw.mk2 func139 ntmps139 R (fun C=>?_) R;refine .sr (.an R (.sr (.an R (.seq (.block (bS hm fun L P hm=>?_))))));refine .cut1 (z:= .exit 0) L (fun (L:LI)=>⟨[(7,.h 0)],[(0,rwI L)],1⟩) ?_ fun a3=>?_
 ·skip
  refine .blkE (.seqN (.sv R (.an R (.ret ?_))));cases hm;exact .rr [0] results139 (.tmp R .nil) R I3 ⟨⟨_,R,I4⟩,trivial⟩
 refine .nlg qI 3 7 0 R R (.iter (fun (a:LI×LI×LI)=>⟨[(7,.h 0),(0,.f qI a.2.1),(1,.f qI a.2.2),(2,.o (lW prog (fun (x:Bool×Bool)=> [.b x.1,.b x.2]) (fun (r:Bool)=> .b r) (fun x=>p2 x.1 x.2)))],[(0,rwI a.1)],1⟩) P [] R ?_);intro a l hm K a2;refine .seq (.sv R (.ln sl26 R (.bi R (.mv R ?_))));refine .cut 4 (fun (M:Bool)=>((decide ((a.2.1.length:Int)>0))||(decide ((a.2.2.length:Int)>0)))=M) (fun M=>⟨[(18,.b M),(7,.h 0),(0,.f qI a.2.1),(1,.f qI a.2.2),(2,.o (lW prog (fun (x:Bool×Bool)=> [.b x.1,.b x.2]) (fun (r:Bool)=> .b r) (fun x=>p2 x.1 x.2)))],[(0,rwI a.1)],1⟩) ?_ ?_
 ·rintro _ rfl;refine .ns ?_;refine .cc hm R (fun hm=>?_) fun hm=> .xx ((a3 _ (a2 _ (oj hm))).s0 R);refine .sn (.block ?_);refine .join1 (fun (e:Bool)=>y1H p2 a e=some l) (fun e=>⟨[(8,.b e),(7,.h 0),(0,.f qI a.2.1),(1,.f qI a.2.2),(2,.o (lW prog (fun (x:Bool×Bool)=> [.b x.1,.b x.2]) (fun (r:Bool)=> .b r) (fun x=>p2 x.1 x.2)))],[(0,rwI a.1)],1⟩) ?_ ?_
  ·intro e hm;refine .join1 (fun (g:Bool)=>y1e p2 a e g=some l) (fun g=>⟨[(9,.b g),(8,.b e),(7,.h 0),(0,.f qI a.2.1),(1,.f qI a.2.2),(2,.o (lW prog (fun (x:Bool×Bool)=> [.b x.1,.b x.2]) (fun (r:Bool)=> .b r) (fun x=>p2 x.1 x.2)))],[(0,rwI a.1)],1⟩) ?_ ?_
   ·intro g hm;refine .sr (.an R ?_);refine .join2 (fun (j:LI) (B:Int)=>y1d p2 a e g j B=some l) (fun j B=>⟨[(0,.f qI j),(10,.i B),(9,.b g),(8,.b e),(7,.h 0),(1,.f qI a.2.2),(2,.o (lW prog (fun (x:Bool×Bool)=> [.b x.1,.b x.2]) (fun (r:Bool)=> .b r) (fun x=>p2 x.1 x.2)))],[(0,rwI a.1)],1⟩) ?_ ?_
    ·intro j B hm;refine .join2 (fun (w:LI) (m:Int)=>y4p p2 a e g j w m=some l) (fun w m=>⟨[(1,.f qI w),(10,.i m),(0,.f qI j),(9,.b g),(8,.b e),(7,.h 0),(2,.o (lW prog (fun (x:Bool×Bool)=> [.b x.1,.b x.2]) (fun (r:Bool)=> .b r) (fun x=>p2 x.1 x.2)))],[(0,rwI a.1)],1⟩) ?_ ?_
     ·intro w m hm;refine .sv R (.mv R (.mv R (bS hm fun b2 Q hm=>?_)));refine .op (O.fv (y:=(e,g)) R R R Z R Q R R) R ?_;exact .ns (.cc hm R (fun hm=> .reg (.mv R (.mv R (.bf (r:=qI) ([m]:LI) bs26 R (.c .k .n) R (bS hm fun b3 S hm=> .ap 1 underlying26 el3 R R (.fr R) S (.sa R (.nil (.blkN ((K _ (oj hm)).sub [(0,1)] R))))))))) fun hm=> .skip (.blkN ((K _ (oj hm)).s0 R)))
     ·intro F;refine .sv R (.ns ?_);refine .cc hm R (fun hm=>?_) fun hm=> .skip ((F _ _ hm).s0 R);refine .sub (τ:=⟨[(0,.f qI j),(9,.b g),(8,.b e),(7,.h 0),(1,.f qI a.2.2),(2,.o (lW prog (fun (x:Bool×Bool)=> [.b x.1,.b x.2]) (fun (r:Bool)=> .b r) (fun x=>p2 x.1 x.2)))],[(0,rwI a.1)],1⟩) ?_ [] R;refine bS hm fun a4 T hm=>bS hm fun a5 U hm=>?_;refine .drg 1 [(1,[]),(1,[oT]),(1,[oT,oT]),(1,[]),(1,[oF,oF,oF,oT]),(1,tT 3),(1,tT 6)] [_,_,_,_,_,_,_] ⟨[(1,.f qI a5),(10,.i a4),(0,.f qI j),(9,.b g),(8,.b e),(7,.h 0),(2,.o (lW prog (fun (x:Bool×Bool)=> [.b x.1,.b x.2]) (fun (r:Bool)=> .b r) (fun x=>p2 x.1 x.2)))],[(0,rwI a.1)],1⟩ ⟨zM R,O.ix sl26 Z R R T R,O.ld nag3 Z R (.E lv3) R R,zM R,O.sf sl26 Z R R U R,O.as Z R R,O.as Z R R,trivial⟩ (by kernel_rfl) R ?_;exact(F _ _ hm).sub [] R
    ·intro D;refine .sv R (.ns ?_);refine .cc hm R (fun hm=>?_) fun hm=> .skip ((D _ _ hm).s0 R);refine .sub (τ:=⟨[(9,.b g),(8,.b e),(7,.h 0),(0,.f qI a.2.1),(1,.f qI a.2.2),(2,.o (lW prog (fun (x:Bool×Bool)=> [.b x.1,.b x.2]) (fun (r:Bool)=> .b r) (fun x=>p2 x.1 x.2)))],[(0,rwI a.1)],1⟩) ?_ [] R;refine bS hm fun a6 V hm=>bS hm fun a7 W hm=>?_;refine .drg 1 [(1,[]),(1,[oT]),(1,[oT,oT]),(1,[]),(1,[oF,oF,oF,oT]),(1,tT 3),(1,tT 6)] [_,_,_,_,_,_,_] ⟨[(0,.f qI a7),(10,.i a6),(9,.b g),(8,.b e),(7,.h 0),(1,.f qI a.2.2),(2,.o (lW prog (fun (x:Bool×Bool)=> [.b x.1,.b x.2]) (fun (r:Bool)=> .b r) (fun x=>p2 x.1 x.2)))],[(0,rwI a.1)],1⟩ ⟨zM R,O.ix sl26 Z R R V R,O.ld nag3 Z R (.E lv3) R R,zM R,O.sf sl26 Z R R W R,O.as Z R R,O.as Z R R,trivial⟩ (by kernel_rfl) R ?_;exact(D _ _ hm).sub [] R
   ·intro q;refine .sub (τ:=⟨[(8,.b e),(7,.h 0),(0,.f qI a.2.1),(1,.f qI a.2.2),(2,.o (lW prog (fun (x:Bool×Bool)=> [.b x.1,.b x.2]) (fun (r:Bool)=> .b r) (fun x=>p2 x.1 x.2)))],[(0,rwI a.1)],1⟩) ?_ [] R;refine .drP 3 [(1,[]),(1,[oT]),(1,[oT,oT])] [_,_,_] ⟨zM R,O.len sl26 Z R R,O.bi Z R R R R,trivial⟩ fun G=>?_;rcases ifS hm with ⟨s,hm⟩|⟨s,hm⟩
    ·skip
     refine .drX G 7 [(1,tT 3),(1,tT 4),(1,tT 5),(1,tT 6)] [_,_,_,_] ⟨O.kn (zM R) s,O.mv (Gu.mk R R) R R,O.len sl26 (Gu.mk R R) R R,O.bi (Gu.mk R R) R R R R,trivial⟩ (by kernel_rfl) fun H=>?_;rcases ifS hm with ⟨t,hm⟩|⟨t,hm⟩
     ·skip
      exact .drF H [(1,tT 7),(1,tT 8),(1,tT 9),(1,tT 10),(1,tT 8),(1,tA 8 (fA 3 (tT 1))),(1,tA 8 (fA 3 (tT 2))),(1,tT 14),(1,tT 15),(1,tT 16),(1,tT 17)] [_,_,_,_,_,_,_,_,_,_,_] ⟨[(9,.b true),(8,.b e),(7,.h 0),(0,.f qI a.2.1),(1,.f qI a.2.2),(2,.o (lW prog (fun (x:Bool×Bool)=> [.b x.1,.b x.2]) (fun (r:Bool)=> .b r) (fun x=>p2 x.1 x.2)))],[(0,rwI a.1)],1⟩ ⟨O.kn (O.mv (Gu.mk R R) R R) t,zK R,zK R,zK R,zK R,zK R,zK R,zK R,O.pkT (Gu.mk R R) R R R R,O.pkT Z R R R R,O.as Z R R,trivial⟩ (by kernel_rfl) R ((q _ hm).s0 R)
     ·skip
      exact bS hm fun a8 X hm=>bS hm fun a9 Y hm=> .drF H [(1,tT 7),(1,tT 8),(1,tT 9),(1,tT 10),(1,tT 8),(1,tA 8 (fA 3 (tT 1))),(1,tA 8 (fA 3 (tT 2))),(1,tT 14),(1,tT 15),(1,tT 16),(1,tT 17)] [_,_,_,_,_,_,_,_,_,_,_] ⟨[(9,.b (decide (a8≤a9))),(8,.b e),(7,.h 0),(0,.f qI a.2.1),(1,.f qI a.2.2),(2,.o (lW prog (fun (x:Bool×Bool)=> [.b x.1,.b x.2]) (fun (r:Bool)=> .b r) (fun x=>p2 x.1 x.2)))],[(0,rwI a.1)],1⟩ ⟨O.kn (O.mv (Gu.mk R R) R R) t,O.mv (Gu.mk R R) R R,O.ix sl26 (Gu.mk R R) R R X R,O.ld nag3 (Gu.mk R R) R (.E lv3) R R,O.mv (Gu.mk R R) R R,O.ix sl26 (Gu.mk R R) R R Y R,O.ld nag3 (Gu.mk R R) R (.E lv3) R R,O.bi (Gu.mk R R) R R R R,O.pkF (Gu.mk R R) R R R R,O.pkT Z R R R R,O.as Z R R,trivial⟩ (by kernel_rfl) R ((q _ hm).s0 R)
    ·skip
     exact .drF G [(1,tT 3),(1,tT 4),(1,tT 5),(1,tT 6),(1,tT 7),(1,tT 8),(1,tT 9),(1,tT 10),(1,tT 8),(1,tA 8 (fA 3 (tT 1))),(1,tA 8 (fA 3 (tT 2))),(1,tT 14),(1,tT 15),(1,tT 16),(1,tT 17)] [_,_,_,_,_,_,_,_,_,_,_,_,_,_,_] ⟨[(9,.b false),(8,.b e),(7,.h 0),(0,.f qI a.2.1),(1,.f qI a.2.2),(2,.o (lW prog (fun (x:Bool×Bool)=> [.b x.1,.b x.2]) (fun (r:Bool)=> .b r) (fun x=>p2 x.1 x.2)))],[(0,rwI a.1)],1⟩ ⟨O.kn (zM R) s,zK R,zK R,zK R,zK R,O.skipU R R R,O.skipU R R R,O.skipU R R R,O.skipU R R R,O.skipU R R R,O.skipU R R R,O.skipU R R R,zK R,O.pkF Z R R R R,O.as Z R R,trivial⟩ (by kernel_rfl) R ((q _ hm).s0 R)
  ·intro p;refine .sub (τ:=⟨[(7,.h 0),(0,.f qI a.2.1),(1,.f qI a.2.2),(2,.o (lW prog (fun (x:Bool×Bool)=> [.b x.1,.b x.2]) (fun (r:Bool)=> .b r) (fun x=>p2 x.1 x.2)))],[(0,rwI a.1)],1⟩) ?_ [] R;refine .drP 3 [(1,[]),(1,[oT]),(1,[oT,oT])] [_,_,_] ⟨zM R,O.len sl26 Z R R,O.bi Z R R R R,trivial⟩ fun I=>?_;rcases ifS hm with ⟨u,hm⟩|⟨u,hm⟩
   ·skip
    refine .drX I 7 [(1,tT 3),(1,tT 4),(1,tT 5),(1,tT 6)] [_,_,_,_] ⟨O.kn (zM R) u,O.mv (Gu.mk R R) R R,O.len sl26 (Gu.mk R R) R R,O.bi (Gu.mk R R) R R R R,trivial⟩ (by kernel_rfl) fun J=>?_;rcases ifS hm with ⟨v,hm⟩|⟨v,hm⟩
    ·skip
     exact .drF J [(1,tT 7),(1,tT 8),(1,tT 9),(1,tT 10),(1,tT 8),(1,tA 8 (fA 3 (tT 1))),(1,tA 8 (fA 3 (tT 2))),(1,tT 14),(1,tT 15),(1,tT 16),(1,tT 17)] [_,_,_,_,_,_,_,_,_,_,_] ⟨[(8,.b true),(7,.h 0),(0,.f qI a.2.1),(1,.f qI a.2.2),(2,.o (lW prog (fun (x:Bool×Bool)=> [.b x.1,.b x.2]) (fun (r:Bool)=> .b r) (fun x=>p2 x.1 x.2)))],[(0,rwI a.1)],1⟩ ⟨O.kn (O.mv (Gu.mk R R) R R) v,zK R,zK R,zK R,zK R,zK R,zK R,zK R,O.pkT (Gu.mk R R) R R R R,O.pkT Z R R R R,O.as Z R R,trivial⟩ (by kernel_rfl) R ((p _ hm).s0 R)
    ·skip
     exact bS hm fun b0 a0 hm=>bS hm fun b1 a1 hm=> .drF J [(1,tT 7),(1,tT 8),(1,tT 9),(1,tT 10),(1,tT 8),(1,tA 8 (fA 3 (tT 1))),(1,tA 8 (fA 3 (tT 2))),(1,tT 14),(1,tT 15),(1,tT 16),(1,tT 17)] [_,_,_,_,_,_,_,_,_,_,_] ⟨[(8,.b (decide (b0≤b1))),(7,.h 0),(0,.f qI a.2.1),(1,.f qI a.2.2),(2,.o (lW prog (fun (x:Bool×Bool)=> [.b x.1,.b x.2]) (fun (r:Bool)=> .b r) (fun x=>p2 x.1 x.2)))],[(0,rwI a.1)],1⟩ ⟨O.kn (O.mv (Gu.mk R R) R R) v,O.mv (Gu.mk R R) R R,O.ix sl26 (Gu.mk R R) R R a0 R,O.ld nag3 (Gu.mk R R) R (.E lv3) R R,O.mv (Gu.mk R R) R R,O.ix sl26 (Gu.mk R R) R R a1 R,O.ld nag3 (Gu.mk R R) R (.E lv3) R R,O.bi (Gu.mk R R) R R R R,O.pkF (Gu.mk R R) R R R R,O.pkT Z R R R R,O.as Z R R,trivial⟩ (by kernel_rfl) R ((p _ hm).s0 R)
   ·skip
    exact .drF I [(1,tT 3),(1,tT 4),(1,tT 5),(1,tT 6),(1,tT 7),(1,tT 8),(1,tT 9),(1,tT 10),(1,tT 8),(1,tA 8 (fA 3 (tT 1))),(1,tA 8 (fA 3 (tT 2))),(1,tT 14),(1,tT 15),(1,tT 16),(1,tT 17)] [_,_,_,_,_,_,_,_,_,_,_,_,_,_,_] ⟨[(8,.b false),(7,.h 0),(0,.f qI a.2.1),(1,.f qI a.2.2),(2,.o (lW prog (fun (x:Bool×Bool)=> [.b x.1,.b x.2]) (fun (r:Bool)=> .b r) (fun x=>p2 x.1 x.2)))],[(0,rwI a.1)],1⟩ ⟨O.kn (zM R) u,zK R,zK R,zK R,zK R,O.skipU R R R,O.skipU R R R,O.skipU R R R,O.skipU R R R,O.skipU R R R,O.skipU R R R,O.skipU R R R,zK R,O.pkF Z R R R R,O.as Z R R,trivial⟩ (by kernel_rfl) R ((p _ hm).s0 R)
 ·intro N;rcases yEt (decide ((a.2.1.length:Int)>0)) with hc|hc
  ·refine .know (d:=14) R hc ?_;exact .s2 R R (.sk R (.pT R ((N true (orT hc).symm).s0 R)))
  ·refine .know (d:=14) R hc ?_;exact .mg R (.op (O.len sl26 (Gu.mk R R) R R) R (.bg R (.pF R ((N (decide ((a.2.2.length:Int)>0)) (orF hc).symm).s0 R))))
def y5I(p0:Bool)(p1:Bool):Option Bool:=
 some (p0&&p1)
theorem y8F{p0:Bool}{p1:Bool}{r:Bool}(hm:y5I p0 p1=some r):
  F0 243 [.b p0,.b p1] [] (.b r) []:=by
 refine Fw.mk2 func243 ntmps243 R (fun C=>?_) R;refine .sr (.an R (.sv R (.mv R ?_)));refine .cut 2 (fun (a:Bool)=>(p0&&p1)=a) (fun a=>⟨[(8,.b a)],[],0⟩) ?_ ?_
 ·rintro _ rfl;refine .an R (.ret ?_);cases hm;exact .r0 results243 (.tmp R .nil) R R
 ·intro c;rcases yEt p0 with hc|hc
  ·refine .know (d:=6) R hc ?_;exact .mg R (.pT R ((c p1 (andT hc).symm).s0 R))
  ·refine .know (d:=6) R hc ?_;exact .sk R (.pF R ((c false (andF hc).symm).s0 R))
def y4Y(p0:LI)(p1:LI):Option LI:=
 (y4w p0 p1 y5I).bind fun a=>
 some a
theorem y9m{r:LI}(hm:y4Y p0 p1=some r):
  F0 162 [.f qI p0,.f qI p1] [] (.h 0) [rwI r]:=by
 refine Fw.mk2 func162 ntmps162 R (fun C=>?_) R;refine .sr (.an R (.sv R (.mv R (bS hm fun b a hm=> .op (O.cac (r':= .h 0) [0] [(0,rwI b)] (some 1) (y6w a) cf139 R R Z R R ⟨⟨R,.rf⟩,⟨R,.rf⟩,⟨R,(.c (.fn cf243 (fun x r h=>y8F h) (fun _=>R)) .n)⟩,trivial⟩ R ⟨⟨_,R,I4⟩,trivial⟩ I3 R) R (.an R (.ret ?_))))));cases hm;exact .rr [0] results162 (.tmp R .nil) R I3 ⟨⟨_,R,I4⟩,trivial⟩
def y5O(p0:Bool):Option ByteArray:=
 if p0 then
  some (⟨#[116,114,117,101]⟩:ByteArray)
 else
  some (⟨#[102,97,108,115,101]⟩:ByteArray)
theorem y7m{p0:Bool}{r:ByteArray}(hm:y5O p0=some r):
    F0 242 [.b p0] [] (.o (lV (.string r))) []:=by
  refine Fw.mk2 func242 ntmps242 R (fun C=>?_) R;refine .sr (.an R (.seq (.sv R (.ns ?_))));refine .cc hm R (fun hm=>?_) fun hm=>?_
  ·refine .sr (.an R (.ret (.seqR ?_)));cases hm;exact .r0 results242 (.tmp R .nil) R R
  ·refine .sn (.sr (.an R (.ret ?_)));cases hm;exact .r0 results242 (.tmp R .nil) R R
def y6e(p0:Bool):Option ByteArray:=
 (y5O p0).bind fun a=>
 some a
theorem y9n{p0:Bool}{r:ByteArray}(hm:y6e p0=some r):
  F0 161 [.b p0] [] (.o (lV (.string r))) []:=by
 refine Fw.mk2 func161 ntmps161 R (fun C=>?_) R;refine .sr (.an R (.sv R (bS hm fun c a hm=> .c0 (y7m a) cf242 R (.an R (.ret ?_)))));cases hm;exact .r0 results161 (.tmp R .nil) R R
def y1K(a:Int×LI×(List (ByteArray×Int)))(c:Int)(b:List (ByteArray×Int)):Option ((Int×LI×(List (ByteArray×Int)))⊕LI):=
 (app a.2.1 ([c]:LI)).bind fun d=>
 some (.inl (W (a.1+1),d,b))
def y3C(p0:List ByteArray)(a:Int×LI×(List (ByteArray×Int))):Option ((Int×LI×(List (ByteArray×Int)))⊕LI):=
 if decide (a.1<(p0.length:Int)) then
  (idx p0 a.1).bind fun b=>
  if(!((kget a.2.2 b).isSome)) then
   y1K a (a.2.2.length:Int) (kput a.2.2 b (a.2.2.length:Int))
  else
   y1K a ((kget a.2.2 b).getD 0) a.2.2
 else
  some (.inr a.2.1)
def y3a(p0:List ByteArray):Option LI:=
 (iter (y3C p0) (0,([]:LI),([]:List (ByteArray×Int)))).bind fun a=>
 some a
theorem y6x{p0:List ByteArray}{r:LI}(hm:y3a p0=some r):
  F0 163 [.f rStr p0] [] (.h 0) [rwI r]:=by
 refine Fw.mk2 func163 ntmps163 R (fun C=>?_) R;refine .sr (.an R (.sr (.op (O.mk2 (kv:=kvS) (r:=qI) 0 R Z R) R (.an R (.sr (.an R (.seq (.sv R (.ln sl222 R (.mv R (.ns (.block (bS hm fun g m hm=>?_)))))))))))));refine .cut1 (z:= .exit 0) g (fun (g:LI)=>⟨[(4,.h 0)],[(0,rwI g)],1⟩) ?_ fun u=>?_
 ·skip
  refine .blkE (.seqN (.sv R (.an R (.ret ?_))));cases hm;exact .rr [0] results163 (.tmp R .nil) R I3 ⟨⟨_,R,I4⟩,trivial⟩
 refine .nlg qI 3 4 0 R R (.iter (fun (a:Int×LI×(List (ByteArray×Int)))=>⟨[(12,.i a.1),(11,.i p0.length),(10,.f rStr p0),(4,.h 0),(3,.h 1)],[(0,rwI a.2.1),(1,MAP kvS qI 216 a.2.2)],2⟩) m [(0,1),(1,0)] R ?_);intro a j hm t s;refine .sr (.bi R (.ns (.seq ?_)));refine .cc hm R (fun hm=>?_) fun hm=> .xx ((u _ (s _ (oj hm))).s0 R);refine .sn (.seq (.block (.sr (bS hm fun l p hm=> .ix sl222 p R (.le nag9 lv9 R (.an R (.sv R (.mv R (.op (O.mi2 (k:=l) md216 Z (.ow R R) (.o R) R) R (.mv R (.ex R (.ex R (.sa R (.an R ?_))))))))))))));refine .join2 (fun (b:Int) (d:List (ByteArray×Int))=>y1K a b d=some j) (fun b d=>⟨[(7,.i b),(12,.i a.1),(11,.i p0.length),(10,.f rStr p0),(4,.h 0),(3,.h 1)],[(0,rwI a.2.1),(1,MAP kvS qI 216 d)],2⟩) ?_ ?_
 ·intro b d hm;exact .reg (.mv R (.mv R (.bf (r:=qI) ([b]:LI) bs26 R (.c .k .n) R (bS hm fun w q hm=> .ap 2 underlying26 el3 R R (.fr R) q (.sa R (.nil (.blkN (.seqN (.reg (.bi R (.mv R (.nil ((t _ (oj hm)).sub [(0,2)] R)))))))))))))
 ·intro e;refine .sv R (.no R (.ns ?_));exact .cc hm R (fun hm=> .sv R (.op (O.lenM underlying216 Z (.ow R R) R) R (.an R (.reg (.mv R (.mv R (.mv R (.op (O.mu (k:=l) (v:=(a.2.2.length:Int)) md216 (fun _ _=>eqS) Z R R (.o R) R .k) R (.nil ((e _ _ hm).s0 R)))))))))) fun hm=> .skip ((e _ _ hm).s0 R)
def y4g(a:LI×Int×Int)(b:LI)(c:Int):Option ((LI×Int×Int)⊕(LI×Int)):=
 some (.inl (b,W (a.2.1+1),c))
def y5r(b:Int)(a:LI×Int×Int):Option ((LI×Int×Int)⊕(LI×Int)):=
 if decide (a.2.1<((a.1.length-b.toNat:Nat):Int)) then
  (idxV a.1 b.toNat a.2.1).bind fun c=>
  (idxV a.1 b.toNat (W (a.2.1-1))).bind fun d=>
  if(c != d) then
   (idxV a.1 b.toNat a.2.1).bind fun e=>
   (idx a.1 a.2.2).bind fun g=>
   (upd a.1 a.2.2 e).bind fun f=>
   y4g a f (W (a.2.2+1))
  else
   y4g a a.1 a.2.2
 else
  some (.inr (a.1,a.2.2))
def y5s(p0:LI)(a:Int):Option (Int⊕(Unit⊕LI)):=
 if decide (a<(p0.length:Int)) then
  (idx p0 a).bind fun c=>
  (idx p0 (W (a-1))).bind fun d=>
  if(c==d) then
   (slc p0 a (p0.length:Int)).bind fun _=>
   (iter (y5r a) (p0,1,a)).bind fun b=>
   (slc b.1 b.2 (b.1.length:Int)).bind fun _=>
   (slc (b.1.take b.2.toNat++List.replicate (b.1.length-b.2.toNat) (0:Int)) 0 b.2).bind fun e=>
   some (.inr (.inr (e)))
  else
   some (.inl (W (a+1)))
 else
  some (.inr (.inl ()))
def y2B(p0:LI):Option LI:=
 if decide ((p0.length:Int)<2) then
  some p0
 else
  (iter (y5s p0) 1).bind fun a=>
  match a with
  | .inl c=>
   some p0
  | .inr (b)=>
   some b
theorem y5J{r:LI}(hm:y2B p0=some r):
    Fw prog 61 ⟨1,[0]⟩ [.h 0] [rwI p0] (.f qI r) [.u]:=by
  refine Fw.mk2 func61 ntmps61 R (fun C=>?_) R;refine .sr (.an R (.seq (.sv R (.lh sl26 R (.bi R (.ns ?_))))));refine .cc hm R (fun hm=>?_) fun hm=>?_
  ·refine .sv R (.an R (.ret (.seqR (.fz 0 [2] [] R R fR R R (.ou 0 R ?_)))));cases hm;exact .rr [0] results61 (.tmp R .nil) R I3 ⟨⟨_,R,fun _ _ _ _ _=>trivial⟩,trivial⟩
  ·refine .sn (.seq (.sr (.an R (.block (bS hm fun y B hm=>?_)))));refine .cutU (z:= .exit 0) (fun w=> .inl w=y) (fun (w:Unit)=>⟨[(0,.h 0)],[(0,rwI p0)],1⟩) ?_ fun J=>?_
   · rintro w rfl;dsimp only at hm;refine .blkE (.seqN (.sv R (.an R (.ret (.fz 0 [2] [] R R fR R R (.ou 0 R ?_))))));cases hm;exact .rr [0] results61 (.tmp R .nil) R I3 ⟨⟨_,R,fun _ _ _ _ _=>trivial⟩,trivial⟩
   refine .cutU (z:= .ret) (fun j=> .inr (j)=y) (fun (j:LI)=>⟨[(2,.h 1)],[(1,rwI j)],2⟩) ?_ fun K=>?_
   · rintro j rfl;dsimp only at hm;refine .blkR (.seqR (.fz 1 [2] [] R R fR R R (.ou 0 R ?_)));cases hm;exact .rr [0] results61 (.tmp R .nil) R I3 ⟨⟨_,R,fun _ _ _ _ _=>trivial⟩,trivial⟩
   refine .iter (fun (c:Int)=>⟨[(3,.i c),(0,.h 0)],[(0,rwI p0)],1⟩) B [] R ?_;intro c V hm H v;refine .seq (.sv R (.mv R (.lh sl26 R (.bi R (.ns ?_)))));refine .cc hm R (fun hm=>?_) fun hm=> .xx ((J _ (v _ (oj hm))).s0 R);refine .sn (.seq (.block (.seq ?_)));refine .sub (τ:=⟨[(3,.i c),(0,.h 0)],[(0,rwI p0)],1⟩) ?_ [] R;refine bS hm fun M m hm=>bS hm fun N n hm=>?_;refine .drw [(1,[]),(1,[]),(1,[oT,oT]),(1,tT 3),(1,[]),(1,[]),(1,[oF,oF,oF,oF,oF,oT]),(1,fA 4 (tT 3)),(1,fA 4 (tT 4)),(1,tT 9)] [_,_,_,_,_,_,_,_,_,_] ⟨[(25,.b (M==N)),(3,.i c),(0,.h 0)],[(0,rwI p0)],1⟩ ⟨zM R,zM R,O.ir sl26 Z R R R m R,O.ld nag3 Z R (.R R m lv3) R R,zM R,zM R,O.bi Z R R R R,O.ir sl26 Z R R R n R,O.ld nag3 Z R (.R R n lv3) R R,O.bi Z R R R R,trivial⟩ (by kernel_rfl) R ?_;refine .seqN ?_;refine .cc hm R (fun hm=>?_) fun hm=> .skip (.blkN (.seqN (.reg (.mv R (.bi R (.sa R (.nil ((H _ (oj hm)).s0 R))))))));refine .sv R (.mv R (bS hm fun _ T hm=> .op (O.slv sl26 Z R R R T R) R (.an R (.seq (.sr (.an R (.block (bS hm fun g D hm=>?_))))))));refine .cut1 (z:= .exit 2) g (fun (g:LI×Int)=>⟨[(3,.i g.2),(0,.h 0)],[(0,rwI g.1)],1⟩) ?_ fun L=>?_
   · skip
     exact .blkE (.seqN (.sv R (.mv R (bS hm fun _ U hm=> .op (O.slv sl26 Z R R R U R) R (.op (O.clV (r:=qI) (z0:=(0:Int)) sl26 zc3 Z R R) R (.nr (.mv R (.mv R (bS hm fun W E hm=> .op (O.sho 1 sl26 R Z R R R E R) R (.an R (.ret (.blkR (.seqR (.seqR ((K _ (v _ (oj hm))).s0 R)))))))))))))))
   refine .iter (fun (a:LI×Int×Int)=>⟨[(5,.i a.2.1),(4,.o (lVw 0 1 c.toNat)),(3,.i a.2.2),(0,.h 0)],[(0,rwI a.1)],1⟩) D [] R ?_;intro a x hm I G;refine .seq (.sv R (.mv R (.op (O.lenV (r:=qI) sl26 Z R R R) R (.bi R (.ns ?_)))));refine .cc hm R (fun hm=>?_) fun hm=> .xx ((L _ (G _ (oj hm))).s0 R);refine .sn ?_;refine .join2 (fun (d:LI) (e:Int)=>y4g a d e=some x) (fun d e=>⟨[(3,.i e),(5,.i a.2.1),(4,.o (lVw 0 1 c.toNat)),(0,.h 0)],[(0,rwI d)],1⟩) ?_ ?_
   · intro d e hm;exact .reg (.mv R (.bi R (.sa R (.nil ((I _ (oj hm)).s0 R)))))
   · intro l;refine .block (.seq ?_);refine .sub (τ:=⟨[(5,.i a.2.1),(4,.o (lVw 0 1 c.toNat)),(3,.i a.2.2),(0,.h 0)],[(0,rwI a.1)],1⟩) ?_ [] R;refine bS hm fun P p hm=>bS hm fun Q q hm=>?_;refine .drw [(1,[]),(1,[]),(1,[oT,oT]),(1,tT 3),(1,[]),(1,[]),(1,[oF,oF,oF,oF,oF,oT]),(1,fA 4 (tT 3)),(1,fA 4 (tT 4)),(1,tT 9)] [_,_,_,_,_,_,_,_,_,_] ⟨[(44,.b (P != Q)),(5,.i a.2.1),(4,.o (lVw 0 1 c.toNat)),(3,.i a.2.2),(0,.h 0)],[(0,rwI a.1)],1⟩ ⟨zM R,zM R,O.irV (r:=qI) sl26 Z R R R p R,O.ld nag3 Z R (.R R (y5d p).2 lv3) R R,zM R,zM R,O.bi Z R R R R,O.irV (r:=qI) sl26 Z R R R q R,O.ld nag3 Z R (.R R (y5d q).2 lv3) R R,O.bi Z R R R R,trivial⟩ (by kernel_rfl) R ?_;exact .seqN (.cc hm R (fun hm=> .sv R (.mv R (.mv R (.mv R (bS hm fun S s hm=> .op (O.irV (r:=qI) sl26 Z R R R s R) R (.op (O.ld nag3 Z R (.R R (y5d s).2 lv3) R R) R (bS hm fun X t hm=> .op (O.ir sl26 Z R R R t R) R (bS hm fun Y F hm=> .op (O.su (z:=S) nag3.sz Z R R t F R R R lv3 R .k) R (.ns (.reg (.mv R (.bi R (.sa R (.nil (.blkN ((l _ _ hm).s0 R)))))))))))))))) fun hm=> .skip (.blkN ((l _ _ hm).s0 R)))
theorem y5n{r:LI}(hm:yK p0=some r):Fw prog 60 ⟨1,[0]⟩ [.h 0] [ROW qI 3 p0] (.tp []) [ROW qI 3 r]:=
 ⟨fun ts β s vs ht _ _ hp ⟨v,us,h,hu,e2⟩ ho=>by
  have hu:us= []:=hu;subst hu;subst e2;obtain⟨t,rfl⟩:∃t,ts= [t]:=by
   match ts,ht with
   | [t],_=>exact⟨t,rfl⟩
  obtain⟨a,c,e,h2⟩:=ho 0 _ rfl;have hv:v= .slice a p0.length c:=h.1.trans e;subst hv;have hl:r.length=p0.length:=by
   unfold yK at hm;split at hm
   ·rw [←ySi hm];exact(y2e _).length_eq
   ·cases hm
  exact Calls.mono (yax (hp t (.head _)) h2 hm) fun en w' ⟨v,s',e1,e2,m,hv,hr⟩=>⟨v,s',e1,e2,m.weak fun t' ht'=>⟨0,.head _,by rw [show t'=t from ht'];rfl⟩,β,fun _ _=>rfl,⟨[],rfl,hv⟩,fun i o ho=>by
   match i,ho with
   | 0,ho=>cases ho;exact⟨a,c,by rw [e,hl],hr⟩⟩⟩
def yU(b:LI)(a:ByteArray×Int):Option ((ByteArray×Int)⊕ByteArray):=
 if decide (a.2<(b.length:Int)) then
  (idx b a.2).bind fun e=>
  (y5e e).bind fun c=>
  (sadd c (⟨#[32]⟩:ByteArray)).bind fun f=>
  (yy a.1 f).bind fun d=>
  some (.inl (d,W (a.2+1)))
 else
  some (.inr a.1)
def y3f(p1:LI)(p2:LI)(a:Int×LI):Option ((Int×LI)⊕LI):=
 if decide (a.1<(p2.length:Int)) then
  (idx p2 a.1).bind fun b=>
  (idx p1 b).bind fun c=>
  (app a.2 ([c]:LI)).bind fun d=>
  some (.inl (W (a.1+1),d))
 else
  some (.inr a.2)
def y4h(p0:ByteArray)(p1:LI)(p2:LI):Option ByteArray:=
 (iter (y3f p1 p2) (0,([]:LI))).bind fun e=>
 (yK e).bind fun b=>
 (y2B b).bind fun c=>
 (iter (yU c) (p0,0)).bind fun a=>
 (yy a (⟨#[59,32]⟩:ByteArray)).bind fun d=>
 some d
theorem y8k{p0:ByteArray}{p2:LI}{r:ByteArray}(hm:y4h p0 p1 p2=some r):
  Fw prog 166 ⟨1,[0]⟩ [.h 0,.f qI p1,.f qI p2] [SBL p0] (.tp []) [SBL r]:=by
 refine Fw.mk2 func166 ntmps166 R (fun C=>?_) R;refine .sr (.an R (.seq (.sv R (.ln sl26 R (.mv R (.ns (.block (bS hm fun y E hm=>?_))))))));refine .cut1 (z:= .exit 0) y (fun (y:LI)=>⟨[(6,.h 1),(0,.h 0)],[(0,SBL p0),(1,rwI y)],2⟩) ?_ fun B=>?_
 ·skip
  refine .blkE (.seqN (.sv R (bS hm fun H j hm=> .cm (r':= .tp []) [1] [(0,rwI H)] none (y5n j) cf60 R ⟨⟨_,R,I4⟩,trivial⟩ R (.ns (.seq (.sv R (bS hm fun d l hm=> .cm (r':= .f qI d) [1] [(0,.u)] none (y5J l) cf61 R ⟨⟨_,R,fun _ _ _ _ _=>trivial⟩,trivial⟩ R (.ln sl26 R (.mv R (.ns (.block (bS hm fun b g hm=>?_))))))))))));refine .cut1 (z:= .exit 2) b (fun (b:ByteArray)=>⟨[(0,.h 0)],[(0,SBL b)],1⟩) ?_ fun D=>?_
  ·skip
   refine .blkE (.seqN (.reg (.mv R (bS hm fun I m hm=> .cm (r':= .u) [0] [(0,SBL I)] none (y3H m) cf164 R ⟨⟨_,R,I4⟩,trivial⟩ R (.nil ?_)))));cases hm;exact WX.rt [0] (.inr R) results166 .nil R I3 ⟨⟨_,R,I4⟩,trivial⟩
  refine .iter (fun (a:ByteArray×Int)=>⟨[(30,.i a.2),(29,.i d.length),(28,.f qI d),(0,.h 0)],[(0,SBL a.1)],1⟩) g [] R ?_;intro a L hm x w;refine .sr (.bi R (.ns (.seq ?_)));exact .cc hm R (fun hm=> .sn (.seq (.block (.sr (bS hm fun P q hm=> .ix sl26 q R (.le nag3 lv3 R (.an R (.reg (.mv R (.mv R (bS hm fun N o hm=> .c0 (y8E o) cf165 R (bS hm fun T ez27 hm=> .op (O.sad2 Z R R ez27 R) R (bS hm fun J p hm=> .cm (r':= .u) [0] [(0,SBL J)] none (y3H p) cf164 R ⟨⟨_,R,I4⟩,trivial⟩ R (.nil (.blkN (.seqN (.reg (.bi R (.mv R (.nil ((x _ (oj hm)).s0 R))))))))))))))))))))) fun hm=> .xx ((D _ (w _ (oj hm))).s0 R)
 refine .nlg qI 3 6 0 R R (.iter (fun (e:Int×LI)=>⟨[(13,.i e.1),(12,.i p2.length),(11,.f qI p2),(6,.h 1),(0,.h 0),(1,.f qI p1)],[(0,SBL p0),(1,rwI e.2)],2⟩) E [] R ?_);intro e M hm G F;refine .sr (.bi R (.ns (.seq ?_)));exact .cc hm R (fun hm=> .sn (.seq (.block (.sr (bS hm fun Q s hm=> .ix sl26 s R (.le nag3 lv3 R (.an R (.reg (.mv R (.mv R (.mv R (bS hm fun K t hm=> .ix sl26 t R (.le nag3 lv3 R (.bf (r:=qI) ([K]:LI) bs26 R (.c .k .n) R (bS hm fun S v hm=> .ap 2 underlying26 el3 R R (.fr R) v (.sa R (.nil (.blkN (.seqN (.reg (.bi R (.mv R (.nil ((G _ (oj hm)).sub [(1,2)] R)))))))))))))))))))))))) fun hm=> .xx ((B _ (F _ (oj hm))).s0 R)
def y1X(p0:LI)(p1:LI)(a:Int):Option (Int⊕(Unit⊕Unit)):=
 if decide (a<(p0.length:Int)) then
  (idx p0 a).bind fun b=>
  (idx p1 a).bind fun c=>
  if(b != c) then
   some (.inr (.inr (())))
  else
   some (.inl (W (a+1)))
 else
  some (.inr (.inl ()))
def yF(p0:LI)(p1:LI):Option Bool:=
 if((p0.length:Int) != (p1.length:Int)) then
  some false
 else
  (iter (y1X p0 p1) 0).bind fun a=>
  match a with
  | .inl b=>
   some true
  | .inr (c)=>
   some false
theorem y4Z{r:Bool}(hm:yF p0 p1=some r):
    F0 21 [.f qI p0,.f qI p1] [] (.b r) []:=by
  refine Fw.mk2 func21 ntmps21 R (fun C=>?_) R;refine .sr (.an R (.seq (.sv R (.ln sl26 R (.mv R (.ln sl26 R (.bi R (.ns ?_))))))));refine .cc hm R (fun hm=>?_) fun hm=>?_
  ·refine .sr (.an R (.ret (.seqR ?_)));cases hm;exact .r0 results21 (.tmp R .nil) R R
  ·refine .sn (.seq (.sv R (.ln sl26 R (.mv R (.ns (.block (bS hm fun l j hm=>?_)))))));refine .cutU (z:= .exit 0) (fun g=> .inl g=l) (fun (g:Unit)=>⟨[],[],0⟩) ?_ fun K7=>?_
   · rintro g rfl;dsimp only at hm;refine .blkE (.seqN (.sr (.an R (.ret ?_))));cases hm;exact .r0 results21 (.tmp R .nil) R R
   refine .cutU (z:= .ret) (fun h=> .inr (h)=l) (fun (h:Unit)=>⟨[(4,.b false)],[],0⟩) ?_ fun K9=>?_
   · rintro h rfl;dsimp only at hm;refine .blkR (.seqR ?_);cases hm;exact .r0 results21 (.tmp R .nil) R R
   refine .iter (fun (a:Int)=>⟨[(13,.i a),(12,.i p0.length),(0,.f qI p0),(1,.f qI p1)],[],0⟩) j [] R ?_;intro a o hm k c;refine .sr (.bi R (.ns (.seq ?_)));refine .cc hm R (fun hm=>?_) fun hm=> .xx ((K7 _ (c _ (oj hm))).s0 R);refine .sn (.seq (.block (.sv R (.an R (.seq ?_)))));refine .sub (τ:=⟨[(5,.i a),(13,.i a),(12,.i p0.length),(0,.f qI p0),(1,.f qI p1)],[],0⟩) ?_ [] R;refine bS hm fun m d hm=>bS hm fun n e hm=>?_;refine .drw [(0,[]),(0,[]),(0,[oT,oT]),(0,tT 3),(0,[]),(0,[]),(0,[oF,oF,oF,oF,oT,oT]),(0,fA 4 (tT 3)),(0,tT 8)] [_,_,_,_,_,_,_,_,_] ⟨[(24,.b (m != n)),(13,.i a),(12,.i p0.length),(0,.f qI p0),(1,.f qI p1)],[],0⟩ ⟨zM R,zM R,O.ix sl26 Z R R d R,O.ld nag3 Z R (.E lv3) R R,zM R,zM R,O.ix sl26 Z R R e R,O.ld nag3 Z R (.E lv3) R R,O.bi Z R R R R,trivial⟩ (by kernel_rfl) R ?_;exact .seqN (.cc hm R (fun hm=> .sr (.an R (.ret (.blkR (.seqR (.seqR ((K9 _ (c _ (oj hm))).s0 R))))))) fun hm=> .skip (.blkN (.seqN (.reg (.bi R (.mv R (.nil ((k _ (oj hm)).s0 R))))))))
def y2I(d:LI×List ByteArray)(b:List LI)(a:Int×ByteArray):Option ((Int×ByteArray)⊕ByteArray):=
 if decide (a.1<(b.length:Int)) then
  (idx b a.1).bind fun e=>
  (y4h a.2 d.1 e).bind fun c=>
  some (.inl (W (a.1+1),c))
 else
  some (.inr a.2)
def y2J(p0:LI×Int×LI×LI×EdgL)(k:List ByteArray×List (List LI))(b:LI×List ByteArray)(a:Int×List ByteArray):Option ((Int×List ByteArray)⊕(List ByteArray)):=
 if decide (a.1<p0.2.1) then
  (idx b.1 a.1).bind fun g=>
  (y5e g).bind fun d=>
  (sadd d (⟨#[58,32]⟩:ByteArray)).bind fun j=>
  (yy (⟨#[]⟩) j).bind fun e=>
  (idx k.2 a.1).bind fun h=>
  (iter (y2I b h) (0,e)).bind fun c=>
  (y3K c).bind fun f=>
  (idx a.2 a.1).bind fun l=>
  (upd a.2 a.1 f).bind fun i=>
  some (.inl (W (a.1+1),i))
 else
  some (.inr a.2)
def y5t(p0:LI×Int×LI×LI×EdgL)(e:List ByteArray×List (List LI))(a:LI×List ByteArray):Option ((LI×List ByteArray)⊕LI):=
 (iter (y2J p0 e a) (0,a.2)).bind fun b=>
 (y3a b).bind fun c=>
 (yF c a.1).bind fun d=>
 if d then
  some (.inr a.1)
 else
  some (.inl (c,b))
def y2K(p0:LI×Int×LI×LI×EdgL)(b:Int×List ByteArray×List (List LI))(a:Int×List (List LI)):Option ((Int×List (List LI))⊕(List (List LI))):=
 if decide (a.1<(p0.1.length:Int)) then
  (idx p0.1 a.1).bind fun d=>
  (y4f p0 ([b.1]:LI) d).bind fun c=>
  (idx a.2 b.1).bind fun e=>
  (app e ([c.1]:List LI)).bind fun f=>
  (idx a.2 b.1).bind fun h=>
  (upd a.2 b.1 f).bind fun g=>
  some (.inl (W (a.1+1),g))
 else
  some (.inr a.2)
def y2L(p0:LI×Int×LI×LI×EdgL)(a:Int×List ByteArray×List (List LI)):Option ((Int×List ByteArray×List (List LI))⊕(List ByteArray×List (List LI))):=
 if decide (a.1<p0.2.1) then
  (y1x p0 ([a.1]:LI)).bind fun b=>
  (idx a.2.2 a.1).bind fun f=>
  (app f ([b.1]:List LI)).bind fun g=>
  (idx a.2.2 a.1).bind fun j=>
  (upd a.2.2 a.1 g).bind fun h=>
  (iter (y2K p0 a) (0,h)).bind fun c=>
  (y4Y b.1 p0.2.2.2.1).bind fun d=>
  (y6e (decide ((d.length:Int)>0))).bind fun e=>
  (app a.2.1 ([e]:List ByteArray)).bind fun i=>
  some (.inl (W (a.1+1),i,c))
 else
  some (.inr a.2)
def y5a(p0:LI×Int×LI×LI×EdgL):Option LI:=
 (mkL p0.2.1 ([]:List LI)).bind fun d=>
 (iter (y2L p0) (0,([]:List ByteArray),d)).bind fun a=>
 (y3a a.1).bind fun c=>
 (iter (y5t p0 a) (c,a.1)).bind fun b=>
 some b
theorem y9o{p0:LI×Int×LI×LI×EdgL}{r:LI}(hm:y5a p0=some r):
  F0 83 [.a (lx29 p0)] [] (.f qI r) []:=by
 refine Fw.mk2 func83 ntmps83 R (fun C=>?_) R;refine .sr (.bo 0 R (.an R (.sr (.fa y2G R (.lb nag3 R (bS hm fun x1 d5 hm=> .op (O.mkN (rL qI) 26 1 underlying221 zv74 R R Z R R d5 R) R (.an R (.sr (.an R (.seq (.sr (.fa y2G R (.lb nag3 R (.mv R (.ns (.block (bS hm fun j c1 hm=>?_)))))))))))))))));refine .cut1 (z:= .exit 0) j (fun (j:List ByteArray×List (List LI))=>⟨[(4,.h 0),(3,.h 1),(1,.q 2 0)],[(0,ROW rStr 9 j.1),(1,TAM (rL qI) 74 26 none j.2),(2,.bx 29 (lx29 p0))],3⟩) ?_ fun d3=>?_
 ·skip
  refine .blkE (.seqN (.sv R (bS hm fun d6 c3 hm=> .op (O.caY (r':= .h 3) [3] [(0,rwI d6)] (some 4) (y6x c3) cf163 R R Z R R ⟨⟨R,.hr R,trivial⟩,trivial⟩ R ⟨.row flr3,trivial⟩ (fun _ _ _ _ h=>h) ⟨⟨_,R,I4⟩,trivial⟩ I3 R) R (.an R (.block (bS hm fun G c2 hm=>?_))))));refine .cut1 (z:= .ret) G (fun (G:LI)=>⟨[(2,.f qI G)],[],0⟩) ?_ fun d4=>?_
  ·skip
   refine .blkR ?_;cases hm;exact .r0 results83 (.tmp R .nil) R R
  refine .fz 1 [3] [] R R fTm R R (.iter (fun (g:LI×List ByteArray)=>⟨[(12,.h 0),(4,.h 1),(3,.f (rL (rL qI)) j.2),(1,.q 2 0)],[(0,rwI g.1),(1,ROW rStr 9 g.2),(2,.bx 29 (lx29 p0))],3⟩) c2 [(0,3),(1,0)] R ?_);intro g e1 hm c7 c5;refine .block (.seq (.sr (.fa y2G R (.lb nag3 R (.mv R (.ns (.block (bS hm fun v J hm=>?_))))))));refine .cut1 (z:= .exit 6) v (fun (v:List ByteArray)=>⟨[(12,.f qI g.1),(4,.h 0),(3,.f (rL (rL qI)) j.2),(1,.q 1 0)],[(0,ROW rStr 9 v),(1,.bx 29 (lx29 p0))],2⟩) ?_ fun b7=>?_
  ·skip
   refine .blkE (.seqN (.sv R (bS hm fun c8 M hm=> .op (O.caY (r':= .h 2) [2] [(0,rwI c8)] (some 3) (y6x M) cf163 R R Z R R ⟨⟨R,.hr R,trivial⟩,trivial⟩ R ⟨.row flr3,trivial⟩ (fun _ _ _ _ h=>h) ⟨⟨_,R,I4⟩,trivial⟩ I3 R) R (.an R (.seq (.sv R (.mv R (bS hm fun e2 N hm=> .op (O.caZ (y4Z N) cf21 R R Z R ⟨⟨R,.hr R,trivial⟩,⟨R,LnL.rf⟩,trivial⟩ (fun _ _ _ _ _ h=>h) R) R (.ns ?_)))))))));exact .cc hm R (fun hm=> .sv R (.an R (.ret (.seqR (.blkR (.seqR ((d4 _ (c5 _ (oj hm))).s0 R))))))) fun hm=> .sn (.reg (.mv R (.sa R (.nil (.blkN ((c7 _ (oj hm)).sub [(0,2),(1,0),(2,1)] R))))))
  refine .fz 0 [12] [] R R fR R R (.iter (fun (b:Int×List ByteArray)=>⟨[(84,.i b.1),(83,.i p0.2.1),(12,.f qI g.1),(4,.h 0),(3,.f (rL (rL qI)) j.2),(1,.q 1 0)],[(0,ROW rStr 9 b.2),(1,.bx 29 (lx29 p0))],2⟩) J [(0,1),(1,2)] R ?_);intro b d7 hm b4 b1;refine .sr (.bi R (.ns (.seq ?_)));refine .cc hm R (fun hm=>?_) fun hm=> .xx ((b7 _ (b1 _ (oj hm))).s0 R);refine .sn (.seq (.block (.sv R (.an R (.sr (.op (O.alS 2 R (by kernel_rfl) Z R) R (.nr (.mv R (.mv R (bS hm fun e4 Y hm=> .ix sl26 Y R (.le nag3 lv3 R (bS hm fun e3 P hm=> .c0 (y8E P) cf165 R (bS hm fun f8 ez124 hm=> .op (O.sad2 Z R R ez124 R) R (bS hm fun c9 Q hm=> .cm (r':= .u) [2] [(0,SBL c9)] none (y3H Q) cf164 R ⟨⟨_,R,I4⟩,trivial⟩ R (.ns (.seq (.sv R (.mv R (bS hm fun I a0 hm=> .ix sl221 a0 R (.le nag74 lv74 R (.ln sl74 R (.mv R ?_))))))))))))))))))))));refine .ns (.block (bS hm fun w K hm=>?_));refine .cut1 (z:= .exit 8) w (fun (w:ByteArray)=>⟨[(14,.h 0),(13,.i b.1),(84,.i b.1),(83,.i p0.2.1),(12,.f qI g.1),(4,.h 1),(3,.f (rL (rL qI)) j.2),(1,.q 2 0)],[(0,SBL w),(1,ROW rStr 9 b.2),(2,.bx 29 (lx29 p0))],3⟩) ?_ fun b8=>?_
  ·skip
   exact .blkE (.seqN (.reg (.mv R (.mv R (bS hm fun H S hm=> .cm (r':= .o (lV (.string H))) [0] [(0,.u)] none (y8c S) cf167 R ⟨⟨_,R,fun _ _ _ _ _=>trivial⟩,trivial⟩ R (bS hm fun e5 D hm=> .op (O.ir sl222 Z R R R D R) R (bS hm fun e6 a1 hm=> .op (O.su (z:=H) nag9.sz Z R R D a1 R R R lv9 R .s) R (.nil (.blkN (.seqN (.reg (.bi R (.mv R (.nil ((b4 _ (oj hm)).sub [(0,1),(1,2)] R)))))))))))))))
  refine .iter (fun (p:Int×ByteArray)=>⟨[(99,.i p.1),(98,.i I.length),(97,.f (rL qI) I),(14,.h 0),(13,.i b.1),(84,.i b.1),(83,.i p0.2.1),(12,.f qI g.1),(4,.h 1),(3,.f (rL (rL qI)) j.2),(1,.q 2 0)],[(0,SBL p.2),(1,ROW rStr 9 b.2),(2,.bx 29 (lx29 p0))],3⟩) K [(0,2),(1,0),(2,1)] R ?_;intro p d8 hm b5 b2;refine .sr (.bi R (.ns (.seq ?_)));exact .cc hm R (fun hm=> .sn (.seq (.block (.sr (bS hm fun e7 a2 hm=> .ix sl74 a2 R (.le nag26 lv26 R (.an R (.reg (.mv R (.mv R (bS hm fun d0 T hm=> .cm (r':= .tp []) [0] [(0,SBL d0)] none (y8k T) cf166 R ⟨⟨_,R,I4⟩,trivial⟩ R (.nil (.blkN (.seqN (.reg (.bi R (.mv R (.nil ((b5 _ (oj hm)).s0 R))))))))))))))))))) fun hm=> .xx ((b8 _ (b2 _ (oj hm))).s0 R)
 refine .nlg rStr 9 4 0 R R (.iter (fun (d:Int×List ByteArray×List (List LI))=>⟨[(23,.i d.1),(22,.i p0.2.1),(4,.h 0),(3,.h 1),(1,.q 2 0)],[(0,ROW rStr 9 d.2.1),(1,TAM (rL qI) 74 26 none d.2.2),(2,.bx 29 (lx29 p0))],3⟩) c1 [(0,2),(2,0)] R ?_);intro d e0 hm c6 c4;refine .sr (.bi R (.ns (.seq ?_)));refine .cc hm R (fun hm=>?_) fun hm=> .xx ((d3 _ (c4 _ (oj hm))).s0 R);refine .sn (.seq (.block (.sv R (.an R (.sr (.lg (lx29 p0) ag29 R (.B R) R (.mv R (.bf (r:=qI) ([d.1]:LI) bs26 R (.c .k .n) R (bS hm fun m U hm=> .cm (r':= .tp [.h 3,.i m.2]) [3] [(0,rwI m.1)] (some 4) (y5W U) cf159 R ⟨⟨_,R,I4⟩,trivial⟩ R (.mv R (.ex R (.ex R (.sa R (.an R (.sv R (.mv R (.mv R (.mv R (bS hm fun e8 E hm=> .op (O.irN sl221 Z R R R E R) R (.op (O.ldN 4 nag74 R Z R R E R) R (.mv R (.fz 3 [39,6] [] R R fR R R (.op (O.bsF (r:=(rL qI)) (zs:=([m.1]:List LI)) bs74 R R Z R R R (.c .l .n) R R R) R (bS hm fun e9 a3 hm=> .ap 5 underlying74 el26 R R (.fr R) a3 (bS hm fun f0 a4 hm=> .op (O.irN sl221 Z R R R a4 R) R ?_)))))))))))))))))))))))));refine bS hm fun f1 a5 hm=> .op (O.stN nag74.sz Z R R a5 R R R (fun _ e=>by cases e;rfl)) R (.ns (.seq (.sr (.fa y5z R (.lb nag26 R (.ln sl26 R (.mv R (.ns (.block (bS hm fun x L hm=>?_))))))))));refine .cut1 (z:= .exit 2) x (fun (x:List (List LI))=>⟨[(6,.f qI m.1),(23,.i d.1),(22,.i p0.2.1),(4,.h 0),(3,.h 1),(1,.q 2 0)],[(0,ROW rStr 9 d.2.1),(1,TAM (rL qI) 74 26 none x),(2,.bx 29 (lx29 p0))],3⟩) ?_ fun b9=>?_
 ·skip
  exact .blkE (.seqN (.reg (.mv R (.mv R (.fa y6u R (.lb nag26 R (bS hm fun d1 V hm=> .cm (r':= .h 3) [3] [(0,rwI d1)] (some 4) (y9m V) cf162 R ⟨⟨_,R,I4⟩,trivial⟩ R (.lh sl26 R (.bi R (bS hm fun d2 W hm=> .c0 (y9n W) cf161 R (.bf (r:=rStr) ([d2]:List ByteArray) bs222 R (.c .s .n) R (bS hm fun f2 a6 hm=> .ap 4 underlying222 el9 R R (.fr R) a6 (.sa R (.nil (.blkN (.seqN (.reg (.bi R (.mv R (.nil ((c6 _ (oj hm)).sub [(0,4)] R)))))))))))))))))))))
 refine .iter (fun (t:Int×List (List LI))=>⟨[(46,.i t.1),(45,.i p0.1.length),(44,.f qI p0.1),(6,.f qI m.1),(5,.i d.1),(23,.i d.1),(22,.i p0.2.1),(4,.h 0),(3,.h 1),(1,.q 2 0)],[(0,ROW rStr 9 d.2.1),(1,TAM (rL qI) 74 26 none t.2),(2,.bx 29 (lx29 p0))],3⟩) L [] R ?_;intro t d9 hm b6 b3;refine .sr (.bi R (.ns (.seq ?_)));refine .cc hm R (fun hm=>?_) fun hm=> .xx ((b9 _ (b3 _ (oj hm))).s0 R);refine .sn (.seq (.block (.sr (bS hm fun f3 a7 hm=> .ix sl26 a7 R (.le nag3 lv3 R (.an R (.sr (.lg (lx29 p0) ag29 R (.B R) R (.mv R (.bf (r:=qI) ([d.1]:LI) bs26 R (.c .k .n) R (.mv R (bS hm fun y X hm=> .cm (r':= .tp [.h 3,.i y.2]) [3] [(0,rwI y.1)] (some 4) (y8j X) cf160 R ⟨⟨_,R,I4⟩,trivial⟩ R (.mv R (.ex R (.ex R (.sa R (.an R (.reg (.mv R (.mv R (.mv R (.mv R (bS hm fun f4 F hm=> .op (O.irN sl221 Z R R R F R) R (.op (O.ldN 4 nag74 R Z R R F R) R (.mv R (.fz 3 [64] [] R R fR R R (.op (O.bsF (r:=(rL qI)) (zs:=([y.1]:List LI)) bs74 R R Z R R R (.c .l .n) R R R) R (bS hm fun f5 a8 hm=> .ap 5 underlying74 el26 R R (.fr R) a8 ?_))))))))))))))))))))))))))));exact bS hm fun f6 a9 hm=> .op (O.irN sl221 Z R R R a9 R) R (bS hm fun f7 b0 hm=> .op (O.stN nag74.sz Z R R b0 R R R (fun _ e=>by cases e;rfl)) R (.nil (.blkN (.seqN (.reg (.bi R (.mv R (.nil ((b6 _ (oj hm)).s0 R)))))))))
def y1Y(p0:LI×Int×LI×LI×EdgL):Option (LI×Int):=
 (yE p0).bind fun a=>
 if(a != 0) then
  some (([]:LI),a)
 else
  (y5a p0).bind fun b=>
  some (b,0)
theorem y6P{p0:LI×Int×LI×LI×EdgL}{r:LI×Int}(hm:y1Y p0=some r):
    F0 24 [.a (lx29 p0)] [] (.tp [.f qI r.1,.i r.2]) []:=by
  refine Fw.mk2 func24 ntmps24 R (fun C=>?_) R;refine .sr (.bo 0 R (.sa R (.an R (.seq (.sr (.lg (lx29 p0) ag29 R (.B R) R (bS hm fun e b hm=> .c0 (y3c b) cf45 R (.an R (.sv R (.bi R (.ns ?_)))))))))));refine .cc hm R (fun hm=>?_) fun hm=>?_
  ·refine .sv R (.sa R (.an R (.ret (.seqR (.cnt 2 R (.c (.nf (r:=qI)) .n) R ?_)))));cases hm;exact .r0 results24 (.tmp R (.tmp R .nil)) R R
  ·refine .sn (.sr (.lg (lx29 p0) ag29 R (.B R) R (bS hm fun g d hm=> .c0 (y9o d) cf83 R (.sa R (.an R (.ret ?_))))));cases hm;exact .r0 results24 (.tmp R (.tmp R .nil)) R R
def y1q(p0:LI)(e:LI)(a:Int×LI):Option ((Int×LI)⊕LI):=
 if decide (a.1<(p0.length:Int)) then
  (idx p0 a.1).bind fun b=>
  (idx e b).bind fun c=>
  (app a.2 ([c]:LI)).bind fun d=>
  some (.inl (W (a.1+1),d))
 else
  some (.inr a.2)
def yw(d:LI)(p0:LI):Option LI:=
 (iter (y1q p0 d) (0,([]:LI))).bind fun c=>
 (yK c).bind fun a=>
 (y2B a).bind fun b=>
 some b
theorem y8d{m:LI}{r:LI}(hm:yw m p0=some r):
  F0 59 [.f qI p0,.o (lQ 26 [lF qI m] 0)] [] (.f qI r) []:=by
 refine Fw.mk2 func59 ntmps59 R (fun C=>?_) R;refine .sr (.an R (.sr (.an R (.seq (.sv R (.ln sl26 R (.mv R (.ns (.block (bS hm fun l q hm=>?_))))))))));refine .cut1 (z:= .exit 0) l (fun (l:LI)=>⟨[(4,.h 0)],[(0,rwI l)],1⟩) ?_ fun p=>?_
 ·skip
  refine .blkE (.seqN (.sv R (bS hm fun v b hm=> .cm (r':= .tp []) [0] [(0,rwI v)] none (y5n b) cf60 R ⟨⟨_,R,I4⟩,trivial⟩ R (.nr (.mv R (bS hm fun w d hm=> .cm (r':= .f qI w) [0] [(0,.u)] none (y5J d) cf61 R ⟨⟨_,R,fun _ _ _ _ _=>trivial⟩,trivial⟩ R (.an R (.ret ?_))))))));cases hm;exact .r0 results59 (.tmp R .nil) R R
 refine .nlg qI 3 4 0 R R (.iter (fun (a:Int×LI)=>⟨[(9,.i a.1),(8,.i p0.length),(7,.f qI p0),(4,.h 0),(1,.o (lQ 26 [lF qI m] 0))],[(0,rwI a.2)],1⟩) q [] R ?_);intro a y hm t s;refine .sr (.bi R (.ns (.seq ?_)));exact .cc hm R (fun hm=> .sn (.seq (.block (.sr (bS hm fun B e hm=> .ix sl26 e R (.le nag3 lv3 R (.an R (.reg (.mv R (.lq nag26 R (.mv R (bS hm fun x g hm=> .ix sl26 g R (.le nag3 lv3 R (.bf (r:=qI) ([x]:LI) bs26 R (.c .k .n) R (bS hm fun D j hm=> .ap 1 underlying26 el3 R R (.fr R) j (.sa R (.nil (.blkN (.seqN (.reg (.bi R (.mv R (.nil ((t _ (oj hm)).sub [(0,1)] R)))))))))))))))))))))))) fun hm=> .xx ((p _ (s _ (oj hm))).s0 R)
def y5h(p0:Int×Int×Int)(p1:Int×Int×Int):Option Int:=
 (yx p0.1 p1.1).bind fun a=>
 (yx p0.2.1 p1.2.1).bind fun b=>
 (yx p0.2.2 p1.2.2).bind fun c=>
 (y5V ([a,b,c]:LI)).bind fun d=>
 some d
theorem y8e{p0:Int×Int×Int}{p1:Int×Int×Int}{r:Int}(hm:y5h p0 p1=some r):
  F0 63 [.a [lI p0.1,lI p0.2.1,lI p0.2.2],.a [lI p1.1,lI p1.2.1,lI p1.2.2]] [] (.i r) []:=by
 refine Fw.mk2 func63 ntmps63 R (fun C=>?_) R;refine .sr (.bo 0 R (.bo 1 R (.an R (.seq ?_))));refine .sub (τ:=⟨[(3,.q 1 0),(2,.q 0 0)],[(1,.bx 112 [lI p1.1,lI p1.2.1,lI p1.2.2]),(0,.bx 112 [lI p0.1,lI p0.2.1,lI p0.2.2])],2⟩) ?_ [] R;refine bS hm fun g b hm=>bS hm fun h d hm=>bS hm fun j e hm=>bS hm fun l f hm=>?_;refine .drw [(2,[]),(2,[oT]),(2,[]),(2,[oF,oF,oT]),(2,tT 4),(2,[]),(2,[oF,oF,oF,oF,oF,oT]),(2,[]),(2,[oF,oF,oF,oF,oF,oF,oF,oT]),(2,tT 9),(2,[]),(2,[oF,oF,oF,oF,oF,oF,oF,oF,oF,oF,oT]),(2,[]),(2,[oF,oF,oF,oF,oF,oF,oF,oF,oF,oF,oF,oF,oT]),(2,tT 14),(2,tT 15),(2,tT 16),(2,tT 17)] [_,_,_,_,_,_,_,_,_,_,_,_,_,_,_,_,_,_] ⟨[(4,.i l)],[],2⟩ ⟨O.faP yS Z R R,zB nag3 R,O.faP yS Z R R,zB nag3 R,O.ca0 (yJ b) cf65 R R Z R R R,O.faP y1V Z R R,zB nag3 R,O.faP y1V Z R R,zB nag3 R,O.ca0 (yJ d) cf65 R R Z R R R,O.faP y1W Z R R,zB nag3 R,O.faP y1W Z R R,zB nag3 R,O.ca0 (yJ e) cf65 R R Z R R R,O.bsF (r:=qI) (zs:=([g,h,j]:LI)) bs26 R R Z R R R (.c .k (.c .k (.c .k .n))) R R R,O.ca0 (y7z f) cf64 R R Z R R R,O.as Z R R,trivial⟩ (by kernel_rfl) R ?_;refine .seqN (.ret ?_);cases hm;exact .r0 results63 (.tmp R .nil) R R
end
end
section
open Go.Proofs.Tryz Go Go.RowKit Go.Sort Go.Lib
theorem ya8{β:Type}{f:β→List Value}{k:Nat}(hk:∀x,(f x).length=k)(k0:0<k):∀(l:List β) (t:Nat),(l.flatMap f)[t]? =(l[t/k]?).bind fun x=>(f x)[t % k]?
 | [],t=>by simp
 | x::l,t=>by
  rw [List.flatMap_cons];by_cases h:t<k
  ·rw [yAl (by rw [hk];exact h),Nat.div_eq_of_lt h,Nat.mod_eq_of_lt h];rfl
  ·obtain ⟨u,rfl⟩:∃u,t=u+k:=⟨t-k,by omega⟩;rw [yAr (by rw [hk];omega),hk,Nat.add_sub_cancel,ya8 hk k0 l u,Nat.add_div_right u k0,Nat.add_mod_right];rfl
theorem yel{β:Type}{f:β→List Value}{k:Nat}(hk:∀x,(f x).length=k):∀l:List β,(l.flatMap f).length=l.length*k
 | []=>by simp
 | x::l=>by rw [List.flatMap_cons,yLa,hk,yel hk l,yLc,Nat.succ_mul,Nat.add_comm]
theorem ygb{w:World}{b off n:Nat}{d:Array Value}{os:Array Obj}{cur:Array Value}{T:TypeId}(h:w.heap[b]? =some (.cells cur T (0,0))):(grow (putRow id (Sort.ahead w n) b off d) os).heap[b]? =some (.cells (putCells id off d cur) T (0,0)):=by
 have hb:b<w.heap.size:=(yAs.1 h).1;show((w.heap.modify b (onCells (putCells id off d)))++os)[b]? =_;rw [Array.getElem?_append_left (by simpa using hb),Array.getElem?_modify,iP rfl,h];rfl
theorem ygc{w:World}{b b' off n:Nat}{d:Array Value}{os:Array Obj}(hb:b'<w.heap.size)(hne:b'≠b):(grow (putRow id (Sort.ahead w n) b off d) os).heap[b']? =w.heap[b']? :=by
 show((w.heap.modify b (onCells (putCells id off d)))++os)[b']? =_;rw [Array.getElem?_append_left (by simpa using hb),Array.getElem?_modify,iN (Ne.symm hne)]
end
section
open Go.Proofs.Tryz Go Go.RowKit Go.Sort Go.Lib Go.Shelf
def insL{α:Type}(lt:α→α→Bool)(x:α):List α→List α
 | []=> [x]
 | y::l=>if lt x y then x::y::l else y::insL lt x l
def srtL{α:Type}(lt:α→α→Bool):List α→List α
 | []=> []
 | x::l=>insL lt x (srtL lt l)
theorem yaP{α:Type}(lt:α→α→Bool)(x:α):∀l,(insL lt x l).Perm (x::l)
 | []=> .refl _
 | y::l=>by
  unfold insL;split
  ·exact .refl _
  ·exact ((yaP lt x l).cons y).trans (.swap _ _ _)
theorem y3t{α:Type}(lt:α→α→Bool):∀l,(srtL lt l).Perm l
 | []=> .refl _
 | x::l=>(yaP lt x _).trans ((y3t lt l).cons x)
structure OrdOn {α:Type} (lt:α→α→Bool) (p:α→Prop):Prop where
 sm:∀x y,p x→p y→lt x y=true→lt y x=false
 nt:∀x y z,p x→p y→p z→lt x y=false→lt y z=false→lt x z=false
theorem yfC{α:Type}{lt:α→α→Bool}{p:α→Prop}(H:OrdOn lt p)(x:α)(hx:p x):∀l:List α,(∀y∈l,p y)→l.Pairwise (fun a b=>lt b a=false)→(insL lt x l).Pairwise fun a b=>lt b a=false
 | [],_,_=>List.pairwise_singleton _ _
 | y::l,hl,h=>by
  unfold insL;split
  ·rename_i hxy;refine List.Pairwise.cons (fun z hz=>?_) h;rcases yMo.1 hz with rfl|hz
   ·exact H.sm _ _ hx (hl _ (.head _)) hxy
   ·exact H.nt _ _ _ (hl _ (.tail _ hz)) (hl _ (.head _)) hx ((yPc.1 h).1 z hz) (H.sm _ _ hx (hl _ (.head _)) hxy)
  ·rename_i hxy;refine List.Pairwise.cons (fun z hz=>?_) (yfC H x hx l (fun _ hz=>hl _ (.tail _ hz)) (yPc.1 h).2);rcases yMo.1 ((yaP lt x l).mem_iff.1 hz) with rfl|hz
   ·simpa using hxy
   ·exact (yPc.1 h).1 z hz
theorem yb2{α:Type}{lt:α→α→Bool}{p:α→Prop}(H:OrdOn lt p):∀l:List α,(∀y∈l,p y)→(srtL lt l).Pairwise fun a b=>lt b a=false
 | [],_=> .nil
 | x::l,h=>yfC H x (h _ (.head _)) _ (fun _ hy=>h _ (.tail _ ((y3t lt l).mem_iff.1 hy))) (yb2 H l fun _ hy=>h _ (.tail _ hy))
def ltf{α:Type}(f:α→α→Option Int)(x y:α):Bool:=match f x y with
 | some z=>decide (z<0)
 | none=>false
def cmpB{α:Type}[DecidableEq α](f:α→α→Option Int)(xs:List α):Bool:=xs.all fun x=>xs.all fun y=>(f x y).isSome && !(ltf f x y&&ltf f y x)&&(ltf f x y||ltf f y x||decide (x=y))&&xs.all fun z=>!ltf f x z||ltf f x y||ltf f y z
def srtF{α:Type}[DecidableEq α](f:α→α→Option Int)(xs:List α):Option (List α):=if xs.length≤4294967296∧cmpB f xs=true then some (srtL (ltf f) xs) else none
theorem y6K{α:Type}[DecidableEq α]{f:α→α→Option Int}{xs:List α}(h:cmpB f xs=true){x y:α}(hx:x∈xs)(hy:y∈xs):(∃z,f x y=some z)∧(ltf f x y=true→ltf f y x=false)∧(ltf f x y=false→ltf f y x=false→x=y)∧∀z∈xs,ltf f x y=false→ltf f y z=false→ltf f x z=false:=by
 have h1:=yAt.1 (yAt.1 h x hx) y hy;simp only [yAe] at h1;obtain⟨⟨⟨h2,h3⟩,h4⟩,h5⟩:=h1;refine⟨Option.isSome_iff_exists.1 h2,fun g=>?_,fun g1 g2=>?_,fun z hz g1 g2=>?_⟩
 ·rw [g] at h3;simpa using h3
 ·rw [g1,g2] at h4;simpa using h4
 ·have:=yAt.1 h5 z hz;rw [g1,g2] at this;simpa using this
theorem ybI{α:Type}[DecidableEq α]{f:α→α→Option Int}{xs:List α}(h:cmpB f xs=true):OrdOn (ltf f) (· ∈xs):=
 ⟨fun _ _ hx hy=>(y6K h hx hy).2.1,fun _ _ z hx hy hz=>(y6K h hx hy).2.2.2 z hz⟩
theorem exAll{α:Type}(d:Array α)(n:Nat)(h:d.size=n):d.extract 0 n=d:=by
 subst h;simp
section
variable{α:Type}[DecidableEq α]{mf:α→α→Option Int}{p0:List α}
def cmI(mf:α→α→Option Int)(p0:List α)(i j:_root_.Fin p0.length):Int:=(mf (p0.get i) (p0.get j)).getD 0
theorem yci(h:cmpB mf p0=true)(i j:_root_.Fin p0.length):ltOf (cmI mf p0) i j=ltf mf (p0.get i) (p0.get j):=by
 obtain⟨z,hz⟩:=(y6K h (List.get_mem p0 i) (List.get_mem p0 j)).1;unfold ltOf cmI ltf;rw [hz];rfl
theorem yfD(h:cmpB mf p0=true):SWO (ltOf (cmI mf p0)):=by
 have hi:∀i:_root_.Fin p0.length,ltf mf (p0.get i) (p0.get i)=false:=fun i=>by
  cases hl:ltf mf (p0.get i) (p0.get i) with
  | false=>rfl
  | true=>have:=(y6K h (List.get_mem p0 i) (List.get_mem p0 i)).2.1 hl;rw [hl] at this;exact this
 refine⟨fun i=>by rw [yci h];exact hi i,fun i j k g1 g2=>?_,fun i j k g1 g2=>?_⟩
 ·rw [yci h] at *;cases hl:ltf mf (p0.get i) (p0.get k) with
  | true=>rfl
  | false=>
   have g3:=(y6K h (List.get_mem p0 j) (List.get_mem p0 k)).2.1 g2;have:=(y6K h (List.get_mem p0 i) (List.get_mem p0 k)).2.2.2 _ (List.get_mem p0 j) hl g3;rw [this] at g1;cases g1
 ·rw [yci h] at *;exact(y6K h (List.get_mem p0 i) (List.get_mem p0 j)).2.2.2 _ (List.get_mem p0 k) g1 g2
theorem yjx [Inhabited (_root_.Fin p0.length)](h:cmpB mf p0=true):
  (pdq (ltOf (cmI mf p0)) (List.finRange p0.length).toArray 0 p0.length (Lib.bitLen p0.length) true true).toList.map p0.get=srtL (ltf mf) p0∧(pdq (ltOf (cmI mf p0)) (List.finRange p0.length).toArray 0 p0.length (Lib.bitLen p0.length) true true).size=p0.length:=by
 have hsz:(List.finRange p0.length).toArray.size=p0.length:=by simp
 obtain⟨⟨hz,_,hp⟩,hs⟩:=pdq_sorts _ (yfD h) (List.finRange p0.length).toArray 0 p0.length (Lib.bitLen p0.length) true true (yZl _) (Nat.le_of_eq hsz.symm) (Or.inl rfl);generalize pdq (ltOf (cmI mf p0)) (List.finRange p0.length).toArray 0 p0.length (Lib.bitLen p0.length) true true=d at hz hp hs ⊢;rw [hsz] at hz;refine⟨?_,hz⟩;have hp:d.toList.Perm (List.finRange p0.length):=by
  rw [exAll d _ hz,exAll _ _ hsz] at hp;simpa using hp
 have hm:(d.toList.map p0.get).Perm p0:=by
  have:=hp.map p0.get;rwa [show (List.finRange p0.length).map p0.get=p0 from List.ext_getElem (by simp) (by simp)] at this
 refine List.Perm.eq_of_pairwise (le:=fun a b=>ltf mf b a=false) (fun a b ha hb h1 h2=>?_) ?_ (yb2 (ybI h) _ fun _ hy=>hy) (hm.trans (y3t _ _).symm)
 ·exact (y6K h (hm.mem_iff.1 ha) ((y3t _ _).mem_iff.1 hb)).2.2.1 h2 h1
 ·rw [List.pairwise_map,yPg];intro i j hi hj hij;have:=hs i j (yZl _) hij (by simpa [hz] using hj);rw [Array.length_toList] at hi hj;rw [getElem!_pos d j hj,getElem!_pos d i hi,yci h] at this;exact this
end
theorem Cells.ofMap{α ι:Type}{r:Rep α}{s:Sig}{enc:ι→List Value}{g:ι→α}(h:∀i,r.rd s (enc i) (g i)):∀l:List ι,Cells r s (l.flatMap enc) (l.map g)
 | []=>rfl
 | i::l=>⟨enc i,l.flatMap enc,by rw [List.flatMap_cons],h i,Cells.ofMap h l⟩
theorem ykt{cs:List Value}{n k:Nat}(k0:0<k)(h:cs.length=n*k):(List.finRange n).flatMap (fun i:_root_.Fin n=>(cs.drop (i.1*k)).take k)=cs:=by
 have hk:∀i:_root_.Fin n,((cs.drop (i.1*k)).take k).length=k:=fun i=>by
  rw [yLt,List.length_drop,h];have:=Nat.mul_le_mul_right k (show i.1+1≤n from i.2);rw [Nat.succ_mul] at this;omega
 apply List.ext_getElem?;intro t;rw [ya8 hk k0];by_cases ht:t<n*k
 ·have hq:t/k<n:=Nat.div_lt_of_lt_mul (by rw [Nat.mul_comm];exact ht);rw [yGe (by simpa using hq),yOb,List.getElem_finRange,List.getElem?_take,iP (Nat.mod_lt _ k0),List.getElem?_drop];congr 1;show t/k*k+t % k=t;rw [Nat.mul_comm];exact Nat.div_add_mod t k
 ·have hq:¬t/k<n:=fun hlt=>ht ((Nat.div_lt_iff_lt_mul k0).1 hlt);rw [yGn (by simpa using Nat.not_lt.1 hq),yGn (by omega)];rfl
theorem RowT.sortG{α:Type}{r:Rep α}(k0:0<r.sz){s:Sig}{t:Nat}{T:TypeId}{a:Option Addr}{cap:Nat}{xs:List α}(h:RowT r s t T a cap xs)[Inhabited (_root_.Fin xs.length)](h0:0<xs.length)(ht:0<t):
  ∃(enc:_root_.Fin xs.length→List Value) (b off:Nat),(∀i,r.rd s (enc i) (xs.get i))∧(∀i,(enc i).length=r.sz)∧a=some ⟨b,off,none⟩∧b<s.w.heap.size∧s.tag b=t∧HoldsK enc r.sz s.w b off (List.finRange xs.length).toArray∧∀(d:Array (_root_.Fin xs.length)) (n:Nat) (os:Array Obj),d.size=xs.length→
   ∃s',sortWorldK enc r.sz s.w b off n d os=s'.w∧Mv (One t) s s'∧RowT r s' t T (some ⟨b,off,none⟩) cap (d.toList.map xs.get):=by
 obtain⟨cs,⟨hl,hrow⟩,hc⟩:=h;rcases hrow with ⟨e,hn⟩|⟨b,off,cap',cur,e,ho,k1,k2,k3,k4⟩
 ·omega
 simp only [Value.slice.injEq,true_and] at e;obtain⟨rfl,rfl⟩:=e;have hch:=ykt k0 hl;have hkF:∀i:_root_.Fin xs.length,r.rd s ((cs.drop (i.1*r.sz)).take r.sz) (xs.get i):=fun i=>hc.at i.1 i.2;generalize henc:(fun i:_root_.Fin xs.length=>(cs.drop (i.1*r.sz)).take r.sz)=enc at hch;have hkF:∀i:_root_.Fin xs.length,r.rd s (enc i) (xs.get i):=fun i=>by rw [←henc];exact hkF i
 have hk:∀i:_root_.Fin xs.length,(enc i).length=r.sz:=fun i=>r.len (hkF i);have hb:b<s.w.heap.size:=(yAs.1 ho.heap).1;have hdz:∀(d:Array (_root_.Fin xs.length)) (j:Nat),d.size=xs.length→j<xs.length*r.sz→∃(q:Nat) (hq:q<d.size) (x:Value),q=j/r.sz∧(enc d[q])[j % r.sz]? =some x∧(flatK enc r.sz d)[j]! =x:=fun d j hd hj=>by
  have hq:j/r.sz<d.size:=by rw [hd];exact Nat.div_lt_of_lt_mul (by rw [Nat.mul_comm];exact hj)
  have hm:j % r.sz<(enc d[j/r.sz]).length:=by rw [hk];exact Nat.mod_lt _ k0
  refine⟨_,hq,_,rfl,yGe hm,?_⟩;rw [get_flatK _ _ _ _ (by rw [hd];exact hj),getElem!_pos d _ hq,getElem!_pos (enc d[j/r.sz]) _ hm]
 refine⟨enc,b,off,hkF,hk,rfl,hb,ho.htag,fun j hj=>?_,fun d n os hd=>?_⟩
 ·have hj':j<xs.length*r.sz:=by simpa using hj
  obtain⟨q,hq,x,rfl,h1,h2⟩:=hdz (List.finRange xs.length).toArray j (by simp) hj';have hcell:cur[off+j]? =some x:=by
   have e2:cs[j]? =cur.toList[off+j]? :=by rw [←k4,List.getElem?_take,iP hj',List.getElem?_drop]
   rw [←hch,ya8 hk k0] at e2;have hx:(List.finRange xs.length)[j/r.sz]? =some ((List.finRange xs.length).toArray[j/r.sz]):=by
    rw [yGe (by simpa using hq)];simp
   rw [hx,yOb,h1] at e2;rw [←Array.getElem?_toList];exact e2.symm
  refine⟨?_,?_⟩
  ·unfold World.cell?;rw [ho.heap];show cur[off+j]? =_;rw [hcell,h2];rfl
  ·unfold World.frozen?;rw [ho.heap];show(decide (0≤off+j)&&decide (off+j<0))=false;simp
 ·have hm:Mv (One t) s ⟨sortWorldK enc r.sz s.w b off n d os,fun b=>if b<s.w.heap.size then s.tag b else 0⟩:=⟨rfl,rfl,rfl,(by show _≤((s.w.heap.modify b _)++os).size;simp),fun b' hb' hn=>⟨ygc hb' fun e=>hn (by rw [e];exact ho.htag),iP hb'⟩⟩;refine⟨_,rfl,hm,d.toList.flatMap enc,⟨by rw [yel hk,yLm],.inr ⟨b,off,cap,putCells id off (flatK enc r.sz d) cur,rfl,⟨ygb ho.heap,?_,yZl _⟩,?_,k2,?_,?_⟩⟩,Cells.ofMap (fun i=>r.mono (hm.le fun e=>by have:0=t:=e;omega) (hkF i)) _⟩
  ·show (if b<s.w.heap.size then s.tag b else 0)=t;rw [iP hb];exact ho.htag
  ·rw [yLm,Array.length_toList,hd];exact k1
  ·rw [putCells,Array.size_mapIdx];exact k3
  ·apply List.ext_getElem?;intro j;have hmul:xs.length*r.sz≤cap*r.sz:=Nat.mul_le_mul_right _ k1;rw [List.getElem?_take,List.getElem?_drop,yLm,Array.length_toList,hd,ya8 hk k0];by_cases hj:j<xs.length*r.sz
   ·obtain ⟨q,hq,x,rfl,h1,h2⟩:=hdz d j hd hj;rw [iP hj,Array.getElem?_toList,putCells,Array.getElem?_mapIdx,Array.getElem?_eq_getElem (by omega),Option.map_some,iP ⟨by omega,by rw [size_flatK,hd];omega⟩,Nat.add_sub_cancel_left,h2,Array.getElem?_toList,Array.getElem?_eq_getElem hq,yOb,h1];rfl
   ·rw [iN hj];have hdj:¬j/r.sz<d.size:=fun hlt=>hj (by
     have:=(Nat.div_lt_iff_lt_mul k0).1 hlt;rw [hd] at this;exact this)
    rw [Array.getElem?_toList,Array.getElem?_eq_none (by omega)];rfl
def CmpK{α:Type}(P:Program)(f:FuncId)(r:Rep α)(mf:α→α→Option Int):Prop:=∀x y z,mf x y=some z→∀(s:Sig) (cx cy:List Value),r.rd s cx x→r.rd s cy y→Calls P f #[.agg cx.toArray,.agg cy.toArray] s.w fun e w'=>e= .returned (.int .i64 z)∧∃q os',w'=grow (s.w.drewN q) os'
section
variable{P:Program}{ρ:Ren}{α:Type}[DecidableEq α]{r:Rep α}{mf:α→α→Option Int}{f:FuncId}
theorem yfE(L:SlLaysF0.n6 P ρ)(aE:∀w,(isAgg (ρ.t 24)).run P w= .ok true w)(zE:∀w,(Go.sizeOf (ρ.t 24)).run P w= .ok r.sz w)(k0:0<r.sz)(eg:∀args w,(callFunc f args).run P w= .ok (.enter f args) w)(hf:CmpK P f r mf)
  {s:Sig} {p0:List α} {t0:Nat} {T:TypeId} {a1:Option Addr} {c1:Nat} {r':List α} (zt0:0<t0) (h1:RowT r s t0 T a1 c1 p0) (hm:srtF mf p0=some r'):
  Calls P (ρ.f 6) #[.slice a1 p0.length c1,.func (.func f) #[] #[]] s.w (RetS (One t0) s fun v s'=>v= .tuple #[]∧r'.length=p0.length∧RowT r s' t0 T a1 c1 r'):=by
 unfold srtF at hm;split at hm
 ·rename_i h;obtain⟨hl,hb⟩:=h;cases hm;by_cases h0:0<p0.length
  ·letI:Inhabited (_root_.Fin p0.length):=⟨⟨0,h0⟩⟩
   obtain⟨enc,b,off,hrd,hk,rfl,hblk,htag,hH,hput⟩:=h1.sortG k0 h0 zt0;have hsz:(List.finRange p0.length).toArray.size=p0.length:=by simp
   have hcmp:CmpLays P f #[] enc r.sz (cmI mf p0) b off (List.finRange p0.length).toArray.size s.w:=fun m os dk hdk i j=>by
    obtain⟨z,hz⟩:=(y6K hb (List.get_mem p0 i) (List.get_mem p0 j)).1;obtain⟨s',hw',hm',_⟩:=hput dk m os (hdk.trans hsz);have hle:Le s s':=hm'.le fun e=>by have:0=t0:=e;omega
    have:=hf _ _ z hz s' _ _ (r.mono hle (hrd i)) (r.mono hle (hrd j));rw [hw'];unfold cmI;rw [hz];exact this
   have hS:=AnyQ.slices_SortFunc_eq L r.sz aE zE enc hk (fun x v hv=>r.one (hrd x) v hv) (cmI mf p0) (yfD hb) f #[] b off c1 (List.finRange p0.length).toArray s.w eg hcmp hH hblk (by rw [hsz];omega);rw [hsz] at hS;refine hS.mono ?_;rintro e w' ⟨rfl,n,os,rfl⟩;obtain⟨he,hz⟩:=yjx hb;obtain⟨s',hw',hm',hr⟩:=hput _ n os hz;exact⟨_,s',hw',rfl,hm',rfl,(y3t _ _).length_eq,by rw [←he];exact hr⟩
  ·obtain rfl:p0= []:=yLz (by omega);refine(AnyF.slices_SortFunc_none L a1 c1 (.func (.func f) #[] #[]) s.w).mono ?_;rintro e w' ⟨rfl,rfl⟩;exact⟨_,s,rfl,rfl,Mv.refl _ _,rfl,rfl,h1⟩
 ·cases hm
omit [DecidableEq α] in
theorem yh6{F:FuncId}{T:TypeId}{p0 r':List α}(hC:∀{s:Sig} {t0:Nat} {a1:Option Addr} {c1:Nat},0<t0→RowT r s t0 T a1 c1 p0→Calls P F #[.slice a1 p0.length c1,.func (.func f) #[] #[]] s.w (RetS (One t0) s fun v s'=>v= .tuple #[]∧r'.length=p0.length∧RowT r s' t0 T a1 c1 r')):
  Fw P F ⟨1,[0]⟩ [.h 0,.o (lV (.func (.func f) #[] #[]))] [ROW r T p0] (.tp []) [ROW r T r']:=
 ⟨fun ts β s vs ht _ _ hp ⟨v,us,h,⟨v2,us2,h2,hu,e3⟩,e2⟩ ho=>by
  have hu:us2= []:=hu;subst hu;subst e3;subst e2;obtain⟨rfl,_⟩:=h2;obtain⟨t,rfl⟩:∃t,ts= [t]:=by
   match ts,ht with
   | [t],_=>exact⟨t,rfl⟩
  obtain⟨a,c,e,h2⟩:=ho 0 _ rfl;have hv:v= .slice a p0.length c:=h.1.trans e;subst hv;exact Calls.mono (hC (hp t (.head _)) h2) fun en w' ⟨v,s',e1,e2,m,hv,hl,hr⟩=>⟨v,s',e1,e2,m.weak fun t' ht'=>⟨0,.head _,by rw [show t'=t from ht'];rfl⟩,β,fun _ _=>rfl,⟨[],rfl,hv⟩,fun i o ho=>by
   match i,ho with
   | 0,ho=>cases ho;exact⟨a,c,by rw [e,hl],hr⟩⟩⟩
end
end
section
open Go.Proofs.Tryz Go
variable{α:Type}{p:Program}{w w':World}{v:Value}{s:GStep}{es:Array Event}{d:Nat}
def rW{α:Type}:Result α→World
 | .ok _ w=>w
 | .halt _ w=>w
theorem yku(k:Ask α):∀w:World,w.drawn≤(w.ask k).2.drawn:=by
 induction k with
 | done a=>intro w;exact yNr _
 | ask what range k ih=>
  intro w;unfold World.ask;dsimp only;split
  ·exact ih _ _
  ·exact Nat.le_trans (Nat.le_succ _) (ih _ { w with drawn:=w.drawn+1 })
theorem yh7(w:World)(c:Sys):w.drawn≤(w.sys c).2.drawn:=by
 have h:=yku (Kernel.perform c w.os) w;unfold World.sys;generalize w.ask (Kernel.perform c w.os)=x at h ⊢;obtain⟨⟨r,os⟩,w1⟩:=x;cases r <;> first | exact yNr _|exact h
theorem yem{at_:Addr}{u:TypeId}{k:Addr}{b:Bool}{l:List Addr}(h:w.viewStore p at_ u k v b= .ok (w',l)):w'.drawn=w.drawn:=by
 unfold World.viewStore at h;simp only [bind,Except.bind,pure,Except.pure] at h
 repeat' split at h
 all_goals first | (cases h;rfl)|cases h|skip
theorem ybl{a:Addr}{b:Bool}{l:List Addr}(h:w.farStore p a v b= .ok (w',l)):w'.drawn=w.drawn:=by
 unfold World.farStore at h;split at h
 ·split at h
  ·rename_i hv;cases h;exact yem hv
  ·cases h
 ·cases h
theorem ydq(w:World)(a:Addr)(n:Nat):(w.freeze a n).drawn=w.drawn:=by
 unfold World.freeze;split <;> rfl
theorem y9E(p:Program)(s:Sem α):∀w:World,w.drawn≤(rW (s.run p w)).drawn:=by
 induction s with
 | pure a=>intro w;exact yNr _
 | load m a k ih=>
  intro w;unfold Sem.run;split
  ·exact ih _ _
  ·split
   ·exact ih _ _
   ·exact yNr _
 | store m a v k ih=>
  intro w;have hE:∀x,w.farStore p a v (m == .atomic)=x→w.drawn≤(rW (match x with | .ok (w,_)=>k.run p w | .error h=> .halt h w)).drawn:=fun x hx=>by
   match x,hx with
   | .ok (w1,_),hx=>exact Nat.le_trans (Nat.le_of_eq (ybl hx).symm) (ih w1)
   | .error h,_=>exact yNr _
  cases v
  case agg=>exact yNr _
  case tuple=>exact yNr _
  all_goals
   unfold Sem.run;split
   ·split
    ·exact yNr _
    ·exact ih (w.setCell _ _)
   ·exact hE _ rfl
 | new o k ih=>intro w;exact ih _ { w with heap:=w.heap.push o }
 | shape r k ih=>intro w;exact ih _ w
 | freeze a n k ih=>intro w;exact Nat.le_trans (Nat.le_of_eq (ydq w a n).symm) (ih (w.freeze a n))
 | frozen a k ih=>intro w;exact ih _ w
 | getObj r k ih=>
  intro w;unfold Sem.run;split
  ·exact yNr _
  ·exact ih _ w
  ·exact yNr _
 | setObj r o k ih=>
  intro w;unfold Sem.run;split
  ·exact yNr _
  ·exact ih { w with heap:=w.heap.setIfInBounds r o }
  ·exact yNr _
 | choose q k ih=>
  intro w;unfold Sem.run;split
  ·exact ih _ w
  ·exact Nat.le_trans (Nat.le_succ _) (ih _ { w with drawn:=w.drawn+1 })
 | sys c k ih=>intro w;exact Nat.le_trans (yh7 w c) (ih _ (w.sys c).2)
 | program k ih=>intro w;exact ih _ w
 | mark m k ih=>intro w;exact ih w
 | halt h=>intro w;exact yNr _
theorem y8r(p:Program)(s:Sem α):∀(w:World) (es:Array Event),w.drawn≤(rW (s.runT p w es).1).drawn:=by
 induction s with
 | pure a=>intro w es;exact yNr _
 | load m a k ih=>
  intro w es;unfold Sem.runT;split
  ·exact ih _ _ _
  ·split
   ·exact ih _ _ _
   ·exact yNr _
 | store m a v k ih=>
  intro w es;have hE:∀x,w.farStore p a v (m == .atomic)=x→w.drawn≤(rW (match x with | .ok (w,touched)=>k.runT p w (es++touched.toArray.map fun a=>(⟨.cell a,true,m==Mode.atomic⟩:Event)) | .error h=>(.halt h w,es)).1).drawn:=fun x hx=>by
   match x,hx with
   | .ok (w1,_),hx=>exact Nat.le_trans (Nat.le_of_eq (ybl hx).symm) (ih w1 _)
   | .error h,_=>exact yNr _
  cases v
  case agg=>exact yNr _
  case tuple=>exact yNr _
  all_goals
   unfold Sem.runT;split
   ·split
    ·exact yNr _
    ·exact ih (w.setCell _ _) _
   ·exact hE _ rfl
 | new o k ih=>intro w es;exact ih _ { w with heap:=w.heap.push o } es
 | shape r k ih=>intro w es;exact ih _ w es
 | freeze a n k ih=>intro w es;exact Nat.le_trans (Nat.le_of_eq (ydq w a n).symm) (ih (w.freeze a n) es)
 | frozen a k ih=>intro w es;exact ih _ w es
 | getObj r k ih=>
  intro w es;unfold Sem.runT;split
  ·exact yNr _
  ·exact ih _ w _
  ·exact yNr _
 | setObj r o k ih=>
  intro w es;unfold Sem.runT;split
  ·exact yNr _
  ·exact ih { w with heap:=w.heap.setIfInBounds r o } _
  ·exact yNr _
 | choose q k ih=>
  intro w es;unfold Sem.runT;split
  ·exact ih _ w es
  ·exact Nat.le_trans (Nat.le_succ _) (ih _ { w with drawn:=w.drawn+1 } es)
 | sys c k ih=>intro w es;exact Nat.le_trans (yh7 w c) (ih _ (w.sys c).2 _)
 | program k ih=>intro w es;exact ih _ w es
 | mark m k ih=>intro w es;exact ih w _
 | halt h=>intro w es;exact yNr _
theorem y6y{s:Sem α}{x:Result α}(e:s.run p w=x):w.drawn≤(rW x).drawn:=e▸y9E p s w
theorem y9F{s:Sem α}{x:Result α×Array Event}(e:s.runT p w es=x):w.drawn≤(rW x.1).drawn:=e▸y8r p s w es
def gW :GStep→Option World
 | .go _ w _ | .comm _ _ _ _ w _ | .spawn _ _ w _ | .count _ w _ | .timer _ _ w _ | .alone _ _ w _ | .newcoro _ _ _ w _ | .coroswitch _ _ _ w _ | .collect _ w _ | .watch _ w _=>some w
 | .ended .. =>none
def gG(d:Nat)(s:GStep):Prop:=∀w,gW s=some w→d≤w.drawn
theorem y6z(h:gG d s):gG d (GStep.after es s):=by
 cases s <;> exact h
theorem gG.of(h:gG w.drawn s)(hd:d≤w.drawn):gG d s:=fun w' hw=>Nat.le_trans hd (h w' hw)
theorem yg{o:Outcome}:gG d (.ended o w es):=fun _ h=>by cases h
theorem yQ(h:gW s=some w)(hd:d≤w.drawn):gG d s:=fun w' hw=>by rw [h] at hw;cases hw;exact hd
theorem ycj{c:Prop}[Decidable c]{a b:GStep}(h1:gG d a)(h2:gG d b):gG d (if c then a else b):=by
 split
 ·exact h1
 ·exact h2
theorem yen(fr:Frame)(ahead:List ByteArray)(m:String)(b:Bool)(w:World):gG w.drawn (dieOf fr ahead m b w):=yQ rfl (yNr _)
theorem y6W(fr:Frame)(m:String)(w:World):gG w.drawn (endThrow fr m w):=yen _ _ _ _ _
theorem y9G(p:Program)(fr:Frame)(v:Value)(w:World):gG w.drawn (endPrinting p fr v w):=by
 unfold endPrinting;dsimp only;split
 ·exact y6W _ _ _
 ·exact yg
theorem ygd(w:World)(fd:Nat)(text:ByteArray)(o:Outcome):gG w.drawn (endWith w fd text o):=by
 unfold endWith;dsimp only;split
 ·split <;> exact yg
 ·exact yg
 ·exact yg
theorem y9p(p:Program)(fr:Frame)(cs:List Frame)(dy:Option Dying)(m:String)(w:World):gG w.drawn (endFatal p fr cs dy m w):=by
 unfold endFatal
 extract_lets chain raw shown
 have h:=y9E p shown w;split
 ·rename_i e;rw [e] at h;exact(yen _ _ _ _ _).of h
 ·exact yg
 ·exact yg
theorem y9q(p:Program)(mn:Bool)(fr:Frame)(cs:List Frame)(dy:Option Dying)(v:Value)(w:World):gG w.drawn (doReturn p mn fr cs dy v w):=by
 unfold doReturn
 repeat' split
 all_goals (first | exact yg|exact yQ rfl (by assumption)|exact yQ rfl (yNr _))
theorem yge(p:Program)(fr:Frame)(d:Dying)(f:Fatal)(w:World):gG w.drawn (writeOn p fr d f w):=by
 unfold writeOn
 extract_lets on
 split
 ·exact yg
 ·dsimp only;split
  all_goals first | exact yg|(rename_i e;exact yQ rfl (y9F e))
theorem ykv(p:Program)(fr:Frame)(d:Dying)(w:World):gG w.drawn (die p fr d w):=by
 unfold die;split
 ·exact yge _ _ _ _ _
 ·split
  ·split
   ·(first | exact yg|exact yQ rfl (by assumption)|exact yQ rfl (yNr _))
   ·exact ygd _ _ _ _
  ·extract_lets d2
   split
   ·(first | exact yg|exact yQ rfl (by assumption)|exact yQ rfl (yNr _))
   ·rename_i s _;have h:=y9E p (withAddress s) w;split
    ·rename_i e;rw [e] at h;exact yQ rfl h
    ·exact yg
   ·rename_i t recv name _;have h:=y8r p (invoke (.fn (.method name) #[]) #[.iface t recv]) w #[];split;rename_i r es e;rw [e] at h;refine y6z ?_;split
    ·exact yQ rfl h
    ·exact yQ rfl h
    ·exact yg
    ·exact (y9G _ _ _ _).of h
    ·exact yg
   ·exact yg
theorem yeo(p:Program)(fr:Frame)(cs:List Frame)(dy:Option Dying)(g:Nat)(w:World):gG w.drawn (early p fr cs dy g w):=by
 unfold early
 extract_lets refuse notYet
 have hn:∀w',w.drawn≤w'.drawn→gG w.drawn (notYet w'):=fun w' hw=>by
  show gG _ (match w'.heap[g]? with | some (.pending c elem)=>_|_=>_);split
  ·exact yQ rfl hw
  ·exact yg
 split
 ·exact hn _ (yNr _)
 split
 ·exact yg
 ·extract_lets there
  have ht:∀w',w.drawn≤w'.drawn→gG w.drawn (there w'):=fun w' hw=>yQ rfl hw;split
  ·exact hn _ (yNr _)
  split
  ·exact hn _ (yNr _)
  split
  ·exact yg
  ·exact ht _ (yNr _)
  ·exact yg
  ·exact hn _ (yNr _)
  ·split
   ·exact ht _ (yNr _)
   split
   ·exact hn _ (yNr _)
   ·have h:=y9E p (choose (.early g)) w;split
    ·rename_i e;rw [e] at h;exact hn _ h
    ·rename_i e;rw [e] at h;exact ht _ h
    ·exact yg
theorem yck(p:Program)(fr:Frame)(cs:List Frame)(dy:Option Dying)(d:Deferred)(w:World):gG w.drawn (callDeferred p fr cs dy d w):=by
 unfold callDeferred;refine ycj yg ?_
 ·have h:=y8r p (invoke d.target d.args) w #[];split;rename_i r es e;rw [e] at h
  extract_lets es2
  refine y6z ?_;split
  all_goals first | exact yg|exact yQ rfl h|exact(y6W _ _ _).of h|exact(y9p _ _ _ _ _ _).of h|skip
  split <;> exact yQ rfl h
theorem yh8(p:Program)(mn:Bool)(fr:Frame)(cs:List Frame)(dy:Option Dying)(w:World):gG w.drawn (unwind p mn fr cs dy w):=by
 unfold unwind;split
 ·rename_i block _ _ _;have h:=y8r p (Instr.takeDeferred block) w #[];split;rename_i r es e;rw [e] at h;refine y6z ?_;split
  ·exact yQ rfl h
  ·exact yg
 ·exact yck _ _ _ _ _ _
 ·split
  ·exact yg
  ·rename_i chain _;split
   ·exact yg
   split
   ·(first | exact yg|exact yQ rfl (by assumption)|exact yQ rfl (yNr _))
   ·split
    ·split
     ·(first | exact yg|exact yQ rfl (by assumption)|exact yQ rfl (yNr _))
     ·have h:=y9E p (reportChain chain false) w;split
      ·rename_i e;rw [e] at h;exact yQ rfl h
      ·exact yg
      ·exact yg
    ·split
     ·exact y9G _ _ _ _
     ·exact yg
  ·split
   ·exact y9q _ _ _ _ _ _ _
   ·rename_i fn _;have h:=y8r p (results fn fr.tmps) w #[];split;rename_i r es e;rw [e] at h;refine y6z ?_;split
    ·exact (y9q _ _ _ _ _ _ _).of h
    ·exact yg
    ·exact yg
theorem ya9(p:Program)(b:Bool)(fr:Frame)(cs:List Frame)(dy:Option Dying)(s:Sem Next)(w:World):gG w.drawn (stepG.apply p b fr cs dy s w):=by
 unfold stepG.apply
 extract_lets go kind
 have h:w.drawn≤(rW (if b then s.runT p w #[] else(s.run p w,#[])).1).drawn:=by
  split
  ·exact y8r p s w #[]
  ·exact y9E p s w
 split;rename_i r es e;rw [e] at h
 extract_lets e1 e2 e3
 refine y6z ?_;split
 all_goals first | exact yg|exact yQ rfl h|exact(y6W _ _ _).of h|exact(y9p _ _ _ _ _ _).of h|exact(yeo _ _ _ _ _ _).of h|skip
 all_goals (try extract_lets)
 all_goals (repeat' split)
 all_goals first | exact yg|exact yQ rfl h|exact(y6W _ _ _).of h|exact(y9p _ _ _ _ _ _).of h|exact(yeo _ _ _ _ _ _).of h
theorem yjy(p:Program)(b:Bool)(fr:Frame)(cs:List Frame)(dy:Option Dying)(w:World):gG w.drawn (stepG.oper p b fr cs dy w):=by
 unfold stepG.oper;split
 ·exact yg
 ·split <;> exact ya9 _ _ _ _ _ _ _
theorem yjz(p:Program)(mn b:Bool)(fr:Frame)(cs:List Frame)(dy:Option Dying)(w:World):gG w.drawn (stepG.exec p mn b fr cs dy w):=by
 unfold stepG.exec
 extract_lets go tu lost leave
 have hl:∀j,gG w.drawn (leave j):=fun j=>by
  show gG _ (match fr.roundOf with | none=>_|some l=>_);split
  ·exact ycj (yQ rfl (yNr _)) yg
  ·split;rename_i r es e;refine y6z ?_;split
   ·exact (y9q _ _ _ _ _ _ _).of (y9F e)
   ·exact yg
 have ht:∀t,gG w.drawn (tu t):=fun t=>yQ rfl (yNr _);have hg:∀f w',w.drawn≤w'.drawn→gG w.drawn (go f w'):=fun f w' h=>yQ rfl h;have ho:∀y,gG w.drawn (lost y):=fun y=>yg
 clear_value leave tu lost go
 split
 case h_8=>split <;> first | exact ht _|exact ho _
 case h_13=>rename_i id k _;cases exitTo id k <;> first | exact hl _|exact ht _
 case h_14=>rename_i id k _;cases gotoIn id k <;> first | exact hl _|exact ht _
 case h_15=>
  split;rename_i r es e;refine y6z ?_;split
  ·exact (ya9 _ _ _ _ _ _ _).of (y9F e)
  ·exact yg
 case h_18=>
  split;rename_i r es e;refine y6z ?_;split
  ·exact hg _ _ (y9F e)
  ·exact hg _ _ (y9F e)
  ·exact yg
 case h_21=>rename_i row args _ _;cases Extern.next row <;> first | exact ho _|exact ya9 _ _ _ _ _ _ _
 case h_22=>
  refine ycj (ht _) ?_;split
  ·rename_i e;exact hg _ _ (y6y e)
  ·exact yg
 case h_24=>exact ycj (yjy _ _ _ _ _ _) (hg _ _ (yNr _))
 all_goals first | exact yg|exact hl _|exact ht _|exact ya9 _ _ _ _ _ _ _
theorem yie(p:Program)(mn:Bool)(g:Goroutine)(w:World)(b:Bool):gG w.drawn (stepG p mn g w b):=by
 unfold stepG;split;rename_i fr cs st dy of;split
 ·exact ykv _ _ _ _
 ·exact yjz _ _ _ _ _ _ _
 ·exact yh8 _ _ _ _ _ _
def sG(d:Nat):Stepped→Prop
 | .next m=>d≤m.world.drawn
 | .ended .. =>True
theorem yh9{c:Prop}[Decidable c]{a b:Stepped}(h1:sG d a)(h2:sG d b):sG d (if c then a else b):=by
 split
 ·exact h1
 ·exact h2
theorem yfF(p:Program)(gs:Array Goroutine)(r:Rest)(w:World):sG w.drawn (look p gs r w):=by
 unfold look;split
 ·split
  extract_lets set
  split;refine yh9 trivial ?_
  split
  ·trivial
  ·try extract_lets pick
   split
   ·rename_i e;exact y6y e
   ·trivial
   ·trivial
 ·trivial
theorem yep{r:Rest}{c:Array CommCase}(h:waitingAt r c w=some w'):w'.drawn=w.drawn:=by
 unfold waitingAt at h;split at h
 ·split at h
  ·cases h;rfl
  ·cases h
 ·cases h;rfl
theorem ycY(p:Program)(r:Rest)(gs:Array Goroutine)(i:Nat)(g:Goroutine)(c:Array CommCase)(b:Bool)(sh:CommShape)(w:World):sG w.drawn (communicate p r gs i g c b sh w).1:=by
 unfold communicate
 extract_lets put illMade me other
 have hp:∀g gs w' ops,w.drawn≤w'.drawn→sG w.drawn (put g gs w' ops).1:=fun g gs w' ops h=>h
 clear_value put
 have ite1:∀{c:Prop} [Decidable c] {x y:Stepped×Array MemOp},sG w.drawn x.1→sG w.drawn y.1→sG w.drawn (if c then x else y).1:=fun h1 h2=>by
  split
  ·exact h1
  ·exact h2
 refine ite1 trivial ?_
 refine ite1 (ite1 ?_ (hp _ _ _ _ (yNr _))) ?_
 ·split
  ·rename_i e;exact Nat.le_of_eq (yep e).symm
  ·trivial
 ·split
  ·trivial
  ·rename_i w1 e;have h1:w.drawn≤w1.drawn:=y6y e
   extract_lets rr
   split
   ·split
    ·rename_i e2;exact hp _ _ _ _ (Nat.le_trans h1 (y6y e2))
    ·trivial
   ·exact hp _ _ _ _ h1
   ·exact hp _ _ _ _ h1
   ·extract_lets v buf
    split
    ·exact hp _ _ _ _ h1
    ·split
     ·rename_i e2;split;exact hp _ _ _ _ (Nat.le_trans h1 (y6y e2))
     ·trivial
   ·exact hp _ _ _ _ h1
   ·exact hp _ _ _ _ h1
   ·trivial
theorem yif(p:Program)(m:Machine)(k:Nat):sG m.world.drawn (serve p m k):=by
 unfold serve;split
 ·trivial
 ·exact yNr _
 ·extract_lets delay next
  split
  ·trivial
  ·exact yNr _
theorem ydr(m:Machine)(k:Nat)(t:Timer)(a b:Nat):(retime m k t a b).2.world.drawn=m.world.drawn:=by
 unfold retime;split;rename_i had w' e;show w'.drawn=_;split at e
 ·unfold drain at e;split at e <;> (cases e;rfl)
 ·cases e;rfl
theorem ygf{m m':Machine}{o:TimerOp}(h:timerOp m o= .ok (v,m')):m'.world.drawn=m.world.drawn:=by
 unfold timerOp at h;split at h
 ·split at h
  ·cases h;rfl
  ·split at h
   ·split at h
    ·cases h
    ·cases h;rfl
   ·cases h
 ·unfold timerOp.named at h;split at h
  ·have h:=congrArg (·.toOption.map (·.2.world.drawn)) h;simp only [Except.toOption,Option.map_some,yIj] at h;rw [←h,ydr]
  ·cases h
 ·split at h
  ·rename_i m2 e;have e2:m2.world.drawn=m.world.drawn:=by
    unfold timerOp.opened at e;split at e
    ·split at e
     ·cases e;rfl
     ·cases e
    ·cases e;rfl
   unfold timerOp.named at h;split at h
   ·have h:=congrArg (·.toOption.map (·.2.world.drawn)) h;simp only [Except.toOption,Option.map_some,yIj] at h;rw [←h,ydr,e2]
   ·cases h
  ·cases h
 ·extract_lets meant new at h
  cases h;rfl
theorem sG.of{e:Nat}{s:Stepped}(h:sG e s)(hd:d≤e):sG d s:=by
 cases s
 ·exact Nat.le_trans hd h
 ·trivial
theorem ybm{fr:Frame}{m:String}{g:Goroutine}(e:endThrow fr m w= .go g w' es):w.drawn≤w'.drawn:=y6W fr m w w' (by rw [e];rfl)
theorem yjA(p:Program)(m:Machine)(i:Nat)(b:Bool):sG m.world.drawn (runT p m i b).1:=by
 unfold runT
 extract_lets rest world
 split;rename_i g gs _
 extract_lets wake fn pos s ops done
 have hs:gG m.world.drawn s:=yie _ _ _ _ _
 clear_value s wake ops
 cases s
 case ended=>trivial
 case comm=>exact(ycY _ _ _ _ _ _ _ _ _).of (hs _ rfl)
 case go=>exact hs _ rfl
 case spawn=>exact hs _ rfl
 case count=>exact yh9 trivial (hs _ rfl)
 case alone=>exact hs _ rfl
 case collect=>exact(yfF _ _ _ _).of (hs _ rfl)
 case watch=>exact hs _ rfl
 case newcoro=>have h:=hs _ rfl;exact h
 case coroswitch g c exit w es=>
  have h:=hs _ rfl;show sG _ (match w.heap[c]? with | some (.coro (some h))=>_|some (.coro none)=>_|_=>_);split
  ·exact h
  ·split
   ·rename_i e;exact Nat.le_trans h (ybm e)
   ·trivial
  ·trivial
 case timer g op w es=>
  have h:=hs _ rfl;show sG _ (match timerOp { world:=w,gs,rest } op with | .ok (v,m)=>_ | .error (.throw msg)=>_ | .error (.unsupported u)=>_ | .error _=>_);split
  ·rename_i e;exact Nat.le_trans h (Nat.le_of_eq (ygf e).symm)
  ·split
   ·rename_i e;exact Nat.le_trans h (ybm e)
   ·trivial
  ·trivial
  ·trivial
def mG(d:Nat):Move→Prop
 | .goroutine m _=>d≤m.world.drawn
 | .machine s _=>sG d s
theorem mG.of{e:Nat}{s:Move}(h:mG e s)(hd:d≤e):mG d s:=by
 cases s
 ·exact Nat.le_trans hd h
 ·exact sG.of h hd
theorem ybJ(p:Program)(m:Machine):mG m.world.drawn (askOn p m):=by
  unfold askOn
  extract_lets mono rs ds pick
  have hp:∀m':Machine,m.world.drawn≤m'.world.drawn→mG m.world.drawn (pick m'):=fun m' h=>by
    show mG _ (match (choose (.sched rs.length)).run p m'.world with | .halt _ w=>_ | .ok k world=>_);split
    · trivial
    · rename_i e;have h1:=Nat.le_trans h (y6y e);split
      · exact h1
      · split
        · trivial
        · rename_i e2;exact Nat.le_trans h1 (y6y e2)
  clear_value pick rs ds
  split
  · trivial
  · rename_i k world e;have h1:m.world.drawn≤world.drawn:=y6y e
    extract_lets m2
    split
    · exact sG.of (yif _ _ _) h1
    · have hc:∀(q:Question) k w',(choose q).run p world= .ok k w'→m.world.drawn≤w'.drawn:=fun _ _ _ e=>Nat.le_trans h1 (y6y e);cases rs <;> (repeat' split) <;> (try extract_lets) <;> (repeat' split)
      all_goals first
        | exact h1
        | trivial
        | exact hp _ h1
        | (have h2:=hc _ _ _ ‹Sem.run p (choose _) world=Result.ok _ _›
           first | exact h2|exact hp _ h2)
theorem yfG(p:Program)(m:Machine):mG m.world.drawn (ask p m):=by
 unfold ask;split
 ·split
  ·trivial
  ·rename_i w e;have h1:m.world.drawn≤w.drawn:=y6y e;have h2:=yfF p m.gs m.rest w;split
   ·rename_i e2;rw [e2] at h2;exact(ybJ _ _).of (Nat.le_trans h1 h2)
   ·exact sG.of h2 h1
  ·rename_i e;exact(ybJ _ _).of (y6y e)
 ·exact ybJ _ _
theorem yjB(p:Program)(m:Machine):mG m.world.drawn (move p m):=by
 unfold move;split
 ·split
  ·exact yNr _
  ·trivial
 ·split
  ·split
   ·exact yNr _
   ·exact yfG p { m with rest:={ m.rest with slice:=none } }
  ·exact yfG _ _
theorem yjC(p:Program)(m:Machine):sG m.world.drawn (step p m):=by
 unfold step stepT;have h:=yjB p m;split
 ·rename_i e;rw [e] at h;exact(yjA _ _ _ _).of h
 ·rename_i e;rw [e] at h;exact h
theorem yfH(p:Program):∀(n:Nat) (m:Machine),sG m.world.drawn (runN p n m)
 | 0,m=>yNr _
 | n+1,m=>by
  have h:=yjC p m;unfold runN;split
  ·rename_i e;rw [e] at h;exact(yfH p n _).of h
  ·exact h
theorem yig{m m':Machine}(h:Go.Steps p m m'):m.world.drawn≤m'.world.drawn:=by
 obtain⟨n,hn⟩:=h;have:=yfH p n m;rw [hn] at this;exact this
theorem yih{P:Program}{f:FuncId}{args:Array Value}{R:Ending→World→Prop}(h:Calls P f args w R)(hr:∀e w',R e w'→∃v,e= .returned v):Calls P f args w fun e w'=>R e w'∧w.drawn≤w'.drawn:=fun cs=>by
 obtain⟨e,w',fr,h1,h2,h3,h4⟩:=h cs;obtain⟨v,rfl⟩:=hr _ _ h1;exact⟨_,w',fr,⟨h1,yig (m':=lone fr cs w') h2⟩,h2,h3,h4⟩
end
section
open Go.Proofs.Tryz Go Go.RowKit Go.Sort
theorem yii{w w':World}(h1:w'.os=w.os)(h2:w'.tape=w.tape)(h3:w'.output=w.output)(h4:w.heap.size≤w'.heap.size)(h5:∀b,b<w.heap.size→w'.heap[b]? =w.heap[b]?)(h6:w.drawn≤w'.drawn):∃q os,w'=grow (w.drewN q) os:=by
 refine⟨w'.drawn-w.drawn,w'.heap.extract w.heap.size w'.heap.size,?_⟩;obtain⟨heap',tape',drawn',os',output'⟩:=w';simp only at h1 h2 h3 h4 h5 h6;subst h1 h2 h3;have eh:heap'=w.heap++heap'.extract w.heap.size heap'.size:=by
  apply Array.ext_getElem?;intro k;by_cases hk:k<w.heap.size
  ·rw [Array.getElem?_append_left hk];exact h5 k hk
  ·rw [Array.getElem?_append_right (by omega),Array.getElem?_extract];by_cases hk2:k<heap'.size
   ·rw [iP (by omega)];congr 1;omega
   ·rw [iN (by omega),Array.getElem?_eq_none (by omega)]
 have ed:drawn'=w.drawn+(drawn'-w.drawn):=by omega
 simp only [grow,World.drewN];rw [←ed,←eh]
theorem Fw.grown{P:Program}{F:FuncId}{av:List TV}{z:Int}(H:Fw P F ⟨0,[]⟩ av [] (sL (lI z)) []){β:Nat→Value}{s:Sig}{vs:List Value}(h:All3 β s av vs):Calls P F vs.toArray s.w fun e w'=>e= .returned (.int .i64 z)∧∃q os',w'=grow (s.w.drewN q) os':=by
 refine(yih (H.is [] β s vs rfl (yZl _) List.nodup_nil (fun _ ht=>by cases ht) h (fun i o ho=>by simp at ho)) ?_).mono ?_
 ·rintro e w' ⟨v,s',_,e2,_⟩;exact⟨v,by assumption⟩
 ·rintro e w' ⟨⟨v,s',e1,e2,m,β',_,hv,_⟩,hd⟩;have e4:v= .int .i64 z:=hv.1;subst e4;refine⟨by assumption,?_⟩;subst e1;exact yii m.os m.tape m.output m.size (fun b hb=>(m.blk b hb fun⟨_,hi,_⟩=>by cases hi).1) hd
theorem Fw.cmpK{P:Program}{F:FuncId}{α:Type}{r:Rep α}{mf:α→α→Option Int}(enc:α→List LV)(he:∀β s cs x,r.rd s cs x→All2 β s (enc x) cs)(H:∀x y z,mf x y=some z→Fw P F ⟨0,[]⟩ [⟨true,enc x⟩,⟨true,enc y⟩] [] (sL (lI z)) []):CmpK P F r mf:=fun x y z hz s cx cy hx hy=>
 (H x y z hz).grown (β:=fun _=> .nilIface) (vs:=[_,_]) ⟨_,_,⟨cx,he _ _ _ _ hx,rfl⟩,⟨_,_,⟨cy,he _ _ _ _ hy,rfl⟩,rfl,rfl⟩,rfl⟩
end
end Go.Proofs.YtfdeiphkmjdifaaGreatDoor
namespace Go.Proofs
open Go.Shelf
def Tryz.sortE_ren :Go.Shelf.Ren:=⟨fun|6=>62|15=>107|14=>137|28=>177|29=>178|20=>218|21=>219|22=>220|23=>221|24=>222|25=>223|26=>224|27=>225|46=>274|47=>255|48=>256|49=>275|50=>276|57=>306|n=>n,fun|22=>27|24=>112|25=>125|3=>3|39=>157|0=>0|53=>114|55=>248|4=>4|46=>241|45=>240|50=>129|5=>5|9=>9|66=>326|70=>330|76=>361|77=>288|n=>n,fun|n=>n⟩
theorem Tryz.sortE :Go.Proofs.SlLaysF0.n6 Tryz.prog Tryz.sortE_ren:={
 mixed:=by kernel_rfl
 f6:=⟨Tryz.f62.name,by decide,Tryz.func62.trans (congrArg some (by kernel_rfl))⟩
 f14:=⟨Tryz.f137.name,by decide,Tryz.func137.trans (congrArg some (by kernel_rfl))⟩
 f15:=Tryz.func107.trans (congrArg some (by kernel_rfl))
 f20:=⟨Tryz.f218.name,by decide,Tryz.func218.trans (congrArg some (by kernel_rfl))⟩
 f21:=⟨Tryz.f219.name,by decide,Tryz.func219.trans (congrArg some (by kernel_rfl))⟩
 f22:=⟨Tryz.f220.name,by decide,Tryz.func220.trans (congrArg some (by kernel_rfl))⟩
 f23:=⟨Tryz.f221.name,by decide,Tryz.func221.trans (congrArg some (by kernel_rfl))⟩
 f24:=⟨Tryz.f222.name,by decide,Tryz.func222.trans (congrArg some (by kernel_rfl))⟩
 f25:=⟨Tryz.f223.name,by decide,Tryz.func223.trans (congrArg some (by kernel_rfl))⟩
 f26:=⟨Tryz.f224.name,by decide,Tryz.func224.trans (congrArg some (by kernel_rfl))⟩
 f27:=⟨Tryz.f225.name,by decide,Tryz.func225.trans (congrArg some (by kernel_rfl))⟩
 f28:=Tryz.func177.trans (congrArg some (by kernel_rfl))
 f29:=Tryz.func178.trans (congrArg some (by kernel_rfl))
 f46:=⟨Tryz.f274.name,by decide,Tryz.func274.trans (congrArg some (by kernel_rfl))⟩
 f47:=Tryz.func255.trans (congrArg some (by kernel_rfl))
 f48:=Tryz.func256.trans (congrArg some (by kernel_rfl))
 f49:=⟨Tryz.f275.name,by decide,Tryz.func275.trans (congrArg some (by kernel_rfl))⟩
 f50:=⟨Tryz.f276.name,by decide,Tryz.func276.trans (congrArg some (by kernel_rfl))⟩
 f57:=⟨Tryz.f306.name,by decide,Tryz.func306.trans (congrArg some (by kernel_rfl))⟩
 t0:=Tryz.underlying0
 a0:=Tryz.isAgg0
 z0:=Tryz.sizeOf0
 v0:=Tryz.zeroValue0
 t3:=Tryz.underlying3
 a3:=Tryz.isAgg3
 z3:=Tryz.sizeOf3
 v3:=Tryz.zeroValue3
 t4:=Tryz.underlying4
 a4:=Tryz.isAgg4
 z4:=Tryz.sizeOf4
 v4:=Tryz.zeroValue4
 t5:=Tryz.underlying5
 a5:=Tryz.isAgg5
 z5:=Tryz.sizeOf5
 v5:=Tryz.zeroValue5
 t9:=Tryz.underlying9
 a9:=Tryz.isAgg9
 z9:=Tryz.sizeOf9
 v9:=Tryz.zeroValue9
 t22:=Tryz.underlying27
 a22:=Tryz.isAgg27
 z22:=Tryz.sizeOf27
 v22:=Tryz.zeroValue27
 t25:=Tryz.underlying125
 a25:=Tryz.isAgg125
 z25:=Tryz.sizeOf125
 v25:=Tryz.zeroValue125
 t39:=Tryz.underlying157
 a39:=Tryz.isAgg157
 z39:=Tryz.sizeOf157
 v39:=Tryz.zeroValue157
 t45:=Tryz.underlying240
 a45:=Tryz.isAgg240
 z45:=Tryz.sizeOf240
 v45:=Tryz.zeroValue240
 t46:=Tryz.underlying241
 a46:=Tryz.isAgg241
 z46:=Tryz.sizeOf241
 v46:=Tryz.zeroValue241
 t50:=Tryz.underlying129
 a50:=Tryz.isAgg129
 z50:=Tryz.sizeOf129
 v50:=Tryz.zeroValue129
 t53:=Tryz.underlying114
 a53:=Tryz.isAgg114
 z53:=Tryz.sizeOf114
 v53:=Tryz.zeroValue114
 t55:=Tryz.underlying248
 a55:=Tryz.isAgg248
 z55:=Tryz.sizeOf248
 v55:=Tryz.zeroValue248
 t66:=Tryz.underlying326
 a66:=Tryz.isAgg326
 z66:=Tryz.sizeOf326
 v66:=Tryz.zeroValue326
 t70:=Tryz.underlying330
 a70:=Tryz.isAgg330
 z70:=Tryz.sizeOf330
 v70:=Tryz.zeroValue330
 t76:=Tryz.underlying361
 a76:=Tryz.isAgg361
 z76:=Tryz.sizeOf361
 v76:=Tryz.zeroValue361
 t77:=Tryz.underlying288
 a77:=Tryz.isAgg288
 z77:=Tryz.sizeOf288
 v77:=Tryz.zeroValue288 }
def Tryz.sortP_ren :Go.Shelf.Ren:=⟨fun|6=>94|15=>107|14=>168|28=>177|29=>178|20=>246|21=>247|22=>248|23=>249|24=>250|25=>251|26=>252|27=>253|46=>284|47=>255|48=>256|49=>285|50=>286|57=>312|n=>n,fun|22=>34|24=>70|25=>149|3=>3|39=>157|0=>0|53=>114|55=>248|4=>4|46=>241|45=>240|50=>129|5=>5|9=>9|66=>326|70=>330|76=>361|77=>288|n=>n,fun|n=>n⟩
theorem Tryz.sortP :Go.Proofs.SlLaysF0.n6 Tryz.prog Tryz.sortP_ren:={
 mixed:=by kernel_rfl
 f6:=⟨Tryz.f94.name,by decide,Tryz.func94.trans (congrArg some (by kernel_rfl))⟩
 f14:=⟨Tryz.f168.name,by decide,Tryz.func168.trans (congrArg some (by kernel_rfl))⟩
 f15:=Tryz.func107.trans (congrArg some (by kernel_rfl))
 f20:=⟨Tryz.f246.name,by decide,Tryz.func246.trans (congrArg some (by kernel_rfl))⟩
 f21:=⟨Tryz.f247.name,by decide,Tryz.func247.trans (congrArg some (by kernel_rfl))⟩
 f22:=⟨Tryz.f248.name,by decide,Tryz.func248.trans (congrArg some (by kernel_rfl))⟩
 f23:=⟨Tryz.f249.name,by decide,Tryz.func249.trans (congrArg some (by kernel_rfl))⟩
 f24:=⟨Tryz.f250.name,by decide,Tryz.func250.trans (congrArg some (by kernel_rfl))⟩
 f25:=⟨Tryz.f251.name,by decide,Tryz.func251.trans (congrArg some (by kernel_rfl))⟩
 f26:=⟨Tryz.f252.name,by decide,Tryz.func252.trans (congrArg some (by kernel_rfl))⟩
 f27:=⟨Tryz.f253.name,by decide,Tryz.func253.trans (congrArg some (by kernel_rfl))⟩
 f28:=Tryz.func177.trans (congrArg some (by kernel_rfl))
 f29:=Tryz.func178.trans (congrArg some (by kernel_rfl))
 f46:=⟨Tryz.f284.name,by decide,Tryz.func284.trans (congrArg some (by kernel_rfl))⟩
 f47:=Tryz.func255.trans (congrArg some (by kernel_rfl))
 f48:=Tryz.func256.trans (congrArg some (by kernel_rfl))
 f49:=⟨Tryz.f285.name,by decide,Tryz.func285.trans (congrArg some (by kernel_rfl))⟩
 f50:=⟨Tryz.f286.name,by decide,Tryz.func286.trans (congrArg some (by kernel_rfl))⟩
 f57:=⟨Tryz.f312.name,by decide,Tryz.func312.trans (congrArg some (by kernel_rfl))⟩
 t0:=Tryz.underlying0
 a0:=Tryz.isAgg0
 z0:=Tryz.sizeOf0
 v0:=Tryz.zeroValue0
 t3:=Tryz.underlying3
 a3:=Tryz.isAgg3
 z3:=Tryz.sizeOf3
 v3:=Tryz.zeroValue3
 t4:=Tryz.underlying4
 a4:=Tryz.isAgg4
 z4:=Tryz.sizeOf4
 v4:=Tryz.zeroValue4
 t5:=Tryz.underlying5
 a5:=Tryz.isAgg5
 z5:=Tryz.sizeOf5
 v5:=Tryz.zeroValue5
 t9:=Tryz.underlying9
 a9:=Tryz.isAgg9
 z9:=Tryz.sizeOf9
 v9:=Tryz.zeroValue9
 t22:=Tryz.underlying34
 a22:=Tryz.isAgg34
 z22:=Tryz.sizeOf34
 v22:=Tryz.zeroValue34
 t25:=Tryz.underlying149
 a25:=Tryz.isAgg149
 z25:=Tryz.sizeOf149
 v25:=Tryz.zeroValue149
 t39:=Tryz.underlying157
 a39:=Tryz.isAgg157
 z39:=Tryz.sizeOf157
 v39:=Tryz.zeroValue157
 t45:=Tryz.underlying240
 a45:=Tryz.isAgg240
 z45:=Tryz.sizeOf240
 v45:=Tryz.zeroValue240
 t46:=Tryz.underlying241
 a46:=Tryz.isAgg241
 z46:=Tryz.sizeOf241
 v46:=Tryz.zeroValue241
 t50:=Tryz.underlying129
 a50:=Tryz.isAgg129
 z50:=Tryz.sizeOf129
 v50:=Tryz.zeroValue129
 t53:=Tryz.underlying114
 a53:=Tryz.isAgg114
 z53:=Tryz.sizeOf114
 v53:=Tryz.zeroValue114
 t55:=Tryz.underlying248
 a55:=Tryz.isAgg248
 z55:=Tryz.sizeOf248
 v55:=Tryz.zeroValue248
 t66:=Tryz.underlying326
 a66:=Tryz.isAgg326
 z66:=Tryz.sizeOf326
 v66:=Tryz.zeroValue326
 t70:=Tryz.underlying330
 a70:=Tryz.isAgg330
 z70:=Tryz.sizeOf330
 v70:=Tryz.zeroValue330
 t76:=Tryz.underlying361
 a76:=Tryz.isAgg361
 z76:=Tryz.sizeOf361
 v76:=Tryz.zeroValue361
 t77:=Tryz.underlying288
 a77:=Tryz.isAgg288
 z77:=Tryz.sizeOf288
 v77:=Tryz.zeroValue288 }
end Go.Proofs
namespace Go.Proofs.YtfdeiphkmjdifaaGreatDoor
open Go.Proofs.Tryz Go Go.RowKit Go.Sort
def yG{α:Type}[DecidableEq α](f:α→α→Option Int)(p0:List α):Option (List α):=srtF f p0
theorem y6A{F:FuncId}{mf:Int×Int×Int→Int×Int×Int→Option Int}(eg:∀args w,(callFunc F args).run prog w= .ok (.enter F args) w)
  (H:∀x y z,mf x y=some z→Fw prog F ⟨0,[]⟩ [.a [lI x.1,lI x.2.1,lI x.2.2],.a [lI y.1,lI y.2.1,lI y.2.2]] [] (.i z) []) {p0 r:List (Int×Int×Int)} (hm:yG mf p0=some r):
  Fw prog 62 ⟨1,[0]⟩ [.h 0,.o (lV (.func (.func F) #[] #[]))] [ROW (rP qI (rP qI qI)) 112 p0] (.tp []) [ROW (rP qI (rP qI qI)) 112 r]:=
 yh6 fun {s t0 a1 c1} zt0 h1=>yfE (r:=rP qI (rP qI qI)) (ρ:=Tryz.sortE_ren) Tryz.sortE Tryz.isAgg112 Tryz.sizeOf112 (by decide) eg (Fw.cmpK (fun x=> [lI x.1,lI x.2.1,lI x.2.2]) (fun _ _ _ _ ⟨_,_,e1,h1,_,_,e2,h2,h3⟩=>by
  cases h1;cases h2;cases h3;cases e2;cases e1;exact⟨_,_,⟨rfl,rfl⟩,⟨_,_,⟨rfl,rfl⟩,⟨_,_,⟨rfl,rfl⟩,rfl,rfl⟩,rfl⟩,rfl⟩) H) zt0 h1 hm
theorem y8G{F:FuncId}{mf:Int×Int→Int×Int→Option Int}(eg:∀args w,(callFunc F args).run prog w= .ok (.enter F args) w)
  (H:∀x y z,mf x y=some z→Fw prog F ⟨0,[]⟩ [.a [lI x.1,lI x.2],.a [lI y.1,lI y.2]] [] (.i z) []) {p0 r:List (Int×Int)} (hm:yG mf p0=some r):
  Fw prog 94 ⟨1,[0]⟩ [.h 0,.o (lV (.func (.func F) #[] #[]))] [ROW (rP qI qI) 70 p0] (.tp []) [ROW (rP qI qI) 70 r]:=
 yh6 fun {s t0 a1 c1} zt0 h1=>yfE (r:=rP qI qI) (ρ:=Tryz.sortP_ren) Tryz.sortP Tryz.isAgg70 Tryz.sizeOf70 (by decide) eg (Fw.cmpK (fun x=> [lI x.1,lI x.2]) (fun _ _ _ _ ⟨_,_,e1,h1,h2⟩=>by
  cases h1;cases h2;cases e1;exact⟨_,_,⟨rfl,rfl⟩,⟨_,_,⟨rfl,rfl⟩,rfl,rfl⟩,rfl⟩) H) zt0 h1 hm
end Go.Proofs.YtfdeiphkmjdifaaGreatDoor
set_option maxRecDepth 100000
set_option maxHeartbeats 8000000
namespace Go.Proofs.YtfdeiphkmjdifaaGreatDoor
open Go.Proofs.Tryz Go Go.RowKit
noncomputable section
def yZ(a:Int×(List ((Int×Int×Int)×Bool))×EdgL)(b:List ((Int×Int×Int)×Bool))(c:List (Int×Int×Int)):Option ((Int×(List ((Int×Int×Int)×Bool))×EdgL)⊕EdgL):=
 some (.inl (W (a.1+1),b,c))
def y1a(p0:LI×Int×LI×LI×EdgL)(e:LI×Int)(a:Int×(List ((Int×Int×Int)×Bool))×EdgL):Option ((Int×(List ((Int×Int×Int)×Bool))×EdgL)⊕EdgL):=
 if decide (a.1<(p0.2.2.2.2.length:Int)) then
  (idx p0.2.2.2.2 a.1).bind fun b=>
  (idx e.1 b.1).bind fun c=>
  (idx e.1 b.2.2).bind fun d=>
  if(((b.2.1 != (-1))||(c != d))&&(!((kget a.2.1 (c,b.2.1,d)).getD false))) then
   (app a.2.2 ([(c,b.2.1,d)]:List (Int×Int×Int))).bind fun f=>
   yZ a (kput a.2.1 (c,b.2.1,d) true) f
  else
   yZ a a.2.1 a.2.2
 else
  some (.inr a.2.2)
def y1L(c:LI×Int)(a:Int×Int):Option ((Int×Int)⊕Int):=
 if decide (a.1<(c.1.length:Int)) then
  (idx c.1 a.1).bind fun b=>
  some (.inl (W (a.1+1),(if a.2<W (b+1) then W (b+1) else a.2)))
 else
  some (.inr a.2)
def yW(p0:LI×Int×LI×LI×EdgL):Option ((LI×Int×LI×LI×EdgL)×Int):=
 (y1Y p0).bind fun a=>
 if(a.2 != 0) then
  some ((([]:LI),0,([]:LI),([]:LI),([]:List (Int×Int×Int))),a.2)
 else
  (yn p0.1).bind fun e=>
  ((yw a.1) p0.2.2.1).bind fun f=>
  ((yw a.1) p0.2.2.2.1).bind fun g=>
  (iter (y1L a) (0,0)).bind fun b=>
  (iter (y1a p0 a) (0,([]:List ((Int×Int×Int)×Bool)),([]:List (Int×Int×Int)))).bind fun c=>
  (yG y5h c).bind fun d=>
  some ((e,b,f,g,d),0)
theorem y5i{p0:LI×Int×LI×LI×EdgL}{r:(LI×Int×LI×LI×EdgL)×Int}(hm:yW p0=some r):
    F0 13 [.a (lx29 p0)] [] (.tp [.a [lH 0,lI r.1.2.1,lF qI r.1.2.2.1,lF qI r.1.2.2.2.1,lH 1],.i r.2]) [rwI r.1.1,ROW qT 112 r.1.2.2.2.2]:=by
  refine Fw.mk2 func13 ntmps13 R (fun C=>?_) R;refine .sr (.bo 0 R (.al 1 zz29 R (.an R (.sr (.lg (lx29 p0) ag29 R (.B R) R (bS hm fun u a8 hm=> .c0 (y6P a8) cf24 R (.mv R (.ex R (.ex R (.al 2 zz26 R (.st nag26.sz R (.an R (.seq (.sv R (.bi R (.ns ?_))))))))))))))));refine .cc hm R (fun hm=>?_) fun hm=>?_
  ·refine .sr (.bu [lN,lI 0,lN,lN,lN] pl29 R (.mv R (.st ag29.sz R (.an R (.ret (.seqR (.nlb qI 3 1 0 R R (.nlb qT 112 1 4 R R (.cno 1 R (.c .rf (.c .rf (.c (.nf (r:=qI)) (.c (.nf (r:=qI)) .rf)))) R ?_)))))))));cases hm;exact .rr [3,4] results13 (.cell R R ag29 R (.tmp R .nil)) R I3 ⟨⟨_,R,I4⟩,⟨_,R,I4⟩,trivial⟩
  ·refine .sn (.sr (.fa y5z R (.lb nag26 R (bS hm fun w a9 hm=> .cm (r':= .h 3) [3] [(0,rwI w)] (some 4) (yC a9) cf58 R ⟨⟨_,R,I4⟩,trivial⟩ R (.bu [lH 3,lI 0,lN,lN,lN] pl29 R (.al 4 zz29 R (.st ag29.sz R (.nr (.fz 2 [4] [] R R fB R R (.op (O.mf (args:=(fun (x:LI)=> [.f qI x])) (res:=(fun (r:LI)=> .f qI r)) (m:=(yw u.1)) cf59 (fun x r h=>y8d h) (fun _=>R) R Z R R) R (.an R (.seq ?_))))))))))));refine .sub (τ:=⟨[(7,.o (lW prog (fun (x:LI)=> [.f qI x]) (fun (r:LI)=> .f qI r) (yw u.1))),(6,.q 4 0),(4,.o (lQ 26 [lF qI u.1] 0)),(2,.q 1 0),(1,.q 0 0)],[(4,.bx 29 [lH 3,lI 0,lN,lN,lN]),(3,rwI w),(1,.bx 29 [lN,lI 0,lN,lN,lN]),(0,.bx 29 (lx29 p0))],5⟩) ?_ [] R;refine bS hm fun D b0 hm=>bS hm fun F b1 hm=>?_;refine .drz 5 [(9,4)] [(5,[],[],[]),(5,[],[],[]),(5,[oF,oT],[],[]),(5,tT 3,[],[]),(5,[],[],[]),(5,[],[],[]),(5,[oF,oF,oF,oF,oF,oT],[],[]),(5,tT 7,[],[]),(5,tT 4,[],[]),(5,tT 9,[],[]),(5,tT 10,[],[]),(5,tT 11,[],[])] [_,_,_,_,_,_,_,_,_,_,_,_] ⟨[(6,.q 4 0),(4,.o (lQ 26 [lF qI u.1] 0)),(2,.q 1 0),(1,.q 0 0)],[(4,.bx 29 [lH 3,lI 0,lF qI D,lF qI F,lN]),(3,rwI w),(1,.bx 29 [lN,lI 0,lN,lN,lN]),(0,.bx 29 (lx29 p0))],5⟩ ⟨zM R,O.faP y6t Z R R,zB nag26 R,O.fv (args:=(fun (x:LI)=> [.f qI x])) (res:=(fun (r:LI)=> .f qI r)) (m:=(yw u.1)) (y:=p0.2.2.1) R R R Z R b0 R R,zM R,O.faP y6u Z R R,zB nag26 R,O.fv (args:=(fun (x:LI)=> [.f qI x])) (res:=(fun (r:LI)=> .f qI r)) (m:=(yw u.1)) (y:=p0.2.2.2.1) R R R Z R b1 R R,O.faP y6t Z R R,O.st nag26.sz Z R R R R R,O.faP y6u Z R R,O.st nag26.sz Z R R R R R,trivial⟩ (by kernel_rfl) R ?_;refine .seqN (.seq (.sr (.lq nag26 R (.ln sl26 R (.mv R (.ns (.block (bS hm fun t T hm=>?_))))))));refine .cut1 (z:= .exit 0) t (fun (t:Int)=>⟨[(6,.q 0 0),(4,.o (lQ 26 [lF qI u.1] 0)),(2,.q 2 0),(1,.q 3 0)],[(0,.bx 29 [lH 1,lI t,lF qI D,lF qI F,lN]),(1,rwI w),(2,.bx 29 [lN,lI 0,lN,lN,lN]),(3,.bx 29 (lx29 p0))],4⟩) ?_ fun a6=>?_
   · skip
     refine .blkE (.seqN (.sr (.op (O.mk2 (kv:=kvE) (r:=rB) 4 R Z R) R (.an R (.seq (.sr (.fa y2f R (.lb nag27 R (.ln sl27 R (.mv R (.ns (.block (bS hm fun K U hm=>?_)))))))))))));refine .cut1 (z:= .exit 2) K (fun (K:EdgL)=>⟨[(6,.q 0 0),(2,.q 3 0)],[(0,.bx 29 [lH 1,lI t,lF qI D,lF qI F,lH 2]),(1,rwI w),(2,ROW qT 112 K),(3,.bx 29 [lN,lI 0,lN,lN,lN])],4⟩) ?_ fun a7=>?_
     · skip
       refine .blkE (.seqN (.sr (.fa y2f R (.lb nag27 R (bS hm fun b2 V hm=> .cm (r':= .tp []) [2] [(0,ROW qT 112 b2)] none (y6A cf63 (fun _ _ _=>y8e) V) cf62 R ⟨⟨_,R,I4⟩,trivial⟩ R (.nr (.lg [lH 1,lI t,lF qI D,lF qI F,lH 2] ag29 R (.B R) R (.st ag29.sz R (.an R (.ret ?_))))))))));cases hm;exact .rr [1,2] results13 (.cell R R ag29 R (.tmp R .nil)) R I3 ⟨⟨_,R,I4⟩,⟨_,R,I4⟩,trivial⟩
     refine .nlb qT 112 0 4 R R (.iter (fun (e:Int×(List ((Int×Int×Int)×Bool))×EdgL)=>⟨[(55,.i e.1),(54,.i p0.2.2.2.2.length),(53,.f qT p0.2.2.2.2),(10,.h 0),(6,.q 1 0),(4,.o (lQ 26 [lF qI u.1] 0)),(2,.q 4 0)],[(0,MAP kvE rB 121 e.2.1),(1,.bx 29 [lH 2,lI t,lF qI D,lF qI F,lH 3]),(2,rwI w),(3,ROW qT 112 e.2.2),(4,.bx 29 [lN,lI 0,lN,lN,lN])],5⟩) U [(0,4),(1,0),(2,1),(3,5),(4,2)] R ?_);intro e N hm a5 a3;refine .sr (.bi R (.ns (.seq ?_)));refine .cc hm R (fun hm=>?_) fun hm=> .xx ((a7 _ (a3 _ (oj hm))).sub [(0,1),(1,2),(2,3),(3,4)] R);refine .sn ?_;refine .join2 (fun (H:List ((Int×Int×Int)×Bool)) (I:List (Int×Int×Int))=>yZ e H I=some N) (fun H I=>⟨[(55,.i e.1),(54,.i p0.2.2.2.2.length),(53,.f qT p0.2.2.2.2),(10,.h 0),(6,.q 1 0),(4,.o (lQ 26 [lF qI u.1] 0)),(2,.q 4 0)],[(0,MAP kvE rB 121 H),(1,.bx 29 [lH 2,lI t,lF qI D,lF qI F,lH 3]),(2,rwI w),(3,ROW qT 112 I),(4,.bx 29 [lN,lI 0,lN,lN,lN])],5⟩) ?_ ?_
     · intro H I hm;exact .reg (.bi R (.mv R (.nil ((a5 _ (oj hm)).s0 R))))
     · intro J;refine .block (.sr (bS hm fun g W hm=> .ix sl27 W R (.lg [lI g.1,lI g.2.1,lI g.2.2] ag112 R (.E lv112) R (.al 5 zz112 R (.st ag112.sz R (.ns (.seq ?_)))))));refine .sub (τ:=⟨[(12,.q 5 0),(55,.i e.1),(54,.i p0.2.2.2.2.length),(53,.f qT p0.2.2.2.2),(10,.h 0),(6,.q 1 0),(4,.o (lQ 26 [lF qI u.1] 0)),(2,.q 4 0)],[(5,.bx 112 [lI g.1,lI g.2.1,lI g.2.2]),(0,MAP kvE rB 121 e.2.1),(1,.bx 29 [lH 2,lI t,lF qI D,lF qI F,lH 3]),(2,rwI w),(3,ROW qT 112 e.2.2),(4,.bx 29 [lN,lI 0,lN,lN,lN])],6⟩) ?_ [] R;refine bS hm fun j X hm=>bS hm fun s Y hm=>?_;refine .drz 7 [(13,6)] [(6,[],[],[]),(6,[],[],[]),(6,[oF,oT],[],[]),(6,tT 3,[],[]),(6,tT 4,[],[]),(6,[],[],[]),(6,[oF,oF,oF,oF,oF,oT],[],[]),(6,[],[],[]),(6,[],[],[]),(6,[oF,oF,oF,oF,oF,oF,oF,oF,oT],[],[]),(6,fA 7 (tT 3),[],[]),(6,fA 7 (tT 4),[],[]),(6,tT 12,[],[]),(6,[],[],[]),(7,tT 14,[],[])] [_,_,_,_,_,_,_,_,_,_,_,_,_,_,_] ⟨[(13,.q 6 0),(55,.i e.1),(54,.i p0.2.2.2.2.length),(53,.f qT p0.2.2.2.2),(10,.h 0),(6,.q 1 0),(4,.o (lQ 26 [lF qI u.1] 0)),(2,.q 4 0)],[(6,.bx 112 [lI j,lI g.2.1,lI s]),(0,MAP kvE rB 121 e.2.1),(1,.bx 29 [lH 2,lI t,lF qI D,lF qI F,lH 3]),(2,rwI w),(3,ROW qT 112 e.2.2),(4,.bx 29 [lN,lI 0,lN,lN,lN])],7⟩ ⟨O.ld nag26 Z R .Q R R,O.faP yS Z R R,zB nag3 R,O.ix sl26 Z R R X R,O.ld nag3 Z R (.E lv3) R R,O.faP y1V Z R R,zB nag3 R,O.ld nag26 Z R .Q R R,O.faP y1W Z R R,zB nag3 R,O.ix sl26 Z R R Y R,O.ld nag3 Z R (.E lv3) R R,O.bu (l:=[lI j,lI g.2.1,lI s]) pl112 R Z R R R,O.al 6 R zz112 R Z R,O.st ag112.sz Z R R R R R,trivial⟩ (by kernel_rfl) R ?_;refine .seqN (.sr (.fa y1V R (.lb nag3 R (.bi R (.mv R ?_)))));refine .cut 6 (fun (L:Bool)=>((g.2.1 != (-1))||(j != s))=L) (fun L=>⟨[(81,.b L),(13,.q 6 0),(55,.i e.1),(54,.i p0.2.2.2.2.length),(53,.f qT p0.2.2.2.2),(10,.h 0),(6,.q 1 0),(4,.o (lQ 26 [lF qI u.1] 0)),(2,.q 4 0)],[(6,.bx 112 [lI j,lI g.2.1,lI s]),(0,MAP kvE rB 121 e.2.1),(1,.bx 29 [lH 2,lI t,lF qI D,lF qI F,lH 3]),(2,rwI w),(3,ROW qT 112 e.2.2),(4,.bx 29 [lN,lI 0,lN,lN,lN])],7⟩) ?_ ?_
       · rintro _ rfl;refine .mv R ?_;refine .cut 5 (fun (M:Bool)=>(((g.2.1 != (-1))||(j != s))&&(!((kget e.2.1 (j,g.2.1,s)).getD false)))=M) (fun M=>⟨[(87,.b M),(13,.q 6 0),(55,.i e.1),(54,.i p0.2.2.2.2.length),(53,.f qT p0.2.2.2.2),(10,.h 0),(6,.q 1 0),(4,.o (lQ 26 [lF qI u.1] 0)),(2,.q 4 0)],[(6,.bx 112 [lI j,lI g.2.1,lI s]),(0,MAP kvE rB 121 e.2.1),(1,.bx 29 [lH 2,lI t,lF qI D,lF qI F,lH 3]),(2,rwI w),(3,ROW qT 112 e.2.2),(4,.bx 29 [lN,lI 0,lN,lN,lN])],7⟩) ?_ ?_
         · rintro _ rfl;refine .ns ?_;refine .cc hm R (fun hm=>?_) fun hm=> .skip (.blkN ((J _ _ hm).s0 R));refine .sub (τ:=⟨[(13,.q 6 0),(55,.i e.1),(54,.i p0.2.2.2.2.length),(53,.f qT p0.2.2.2.2),(10,.h 0),(6,.q 1 0),(4,.o (lQ 26 [lF qI u.1] 0)),(2,.q 4 0)],[(6,.bx 112 [lI j,lI g.2.1,lI s]),(0,MAP kvE rB 121 e.2.1),(1,.bx 29 [lH 2,lI t,lF qI D,lF qI F,lH 3]),(2,rwI w),(3,ROW qT 112 e.2.2),(4,.bx 29 [lN,lI 0,lN,lN,lN])],7⟩) ?_ [] R;refine bS hm fun b3 a0 hm=>?_;refine .drd 8 [(7,[],[3]),(7,[],[3]),(7,[],[]),(7,[oF,oF,oT],[]),(7,[],[]),(7,[oF,oF,oF,oF,oT],[]),(7,fA 2 (tT 4),[]),(8,tT 7,[]),(8,tT 8,[]),(8,tT 9,[])] [_,_,_,_,_,_,_,_,_,_] ⟨[(55,.i e.1),(54,.i p0.2.2.2.2.length),(53,.f qT p0.2.2.2.2),(10,.h 0),(6,.q 1 0),(4,.o (lQ 26 [lF qI u.1] 0)),(2,.q 4 0)],[(0,MAP kvE rB 121 (kput e.2.1 (j,g.2.1,s) true)),(1,.bx 29 [lH 2,lI t,lF qI D,lF qI F,lH 7]),(2,rwI w),(7,ROW qT 112 b3),(4,.bx 29 [lN,lI 0,lN,lN,lN])],8⟩ ⟨zM R,O.lg (l':=[lI j,lI g.2.1,lI s]) ag112 Z R (.B R) R R R,O.faP y2f Z R R,zB nag27 R,O.lg (l':=[lI j,lI g.2.1,lI s]) ag112 Z R (.B R) R R R,O.bsF (r:=qT) (zs:=([(j,g.2.1,s)]:List (Int×Int×Int))) bs27 R R Z R R R (.c (.p .k (.p .k .k)) .n) R R R,O.ap 7 underlying27 el112 R R Z R R (.fr R) a0 R,O.mu (k:=(j,g.2.1,s)) (v:=true) md121 (fun _ _=>eqE) Z R R (.a R R) R .b,O.faP y2f Z R R,O.st nag27.sz Z R R R R R,trivial⟩ (by kernel_rfl) R ?_;exact .blkN ((J _ _ hm).sub [(3,7)] R)
         · intro S;rcases yEt ((g.2.1 != (-1))||(j != s)) with hc|hc
           · refine .know (d:=82) R hc ?_;exact .mg R (.op (O.lg (l':=[lI j,lI g.2.1,lI s]) ag112 (Gu.mk R R) R (.B R) R R R) R (.op (O.mb (k:=(j,g.2.1,s)) md121 (Gu.mk R R) (.ow R R) (.a R R) R) R (.op (O.not (Gu.mk R R) R R) R (.pT R ((S (!((kget e.2.1 (j,g.2.1,s)).getD false)) (andT hc).symm).s0 R)))))
           · refine .know (d:=82) R hc ?_;exact .s2 R R (.s2 R R (.pF R ((S false (andF hc).symm).s0 R)))
       · intro P;rcases yEt (g.2.1 != (-1)) with hc|hc
         · refine .know (d:=75) R hc ?_;exact .s2 R R (.s2 R R (.sk R (.pT R ((P true (orT hc).symm).s0 R))))
         · refine .know (d:=75) R hc ?_;exact .fag yS R (.lbg nag3 R (.fag y1W R (.lbg nag3 R (.bg R (.pF R ((P (j != s) (orF hc).symm).s0 R))))))
   refine .iter (fun (G:Int×Int)=>⟨[(40,.i G.1),(39,.i u.1.length),(38,.f qI u.1),(6,.q 0 0),(4,.o (lQ 26 [lF qI u.1] 0)),(2,.q 2 0),(1,.q 3 0)],[(0,.bx 29 [lH 1,lI G.2,lF qI D,lF qI F,lN]),(1,rwI w),(2,.bx 29 [lN,lI 0,lN,lN,lN]),(3,.bx 29 (lx29 p0))],4⟩) T [(0,4),(1,3),(2,1),(3,0)] R ?_;intro G b4 hm a4 a2;refine .sr (.bi R (.ns (.seq ?_)));exact .cc hm R (fun hm=> .sn (.seq (.block (.sr (bS hm fun b5 a1 hm=> .ix sl26 a1 R (.le nag3 lv3 R (.an R (.reg (.fa y2G R (.lb nag3 R (.mv R (.bi R (.op (O.max Z R R R) R (.fa y2G R (.st nag3.sz R (.nil (.blkN (.seqN (.reg (.bi R (.mv R (.nil ((a4 _ (oj hm)).s0 R))))))))))))))))))))))) fun hm=> .xx ((a6 _ (a2 _ (oj hm))).s0 R)
def y2M(p0:LI)(p1:Int)(a:Int):Option (Int⊕(Unit⊕Int)):=
 if decide (a<(p0.length:Int)) then
  (idx p0 a).bind fun b=>
  if((decide (b<0))||(decide (b≥p1))) then
   some (.inr (.inr (2)))
  else
   (if decide (a>0) then
    (idx p0 (W (a-1))).bind fun d=>
    some (decide (b≤d))
   else
    some false).bind fun c=>
   if c then
    some (.inr (.inr (5)))
   else
    some (.inl (W (a+1)))
 else
  some (.inr (.inl ()))
def y1v(p0:LI)(p1:Int):Option Int:=
 (iter (y2M p0 p1) 0).bind fun a=>
 match a with
 | .inl c=>
  some 0
 | .inr (b)=>
  some b
theorem y6X{p0:LI}{p1:Int}{r:Int}(hm:y1v p0 p1=some r):
  F0 181 [.f qI p0,.i p1] [] (.i r) []:=by
 refine Fw.mk2 func181 ntmps181 R (fun C=>?_) R;refine .sr (.an R (.seq (.sv R (.ln sl26 R (.mv R (.ns (.block (bS hm fun o p hm=>?_))))))));refine .cutU (z:= .exit 0) (fun h=> .inl h=o) (fun (h:Unit)=>⟨[],[],0⟩) ?_ fun u=>?_
 ·rintro h rfl;dsimp only at hm;refine .blkE (.seqN (.sr (.an R (.ret ?_))));cases hm;exact .r0 results181 (.tmp R .nil) R R
 refine .cutU (z:= .ret) (fun g=> .inr (g)=o) (fun (g:Int)=>⟨[(4,.i g)],[],0⟩) ?_ fun n=>?_
 ·rintro g rfl;dsimp only at hm;refine .blkR (.seqR ?_);cases hm;exact .r0 results181 (.tmp R .nil) R R
 refine .iter (fun (a:Int)=>⟨[(9,.i a),(8,.i p0.length),(7,.f qI p0),(0,.f qI p0),(1,.i p1)],[],0⟩) p [] R ?_;intro a x hm t e;refine .sr (.bi R (.ns (.seq ?_)));refine .cc hm R (fun hm=>?_) fun hm=> .xx ((u _ (e _ (oj hm))).s0 R);refine .sn (.seq (.block (.sv R (bS hm fun c q hm=> .ix sl26 q R (.le nag3 lv3 R (.sa R (.an R (.block (.sv R (.bi R (.mv R ?_)))))))))));refine .cut 4 (fun (j:Bool)=>((decide (c<0))||(decide (c≥p1)))=j) (fun j=>⟨[(21,.b j),(6,.i c),(5,.i a),(9,.i a),(8,.i p0.length),(7,.f qI p0),(0,.f qI p0),(1,.i p1)],[],0⟩) ?_ ?_
 ·rintro _ rfl;refine .an R (.cc hm R (fun hm=> .sr (.an R (.ret (.blkR (.blkR (.seqR (.seqR ((n _ (e _ (oj hm))).s0 R)))))))) fun hm=>?_);refine .sv R (.bi R (.mv R (bS hm fun v eb19 hm=>?_)));refine .cut 8 (fun (k:Bool)=>v=k) (fun k=>⟨[(33,.b k),(9,.i a),(8,.i p0.length),(7,.f qI p0),(0,.f qI p0),(1,.i p1)],[],0⟩) ?_ ?_
  ·rintro _ rfl;exact .an R (.cc hm R (fun hm=> .sr (.an R (.ret (.blkR (.blkR (.seqR (.seqR ((n _ (e _ (oj hm))).s0 R)))))))) fun hm=> .skip (.blkN (.blkN (.seqN (.reg (.bi R (.mv R (.nil ((t _ (oj hm)).s0 R)))))))))
  ·intro m;rcases ifS eb19 with ⟨hc,hm⟩|⟨hc,hm⟩
   ·refine .know (d:=25) R hc ?_;exact .mg R (.mg R (.mg R (.bg R (bS hm fun w s hm=> .op (O.ix sl26 (Gu.mk R R) R R s R) R (.leg nag3 lv3 R (.bg R (.pT R ((m (decide (c≤w)) (oj hm)).s0 R))))))))
   ·refine .know (d:=25) R hc ?_;exact .s2 R R (.s2 R R (.s2 R R (.sk R (.pF R ((m false (oj hm)).s0 R)))))
 ·intro l;rcases yEt (decide (c<0)) with hc|hc
  ·refine .know (d:=17) R hc ?_;exact .s2 R R (.sk R (.pT R ((l true (orT hc).symm).s0 R)))
  ·refine .know (d:=17) R hc ?_;exact .mg R (.mg R (.bg R (.pF R ((l (decide (c≥p1)) (orF hc).symm).s0 R))))
def y3u(p0:LI)(p1:Int)(a:Int):Option (Int⊕(Unit⊕Int)):=
 if decide (a<(p0.length:Int)) then
  (idx p0 a).bind fun b=>
  if(p1==b) then
   some (.inr (.inr (a)))
  else
   some (.inl (W (a+1)))
 else
  some (.inr (.inl ()))
def y6B(p0:LI)(p1:Int):Option Int:=
 (iter (y3u p0 p1) 0).bind fun a=>
 match a with
 | .inl c=>
  some (-1)
 | .inr (b)=>
  some b
theorem yaa{p0:LI}{p1:Int}{r:Int}(hm:y6B p0 p1=some r):
  F0 110 [.f qI p0,.i p1] [] (.i r) []:=by
 refine Fw.mk2 func110 ntmps110 R (fun C=>?_) R;refine .sr (.an R (.seq (.sv R (.ln sl26 R (.mv R (.ns (.block (bS hm fun j g hm=>?_))))))));refine .cutU (z:= .exit 0) (fun e=> .inl e=j) (fun (e:Unit)=>⟨[],[],0⟩) ?_ fun K7=>?_
 ·rintro e rfl;dsimp only at hm;refine .blkE (.seqN (.sr (.an R (.ret ?_))));cases hm;exact .r0 results110 (.tmp R .nil) R R
 refine .cutU (z:= .ret) (fun a=> .inr (a)=j) (fun (a:Int)=>⟨[(4,.i a)],[],0⟩) ?_ fun K9=>?_
 ·rintro a rfl;dsimp only at hm;refine .blkR (.seqR ?_);cases hm;exact .r0 results110 (.tmp R .nil) R R
 refine .iter (fun (c:Int)=>⟨[(8,.i c),(7,.i p0.length),(0,.f qI p0),(1,.i p1)],[],0⟩) g [] R ?_;intro c k hm h b;refine .sr (.bi R (.ns (.seq ?_)));refine .cc hm R (fun hm=>?_) fun hm=> .xx ((K7 _ (b _ (oj hm))).s0 R);refine .sn (.seq (.block (.sv R (.an R (.sv R (.mv R (.mv R (bS hm fun l d hm=> .ix sl26 d R (.le nag3 lv3 R (.bi R (.ns ?_)))))))))));exact .cc hm R (fun hm=> .sv R (.an R (.ret (.blkR (.seqR (.seqR ((K9 _ (b _ (oj hm))).s0 R))))))) fun hm=> .skip (.blkN (.seqN (.reg (.bi R (.mv R (.nil ((h _ (oj hm)).s0 R)))))))
def yl(p0:LI)(p1:Int):Option Bool:=
 (y6B p0 p1).bind fun a=>
 some (decide (a≥0))
theorem y4i{p0:LI}{p1:Int}{r:Bool}(hm:yl p0 p1=some r):
  F0 41 [.f qI p0,.i p1] [] (.b r) []:=by
 refine Fw.mk2 func41 ntmps41 R (fun C=>?_) R;refine .sr (.an R (.sv R (.mv R (bS hm fun c a hm=> .c0 (yaa a) cf110 R (.bi R (.an R (.ret ?_)))))));cases hm;exact .r0 results41 (.tmp R .nil) R R
def y1M(a:Int):Option (Int⊕(Unit⊕Int)):=
 some (.inl (W (a+1)))
def y1N(p0:AutT)(a:Int):Option (Int⊕(Unit⊕Int)):=
 if decide (a<(p0.2.2.2.length:Int)) then
  (idx p0.2.2.2 a).bind fun b=>
  if((((decide (b.1<0))||(decide (b.1≥p0.2.1)))||(decide (b.2.2<0)))||(decide (b.2.2≥p0.2.1))) then
   some (.inr (.inr (2)))
  else
   (yl p0.1 b.2.1).bind fun d=>
   if(!d) then
    some (.inr (.inr (9)))
   else
    if(a==0) then
     y1M a
    else
     (idx p0.2.2.2 (W (a-1))).bind fun c=>
     if((decide (b.1<c.1))||((b.1==c.1)&&(decide (b.2.1≤c.2.1)))) then
      some (.inr (.inr (5)))
     else
      y1M a
 else
  some (.inr (.inl ()))
def y4B(p0:AutT):Option Int:=
 (iter (y1N p0) 0).bind fun a=>
 match a with
 | .inl c=>
  some 0
 | .inr (b)=>
  some b
theorem y8H{p0:AutT}{r:Int}(hm:y4B p0=some r):
  F0 182 [.a (lx60 p0)] [] (.i r) []:=by
 refine Fw.mk2 func182 ntmps182 R (fun C=>?_) R;refine .sr (.bo 0 R (.an R (.seq (.sr (.fa y5A R (.lb nag27 R (.ln sl27 R (.mv R (.ns (.block (bS hm fun D F hm=>?_)))))))))));refine .cutU (z:= .exit 0) (fun m=> .inl m=D) (fun (m:Unit)=>⟨[],[],0⟩) ?_ fun K=>?_
 ·rintro m rfl;dsimp only at hm;refine .blkE (.seqN (.sr (.an R (.ret ?_))));cases hm;exact .r0 results182 (.tmp R .nil) R R
 refine .cutU (z:= .ret) (fun j=> .inr (j)=D) (fun (j:Int)=>⟨[(2,.i j)],[],0⟩) ?_ fun l=>?_
 ·rintro j rfl;dsimp only at hm;refine .blkR (.seqR ?_);cases hm;exact .r0 results182 (.tmp R .nil) R R
 refine .iter (fun (e:Int)=>⟨[(9,.i e),(8,.i p0.2.2.2.length),(7,.f qT p0.2.2.2),(1,.q 0 0)],[(0,.bx 60 (lx60 p0))],1⟩) F [] R ?_;intro e u hm J h;refine .sr (.bi R (.ns (.seq ?_)));refine .cc hm R (fun hm=>?_) fun hm=> .xx ((K _ (h _ (oj hm))).s0 R);refine .sn ?_;refine .join0 (y1M e=some u) (⟨[(9,.i e),(8,.i p0.2.2.2.length),(7,.f qT p0.2.2.2),(1,.q 0 0)],[(0,.bx 60 (lx60 p0))],1⟩) ?_ ?_
 ·intro hm;exact .reg (.bi R (.mv R (.nil ((J _ (oj hm)).s0 R))))
 ·intro k;refine .block (.sv R (bS hm fun c H hm=> .ix sl27 H R (.lg [lI c.1,lI c.2.1,lI c.2.2] ag112 R (.E lv112) R (.al 1 zz112 R (.sa R (.st ag112.sz R (.ns (.seq (.block (.sr (.fa yS R (.lb nag3 R (.bi R (.mv R ?_))))))))))))));refine .cut 6 (fun (n:Bool)=>((decide (c.1<0))||(decide (c.1≥p0.2.1)))=n) (fun n=>⟨[(24,.b n),(3,.i e),(4,.q 1 0),(9,.i e),(8,.i p0.2.2.2.length),(7,.f qT p0.2.2.2),(1,.q 0 0)],[(1,.bx 112 [lI c.1,lI c.2.1,lI c.2.2]),(0,.bx 60 (lx60 p0))],2⟩) ?_ ?_
  ·rintro _ rfl;refine .mv R ?_;refine .cut 4 (fun (o:Bool)=>(((decide (c.1<0))||(decide (c.1≥p0.2.1)))||(decide (c.2.2<0)))=o) (fun o=>⟨[(29,.b o),(3,.i e),(4,.q 1 0),(9,.i e),(8,.i p0.2.2.2.length),(7,.f qT p0.2.2.2),(1,.q 0 0)],[(1,.bx 112 [lI c.1,lI c.2.1,lI c.2.2]),(0,.bx 60 (lx60 p0))],2⟩) ?_ ?_
   ·rintro _ rfl;refine .mv R ?_;refine .cut 6 (fun (p:Bool)=>((((decide (c.1<0))||(decide (c.1≥p0.2.1)))||(decide (c.2.2<0)))||(decide (c.2.2≥p0.2.1)))=p) (fun p=>⟨[(36,.b p),(3,.i e),(4,.q 1 0),(9,.i e),(8,.i p0.2.2.2.length),(7,.f qT p0.2.2.2),(1,.q 0 0)],[(1,.bx 112 [lI c.1,lI c.2.1,lI c.2.2]),(0,.bx 60 (lx60 p0))],2⟩) ?_ ?_
    ·rintro _ rfl;refine .an R (.cc hm R (fun hm=> .sr (.an R (.ret (.blkR (.seqR (.blkR (.seqR (.seqR ((l _ (h _ (oj hm))).s0 R))))))))) fun hm=>?_);refine .sr (.fa y5U R (.lb nag26 R (.fa y1V R (.lb nag3 R (bS hm fun L G hm=> .c0 (y4i G) cf41 R (.no R (.an R ?_)))))));refine .cc hm R (fun hm=> .sr (.an R (.ret (.blkR (.seqR (.blkR (.seqR (.seqR ((l _ (h _ (oj hm))).s0 R))))))))) fun hm=>?_;refine .skip (.blkN (.seqN (.seq (.sv R (.bi R (.ns ?_))))));refine .cc hm R (fun hm=> .exit (.seqX (.blkE ((k hm).s0 R)))) fun hm=>?_;refine .sn (.sr (.fa y5A R (.lb nag27 R (.mv R (.bi R (bS hm fun g I hm=> .ix sl27 I R (.lg [lI g.1,lI g.2.1,lI g.2.2] ag112 R (.E lv112) R (.al 2 zz112 R (.st ag112.sz R (.nr (.fa yS R (.lb nag3 R (.fa yS R (.lb nag3 R (.bi R (.mv R ?_))))))))))))))));refine .cut 13 (fun (s:Bool)=>((decide (c.1<g.1))||((c.1==g.1)&&(decide (c.2.1≤g.2.1))))=s) (fun s=>⟨[(70,.b s),(9,.i e),(8,.i p0.2.2.2.length),(7,.f qT p0.2.2.2),(1,.q 0 0)],[(0,.bx 60 (lx60 p0))],3⟩) ?_ ?_
     ·rintro _ rfl;exact .ns (.cc hm R (fun hm=> .sr (.an R (.ret (.blkR (.seqR (.seqR ((l _ (h _ (oj hm))).s0 R))))))) fun hm=> .skip (.blkN ((k hm).s0 R)))
     ·intro y;rcases yEt (decide (c.1<g.1)) with hc|hc
      ·refine .know (d:=57) R hc ?_;exact .s2 R R (.s2 R R (.s2 R R (.su R (.su R (.su R (.su R (.su R (.sk R (.pT R ((y true (orT hc).symm).s0 R))))))))))
      ·refine .know (d:=57) R hc ?_;refine .fag yS R (.lbg nag3 R (.fag yS R (.lbg nag3 R (.bg R (.mg R ?_)))));refine .cut 6 (fun (t:Bool)=>((c.1==g.1)&&(decide (c.2.1≤g.2.1)))=t) (fun t=>⟨[(69,.b t),(57,.b false),(9,.i e),(8,.i p0.2.2.2.length),(7,.f qT p0.2.2.2),(1,.q 0 0)],[(0,.bx 60 (lx60 p0))],3⟩) ?_ ?_
       ·rintro _ rfl;exact .pF R ((y ((c.1==g.1)&&(decide (c.2.1≤g.2.1))) (orF hc).symm).s0 R)
       ·intro B;rcases yEt (c.1==g.1) with hc|hc
        ·refine .know (d:=63) R hc ?_;exact .fag y1V R (.lbg nag3 R (.fag y1V R (.lbg nag3 R (.bg R (.op (O.pkT (Gu.mk R R) R R R R) R ((B (decide (c.2.1≤g.2.1)) (andT hc).symm).s0 R))))))
        ·refine .know (d:=63) R hc ?_;exact .s2 R R (.s2 R R (.sk R (.op (O.pkF (Gu.mk R R) R R R R) R ((B false (andF hc).symm).s0 R))))
    ·intro x;rcases yEt (((decide (c.1<0))||(decide (c.1≥p0.2.1)))||(decide (c.2.2<0))) with hc|hc
     ·refine .know (d:=30) R hc ?_;exact .s2 R R (.s2 R R (.sk R (.pT R ((x true (orT hc).symm).s0 R))))
     ·refine .know (d:=30) R hc ?_;exact .fag y1W R (.lbg nag3 R (.fag y4o R (.lbg nag3 R (.bg R (.pF R ((x (decide (c.2.2≥p0.2.1)) (orF hc).symm).s0 R))))))
   ·intro w;rcases yEt ((decide (c.1<0))||(decide (c.1≥p0.2.1))) with hc|hc
    ·refine .know (d:=25) R hc ?_;exact .s2 R R (.sk R (.pT R ((w true (orT hc).symm).s0 R)))
    ·refine .know (d:=25) R hc ?_;exact .fag y1W R (.lbg nag3 R (.bg R (.pF R ((w (decide (c.2.2<0)) (orF hc).symm).s0 R))))
  ·intro v;rcases yEt (decide (c.1<0)) with hc|hc
   ·refine .know (d:=18) R hc ?_;exact .s2 R R (.s2 R R (.sk R (.pT R ((v true (orT hc).symm).s0 R))))
   ·refine .know (d:=18) R hc ?_;exact .fag yS R (.lbg nag3 R (.fag y4o R (.lbg nag3 R (.bg R (.pF R ((v (decide (c.1≥p0.2.1)) (orF hc).symm).s0 R))))))
def y4c(p0:AutT):Option Int:=
 (y1v p0.1 32).bind fun a=>
 if(a != 0) then
  some a
 else
  if decide (p0.2.1<0) then
   some 2
  else
   if decide (p0.2.1>4096) then
    some 3
   else
    (y1v p0.2.2.1 p0.2.1).bind fun b=>
    if(b != 0) then
     some b
    else
     (y4B p0).bind fun c=>
     some c
theorem y7w{p0:AutT}{r:Int}(hm:y4c p0=some r):
    F0 114 [.a (lx60 p0)] [] (.i r) []:=by
  refine Fw.mk2 func114 ntmps114 R (fun C=>?_) R;refine .sr (.bo 0 R (.an R (.seq (.sr (.fa y5U R (.lb nag26 R (bS hm fun e b hm=> .c0 (y6X b) cf181 R (.an R (.sv R (.bi R (.ns ?_)))))))))));refine .cc hm R (fun hm=>?_) fun hm=>?_
  ·refine .sv R (.an R (.ret (.seqR ?_)));cases hm;exact .r0 results114 (.tmp R .nil) R R
  ·refine .sn (.seq (.block (.sr (.fa y4o R (.lb nag3 R (.bi R (.an R ?_)))))));refine .cc hm R (fun hm=>?_) fun hm=>?_
   ·refine .sr (.an R (.ret (.blkR (.seqR ?_))));cases hm;exact .r0 results114 (.tmp R .nil) R R
   ·refine .sr (.fa y4o R (.lb nag3 R (.bi R (.an R ?_))));refine .cc hm R (fun hm=>?_) fun hm=>?_
    ·refine .sr (.an R (.ret (.blkR (.seqR ?_))));cases hm;exact .r0 results114 (.tmp R .nil) R R
    ·refine .skip (.blkN (.seqN (.seq (.sr (.fa y6v R (.lb nag26 R (.fa y4o R (.lb nag3 R (bS hm fun f c hm=> .c0 (y6X c) cf181 R (.an R (.sv R (.bi R (.ns ?_)))))))))))));refine .cc hm R (fun hm=>?_) fun hm=>?_
     ·refine .sv R (.an R (.ret (.seqR ?_)));cases hm;exact .r0 results114 (.tmp R .nil) R R
     ·refine .sn (.sr (.lg (lx60 p0) ag60 R (.B R) R (bS hm fun g d hm=> .c0 (y8H d) cf182 R (.an R (.ret ?_)))));cases hm;exact .r0 results114 (.tmp R .nil) R R
def y5B(p0:List AutT)(a:Int):Option (Int⊕(Unit⊕Int)):=
 if decide (a<(p0.length:Int)) then
  (idx p0 a).bind fun c=>
  (y4c c).bind fun b=>
  if(b != 0) then
   some (.inr (.inr (b)))
  else
   some (.inl (W (a+1)))
 else
  some (.inr (.inl ()))
def y4L(p0:List AutT):Option Int:=
 if decide ((p0.length:Int)>12) then
  some 3
 else
  (iter (y5B p0) 0).bind fun a=>
  match a with
  | .inl c=>
   some 0
  | .inr (b)=>
   some b
theorem y6T{p0:List AutT}{r:Int}(hm:y4L p0=some r):
    F0 48 [.f rE60 p0] [] (.i r) []:=by
  refine Fw.mk2 func48 ntmps48 R (fun C=>?_) R;refine .sr (.an R (.seq (.sv R (.ln sl49 R (.bi R (.ns ?_))))));refine .cc hm R (fun hm=>?_) fun hm=>?_
  ·refine .sr (.an R (.ret (.seqR ?_)));cases hm;exact .r0 results48 (.tmp R .nil) R R
  ·refine .sn (.seq (.sv R (.ln sl49 R (.mv R (.ns (.block (bS hm fun m k hm=>?_)))))));refine .cutU (z:= .exit 0) (fun h=> .inl h=m) (fun (h:Unit)=>⟨[],[],0⟩) ?_ fun K8=>?_
   · rintro h rfl;dsimp only at hm;refine .blkE (.seqN (.sr (.an R (.ret ?_))));cases hm;exact .r0 results48 (.tmp R .nil) R R
   refine .cutU (z:= .ret) (fun a=> .inr (a)=m) (fun (a:Int)=>⟨[(2,.i a)],[],0⟩) ?_ fun j=>?_
   · rintro a rfl;dsimp only at hm;refine .blkR (.seqR ?_);cases hm;exact .r0 results48 (.tmp R .nil) R R
   refine .iter (fun (c:Int)=>⟨[(11,.i c),(10,.i p0.length),(9,.f rE60 p0)],[],0⟩) k [] R ?_;intro c n hm l b;refine .sr (.bi R (.ns (.seq ?_)));refine .cc hm R (fun hm=>?_) fun hm=> .xx ((K8 _ (b _ (oj hm))).s0 R);refine .sn (.seq (.block (.sr (bS hm fun d g hm=> .ix sl49 g R (.lg (lx60 d) ag60 R (.E lv60) R (.al 0 zz60 R (.st ag60.sz R (.nr (.lg (lx60 d) ag60 R (.B R) R (bS hm fun o e hm=> .c0 (y7w e) cf114 R (.an R (.sv R (.bi R (.ns ?_))))))))))))));exact .cc hm R (fun hm=> .sv R (.an R (.ret (.blkR (.seqR (.seqR ((j _ (b _ (oj hm))).s0 R))))))) fun hm=> .skip (.blkN (.seqN (.reg (.bi R (.mv R (.nil ((l _ (oj hm)).s0 R)))))))
def y6C(p0:Bool)(p1:Bool):Option Bool:=
 some (p0||p1)
theorem yab{p0:Bool}{p1:Bool}{r:Bool}(hm:y6C p0 p1=some r):
  F0 140 [.b p0,.b p1] [] (.b r) []:=by
 refine Fw.mk2 func140 ntmps140 R (fun C=>?_) R;refine .sr (.an R (.sv R (.mv R ?_)));refine .cut 2 (fun (a:Bool)=>(p0||p1)=a) (fun a=>⟨[(8,.b a)],[],0⟩) ?_ ?_
 ·rintro _ rfl;refine .an R (.ret ?_);cases hm;exact .r0 results140 (.tmp R .nil) R R
 ·intro c;rcases yEt p0 with hc|hc
  ·refine .know (d:=6) R hc ?_;exact .sk R (.pT R ((c true (orT hc).symm).s0 R))
  ·refine .know (d:=6) R hc ?_;exact .mg R (.pF R ((c p1 (orF hc).symm).s0 R))
def y4x(p0:LI)(p1:LI):Option LI:=
 (y4w p0 p1 y6C).bind fun a=>
 some a
theorem y7Q{p0:LI}{p1:LI}{r:LI}(hm:y4x p0 p1=some r):
  F0 66 [.f qI p0,.f qI p1] [] (.h 0) [rwI r]:=by
 refine Fw.mk2 func66 ntmps66 R (fun C=>?_) R;refine .sr (.an R (.sv R (.mv R (bS hm fun b a hm=> .op (O.cac (r':= .h 0) [0] [(0,rwI b)] (some 1) (y6w a) cf139 R R Z R R ⟨⟨R,.rf⟩,⟨R,.rf⟩,⟨R,(.c (.fn cf140 (fun x r h=>yab h) (fun _=>R)) .n)⟩,trivial⟩ R ⟨⟨_,R,I4⟩,trivial⟩ I3 R) R (.an R (.ret ?_))))));cases hm;exact .rr [0] results66 (.tmp R .nil) R I3 ⟨⟨_,R,I4⟩,trivial⟩
def y5o(p0:List AutT)(a:Int×LI):Option ((Int×LI)⊕LI):=
 if decide (a.1<(p0.length:Int)) then
  (idx p0 a.1).bind fun c=>
  (y4x a.2 c.1).bind fun b=>
  some (.inl (W (a.1+1),b))
 else
  some (.inr a.2)
def y4y(p0:List AutT):Option LI:=
 (iter (y5o p0) (0,([]:LI))).bind fun a=>
 some a
theorem y7R{p0:List AutT}{r:LI}(hm:y4y p0=some r):
  F0 148 [.f rE60 p0] [] (.h 0) [rwI r]:=by
 refine Fw.mk2 func148 ntmps148 R (fun C=>?_) R;refine .sr (.an R (.sr (.an R (.seq (.sv R (.ln sl49 R (.mv R (.ns (.block (bS hm fun d e hm=>?_))))))))));refine .cut1 (z:= .exit 0) d (fun (d:LI)=>⟨[(3,.h 0)],[(0,rwI d)],1⟩) ?_ fun K9=>?_
 ·skip
  refine .blkE (.seqN (.sv R (.an R (.ret ?_))));cases hm;exact .rr [0] results148 (.tmp R .nil) R I3 ⟨⟨_,R,I4⟩,trivial⟩
 refine .nlg qI 3 3 0 R R (.iter (fun (a:Int×LI)=>⟨[(8,.i a.1),(7,.i p0.length),(6,.f rE60 p0),(3,.h 0)],[(0,rwI a.2)],1⟩) e [] R ?_);intro a m hm j g;refine .sr (.bi R (.ns (.seq ?_)));exact .cc hm R (fun hm=> .sn (.seq (.block (.sr (bS hm fun l c hm=> .ix sl49 c R (.lg (lx60 l) ag60 R (.E lv60) R (.al 1 zz60 R (.st ag60.sz R (.ns (.reg (.mv R (.fa y5U R (.lb nag26 R (bS hm fun k b hm=> .op (O.caY (r':= .h 2) [2] [(0,rwI k)] (some 3) (y7Q b) cf66 R R Z R R ⟨⟨R,.hr R,trivial⟩,⟨R,LnL.rf⟩,trivial⟩ R ⟨.row flr3,trivial⟩ (fun _ _ _ _ h=>h) ⟨⟨_,R,I4⟩,trivial⟩ I3 R) R (.sa R (.nil (.blkN (.seqN (.reg (.bi R (.mv R (.nil ((j _ (oj hm)).sub [(0,2)] R))))))))))))))))))))))) fun hm=> .xx ((K9 _ (g _ (oj hm))).s0 R)
def y4U(c:AutT)(a:Int×(List KeyT)):Option ((Int×(List KeyT))⊕(List KeyT)):=
 if decide (a.1<(c.2.2.2.length:Int)) then
  (idx c.2.2.2 a.1).bind fun b=>
  some (.inl (W (a.1+1),(kput a.2 (b.1,b.2.1) b.2.2)))
 else
  some (.inr a.2)
def y5Q(p0:List AutT)(a:Int×(List (List KeyT))):Option ((Int×(List (List KeyT)))⊕(List (List KeyT))):=
 if decide (a.1<(p0.length:Int)) then
  (idx p0 a.1).bind fun c=>
  (iter (y4U c) (0,([]:List KeyT))).bind fun b=>
  (app a.2 ([b]:List (List KeyT))).bind fun d=>
  some (.inl (W (a.1+1),d))
 else
  some (.inr a.2)
def y6L(p0:List AutT):Option ((List AutT)×LI×(List (List KeyT))):=
 (y4y p0).bind fun b=>
 (iter (y5Q p0) (0,([]:List (List KeyT)))).bind fun a=>
 some (p0,b,a)
theorem ybK{p0:List AutT}{r:((List AutT)×LI×(List (List KeyT)))}(hm:y6L p0=some r):
  F0 151 [.f rE60 p0] [] (.g [lF rE60 r.1,lH 0,lH 1]) [rwI r.2.1,ROW (rM kvP qI) 128 r.2.2]:=by
 refine Fw.mk2 func151 ntmps151 R (fun C=>?_) R;refine .sr (.al 0 zz212 R (.nr (.mv R (.mv R (bS hm fun o J hm=> .cm (r':= .h 1) [1] [(0,rwI o)] (some 2) (y7R J) cf148 R ⟨⟨_,R,I4⟩,trivial⟩ R (.bu [lF rE60 p0,lH 1,lN] pl212 R (.al 2 zz212 R (.st ag212.sz R (.ns (.seq (.sv R (.ln sl49 R (.mv R (.ns (.block (bS hm fun l s hm=>?_))))))))))))))));refine .cut1 (z:= .exit 0) l (fun (l:(List (List KeyT)))=>⟨[(3,.q 0 0),(2,.q 3 0)],[(0,.bx 212 [lF rE60 p0,lH 1,lH 2]),(1,rwI o),(2,ROW (rM kvP qI) 128 l),(3,.bx 212 [lN,lN,lN])],4⟩) ?_ fun H=>?_
 ·skip
  refine .blkE (.seqN (.sr (.lg [lF rE60 p0,lH 1,lH 2] ag212 R (.B R) R (.st ag212.sz R (.ns (.ret ?_))))));cases hm;exact .rr [1,2] results151 (.cell R R ag212 R .nil) R I3 ⟨⟨_,R,I4⟩,⟨_,R,I4⟩,trivial⟩
 refine .nlb (rM kvP qI) 128 2 2 R R (.iter (fun (b:Int×(List (List KeyT)))=>⟨[(15,.i b.1),(14,.i p0.length),(13,.f rE60 p0),(3,.q 0 0),(2,.q 3 0)],[(0,.bx 212 [lF rE60 p0,lH 1,lH 2]),(1,rwI o),(2,ROW (rM kvP qI) 128 b.2),(3,.bx 212 [lN,lN,lN])],4⟩) s [(0,2),(2,3),(3,0)] R ?_);intro b K hm F y;refine .sr (.bi R (.ns (.seq ?_)));refine .cc hm R (fun hm=>?_) fun hm=> .xx ((H _ (y _ (oj hm))).s0 R);refine .sn (.seq (.block (.sr (bS hm fun p u hm=> .ix sl49 u R (.lg (lx60 p) ag60 R (.E lv60) R (.al 4 zz60 R (.st ag60.sz R (.nr (.op (O.mk2 (kv:=kvP) (r:=qI) 5 R Z R) R (.an R (.seq (.sr (.fa y5A R (.lb nag27 R (.ln sl27 R (.mv R (.ns (.block (bS hm fun j t hm=>?_)))))))))))))))))));refine .cut1 (z:= .exit 2) j (fun (j:(List KeyT))=>⟨[(6,.h 0),(15,.i b.1),(14,.i p0.length),(13,.f rE60 p0),(3,.q 1 0),(2,.q 4 0)],[(0,MAP kvP qI 128 j),(1,.bx 212 [lF rE60 p0,lH 2,lH 3]),(2,rwI o),(3,ROW (rM kvP qI) 128 b.2),(4,.bx 212 [lN,lN,lN])],5⟩) ?_ fun I=>?_
 ·skip
  exact .blkE (.seqN (.reg (.fa ycX R (.lb yej R (.mv R (.fz 0 [38] [] R R fM R R (.op (O.bsF (r:=(rM kvP qI)) (zs:=([j]:List (List KeyT))) bs210 R R Z R R R (.c .m .n) R R R) R (bS hm fun M w hm=> .ap 5 underlying210 el128 R R (.fr R) w (.fa ycX R (.st yej.sz R (.nil (.blkN (.seqN (.reg (.bi R (.mv R (.nil ((F _ (oj hm)).sub [(0,1),(1,2),(2,5),(3,4)] R))))))))))))))))))
 refine .iter (fun (e:Int×(List KeyT))=>⟨[(23,.i e.1),(22,.i p.2.2.2.length),(21,.f qT p.2.2.2),(6,.h 0),(15,.i b.1),(14,.i p0.length),(13,.f rE60 p0),(3,.q 1 0),(2,.q 4 0)],[(0,MAP kvP qI 128 e.2),(1,.bx 212 [lF rE60 p0,lH 2,lH 3]),(2,rwI o),(3,ROW (rM kvP qI) 128 b.2),(4,.bx 212 [lN,lN,lN])],5⟩) t [(0,5),(1,0),(2,1),(3,2),(4,3)] R ?_;intro e L hm G D;refine .sr (.bi R (.ns (.seq ?_)));exact .cc hm R (fun hm=> .sn (.seq (.block (.sr (bS hm fun d x hm=> .ix sl27 x R (.lg [lI d.1,lI d.2.1,lI d.2.2] ag112 R (.E lv112) R (.al 5 zz112 R (.st ag112.sz R (.ns (.reg (.mv R (.fa yS R (.lb nag3 R (.fa y1V R (.lb nag3 R (.bu [lI d.1,lI d.2.1] pl70 R (.fa y1W R (.lb nag3 R (.op (O.mu (k:=(d.1,d.2.1)) (v:=d.2.2) md128 (fun _ _=>eqP) Z R R (.a R R) R .k) R (.nil (.blkN (.seqN (.reg (.bi R (.mv R (.nil ((G _ (oj hm)).s0 R))))))))))))))))))))))))))) fun hm=> .xx ((I _ (D _ (oj hm))).s0 R)
def y2C(p0:(List AutT)×LI×(List (List KeyT)))(a:Int):Option (Int⊕(Unit⊕Unit)):=
 if decide (a<(p0.1.length:Int)) then
  (idx p0.1 a).bind fun b=>
  if(b.2.1==0) then
   some (.inr (.inr (())))
  else
   some (.inl (W (a+1)))
 else
  some (.inr (.inl ()))
def y3D(p0:(List AutT)×LI×(List (List KeyT))):Option (LI×Bool):=
 (iter (y2C p0) 0).bind fun a=>
 match a with
 | .inl c=>
  (mkL (p0.1.length:Int) (0:Int)).bind fun b=>
  some (b,true)
 | .inr (d)=>
  some (([]:LI),false)
theorem y7S{p0:(List AutT)×LI×(List (List KeyT))}{r:LI×Bool}(hm:y3D p0=some r):
  F0 152 [.a [lF rE60 p0.1,lF qI p0.2.1,lF (rM kvP qI) p0.2.2]] [] (.tp [.h 0,.b r.2]) [rwI r.1]:=by
 refine Fw.mk2 func152 ntmps152 R (fun C=>?_) R;refine .sr (.bo 0 R (.sa R (.an R (.seq (.sr (.fa yb1 R (.lb nag49 R (.ln sl49 R (.mv R (.ns (.block (bS hm fun n k hm=>?_))))))))))));refine .cutU (z:= .exit 0) (fun g=> .inl g=n) (fun (g:Unit)=>⟨[(1,.q 0 0)],[(0,.bx 212 [lF rE60 p0.1,lF qI p0.2.1,lF (rM kvP qI) p0.2.2])],1⟩) ?_ fun K6=>?_
 ·rintro g rfl;dsimp only at hm;refine .blkE (.seqN (.sr (.fa yb1 R (.lb nag49 R (.ln sl49 R (bS hm fun t l hm=> .op (O.mk (z:=(0:Int)) 1 underlying26 zr3 R R Z R R l R) R (.sa R (.an R (.ret ?_)))))))));cases hm;exact .rr [1] results152 (.tmp R (.tmp R .nil)) R I3 ⟨⟨_,R,I4⟩,trivial⟩
 refine .cutU (z:= .ret) (fun j=> .inr (j)=n) (fun (j:Unit)=>⟨[(3,.b false),(2,.o (lN))],[],0⟩) ?_ fun K9=>?_
 ·rintro j rfl;dsimp only at hm;refine .blkR (.seqR (.nlg qI 3 2 0 R R ?_));cases hm;exact .rr [0] results152 (.tmp R (.tmp R .nil)) R I3 ⟨⟨_,R,I4⟩,trivial⟩
 refine .iter (fun (d:Int)=>⟨[(9,.i d),(8,.i p0.1.length),(7,.f rE60 p0.1),(1,.q 0 0)],[(0,.bx 212 [lF rE60 p0.1,lF qI p0.2.1,lF (rM kvP qI) p0.2.2])],1⟩) k [] R ?_;intro d s hm m c;refine .sr (.bi R (.ns (.seq ?_)));refine .cc hm R (fun hm=>?_) fun hm=> .xx ((K6 _ (c _ (oj hm))).s0 R);refine .sn (.seq (.block (.sr (bS hm fun p e hm=> .ix sl49 e R (.lg (lx60 p) ag60 R (.E lv60) R (.al 1 zz60 R (.st ag60.sz R (.nr (.fa y4o R (.lb nag3 R (.bi R (.ns ?_))))))))))));exact .cc hm R (fun hm=> .sr (.sa R (.an R (.ret (.blkR (.seqR (.seqR ((K9 _ (c _ (oj hm))).s0 R)))))))) fun hm=> .skip (.blkN (.seqN (.reg (.bi R (.mv R (.nil ((m _ (oj hm)).s0 R)))))))
def y2Y(p0:(List AutT)×LI×(List (List KeyT)))(p1:LI)(a:Int):Option (Int⊕(Unit⊕Unit)):=
 if decide (a<(p0.1.length:Int)) then
  (idx p0.1 a).bind fun c=>
  (idx p1 a).bind fun d=>
  (yp c.2.2.1 d).bind fun b=>
  if(!b) then
   some (.inr (.inr (())))
  else
   some (.inl (W (a+1)))
 else
  some (.inr (.inl ()))
def y3L(p0:(List AutT)×LI×(List (List KeyT)))(p1:LI):Option Bool:=
 (iter (y2Y p0 p1) 0).bind fun a=>
 match a with
 | .inl b=>
  some true
 | .inr (c)=>
  some false
theorem y8f{p0:(List AutT)×LI×(List (List KeyT))}{p1:LI}{r:Bool}(hm:y3L p0 p1=some r):
  F0 154 [.a [lF rE60 p0.1,lF qI p0.2.1,lF (rM kvP qI) p0.2.2],.f qI p1] [] (.b r) []:=by
 refine Fw.mk2 func154 ntmps154 R (fun C=>?_) R;refine .sr (.bo 0 R (.an R (.seq (.sr (.fa yb1 R (.lb nag49 R (.ln sl49 R (.mv R (.ns (.block (bS hm fun p n hm=>?_)))))))))));refine .cutU (z:= .exit 0) (fun k=> .inl k=p) (fun (k:Unit)=>⟨[],[],0⟩) ?_ fun K8=>?_
 ·rintro k rfl;dsimp only at hm;refine .blkE (.seqN (.sr (.an R (.ret ?_))));cases hm;exact .r0 results154 (.tmp R .nil) R R
 refine .cutU (z:= .ret) (fun l=> .inr (l)=p) (fun (l:Unit)=>⟨[(4,.b false)],[],0⟩) ?_ fun m=>?_
 ·rintro l rfl;dsimp only at hm;refine .blkR (.seqR ?_);cases hm;exact .r0 results154 (.tmp R .nil) R R
 refine .iter (fun (c:Int)=>⟨[(10,.i c),(9,.i p0.1.length),(8,.f rE60 p0.1),(1,.f qI p1)],[],0⟩) n [] R ?_;intro c t hm o d;refine .sr (.bi R (.ns (.seq ?_)));refine .cc hm R (fun hm=>?_) fun hm=> .xx ((K8 _ (d _ (oj hm))).s0 R);refine .sn (.seq (.block (.sv R (bS hm fun e h hm=> .ix sl49 h R (.lg (lx60 e) ag60 R (.E lv60) R (.al 0 zz60 R (.sa R (.st ag60.sz R (.ns (.seq ?_))))))))));refine .sub (τ:=⟨[(5,.i c),(6,.q 0 0),(10,.i c),(9,.i p0.1.length),(8,.f rE60 p0.1),(1,.f qI p1)],[(0,.bx 60 (lx60 e))],1⟩) ?_ [] R;refine bS hm fun u j hm=>bS hm fun s g hm=>?_;refine .drw [(1,[]),(1,[oT]),(1,[]),(1,[]),(1,[oF,oF,oT,oT]),(1,fA 2 (tT 3)),(1,tT 6),(1,tT 7)] [_,_,_,_,_,_,_,_] ⟨[(22,.b (!s)),(10,.i c),(9,.i p0.1.length),(8,.f rE60 p0.1),(1,.f qI p1)],[],1⟩ ⟨O.faP y6v Z R R,zB nag26 R,zM R,zM R,O.ix sl26 Z R R j R,O.ld nag3 Z R (.E lv3) R R,O.ca0 (yI g) cf69 R R Z R R R,O.not Z R R,trivial⟩ (by kernel_rfl) R ?_;exact .seqN (.cc hm R (fun hm=> .sr (.an R (.ret (.blkR (.seqR (.seqR ((m _ (d _ (oj hm))).s0 R))))))) fun hm=> .skip (.blkN (.seqN (.reg (.bi R (.mv R (.nil ((o _ (oj hm)).s0 R))))))))
def y1O(a:Int×LI)(b:LI):Option ((Int×LI)⊕(LI⊕Unit)):=
 some (.inl (W (a.1+1),b))
def y3E(p0:(List AutT)×LI×(List (List KeyT)))(p1:LI)(p2:Int)(a:Int×LI):Option ((Int×LI)⊕(LI⊕Unit)):=
 if decide (a.1<(p0.1.length:Int)) then
  (idx p0.1 a.1).bind fun e=>
  (yp e.1 p2).bind fun d=>
  if(!d) then
   y1O a a.2
  else
   (idx p0.2.2 a.1).bind fun b=>
   (idx p1 a.1).bind fun c=>
   if(!((kget b (c,p2)).isSome)) then
    some (.inr (.inr (())))
   else
    (idx a.2 a.1).bind fun g=>
    (upd a.2 a.1 ((kget b (c,p2)).getD 0)).bind fun f=>
    y1O a f
 else
  some (.inr (.inl a.2))
def y4C(p0:(List AutT)×LI×(List (List KeyT)))(p1:LI)(p2:Int):Option (LI×Bool):=
 (yn p1).bind fun c=>
 (iter (y3E p0 p1 p2) (0,c)).bind fun a=>
 match a with
 | .inl b=>
  some (b,true)
 | .inr (d)=>
  some (([]:LI),false)
theorem y8I{p0:(List AutT)×LI×(List (List KeyT))}{p1:LI}{p2:Int}{r:LI×Bool}(hm:y4C p0 p1 p2=some r):
  F0 155 [.a [lF rE60 p0.1,lF qI p0.2.1,lF (rM kvP qI) p0.2.2],.f qI p1,.i p2] [] (.tp [.h 0,.b r.2]) [rwI r.1]:=by
 refine Fw.mk2 func155 ntmps155 R (fun C=>?_) R;refine .sr (.bo 0 R (.sa R (.an R (.sv R (bS hm fun K I hm=> .cm (r':= .h 1) [1] [(0,rwI K)] (some 2) (yC I) cf58 R ⟨⟨_,R,I4⟩,trivial⟩ R (.an R (.seq (.sr (.fa yb1 R (.lb nag49 R (.ln sl49 R (.mv R (.ns (.block (bS hm fun u v hm=>?_)))))))))))))));refine .cutU (z:= .exit 0) (fun g=> .inl g=u) (fun (g:LI)=>⟨[(8,.h 0)],[(0,rwI g)],1⟩) ?_ fun G=>?_
 ·rintro g rfl;dsimp only at hm;refine .blkE (.seqN (.sv R (.sa R (.an R (.ret ?_)))));cases hm;exact .rr [0] results155 (.tmp R (.tmp R .nil)) R I3 ⟨⟨_,R,I4⟩,trivial⟩
 refine .cutU (z:= .ret) (fun p=> .inr (p)=u) (fun (p:Unit)=>⟨[(7,.b false),(6,.o (lN))],[],0⟩) ?_ fun H=>?_
 ·rintro p rfl;dsimp only at hm;refine .blkR (.seqR (.nlg qI 3 6 0 R R ?_));cases hm;exact .rr [0] results155 (.tmp R (.tmp R .nil)) R I3 ⟨⟨_,R,I4⟩,trivial⟩
 refine .iter (fun (c:Int×LI)=>⟨[(18,.i c.1),(17,.i p0.1.length),(16,.f rE60 p0.1),(8,.h 0),(3,.q 1 0),(1,.f qI p1),(2,.i p2)],[(0,rwI c.2),(1,.bx 212 [lF rE60 p0.1,lF qI p0.2.1,lF (rM kvP qI) p0.2.2])],2⟩) v [(0,1),(1,0)] R ?_;intro c t hm F n;refine .sr (.bi R (.ns (.seq ?_)));refine .cc hm R (fun hm=>?_) fun hm=> .xx ((G _ (n _ (oj hm))).s0 R);refine .sn ?_;refine .join1 (fun (e:LI)=>y1O c e=some t) (fun e=>⟨[(18,.i c.1),(17,.i p0.1.length),(16,.f rE60 p0.1),(8,.h 0),(3,.q 1 0),(1,.f qI p1),(2,.i p2)],[(0,rwI e),(1,.bx 212 [lF rE60 p0.1,lF qI p0.2.1,lF (rM kvP qI) p0.2.2])],2⟩) ?_ ?_
 ·intro e hm;exact .reg (.bi R (.mv R (.nil ((F _ (oj hm)).s0 R))))
 ·intro j;refine .block (.sv R (bS hm fun J x hm=> .ix sl49 x R (.lg (lx60 J) ag60 R (.E lv60) R (.al 2 zz60 R (.sa R (.st ag60.sz R (.ns (.seq (.sr (.fa y5U R (.lb nag26 R (.mv R (bS hm fun L w hm=> .c0 (yI w) cf69 R (.no R (.ns ?_)))))))))))))));refine .cc hm R (fun hm=> .exit (.seqX (.blkE ((j _ hm).s0 R)))) fun hm=>?_;refine .sn (.seq ?_);refine .sub (τ:=⟨[(9,.i c.1),(18,.i c.1),(17,.i p0.1.length),(16,.f rE60 p0.1),(8,.h 0),(3,.q 1 0),(1,.f qI p1),(2,.i p2)],[(0,rwI c.2),(1,.bx 212 [lF rE60 p0.1,lF qI p0.2.1,lF (rM kvP qI) p0.2.2])],3⟩) ?_ [] R;refine bS hm fun s y hm=>bS hm fun d B hm=>?_;refine .drw [(3,[]),(3,[oT]),(3,[]),(3,tT 3),(3,tT 4),(3,[]),(3,[]),(3,[oF,oF,oF,oF,oF,oT,oT]),(3,fA 5 (tT 3)),(3,[]),(3,fA 5 (tT 5)),(3,tT 11),(3,tT 12),(3,tT 13),(3,tT 13),(3,tT 14),(3,tT 16)] [_,_,_,_,_,_,_,_,_,_,_,_,_,_,_,_,_] ⟨[(12,.b ((kget s (d,p2)).isSome)),(11,.i ((kget s (d,p2)).getD 0)),(9,.i c.1),(18,.i c.1),(17,.i p0.1.length),(16,.f rE60 p0.1),(8,.h 0),(3,.q 1 0),(1,.f qI p1),(2,.i p2)],[(0,rwI c.2),(1,.bx 212 [lF rE60 p0.1,lF qI p0.2.1,lF (rM kvP qI) p0.2.2])],3⟩ ⟨O.faP ycX Z R R,zB yej R,zM R,O.ix sl210 Z R R y R,O.ld ych Z R (.E lv128) R R,zM R,zM R,O.ix sl26 Z R R B R,O.ld nag3 Z R (.E lv3) R R,zM R,O.bu (l:=[lI d,lI p2]) pl70 R Z R R R,O.mi2 (k:=(d,p2)) md128 Z (.fr R) (.a R R) R,zM R,O.ex Z R R R,O.ex Z R R R,O.as Z R R,O.as Z R R,trivial⟩ (by kernel_rfl) R ?_;refine .seqN (.seq (.sv R (.no R (.ns ?_))));exact .cc hm R (fun hm=> .sr (.sa R (.an R (.ret (.seqR (.blkR (.seqR (.seqR ((H _ (n _ (oj hm))).s0 R))))))))) fun hm=> .sn (.reg (.mv R (.mv R (.mv R (bS hm fun M m hm=> .op (O.ir sl26 Z R R R m R) R (bS hm fun N D hm=> .op (O.su (z:=((kget s (d,p2)).getD 0)) nag3.sz Z R R m D R R R lv3 R .k) R (.nil (.blkN ((j _ hm).s0 R)))))))))
end
end Go.Proofs.YtfdeiphkmjdifaaGreatDoor
