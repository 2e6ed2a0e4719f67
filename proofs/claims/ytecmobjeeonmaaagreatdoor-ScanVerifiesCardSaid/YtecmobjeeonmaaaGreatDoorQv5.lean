/- Parts of the proof, without what nothing here names. -/
import Derived.Shelf.SlSortCmp.InsertionK
import Derived.Shelf.SlSortCmp.NoneTotal
import Derived.Ground.SlsfProg
import Derived.Test.YtecmobjeeonmaaaGreatDoorProg
import Derived.Test.YtecmobjeeonmaaaGreatDoorQv4
namespace Go.Proofs.YtecmobjeeonmaaaGreatDoor
open Go Go.RowKit Go.Sort Go.Lib
theorem yal {β:Type} {f:β→List Value} {k:Nat} (hk:∀x,(f x).length=k) (k0:0 < k):∀(l:List β) (t:Nat),(l.flatMap f)[t]? =(l[t / k]?).bind fun x=>(f x)[t % k]?
 | [],t=>by simp
 | x :: l,t=>by
  rw [List.flatMap_cons]
  by_cases h:t < k
  ·rw [List.getElem?_append_left (by rw [hk];exact h),Nat.div_eq_of_lt h,Nat.mod_eq_of_lt h]
   rfl
  ·obtain ⟨u,rfl⟩:∃u,t=u + k:=⟨t - k,by omega⟩
   rw [List.getElem?_append_right (by rw [hk];omega),hk,Nat.add_sub_cancel,yal hk k0 l u,Nat.add_div_right u k0,Nat.add_mod_right]
   rfl
theorem yc7 {β:Type} {f:β→List Value} {k:Nat} (hk:∀x,(f x).length=k):∀l:List β,(l.flatMap f).length=l.length * k
 | []=>by simp
 | x :: l=>by rw [List.flatMap_cons,List.length_append,hk,yc7 hk l,List.length_cons,Nat.succ_mul,Nat.add_comm]
theorem Cells.enc {α:Type} {r:Rep α} {enc:α→List Value} (hr:∀s cs x,r.rd s cs x↔cs=enc x) {s:Sig}:∀{cs:List Value} {xs:List α},Cells r s cs xs↔cs=xs.flatMap enc
 | cs,[]=>by simp [Cells]
 | cs,x :: xs=>by
  rw [List.flatMap_cons]
  constructor
  ·rintro ⟨c,d,rfl,h1,h2⟩
   rw [(hr _ _ _).1 h1,(Cells.enc hr).1 h2]
  ·intro h
   exact⟨_,_,h,(hr _ _ _).2 rfl,(Cells.enc hr).2 rfl⟩
theorem yda {w:World} {b off n:Nat} {d:Array Value} {os:Array Obj} {cur:Array Value} {T:TypeId} (h:w.heap[b]? =some (.cells cur T (0,0))):(grow (putRow id (Sort.ahead w n) b off d) os).heap[b]? =some (.cells (putCells id off d cur) T (0,0)):=by
 have hb:b < w.heap.size:=(Array.getElem?_eq_some_iff.1 h).1
 show((w.heap.modify b (onCells (putCells id off d))) ++ os)[b]? =_
 rw [Array.getElem?_append_left (by simpa using hb),Array.getElem?_modify,if_pos rfl,h]
 rfl
theorem ydb {w:World} {b b' off n:Nat} {d:Array Value} {os:Array Obj} (hb:b' < w.heap.size) (hne:b'≠b):(grow (putRow id (Sort.ahead w n) b off d) os).heap[b']? =w.heap[b']? :=by
 show((w.heap.modify b (onCells (putCells id off d))) ++ os)[b']? =_
 rw [Array.getElem?_append_left (by simpa using hb),Array.getElem?_modify,if_neg (Ne.symm hne)]
theorem RowT.sortK {α:Type} {r:Rep α} {enc:α→List Value} (hr:∀s cs x,r.rd s cs x↔cs=enc x) (hk:∀x,(enc x).length=r.sz) (k0:0 < r.sz) {s:Sig} {t:Nat} {T:TypeId} {a:Option Addr} {cap:Nat} {xs:List α} (h:RowT r s t T a cap xs) [Inhabited (_root_.Fin xs.length)] (h0:0 < xs.length) (ht:0 < t):
  ∃b off,a=some ⟨b,off,none⟩∧b < s.w.heap.size∧s.tag b=t∧HoldsK (fun i:_root_.Fin xs.length=>enc (xs.get i)) r.sz s.w b off (List.finRange xs.length).toArray∧∀(d:Array (_root_.Fin xs.length)) (n:Nat) (os:Array Obj),d.size=xs.length→
   ∃s',sortWorldK (fun i=>enc (xs.get i)) r.sz s.w b off n d os=s'.w∧Mv (One t) s s'∧RowT r s' t T (some ⟨b,off,none⟩) cap (d.toList.map xs.get):=by
 obtain⟨cs,⟨hl,hrow⟩,hc⟩:=h
 rcases hrow with ⟨e,hn⟩ | ⟨b,off,cap',cur,e,ho,k1,k2,k3,k4⟩
 ·omega
 simp only [Value.slice.injEq,true_and] at e
 obtain⟨rfl,rfl⟩:=e
 have hcs:=(Cells.enc hr).1 hc
 have hkF:∀i:_root_.Fin xs.length,(enc (xs.get i)).length=r.sz:=fun i=>hk _
 have hb:b < s.w.heap.size:=(Array.getElem?_eq_some_iff.1 ho.heap).1
 have hdz:∀(d:Array (_root_.Fin xs.length)) (j:Nat),d.size=xs.length→j < xs.length * r.sz→∃(q:Nat) (hq:q < d.size) (x:Value),q=j / r.sz∧(enc (xs.get d[q]))[j % r.sz]? =some x∧(flatK (fun i:_root_.Fin xs.length=>enc (xs.get i)) r.sz d)[j]! =x:=fun d j hd hj=>by
  have hq:j / r.sz < d.size:=by rw [hd];exact Nat.div_lt_of_lt_mul (by rw [Nat.mul_comm];exact hj)
  have hm:j % r.sz < (enc (xs.get d[j / r.sz])).length:=by rw [hk];exact Nat.mod_lt _ k0
  refine⟨_,hq,_,rfl,yGe hm,?_⟩
  rw [get_flatK _ _ _ _ (by rw [hd];exact hj),getElem!_pos d _ hq,getElem!_pos (enc (xs.get d[j / r.sz])) _ hm]
 refine⟨b,off,rfl,hb,ho.htag,fun j hj=>?_,fun d n os hd=>?_⟩
 ·have hj':j < xs.length * r.sz:=by simpa using hj
  obtain⟨q,hq,x,rfl,h1,h2⟩:=hdz (List.finRange xs.length).toArray j (by simp) hj'
  have hcell:cur[off + j]? =some x:=by
   have e2:cs[j]? =cur.toList[off + j]? :=by rw [←k4,List.getElem?_take,if_pos hj',List.getElem?_drop]
   rw [hcs,yal hk k0] at e2
   have hx:xs[j / r.sz]? =some (xs.get ((List.finRange xs.length).toArray[j / r.sz])):=by
    rw [yGe (by simpa using hq)]
    simp
   rw [hx,yOb,h1] at e2
   rw [←Array.getElem?_toList]
   exact e2.symm
  refine⟨?_,?_⟩
  ·unfold World.cell?
   rw [ho.heap]
   show cur[off + j]? =_
   rw [hcell,h2]
   rfl
  ·unfold World.frozen?
   rw [ho.heap]
   show(decide (0≤off + j) && decide (off + j < 0))=false
   simp
 ·have hm:Mv (One t) s ⟨sortWorldK (fun i=>enc (xs.get i)) r.sz s.w b off n d os,fun b=>if b < s.w.heap.size then s.tag b else 0⟩:=⟨rfl,rfl,rfl,(by show _≤((s.w.heap.modify b _) ++ os).size;simp),fun b' hb' hn=>⟨ydb hb' fun e=>hn (by rw [e];exact ho.htag),if_pos hb'⟩⟩
  refine⟨_,rfl,hm,(d.toList.map xs.get).flatMap enc,⟨by rw [yc7 hk],.inr ⟨b,off,cap,putCells id off (flatK (fun i:_root_.Fin xs.length=>enc (xs.get i)) r.sz d) cur,rfl,⟨yda ho.heap,?_,Nat.zero_le _⟩,?_,k2,?_,?_⟩⟩,(Cells.enc hr).2 rfl⟩
  ·show (if b < s.w.heap.size then s.tag b else 0)=t
   rw [if_pos hb];exact ho.htag
  ·rw [List.length_map,Array.length_toList,hd];exact k1
  ·rw [putCells,Array.size_mapIdx];exact k3
  ·apply List.ext_getElem?
   intro j
   have hmul:xs.length * r.sz≤cap * r.sz:=Nat.mul_le_mul_right _ k1
   rw [List.getElem?_take,List.getElem?_drop,List.length_map,Array.length_toList,hd,yal hk k0,List.getElem?_map]
   by_cases hj:j < xs.length * r.sz
   ·obtain ⟨q,hq,x,rfl,h1,h2⟩:=hdz d j hd hj
    rw [if_pos hj,Array.getElem?_toList,putCells,Array.getElem?_mapIdx,Array.getElem?_eq_getElem (by omega),Option.map_some,if_pos ⟨by omega,by rw [size_flatK,hd];omega⟩,Nat.add_sub_cancel_left,h2,Array.getElem?_toList,Array.getElem?_eq_getElem hq,Option.map_some,yOb,h1]
    rfl
   ·rw [if_neg hj]
    have hdj:¬j / r.sz < d.size:=fun hlt=>hj (by
     have:=(Nat.div_lt_iff_lt_mul k0).1 hlt
     rw [hd] at this
     exact this)
    rw [Array.getElem?_toList,Array.getElem?_eq_none (by omega)]
    rfl
end Go.Proofs.YtecmobjeeonmaaaGreatDoor
namespace Go.Proofs
open Go.Shelf
def Tryz.sortR_ren :Go.Shelf.Ren:=⟨fun | 6=>199 | 15=>234 | 14=>233 | 28=>254 | 29=>255 | 20=>246 | 21=>247 | 22=>248 | 23=>249 | 24=>250 | 25=>251 | 26=>252 | 27=>253 | 46=>273 | 47=>274 | 48=>275 | 49=>276 | 50=>277 | 57=>299 | n=>n,fun | 22=>127 | 24=>286 | 25=>291 | 3=>3 | 39=>295 | 0=>0 | 53=>334 | 55=>336 | 4=>4 | 46=>328 | 45=>327 | 50=>170 | 5=>5 | 9=>9 | 66=>351 | 70=>355 | 76=>378 | 77=>58 | n=>n,fun | n=>n⟩
theorem Tryz.sortR :Go.Proofs.SlLaysF0.n6 Tryz.prog Tryz.sortR_ren:={
 mixed:=by kernel_rfl
 f6:=⟨Tryz.f199.name,by decide,Tryz.func199.trans (congrArg some (by kernel_rfl))⟩
 f14:=⟨Tryz.f233.name,by decide,Tryz.func233.trans (congrArg some (by kernel_rfl))⟩
 f15:=Tryz.func234.trans (congrArg some (by kernel_rfl))
 f20:=⟨Tryz.f246.name,by decide,Tryz.func246.trans (congrArg some (by kernel_rfl))⟩
 f21:=⟨Tryz.f247.name,by decide,Tryz.func247.trans (congrArg some (by kernel_rfl))⟩
 f22:=⟨Tryz.f248.name,by decide,Tryz.func248.trans (congrArg some (by kernel_rfl))⟩
 f23:=⟨Tryz.f249.name,by decide,Tryz.func249.trans (congrArg some (by kernel_rfl))⟩
 f24:=⟨Tryz.f250.name,by decide,Tryz.func250.trans (congrArg some (by kernel_rfl))⟩
 f25:=⟨Tryz.f251.name,by decide,Tryz.func251.trans (congrArg some (by kernel_rfl))⟩
 f26:=⟨Tryz.f252.name,by decide,Tryz.func252.trans (congrArg some (by kernel_rfl))⟩
 f27:=⟨Tryz.f253.name,by decide,Tryz.func253.trans (congrArg some (by kernel_rfl))⟩
 f28:=Tryz.func254.trans (congrArg some (by kernel_rfl))
 f29:=Tryz.func255.trans (congrArg some (by kernel_rfl))
 f46:=⟨Tryz.f273.name,by decide,Tryz.func273.trans (congrArg some (by kernel_rfl))⟩
 f47:=Tryz.func274.trans (congrArg some (by kernel_rfl))
 f48:=Tryz.func275.trans (congrArg some (by kernel_rfl))
 f49:=⟨Tryz.f276.name,by decide,Tryz.func276.trans (congrArg some (by kernel_rfl))⟩
 f50:=⟨Tryz.f277.name,by decide,Tryz.func277.trans (congrArg some (by kernel_rfl))⟩
 f57:=⟨Tryz.f299.name,by decide,Tryz.func299.trans (congrArg some (by kernel_rfl))⟩
 t0:=Tryz.underlying0
 a0:=Tryz.isAgg0
 z0:=Tryz.sizeOf0
 v0:=Tryz.zeroValue0
 t3:=Tryz.underlying3
 a3:=Tryz.isAgg3
 z3:=Tryz.sizeOf3
 v3:=Tryz.zeroValue3
 t4:=Tryz.underlying4
 a4:=Tryz.isAgg4
 z4:=Tryz.sizeOf4
 v4:=Tryz.zeroValue4
 t5:=Tryz.underlying5
 a5:=Tryz.isAgg5
 z5:=Tryz.sizeOf5
 v5:=Tryz.zeroValue5
 t9:=Tryz.underlying9
 a9:=Tryz.isAgg9
 z9:=Tryz.sizeOf9
 v9:=Tryz.zeroValue9
 t22:=Tryz.underlying127
 a22:=Tryz.isAgg127
 z22:=Tryz.sizeOf127
 v22:=Tryz.zeroValue127
 t25:=Tryz.underlying291
 a25:=Tryz.isAgg291
 z25:=Tryz.sizeOf291
 v25:=Tryz.zeroValue291
 t39:=Tryz.underlying295
 a39:=Tryz.isAgg295
 z39:=Tryz.sizeOf295
 v39:=Tryz.zeroValue295
 t45:=Tryz.underlying327
 a45:=Tryz.isAgg327
 z45:=Tryz.sizeOf327
 v45:=Tryz.zeroValue327
 t46:=Tryz.underlying328
 a46:=Tryz.isAgg328
 z46:=Tryz.sizeOf328
 v46:=Tryz.zeroValue328
 t50:=Tryz.underlying170
 a50:=Tryz.isAgg170
 z50:=Tryz.sizeOf170
 v50:=Tryz.zeroValue170
 t53:=Tryz.underlying334
 a53:=Tryz.isAgg334
 z53:=Tryz.sizeOf334
 v53:=Tryz.zeroValue334
 t55:=Tryz.underlying336
 a55:=Tryz.isAgg336
 z55:=Tryz.sizeOf336
 v55:=Tryz.zeroValue336
 t66:=Tryz.underlying351
 a66:=Tryz.isAgg351
 z66:=Tryz.sizeOf351
 v66:=Tryz.zeroValue351
 t70:=Tryz.underlying355
 a70:=Tryz.isAgg355
 z70:=Tryz.sizeOf355
 v70:=Tryz.zeroValue355
 t76:=Tryz.underlying378
 a76:=Tryz.isAgg378
 z76:=Tryz.sizeOf378
 v76:=Tryz.zeroValue378
 t77:=Tryz.underlying58
 a77:=Tryz.isAgg58
 z77:=Tryz.sizeOf58
 v77:=Tryz.zeroValue58 }
end Go.Proofs
namespace Go.Proofs.YtecmobjeeonmaaaGreatDoor
open Go Go.RowKit Go.Sort Go.Lib
def encR (x:Int×Int×Int×Int):List Value:=[.int .i64 x.1,.int .i64 x.2.1,.int .i64 x.2.2.1,.int .i64 x.2.2.2]
theorem yfy (s:Sig) (cs:List Value) (x:Int×Int×Int×Int):(rP qI (rP qI (rP qI qI))).rd s cs x↔cs=encR x:=by
 constructor
 ·rintro ⟨_,_,rfl,rfl,_,_,rfl,rfl,_,_,rfl,rfl,rfl⟩
  rfl
 ·rintro rfl
  exact⟨_,_,rfl,rfl,_,_,rfl,rfl,_,_,rfl,rfl,rfl⟩
noncomputable def y1N (p0:List (Int×Int×Int×Int)):Option (List (Int×Int×Int×Int)):=
 if h:(∀x∈p0,0≤x.1∧x.1 < 4294967296)∧p0.length≤4294967296∧0 < p0.length then
  haveI:Inhabited (_root_.Fin p0.length):=⟨⟨0,h.2.2⟩⟩
  some ((pdq (ltOf fun i j:_root_.Fin p0.length=>(p0.get i).1 - (p0.get j).1) (List.finRange p0.length).toArray 0 p0.length (Lib.bitLen p0.length) true true).toList.map p0.get)
 else if p0= [] then some [] else none
set_option maxHeartbeats 2000000 in
theorem yco (x y:Int×Int×Int×Int) (w:World) (hx:0≤x.1∧x.1 < 4294967296) (hy:0≤y.1∧y.1 < 4294967296):
  Calls Tryz.prog 200 #[.agg (encR x).toArray,.agg (encR y).toArray] w fun e w'=>e= .returned (.int .i64 (x.1 - y.1))∧∃q os',w'=grow (w.drewN q) os':=by
 obtain⟨x1,x2,x3,x4⟩:=x
 obtain⟨y1,y2,y3,y4⟩:=y
 simp only at hx hy ⊢
 show Calls Tryz.prog _ #[.agg #[.int .i64 x1,.int .i64 x2,.int .i64 x3,.int .i64 x4],.agg #[.int .i64 y1,.int .i64 y2,.int .i64 y3,.int .i64 y4]] w _
 go_enter Tryz.func200,Tryz.ntmps200
 go_wp2_with fail
 go_ret
 exact⟨rfl,0,_,by rw [alloc_eq_grow,alloc_eq_grow,grow_grow];rfl⟩
theorem y7l {s:Sig} {p0:List (Int×Int×Int×Int)} {t0:Nat} {a1:Option Addr} {c1:Nat} {r:List (Int×Int×Int×Int)} (zt0:0 < t0) (h1:RowT (rP qI (rP qI (rP qI qI))) s t0 286 a1 c1 p0) (hm:y1N p0=some r):
  Calls Tryz.prog 199 #[.slice a1 p0.length c1,.func (.func 200) #[] #[]] s.w (RetS (One t0) s fun v s'=>v= .tuple #[]∧r.length=p0.length∧RowT (rP qI (rP qI (rP qI qI))) s' t0 286 a1 c1 r):=by
 unfold y1N at hm
 split at hm
 ·rename_i h
  obtain⟨hb,hl,h0⟩:=h
  letI:Inhabited (_root_.Fin p0.length):=⟨⟨0,h0⟩⟩
  obtain⟨b,off,rfl,hblk,htag,hH,hput⟩:=h1.sortK yfy (fun _=>rfl) (by decide) h0 zt0
  have hin:∀i:_root_.Fin p0.length,0≤(p0.get i).1∧(p0.get i).1 < 4294967296:=fun i=>hb _ (List.get_mem _ _)
  have hO:SWO (ltOf fun i j:_root_.Fin p0.length=>(p0.get i).1 - (p0.get j).1):=⟨fun i=>by unfold ltOf;simp,fun i j k g1 g2=>by unfold ltOf at *;simp at *;omega,fun i j k g1 g2=>by unfold ltOf at *;simp at *;omega⟩
  have eg:∀args w,(callFunc 200 args).run Tryz.prog w= .ok (.enter 200 args) w:=enters_of Tryz.func200 (by kernel_rfl) rfl
  have hsz:(List.finRange p0.length).toArray.size=p0.length:=by simp
  have hcmp:CmpLays Tryz.prog 200 #[] (fun i:_root_.Fin p0.length=>encR (p0.get i)) 4 (fun i j=>(p0.get i).1 - (p0.get j).1) b off (List.finRange p0.length).toArray.size s.w:=fun m os dk hdk i j=>yco _ _ _ (hin i) (hin j)
  have hS:=AnyQ.slices_SortFunc_eq Tryz.sortR 4 Tryz.isAgg286 Tryz.sizeOf286 (fun i:_root_.Fin p0.length=>encR (p0.get i)) (fun _=>rfl) (fun x v hv=>by simp [encR] at hv;rcases hv with rfl | rfl | rfl | rfl <;> rfl) (fun i j=>(p0.get i).1 - (p0.get j).1) hO 200 #[] b off c1 (List.finRange p0.length).toArray s.w eg hcmp hH hblk (by rw [hsz];omega)
  rw [hsz] at hS
  have hS:Calls Tryz.prog 199 #[.slice (some ⟨b,off,none⟩) p0.length c1,.func (.func 200) #[] #[]] s.w _:=hS
  refine hS.mono ?_
  rintro e w' ⟨rfl,n,os,rfl⟩
  have hz:=(pdq_sorts (ltOf fun i j:_root_.Fin p0.length=>(p0.get i).1 - (p0.get j).1) hO (List.finRange p0.length).toArray 0 p0.length (Lib.bitLen p0.length) true true (Nat.zero_le _) (Nat.le_of_eq hsz.symm) (Or.inl rfl)).1.1
  rw [hsz] at hz
  obtain⟨s',hw',hm',hr⟩:=hput _ n os hz
  cases hm
  exact⟨_,s',hw',rfl,hm',rfl,by rw [List.length_map,Array.length_toList,hz],hr⟩
 ·split at hm
  ·rename_i h0
   cases hm
   subst h0
   refine(AnyF.slices_SortFunc_none (P:=Tryz.prog) (ρ:=Tryz.sortR_ren) Tryz.sortR a1 c1 (.func (.func 200) #[] #[]) s.w).mono ?_
   rintro e w' ⟨rfl,rfl⟩
   exact⟨_,s,rfl,rfl,Mv.refl _ _,rfl,rfl,h1⟩
  ·cases hm
theorem y7m {p0:List (Int×Int×Int×Int)} {r:List (Int×Int×Int×Int)} (hm:y1N p0=some r):Fw Tryz.prog 199 ⟨1,[0]⟩ [.h 0,.o (lV (.func (.func 200) #[] #[]))] [ROW (rP qI (rP qI (rP qI qI))) 286 p0] (.tp []) [ROW (rP qI (rP qI (rP qI qI))) 286 r]:=
 ⟨fun ts β s vs ht _ _ hp ⟨v,us,h,⟨v2,us2,h2,hu,e3⟩,e2⟩ ho=>by
  have hu:us2= []:=hu
  subst hu;subst e3;subst e2
  obtain⟨rfl,_⟩:=h2
  obtain⟨t,rfl⟩:∃t,ts= [t]:=by
   match ts,ht with
   | [t],_=>exact⟨t,rfl⟩
  obtain⟨a,c,e,h2⟩:=ho 0 _ rfl
  have hv:v= .slice a p0.length c:=h.1.trans e
  subst hv
  exact Calls.mono (y7l (hp t (.head _)) h2 hm) fun en w' ⟨v,s',e1,e2,m,hv,hl,hr⟩=>⟨v,s',e1,e2,m.weak fun t' ht'=>⟨0,.head _,by rw [show t'=t from ht'];rfl⟩,β,fun _ _=>rfl,⟨[],rfl,hv⟩,fun i o ho=>by
   match i,ho with
   | 0,ho=>cases ho;exact⟨a,c,by rw [e,hl],hr⟩⟩⟩
end Go.Proofs.YtecmobjeeonmaaaGreatDoor
set_option maxRecDepth 100000
set_option maxHeartbeats 8000000
namespace Go.Proofs.YtecmobjeeonmaaaGreatDoor
open Go Go.RowKit
noncomputable section
def y3b (st57:Int×List Int×List Int) (l62:List Int) (l63:List Int):Option ((Int×List Int×List Int) ⊕ (List Int×List Int)):=
 some (.inl (W (st57.1 + 1),l62,l63))
def y3c (o37:(List (Int×Int×Int×Int))×Int×List Bool) (r43:List Int) (st57:Int×List Int×List Int):Option ((Int×List Int×List Int) ⊕ (List Int×List Int)):=
 if decide (st57.1 < (r43.length:Int)) then
  (idx r43 st57.1).bind fun x65=>
  (idx o37.2.2 st57.1).bind fun x66=>
  if x66 then
   (app st57.2.1 ([st57.1]:List Int)).bind fun x67=>
   (app st57.2.2 ([x65]:List Int)).bind fun x68=>
   y3b st57 x67 x68
  else
   y3b st57 st57.2.1 st57.2.2
 else
  some (.inr st57.2)
def y3d (r69:(List (Int×Int×Int×Int))) (st77:Int×List Bool):Option ((Int×List Bool) ⊕ (List Bool)):=
 if decide (st77.1 < (r69.length:Int)) then
  (idx r69 st77.1).bind fun x81=>
  (idx st77.2 x81.1).bind fun x82=>
  (upd st77.2 x81.1 false).bind fun x83=>
  some (.inl (W (st77.1 + 1),x83))
 else
  some (.inr st77.2)
def y4g (p3:Bool) (r1:(AutT×List Int×(List (Int×List Int))×List Bool)) (st37:Int×(List (Int×Int×Int×Int))×Int×List Bool):Option ((Int×(List (Int×Int×Int×Int))×Int×List Bool) ⊕ ((List (Int×Int×Int×Int))×Int×List Bool)):=
 (y3o (r1.1,r1.2.1,r1.2.2.1,st37.2.2.2) st37.1 p3).bind fun r69=>
 if((r69.length:Int) == 0) then
  some (.inr st37.2)
 else
  (iter (y3d r69) (0,st37.2.2.2)).bind fun o77=>
  (app st37.2.1 r69).bind fun x80=>
  some (.inl (W (st37.1 + 1),x80,st37.1,o77))
def y4h (p1:List Int) (st10:Int×(List (Int×Int×Int×Int))×Int):Option ((Int×(List (Int×Int×Int×Int))×Int) ⊕ ((List (Int×Int×Int×Int))×Int)):=
 if decide (st10.1 < (p1.length:Int)) then
  (idx p1 st10.1).bind fun x84=>
  (app st10.2.1 ([(x84,1,1,(-1))]:List (Int×Int×Int×Int))).bind fun x85=>
  some (.inl (W (st10.1 + 1),x85,1))
 else
  some (.inr st10.2)
def y4U (p0:AutT) (p1:List Int) (p2:List Int) (p3:Bool):Option ((List Int×List Int×(List (Int×Int×Int×Int)))×Int×AutT×List Int):=
 (y5d p0 p1 p2).bind fun r1=>
 (iter (y4h p1) (0,([]:List (Int×Int×Int×Int)),0)).bind fun o10=>
 (iter (y4g p3 r1) (2,o10.1,o10.2,r1.2.2.2)).bind fun o37=>
 (y1N o37.1).bind fun r42=>
 (y1i (r1.1,r1.2.1,r1.2.2.1,o37.2.2)).bind fun r43=>
 (iter (y3c o37 r43) (0,([]:List Int),([]:List Int))).bind fun o57=>
 (y1B (r1.1,r1.2.1,r1.2.2.1,o37.2.2)).bind fun r61=>
 some ((o57.1,o57.2,r42),o37.2.1,r61)
theorem y9b {p0:AutT} {p1:List Int} {p2:List Int} {p3:Bool} {r:((List Int×List Int×(List (Int×Int×Int×Int)))×Int×AutT×List Int)} (hm:y4U p0 p1 p2 p3=some r):
  Fw Tryz.prog 147 ⟨0,[]⟩ [.a [lF qI p0.1,lI p0.2.1,lF qI p0.2.2.1,lF qT p0.2.2.2],.f qI p1,.f qI p2,.b p3] [] (.g [lH 0,lH 1,lH 2,lI r.2.1,lH 3,lI r.2.2.1.2.1,lH 4,lH 5,lH 6]) [ROW qI 3 r.1.1,ROW qI 3 r.1.2.1,ROW rE286 286 r.1.2.2,ROW qI 3 r.2.2.1.1,ROW qI 3 r.2.2.1.2.2.1,ROW qT 124 r.2.2.1.2.2.2,ROW qI 3 r.2.2.2]:=by
 unfold y4U at hm
 refine Fw.mk' Tryz.func147 R Tryz.ntmps147 R R (fun C=>?_) R R
 refine .seq (.reg (.op (O.box 0 R Z R R R) R (.op (O.al 1 R zz131 R Z R) R (.nil (.seqN (.seq (.reg (.op (O.lg (l':=[lF qI p0.1,lI p0.2.1,lF qI p0.2.2.1,lF qT p0.2.2.2]) ag35 Z R (.B R) R R R) R (.mv R (.mv R (bS hm fun r1 er1 hm=> .op (O.ca (r':= .q 2 0) [2,3] [(1,ROW rB 4 r1.2.2.2),(0,.bx 289 [lF qI r1.1.1,lI r1.1.2.1,lF qI r1.1.2.2.1,lF qT r1.1.2.2.2,lF qI r1.2.1,lM kvI (rL qI) r1.2.2.1,lH 3])] (some 4) (y9q er1) cf197 R R Z R R R R ⟨⟨_,R,fun _ _ _ _ h=>h⟩,⟨_,R,fun _ _ _ _ h=>h⟩,trivial⟩ (fun _ _ _ h=>h) R) R (.sa R (.nil (.seqN (.seq (.reg (.op (O.al 4 R zz131 R Z R) R (.nil (.seqN (.seq (.seq (.reg (.mv R (.op (O.len sl32 Z R R) R (.mv R (.nil (.seqN (.block (bS hm fun o10 eo10 hm=>?_)))))))))))))))))))))))))))))
 refine .cut1 (z:= .exit 0) o10 (fun (o10:(List (Int×Int×Int×Int))×Int)=>⟨[(10,.q 0 0),(9,.q 2 0),(8,.q 4 0),(3,.b p3)],[(0,.bx 131 [lN,lN,lH 1,lI o10.2,lN,lI 0,lN,lN,lN]),(1,ROW rE286 286 o10.1),(2,.bx 289 [lF qI r1.1.1,lI r1.1.2.1,lF qI r1.1.2.2.1,lF qT r1.1.2.2.2,lF qI r1.2.1,lM kvI (rL qI) r1.2.2.1,lH 3]),(3,ROW rB 4 r1.2.2.2),(4,.bx 131 [lN,lN,lN,lI 0,lN,lI 0,lN,lN,lN])],5⟩) ?_ fun K13=>?_
 ·skip
  refine .blkE (.seqN (.seq (.seq (.reg (.sa R (.nil (.seqN (.block (bS hm fun o37 eo37 hm=>?_)))))))))
  refine .cut1 (z:= .exit 2) o37 (fun (o37:(List (Int×Int×Int×Int))×Int×List Bool)=>⟨[(10,.q 0 0),(9,.q 2 0),(8,.q 4 0)],[(0,.bx 131 [lN,lN,lH 1,lI o37.2.1,lN,lI 0,lN,lN,lN]),(1,ROW rE286 286 o37.1),(2,.bx 289 [lF qI r1.1.1,lI r1.1.2.1,lF qI r1.1.2.2.1,lF qT r1.1.2.2.2,lF qI r1.2.1,lM kvI (rL qI) r1.2.2.1,lH 3]),(3,ROW rB 4 o37.2.2),(4,.bx 131 [lN,lN,lN,lI 0,lN,lI 0,lN,lN,lN])],5⟩) ?_ fun K41=>?_
  ·skip
   refine .blkE (.seqN (.seq (.reg (.op (O.faP y6f Z R R) R (.op (O.faP y8G Z R R) R (.op (O.ld y9E Z R (.B R) R R) R (bS hm fun r42 er42 hm=> .op (O.ca (r':= .tp []) [1] [(0,ROW rE286 286 r42)] none (y7m er42) cf199 R R Z R R R R ⟨⟨_,R,fun _ _ _ _ h=>h⟩,trivial⟩ (fun _ _ _ h=>h) R) R (.nil (.seqN (.seq (.seq (.reg (.mv R (bS hm fun r43 er43 hm=> .op (O.caY (r':= .h 5) [5] [(0,ROW qI 3 r43)] (some 6) (y5r er43) cf201 R R Z R R ⟨⟨R,(.q R ⟨.rf,.rf,.rf,.rf,.rf,.rf,.hr R,trivial⟩),trivial⟩,trivial⟩ R ⟨.row flr3,trivial⟩ (fun _ _ _ _ h=>h) ⟨⟨_,R,fun _ _ _ _ h=>h⟩,trivial⟩ (fun _ _ _ h=>h) R) R (.op (O.lenH sl32 Z R R R) R (.mv R (.nil (.seqN (.block (bS hm fun o57 eo57 hm=>?_))))))))))))))))))))
   refine .cut1 (z:= .exit 6) o57 (fun (o57:List Int×List Int)=>⟨[(10,.q 0 0),(9,.q 4 0),(8,.q 6 0)],[(0,.bx 131 [lH 1,lH 2,lH 3,lI o37.2.1,lN,lI 0,lN,lN,lN]),(1,ROW qI 3 o57.1),(2,ROW qI 3 o57.2),(3,ROW rE286 286 r42),(4,.bx 289 [lF qI r1.1.1,lI r1.1.2.1,lF qI r1.1.2.2.1,lF qT r1.1.2.2.2,lF qI r1.2.1,lM kvI (rL qI) r1.2.2.1,lH 5]),(5,ROW rB 4 o37.2.2),(6,.bx 131 [lN,lN,lN,lI 0,lN,lI 0,lN,lN,lN])],7⟩) ?_ fun K60=>?_
   ·skip
    refine .blkE (.seqN (.seq (.reg (.mv R (bS hm fun r61 er61 hm=> .op (O.caY (r':= .tp [.a [lH 7,lI r61.1.2.1,lH 8,lH 9],.h 10]) [7,8,9,10] [(0,ROW qI 3 r61.1.1),(1,ROW qI 3 r61.1.2.2.1),(2,ROW qT 124 r61.1.2.2.2),(3,ROW qI 3 r61.2)] (some 11) (y6t er61) cf202 R R Z R R ⟨⟨R,(.q R ⟨.rf,.rf,.rf,.rf,.rf,.rf,.hr R,trivial⟩),trivial⟩,trivial⟩ R ⟨.row flr3,.row flr3,.row y5m,.row flr3,trivial⟩ (fun _ _ _ _ h=>h) ⟨⟨_,R,fun _ _ _ _ h=>h⟩,⟨_,R,fun _ _ _ _ h=>h⟩,⟨_,R,fun _ _ _ _ h=>h⟩,⟨_,R,fun _ _ _ _ h=>h⟩,trivial⟩ (fun _ _ _ h=>h) R) R (.mv R (.op (O.ex Z R R R) R (.op (O.ex Z R R R) R (.op (O.faP ycQ Z R R) R (.op (O.st ag35.sz Z R R R R R) R (.op (O.faP yfw Z R R) R (.op (O.st nag32.sz Z R R R R R) R (.nil (.seqN (.seq (.reg (.op (O.lg (l':=[lH 1,lH 2,lH 3,lI o37.2.1,lH 7,lI r61.1.2.1,lH 8,lH 9,lH 10]) ag131 Z R (.B R) R R R) R (.op (O.st ag131.sz Z R R R R R) R (.nil (.seqN (.ret ?_)))))))))))))))))))))
    obtain rfl:=oi hm
    exact WX.rt [1,2,3,7,8,9,10] (.inl R) Tryz.results147 (.cell R R ag131 R .nil) R (fun _ _ _ h=>h) ⟨⟨_,R,fun _ _ _ _ h=>h⟩,⟨_,R,fun _ _ _ _ h=>h⟩,⟨_,R,fun _ _ _ _ h=>h⟩,⟨_,R,fun _ _ _ _ h=>h⟩,⟨_,R,fun _ _ _ _ h=>h⟩,⟨_,R,fun _ _ _ _ h=>h⟩,⟨_,R,fun _ _ _ _ h=>h⟩,trivial⟩
   refine .nlb qI 3 0 0 R R (.nlb qI 3 0 1 R R (.iter (fun (st57:Int×List Int×List Int)=>⟨[(79,.i st57.1),(78,.i (r43.length:Int)),(77,.h 0),(10,.q 1 0),(9,.q 5 0),(8,.q 7 0)],[(0,ROW qI 3 r43),(1,.bx 131 [lH 2,lH 3,lH 4,lI o37.2.1,lN,lI 0,lN,lN,lN]),(2,ROW qI 3 st57.2.1),(3,ROW qI 3 st57.2.2),(4,ROW rE286 286 r42),(5,.bx 289 [lF qI r1.1.1,lI r1.1.2.1,lF qI r1.1.2.2.1,lF qT r1.1.2.2.2,lF qI r1.2.1,lM kvI (rL qI) r1.2.2.1,lH 6]),(6,ROW rB 4 o37.2.2),(7,.bx 131 [lN,lN,lN,lI 0,lN,lI 0,lN,lN,lN])],8⟩) eo57 [(0,5),(1,0),(2,6),(3,7),(4,1),(5,2),(6,3),(7,4)] R ?_))
   intro st57 res57 hm ih57 ho57
   unfold y3c at hm
   refine .seq (.reg (.bi R (.nil (.seqN (.seq ?_)))))
   rcases ifS hm with ⟨hc,hm⟩ | ⟨hc,hm⟩
   ·refine .cT R hc ?_
    refine .skip (.seqN ?_)
    refine .join2 (fun (l62:List Int) (l63:List Int)=>y3b st57 l62 l63=some res57) (fun l62 l63=>⟨[(79,.i st57.1),(78,.i (r43.length:Int)),(77,.h 0),(10,.q 1 0),(9,.q 5 0),(8,.q 7 0)],[(0,ROW qI 3 r43),(1,.bx 131 [lH 2,lH 3,lH 4,lI o37.2.1,lN,lI 0,lN,lN,lN]),(2,ROW qI 3 l62),(3,ROW qI 3 l63),(4,ROW rE286 286 r42),(5,.bx 289 [lF qI r1.1.1,lI r1.1.2.1,lF qI r1.1.2.2.1,lF qT r1.1.2.2.2,lF qI r1.2.1,lM kvI (rL qI) r1.2.2.1,lH 6]),(6,ROW rB 4 o37.2.2),(7,.bx 131 [lN,lN,lN,lI 0,lN,lI 0,lN,lN,lN])],8⟩) ?_ ?_
    ·intro l62 l63 hm
     unfold y3b at hm
     exact .reg (.bi R (.mv R (.nil ((ih57 _ (oi hm).symm).sub [] R))))
    ·intro Jj64
     refine .block (.seq (.reg (.mv R (bS hm fun x65 ex65 hm=> .op (O.ir sl32 Z R R R ex65 R) R (.op (O.ld nag3 Z R (.R R ex65 lv3) R R) R (.sa R (.sa R (.nil (.seqN (.seq (.reg (.mv R (.op (O.nc .B Z R R) R (.op (O.faP y5u Z R R) R (.op (O.ld y5H Z R (.B R) R R) R (.mv R (bS hm fun x66 ex66 hm=> .op (O.ir sl144 Z R R R ex66 R) R (.op (O.ld nag4 Z R (.R R ex66 lv4) R R) R (.nil (.seqN ?_))))))))))))))))))))
     rcases ifS hm with ⟨hc,hm⟩ | ⟨hc,hm⟩
     ·refine .cT R hc ?_
      exact .seq (.reg (.op (O.faP y6f Z R R) R (.op (O.faP ycN Z R R) R (.op (O.ld nag32 Z R (.B R) R R) R (.mv R (.op (O.bsF (r:=qI) (zs:=([st57.1]:List Int)) bs32 R R Z R R R (.c .k .n) R R R) R (bS hm fun x67 ex67 hm=> .op (O.ap 8 Tryz.underlying32 el3 R R Z R R (.fr R) ex67 R) R (.op (O.faP y6f Z R R) R (.op (O.faP ycN Z R R) R (.op (O.st nag32.sz Z R R R R R) R (.nil (.seqN (.reg (.op (O.faP y6f Z R R) R (.op (O.faP ycO Z R R) R (.op (O.ld nag32 Z R (.B R) R R) R (.mv R (.op (O.bsF (r:=qI) (zs:=([x65]:List Int)) bs32 R R Z R R R (.c .k .n) R R R) R (bS hm fun x68 ex68 hm=> .op (O.ap 9 Tryz.underlying32 el3 R R Z R R (.fr R) ex68 R) R (.op (O.faP y6f Z R R) R (.op (O.faP ycO Z R R) R (.op (O.st nag32.sz Z R R R R R) R (.nil (.blkN ((Jj64 _ _ hm).sub [(2,8),(3,9)] R)))))))))))))))))))))))))
     ·refine .cF R hc ?_
      exact .skip (.blkN ((Jj64 _ _ hm).sub [] R))
   ·refine .cF R hc ?_
    exact .exit (.seqX (.seqX ((K60 _ (ho57 _ (oi hm).symm)).sub [(0,1),(1,2),(2,3),(3,4),(4,5),(5,6),(6,7)] R)))
  refine .iter (fun (st37:Int×(List (Int×Int×Int×Int))×Int×List Bool)=>⟨[(13,.i st37.1),(10,.q 0 0),(9,.q 2 0),(8,.q 4 0),(3,.b p3)],[(0,.bx 131 [lN,lN,lH 1,lI st37.2.2.1,lN,lI 0,lN,lN,lN]),(1,ROW rE286 286 st37.2.1),(2,.bx 289 [lF qI r1.1.1,lI r1.1.2.1,lF qI r1.1.2.2.1,lF qT r1.1.2.2.2,lF qI r1.2.1,lM kvI (rL qI) r1.2.2.1,lH 3]),(3,ROW rB 4 st37.2.2.2),(4,.bx 131 [lN,lN,lN,lI 0,lN,lI 0,lN,lN,lN])],5⟩) eo37 [] R ?_
  intro st37 res37 hm ih37 ho37
  unfold y4g at hm
  refine .seq (.block (.seq (.reg (.mv R (.mv R (.mv R (bS hm fun r69 er69 hm=> .op (O.caY (r':= .h 5) [5] [(0,ROW rE286 286 r69)] (some 6) (y7u er69) cf198 R R Z R R ⟨⟨R,(.q R ⟨.rf,.rf,.rf,.rf,.rf,.rf,.hr R,trivial⟩),trivial⟩,⟨R,LnL.rf⟩,⟨R,LnL.rf⟩,trivial⟩ R ⟨.row ydT,trivial⟩ (fun _ _ _ _ h=>h) ⟨⟨_,R,fun _ _ _ _ h=>h⟩,trivial⟩ (fun _ _ _ h=>h) R) R (.sa R (.nil (.seqN (.seq (.seq (.reg (.mv R (.op (O.lenH sl127 Z R R R) R (.bi R (.nil (.seqN ?_))))))))))))))))))
  rcases ifS hm with ⟨hc,hm⟩ | ⟨hc,hm⟩
  ·refine .cT R hc ?_
   exact .exit (.seqX (.blkX R (.seqX (.seqX ((K41 _ (ho37 _ (oi hm).symm)).sub [] R)))))
  ·refine .cF R hc ?_
   refine .skip (.seqN (.seq (.seq (.reg (.mv R (.op (O.lenH sl127 Z R R R) R (.mv R (.nil (.seqN (.block (bS hm fun o77 eo77 hm=>?_)))))))))))
   refine .cut1 (z:= .exit 4) o77 (fun (o77:List Bool)=>⟨[(14,.h 0),(13,.i st37.1),(10,.q 1 0),(9,.q 3 0),(8,.q 5 0),(3,.b p3)],[(0,ROW rE286 286 r69),(1,.bx 131 [lN,lN,lH 2,lI st37.2.2.1,lN,lI 0,lN,lN,lN]),(2,ROW rE286 286 st37.2.1),(3,.bx 289 [lF qI r1.1.1,lI r1.1.2.1,lF qI r1.1.2.2.1,lF qT r1.1.2.2.2,lF qI r1.2.1,lM kvI (rL qI) r1.2.2.1,lH 4]),(4,ROW rB 4 o77),(5,.bx 131 [lN,lN,lN,lI 0,lN,lI 0,lN,lN,lN])],6⟩) ?_ fun K79=>?_
   ·skip
    exact .blkE (.seqN (.seq (.reg (.op (O.faP y6f Z R R) R (.op (O.faP y8G Z R R) R (.op (O.ld y9E Z R (.B R) R R) R (.mv R (bS hm fun x80 ex80 hm=> .op (O.ap 6 Tryz.underlying127 el286 R R Z R R (.ow R R) ex80 R) R (.op (O.faP y6f Z R R) R (.op (O.faP y8G Z R R) R (.op (O.st y9E.sz Z R R R R R) R (.nil (.seqN (.reg (.mv R (.op (O.faP ycP Z R R) R (.op (O.st nag3.sz Z R R R R R) R (.nil (.blkN (.seqN (.reg (.mv R (.bi R (.sa R (.nil ((ih37 _ (oi hm).symm).sub [(0,1),(1,6),(2,3),(3,4),(4,5)] R))))))))))))))))))))))))))
   refine .iter (fun (st77:Int×List Bool)=>⟨[(51,.i st77.1),(50,.i (r69.length:Int)),(49,.h 0),(14,.h 0),(13,.i st37.1),(10,.q 1 0),(9,.q 3 0),(8,.q 5 0),(3,.b p3)],[(0,ROW rE286 286 r69),(1,.bx 131 [lN,lN,lH 2,lI st37.2.2.1,lN,lI 0,lN,lN,lN]),(2,ROW rE286 286 st37.2.1),(3,.bx 289 [lF qI r1.1.1,lI r1.1.2.1,lF qI r1.1.2.2.1,lF qT r1.1.2.2.2,lF qI r1.2.1,lM kvI (rL qI) r1.2.2.1,lH 4]),(4,ROW rB 4 st77.2),(5,.bx 131 [lN,lN,lN,lI 0,lN,lI 0,lN,lN,lN])],6⟩) eo77 [(0,5),(1,0),(2,1),(3,2),(4,3),(5,4)] R ?_
   intro st77 res77 hm ih77 ho77
   unfold y3d at hm
   refine .seq (.reg (.bi R (.nil (.seqN (.seq ?_)))))
   rcases ifS hm with ⟨hc,hm⟩ | ⟨hc,hm⟩
   ·refine .cT R hc ?_
    refine .skip (.seqN (.seq (.block (.seq (.reg (bS hm fun x81 ex81 hm=> .op (O.ir sl127 Z R R R ex81 R) R (.op (O.lg (l':=[lI x81.1,lI x81.2.1,lI x81.2.2.1,lI x81.2.2.2]) ag286 Z R (.R R ex81 lv286) R R R) R (.op (O.al 6 R zz286 R Z R) R (.op (O.st ag286.sz Z R R R R R) R (.nil (.seqN ?_)))))))))))
    refine .sub (τ:=⟨[(16,.q 6 0),(51,.i st77.1),(50,.i (r69.length:Int)),(49,.h 0),(14,.h 0),(13,.i st37.1),(10,.q 1 0),(9,.q 3 0),(8,.q 5 0),(3,.b p3)],[(6,.bx 286 [lI x81.1,lI x81.2.1,lI x81.2.2.1,lI x81.2.2.2]),(0,ROW rE286 286 r69),(1,.bx 131 [lN,lN,lH 2,lI st37.2.2.1,lN,lI 0,lN,lN,lN]),(2,ROW rE286 286 st37.2.1),(3,.bx 289 [lF qI r1.1.1,lI r1.1.2.1,lF qI r1.1.2.2.1,lF qT r1.1.2.2.2,lF qI r1.2.1,lM kvI (rL qI) r1.2.2.1,lH 4]),(4,ROW rB 4 st77.2),(5,.bx 131 [lN,lN,lN,lI 0,lN,lI 0,lN,lN,lN])],7⟩) ?_ [] R
    refine bS hm fun x82 ex82 hm=>bS hm fun x83 ex83 hm=>?_
    refine .drg 7 [(7,[]),(7,[oT]),(7,[oT,oT]),(7,tT 3),(7,[]),(7,[oF,oF,oF,oF,oT]),(7,tT 6),(7,tT 7)] [_,_,_,_,_,_,_,_] ⟨[(51,.i st77.1),(50,.i (r69.length:Int)),(49,.h 0),(14,.h 0),(13,.i st37.1),(10,.q 1 0),(9,.q 3 0),(8,.q 5 0),(3,.b p3)],[(0,ROW rE286 286 r69),(1,.bx 131 [lN,lN,lH 2,lI st37.2.2.1,lN,lI 0,lN,lN,lN]),(2,ROW rE286 286 st37.2.1),(3,.bx 289 [lF qI r1.1.1,lI r1.1.2.1,lF qI r1.1.2.2.1,lF qT r1.1.2.2.2,lF qI r1.2.1,lM kvI (rL qI) r1.2.2.1,lH 4]),(4,ROW rB 4 x83),(5,.bx 131 [lN,lN,lN,lI 0,lN,lI 0,lN,lN,lN])],7⟩ ⟨O.mv Z R R,O.nc .B Z R R,O.faP y5u Z R R,O.ld y5H Z R (.B R) R R,O.faP ycM Z R R,O.ld nag3 Z R (.B R) R R,O.ir sl144 Z R R R ex82 R,O.su (z:=false) nag4.sz Z R R ex82 ex83 R R R lv4 R .b,trivial⟩ (by kernel_rfl) R ?_
    exact .blkN (.seqN (.reg (.bi R (.mv R (.nil ((ih77 _ (oi hm).symm).sub [] R))))))
   ·refine .cF R hc ?_
    exact .exit (.seqX (.seqX ((K79 _ (ho77 _ (oi hm).symm)).sub [] R)))
 refine .nlb rE286 286 4 2 R R (.iter (fun (st10:Int×(List (Int×Int×Int×Int))×Int)=>⟨[(25,.i st10.1),(24,.i (p1.length:Int)),(23,.f qI p1),(10,.q 0 0),(9,.q 2 0),(8,.q 4 0),(3,.b p3)],[(0,.bx 131 [lN,lN,lH 1,lI st10.2.2,lN,lI 0,lN,lN,lN]),(1,ROW rE286 286 st10.2.1),(2,.bx 289 [lF qI r1.1.1,lI r1.1.2.1,lF qI r1.1.2.2.1,lF qT r1.1.2.2.2,lF qI r1.2.1,lM kvI (rL qI) r1.2.2.1,lH 3]),(3,ROW rB 4 r1.2.2.2),(4,.bx 131 [lN,lN,lN,lI 0,lN,lI 0,lN,lN,lN])],5⟩) eo10 [(0,4),(1,5),(4,1)] R ?_)
 intro st10 res10 hm ih10 ho10
 unfold y4h at hm
 refine .seq (.reg (.bi R (.nil (.seqN (.seq ?_)))))
 rcases ifS hm with ⟨hc,hm⟩ | ⟨hc,hm⟩
 ·refine .cT R hc ?_
  exact .skip (.seqN (.seq (.block (.seq (.reg (bS hm fun x84 ex84 hm=> .op (O.ix sl32 Z R R ex84 R) R (.op (O.ld nag3 Z R (.E lv3) R R) R (.sa R (.nil (.seqN (.seq (.reg (.op (O.faP y6f Z R R) R (.op (O.faP y8G Z R R) R (.op (O.ld y9E Z R (.B R) R R) R (.mv R (.op (O.bu (l:=[lI x84,lI 1,lI 1,lI (-1)]) pl286 R Z R R R) R (.op (O.bsF (r:=rE286) (zs:=([(x84,1,1,(-1))]:List (Int×Int×Int×Int))) bs127 R R Z R R R (.c (.p .k (.p .k (.p .k .k))) .n) R R R) R (bS hm fun x85 ex85 hm=> .op (O.ap 5 Tryz.underlying127 el286 R R Z R R (.fr R) ex85 R) R (.op (O.faP y6f Z R R) R (.op (O.faP y8G Z R R) R (.op (O.st y9E.sz Z R R R R R) R (.nil (.seqN (.reg (.op (O.faP ycP Z R R) R (.op (O.st nag3.sz Z R R R R R) R (.nil (.blkN (.seqN (.reg (.bi R (.mv R (.nil ((ih10 _ (oi hm).symm).sub [(1,5)] R)))))))))))))))))))))))))))))))))))
 ·refine .cF R hc ?_
  exact .exit (.seqX (.seqX ((K13 _ (ho10 _ (oi hm).symm)).sub [] R)))
def y2H (p0:AutT) (p1:List Int) (p2:List Int):Option (((List Int×List Int×(List (Int×Int×Int×Int)))×Int×AutT×List Int)×Int):=
 (y5c p0 p1 p2).bind fun r1=>
 if(r1 != 0) then
  some (((([]:List Int),([]:List Int),([]:List (Int×Int×Int×Int))),0,(([]:List Int),0,([]:List Int),([]:List (Int×Int×Int))),([]:List Int)),r1)
 else
  (y4U p0 p1 p2 true).bind fun r2=>
  some (r2,0)
theorem y7T {p0:AutT} {p1:List Int} {p2:List Int} {r:((List Int×List Int×(List (Int×Int×Int×Int)))×Int×AutT×List Int)×Int} (hm:y2H p0 p1 p2=some r):
  Fw Tryz.prog 74 ⟨0,[]⟩ [.a [lF qI p0.1,lI p0.2.1,lF qI p0.2.2.1,lF qT p0.2.2.2],.f qI p1,.f qI p2] [] (.tp [.a [lH 0,lH 1,lH 2,lI r.1.2.1,lH 3,lI r.1.2.2.1.2.1,lH 4,lH 5,lH 6],.i r.2]) [ROW qI 3 r.1.1.1,ROW qI 3 r.1.1.2.1,ROW rE286 286 r.1.1.2.2,ROW qI 3 r.1.2.2.1.1,ROW qI 3 r.1.2.2.1.2.2.1,ROW qT 124 r.1.2.2.1.2.2.2,ROW qI 3 r.1.2.2.2]:=by
 unfold y2H at hm
 refine Fw.mk' Tryz.func74 R Tryz.ntmps74 R R (fun C=>?_) R R
 refine .seq (.reg (.op (O.box 0 R Z R R R) R (.op (O.al 1 R zz131 R Z R) R (.sa R (.nil (.seqN (.seq (.seq (.reg (.op (O.lg (l':=[lF qI p0.1,lI p0.2.1,lF qI p0.2.2.1,lF qT p0.2.2.2]) ag35 Z R (.B R) R R R) R (.mv R (.mv R (bS hm fun r1 er1 hm=> .op (O.ca0 (y9p er1) cf146 R R Z R R R) R (.sa R (.nil (.seqN (.seq (.reg (.mv R (.bi R (.nil (.seqN ?_))))))))))))))))))))))
 rcases ifS hm with ⟨hc,hm⟩ | ⟨hc,hm⟩
 ·refine .cT R hc ?_
  refine .seq (.reg (.op (O.bu (l:=[lN,lN,lN,lI 0,lN,lI 0,lN,lN,lN]) pl131 R Z R R R) R (.mv R (.op (O.st ag131.sz Z R R R R R) R (.sa R (.nil (.seqN (.ret (.seqR (.nlb qI 3 1 0 R R (.nlb qI 3 1 1 R R (.nlb rE286 286 1 2 R R (.nlb qI 3 1 4 R R (.nlb qI 3 1 6 R R (.nlb qT 124 1 7 R R (.nlb qI 3 1 8 R R ?_))))))))))))))))
  obtain rfl:=oi hm
  exact WX.rt [2,3,4,5,6,7,8] (.inl R) Tryz.results74 (.cell R R ag131 R (.tmp R .nil)) R (fun _ _ _ h=>h) ⟨⟨_,R,fun _ _ _ _ h=>h⟩,⟨_,R,fun _ _ _ _ h=>h⟩,⟨_,R,fun _ _ _ _ h=>h⟩,⟨_,R,fun _ _ _ _ h=>h⟩,⟨_,R,fun _ _ _ _ h=>h⟩,⟨_,R,fun _ _ _ _ h=>h⟩,⟨_,R,fun _ _ _ _ h=>h⟩,trivial⟩
 ·refine .cF R hc ?_
  refine .skip (.seqN (.seq (.reg (.op (O.lg (l':=[lF qI p0.1,lI p0.2.1,lF qI p0.2.2.1,lF qT p0.2.2.2]) ag35 Z R (.B R) R R R) R (.mv R (.mv R (bS hm fun r2 er2 hm=> .op (O.ca (r':= .g [lH 2,lH 3,lH 4,lI r2.2.1,lH 5,lI r2.2.2.1.2.1,lH 6,lH 7,lH 8]) [2,3,4,5,6,7,8] [(0,ROW qI 3 r2.1.1),(1,ROW qI 3 r2.1.2.1),(2,ROW rE286 286 r2.1.2.2),(3,ROW qI 3 r2.2.2.1.1),(4,ROW qI 3 r2.2.2.1.2.2.1),(5,ROW qT 124 r2.2.2.1.2.2.2),(6,ROW qI 3 r2.2.2.2)] (some 9) (y9b er2) cf147 R R Z R R R R ⟨⟨_,R,fun _ _ _ _ h=>h⟩,⟨_,R,fun _ _ _ _ h=>h⟩,⟨_,R,fun _ _ _ _ h=>h⟩,⟨_,R,fun _ _ _ _ h=>h⟩,⟨_,R,fun _ _ _ _ h=>h⟩,⟨_,R,fun _ _ _ _ h=>h⟩,⟨_,R,fun _ _ _ _ h=>h⟩,trivial⟩ (fun _ _ _ h=>h) R) R (.op (O.st ag131.sz Z R R R R R) R (.sa R (.nil (.seqN (.ret ?_))))))))))))
  obtain rfl:=oi hm
  exact WX.rt [2,3,4,5,6,7,8] (.inl R) Tryz.results74 (.cell R R ag131 R (.tmp R .nil)) R (fun _ _ _ h=>h) ⟨⟨_,R,fun _ _ _ _ h=>h⟩,⟨_,R,fun _ _ _ _ h=>h⟩,⟨_,R,fun _ _ _ _ h=>h⟩,⟨_,R,fun _ _ _ _ h=>h⟩,⟨_,R,fun _ _ _ _ h=>h⟩,⟨_,R,fun _ _ _ _ h=>h⟩,⟨_,R,fun _ _ _ _ h=>h⟩,trivial⟩
def y1u (st32:Int×List Int) (st48:Int) (b52:Bool):Option (Int ⊕ (List Int)):=
 if b52 then
  (app st32.2 ([st32.1]:List Int)).bind fun x54=>
  some (.inr x54)
 else
  some (.inl (W (st48 + 1)))
def y2x (r1:AutT×AutT×List Int) (r2:AutT×List (List Int)×Int) (st32:Int×List Int) (st48:Int):Option (Int ⊕ (List Int)):=
 if decide (st48 < (r1.2.2.length:Int)) then
  (idx r1.2.2 st48).bind fun x51=>
  (idx r2.2.1 st32.1).bind fun x55=>
  (idx x55 0).bind fun x56=>
  (y1m r1.1 x56 x51).bind fun r57=>
  if decide (r57≥0) then
   (y1m r2.1 st32.1 x51).bind fun r60=>
   y1u st32 st48 (decide (r60 < 0))
  else
   y1u st32 st48 false
 else
  some (.inr st32.2)
def y1v (r1:AutT×AutT×List Int) (r2:AutT×List (List Int)×Int) (st32:Int×List Int):Option ((Int×List Int) ⊕ (List Int)):=
 if decide (st32.1 < (r2.2.1.length:Int)) then
  (iter (y2x r1 r2 st32) 0).bind fun o48=>
  some (.inl (W (st32.1 + 1),o48))
 else
  some (.inr st32.2)
def y4v (p0:(Int×y2B)×(Int×y2B)×Int) (p1:Bool):Option (AutT×AutT×List Int):=
 (y4s p0).bind fun r1=>
 if(!p1) then
  some r1
 else
  (ym ([r1.1,r1.2.1]:List AutT)).bind fun r2=>
  (iter (y1v r1 r2) (0,([]:List Int))).bind fun o32=>
  (y2H r2.1 o32 r1.2.2).bind fun r35=>
  some (r1.1,r35.1.2.2.1,r1.2.2)
theorem y8o {p0:(Int×y2B)×(Int×y2B)×Int} {p1:Bool} {r:(AutT×AutT×List Int)} (hm:y4v p0 p1=some r):
  Fw Tryz.prog 16 ⟨0,[]⟩ [.a (lx30 p0),.b p1] [] (.g [lF qI r.1.1,lI r.1.2.1,lF qI r.1.2.2.1,lF qT r.1.2.2.2,lH 0,lI r.2.1.2.1,lH 1,lH 2,lH 3]) [ROW qI 3 r.2.1.1,ROW qI 3 r.2.1.2.2.1,ROW qT 124 r.2.1.2.2.2,ROW qI 3 r.2.2]:=by
 unfold y4v at hm
 refine Fw.mk' Tryz.func16 R Tryz.ntmps16 R R (fun C=>?_) R R
 refine .seq (.reg (.op (O.box 0 R Z R R R) R (.op (O.al 1 R zz37 R Z R) R (.nil (.seqN (.seq (.reg (.op (O.lg (l':=(lx30 p0)) ag30 Z R (.B R) R R R) R (bS hm fun r1 er1 hm=> .op (O.ca (r':= .tp [.a [lH 2,lI r1.1.2.1,lH 3,lH 4],.a [lH 5,lI r1.2.1.2.1,lH 6,lH 7],.h 8]) [2,3,4,5,6,7,8] [(0,ROW qI 3 r1.1.1),(1,ROW qI 3 r1.1.2.2.1),(2,ROW qT 124 r1.1.2.2.2),(3,ROW qI 3 r1.2.1.1),(4,ROW qI 3 r1.2.1.2.2.1),(5,ROW qT 124 r1.2.1.2.2.2),(6,ROW qI 3 r1.2.2)] (some 9) (y8n er1) cf72 R R Z R R R R ⟨⟨_,R,fun _ _ _ _ h=>h⟩,⟨_,R,fun _ _ _ _ h=>h⟩,⟨_,R,fun _ _ _ _ h=>h⟩,⟨_,R,fun _ _ _ _ h=>h⟩,⟨_,R,fun _ _ _ _ h=>h⟩,⟨_,R,fun _ _ _ _ h=>h⟩,⟨_,R,fun _ _ _ _ h=>h⟩,trivial⟩ (fun _ _ _ h=>h) R) R (.mv R (.op (O.ex Z R R R) R (.op (O.ex Z R R R) R (.op (O.ex Z R R R) R (.op (O.al 9 R zz35 R Z R) R (.op (O.al 10 R zz35 R Z R) R (.op (O.st ag35.sz Z R R R R R) R (.op (O.st ag35.sz Z R R R R R) R (.sa R (.nil (.seqN (.seq (.reg (.op (O.lg (l':=[lH 2,lI r1.1.2.1,lH 3,lH 4]) ag35 Z R (.B R) R R R) R (.op (O.lg (l':=[lH 5,lI r1.2.1.2.1,lH 6,lH 7]) ag35 Z R (.B R) R R R) R (.mv R (.op (O.bu (l:=[lH 2,lI r1.1.2.1,lH 3,lH 4,lH 5,lI r1.2.1.2.1,lH 6,lH 7,lH 8]) pl37 R Z R R R) R (.op (O.al 11 R zz37 R Z R) R (.op (O.st ag37.sz Z R R R R R) R (.nil (.seqN (.seq (.seq (.reg (.mv R (.op (O.not Z R R) R (.nil (.seqN ?_)))))))))))))))))))))))))))))))))))))
 rcases ifS hm with ⟨hc,hm⟩ | ⟨hc,hm⟩
 ·refine .cT R hc ?_
  refine .seq (.reg (.op (O.lg (l':=[lH 2,lI r1.1.2.1,lH 3,lH 4,lH 5,lI r1.2.1.2.1,lH 6,lH 7,lH 8]) ag37 Z R (.B R) R R R) R (.op (O.st ag37.sz Z R R R R R) R (.nil (.seqN (.ret (.seqR (.fz 2 [] [1,9,11] R R fR R R (.fz 3 [] [1,9,11] R R fR R R (.fz 4 [] [1,9,11] R R fR R R ?_))))))))))
  obtain rfl:=oi hm
  exact WX.rt [5,6,7,8] (.inl R) Tryz.results16 (.cell R R ag37 R .nil) R (fun _ _ _ h=>h) ⟨⟨_,R,fun _ _ _ _ h=>h⟩,⟨_,R,fun _ _ _ _ h=>h⟩,⟨_,R,fun _ _ _ _ h=>h⟩,⟨_,R,fun _ _ _ _ h=>h⟩,trivial⟩
 ·refine .cF R hc ?_
  refine .skip (.seqN (.seq (.reg (.op (O.lg (l':=[lH 2,lI r1.1.2.1,lH 3,lH 4]) ag35 Z R (.B R) R R R) R (.op (O.lg (l':=[lH 5,lI r1.2.1.2.1,lH 6,lH 7]) ag35 Z R (.B R) R R R) R (.fz 2 [32] [9,11] R R fR R R (.fz 3 [32] [9,11] R R fR R R (.fz 4 [32] [9,11] R R fR R R (.fz 5 [33] [10,11] R R fR R R (.fz 6 [33] [10,11] R R fR R R (.fz 7 [33] [10,11] R R fR R R (.op (O.bsF (r:=rE35) (zs:=([r1.1,r1.2.1]:List AutT)) bs66 R R Z R R R (.c (.p .l (.p .k (.p .l .l))) (.c (.p .l (.p .k (.p .l .l))) .n)) R R R) R (bS hm fun r2 er2 hm=> .op (O.ca (r':= .tp [.a [lH 12,lI r2.1.2.1,lH 13,lH 14],.h 15,.i r2.2.2]) [12,13,14,15] [(0,ROW qI 3 r2.1.1),(1,ROW qI 3 r2.1.2.2.1),(2,ROW qT 124 r2.1.2.2.2),(3,ROW (rL qI) 32 r2.2.1)] (some 16) (y4E er2) cf32 R R Z R R R R ⟨⟨_,R,fun _ _ _ _ h=>h⟩,⟨_,R,fun _ _ _ _ h=>h⟩,⟨_,R,fun _ _ _ _ h=>h⟩,⟨_,R,fun _ _ _ _ h=>h⟩,trivial⟩ (fun _ _ _ h=>h) R) R (.mv R (.op (O.ex Z R R R) R (.op (O.ex Z R R R) R (.op (O.ex Z R R R) R (.op (O.al 16 R zz35 R Z R) R (.op (O.st ag35.sz Z R R R R R) R (.sa R (.sa R (.nil (.seqN (.seq (.reg (.sa R (.nil (.seqN (.seq (.seq (.reg (.sa R (.nil (.seqN (.block (bS hm fun o32 eo32 hm=>?_))))))))))))))))))))))))))))))))))))
  refine .cut1 (z:= .exit 0) o32 (fun (o32:List Int)=>⟨[(12,.h 0),(9,.q 1 0),(8,.q 5 0),(7,.h 6),(4,.q 7 0)],[(0,ROW qI 3 o32),(1,.bx 35 [lH 2,lI r2.1.2.1,lH 3,lH 4]),(2,ROW qI 3 r2.1.1),(3,ROW qI 3 r2.1.2.2.1),(4,ROW qT 124 r2.1.2.2.2),(5,.bx 37 [lF qI r1.1.1,lI r1.1.2.1,lF qI r1.1.2.2.1,lF qT r1.1.2.2.2,lF qI r1.2.1.1,lI r1.2.1.2.1,lF qI r1.2.1.2.2.1,lF qT r1.2.1.2.2.2,lH 6]),(6,ROW qI 3 r1.2.2),(7,.bx 37 [lN,lI 0,lN,lN,lN,lI 0,lN,lN,lN])],8⟩) ?_ fun K34=>?_
  ·skip
   refine .blkE (.seqN (.seq (.reg (.op (O.lg (l':=[lH 2,lI r2.1.2.1,lH 3,lH 4]) ag35 Z R (.B R) R R R) R (.mv R (.mv R (bS hm fun r35 er35 hm=> .op (O.caY (r':= .tp [.a [lH 8,lH 9,lH 10,lI r35.1.2.1,lH 11,lI r35.1.2.2.1.2.1,lH 12,lH 13,lH 14],.i r35.2]) [8,9,10,11,12,13,14] [(0,ROW qI 3 r35.1.1.1),(1,ROW qI 3 r35.1.1.2.1),(2,ROW rE286 286 r35.1.1.2.2),(3,ROW qI 3 r35.1.2.2.1.1),(4,ROW qI 3 r35.1.2.2.1.2.2.1),(5,ROW qT 124 r35.1.2.2.1.2.2.2),(6,ROW qI 3 r35.1.2.2.2)] (some 15) (y7T er35) cf74 R R Z R R ⟨⟨R,.hr R,.rf,.hr R,.hr R,trivial⟩,⟨R,.hr R,trivial⟩,⟨R,.hr R,trivial⟩,trivial⟩ R ⟨.row flr3,.row flr3,.row ydT,.row flr3,.row flr3,.row y5m,.row flr3,trivial⟩ (fun _ _ _ _ h=>h) ⟨⟨_,R,fun _ _ _ _ h=>h⟩,⟨_,R,fun _ _ _ _ h=>h⟩,⟨_,R,fun _ _ _ _ h=>h⟩,⟨_,R,fun _ _ _ _ h=>h⟩,⟨_,R,fun _ _ _ _ h=>h⟩,⟨_,R,fun _ _ _ _ h=>h⟩,⟨_,R,fun _ _ _ _ h=>h⟩,trivial⟩ (fun _ _ _ h=>h) R) R (.mv R (.op (O.ex Z R R R) R (.op (O.ex Z R R R) R (.op (O.al 15 R zz131 R Z R) R (.op (O.st ag131.sz Z R R R R R) R (.sa R (.nil (.seqN (.seq (.reg (.op (O.faP ycQ Z R R) R (.op (O.lg (l':=[lH 11,lI r35.1.2.2.1.2.1,lH 12,lH 13]) ag35 Z R (.B R) R R R) R (.op (O.faP y5U Z R R) R (.op (O.st ag35.sz Z R R R R R) R (.nil (.seqN (.seq (.reg (.op (O.lg (l':=[lF qI r1.1.1,lI r1.1.2.1,lF qI r1.1.2.2.1,lF qT r1.1.2.2.2,lH 11,lI r35.1.2.2.1.2.1,lH 12,lH 13,lH 6]) ag37 Z R (.B R) R R R) R (.op (O.st ag37.sz Z R R R R R) R (.nil (.seqN (.ret ?_))))))))))))))))))))))))))))))
   obtain rfl:=oi hm
   exact WX.rt [11,12,13,6] (.inl R) Tryz.results16 (.cell R R ag37 R .nil) R (fun _ _ _ h=>h) ⟨⟨_,R,fun _ _ _ _ h=>h⟩,⟨_,R,fun _ _ _ _ h=>h⟩,⟨_,R,fun _ _ _ _ h=>h⟩,⟨_,R,fun _ _ _ _ h=>h⟩,trivial⟩
  refine .nlg qI 3 12 0 R R (.iter (fun (st32:Int×List Int)=>⟨[(13,.i st32.1),(12,.h 0),(10,.h 1),(9,.q 2 0),(8,.q 6 0),(7,.h 7),(5,.q 8 0),(4,.q 9 0)],[(0,ROW qI 3 st32.2),(1,ROW (rL qI) 32 r2.2.1),(2,.bx 35 [lH 3,lI r2.1.2.1,lH 4,lH 5]),(3,ROW qI 3 r2.1.1),(4,ROW qI 3 r2.1.2.2.1),(5,ROW qT 124 r2.1.2.2.2),(6,.bx 37 [lF qI r1.1.1,lI r1.1.2.1,lF qI r1.1.2.2.1,lF qT r1.1.2.2.2,lF qI r1.2.1.1,lI r1.2.1.2.1,lF qI r1.2.1.2.2.1,lF qT r1.2.1.2.2.2,lH 7]),(7,ROW qI 3 r1.2.2),(8,.bx 35 [lF qI r1.1.1,lI r1.1.2.1,lF qI r1.1.2.2.1,lF qT r1.1.2.2.2]),(9,.bx 37 [lN,lI 0,lN,lN,lN,lI 0,lN,lN,lN])],10⟩) eo32 [(0,17),(1,15),(2,16),(3,12),(4,13),(5,14),(6,11),(7,8),(8,9),(9,1)] R ?_)
  intro st32 res32 hm ih32 ho32
  unfold y1v at hm
  refine .seq (.seq (.reg (.mv R (.mv R (.op (O.lenH sl53 Z R R R) R (.bi R (.nil (.seqN ?_))))))))
  rcases ifS hm with ⟨hc,hm⟩ | ⟨hc,hm⟩
  ·refine .cT R hc ?_
   refine .skip (.seqN (.seq (.block (.seq (.reg (.mv R (.op (O.lenH sl32 Z R R R) R (.mv R (.nil (.seqN (.block (bS hm fun o48 eo48 hm=>?_))))))))))))
   refine .cut1 (z:= .exit 2) o48 (fun (o48:List Int)=>⟨[(12,.h 0),(13,.i st32.1),(10,.h 1),(9,.q 2 0),(8,.q 6 0),(7,.h 7),(5,.q 8 0),(4,.q 9 0)],[(0,ROW qI 3 o48),(1,ROW (rL qI) 32 r2.2.1),(2,.bx 35 [lH 3,lI r2.1.2.1,lH 4,lH 5]),(3,ROW qI 3 r2.1.1),(4,ROW qI 3 r2.1.2.2.1),(5,ROW qT 124 r2.1.2.2.2),(6,.bx 37 [lF qI r1.1.1,lI r1.1.2.1,lF qI r1.1.2.2.1,lF qT r1.1.2.2.2,lF qI r1.2.1.1,lI r1.2.1.2.1,lF qI r1.2.1.2.2.1,lF qT r1.2.1.2.2.2,lH 7]),(7,ROW qI 3 r1.2.2),(8,.bx 35 [lF qI r1.1.1,lI r1.1.2.1,lF qI r1.1.2.2.1,lF qT r1.1.2.2.2]),(9,.bx 37 [lN,lI 0,lN,lN,lN,lI 0,lN,lN,lN])],10⟩) ?_ fun K50=>?_
   ·skip
    exact .blkE (.blkN (.seqN (.reg (.mv R (.bi R (.sa R (.nil ((ih32 _ (oi hm).symm).sub [] R))))))))
   refine .iter (fun (st48:Int)=>⟨[(47,.i st48),(46,.i (r1.2.2.length:Int)),(45,.h 0),(13,.i st32.1),(12,.h 1),(10,.h 2),(9,.q 3 0),(8,.q 7 0),(7,.h 0),(5,.q 8 0),(4,.q 9 0)],[(0,ROW qI 3 r1.2.2),(1,ROW qI 3 st32.2),(2,ROW (rL qI) 32 r2.2.1),(3,.bx 35 [lH 4,lI r2.1.2.1,lH 5,lH 6]),(4,ROW qI 3 r2.1.1),(5,ROW qI 3 r2.1.2.2.1),(6,ROW qT 124 r2.1.2.2.2),(7,.bx 37 [lF qI r1.1.1,lI r1.1.2.1,lF qI r1.1.2.2.1,lF qT r1.1.2.2.2,lF qI r1.2.1.1,lI r1.2.1.2.1,lF qI r1.2.1.2.2.1,lF qT r1.2.1.2.2.2,lH 0]),(8,.bx 35 [lF qI r1.1.1,lI r1.1.2.1,lF qI r1.1.2.2.1,lF qT r1.1.2.2.2]),(9,.bx 37 [lN,lI 0,lN,lN,lN,lI 0,lN,lN,lN])],10⟩) eo48 [(0,7),(1,0),(2,1),(3,2),(4,3),(5,4),(6,5),(7,6)] R ?_
   intro st48 res48 hm ih48 ho48
   unfold y2x at hm
   refine .seq (.reg (.bi R (.nil (.seqN (.seq ?_)))))
   rcases ifS hm with ⟨hc,hm⟩ | ⟨hc,hm⟩
   ·refine .cT R hc ?_
    refine .skip (.seqN (.seq (.block (.seq (.reg (bS hm fun x51 ex51 hm=> .op (O.ir sl32 Z R R R ex51 R) R (.op (O.ld nag3 Z R (.R R ex51 lv3) R R) R (.sa R (.nil (.seqN ?_))))))))))
    refine .join1 (fun (b52:Bool)=>y1u st32 st48 b52=some res48) (fun b52=>⟨[(67,.b b52),(47,.i st48),(46,.i (r1.2.2.length:Int)),(45,.h 0),(13,.i st32.1),(12,.h 1),(10,.h 2),(9,.q 3 0),(8,.q 7 0),(7,.h 0),(5,.q 8 0),(4,.q 9 0)],[(0,ROW qI 3 r1.2.2),(1,ROW qI 3 st32.2),(2,ROW (rL qI) 32 r2.2.1),(3,.bx 35 [lH 4,lI r2.1.2.1,lH 5,lH 6]),(4,ROW qI 3 r2.1.1),(5,ROW qI 3 r2.1.2.2.1),(6,ROW qT 124 r2.1.2.2.2),(7,.bx 37 [lF qI r1.1.1,lI r1.1.2.1,lF qI r1.1.2.2.1,lF qT r1.1.2.2.2,lF qI r1.2.1.1,lI r1.2.1.2.1,lF qI r1.2.1.2.2.1,lF qT r1.2.1.2.2.2,lH 0]),(8,.bx 35 [lF qI r1.1.1,lI r1.1.2.1,lF qI r1.1.2.2.1,lF qT r1.1.2.2.2]),(9,.bx 37 [lN,lI 0,lN,lN,lN,lI 0,lN,lN,lN])],10⟩) ?_ ?_
    ·intro b52 hm
     unfold y1u at hm
     rcases ifS hm with ⟨hc,hm⟩ | ⟨hc,hm⟩
     ·refine .cT R hc ?_
      exact .seq (.reg (.mv R (.mv R (.op (O.bsF (r:=qI) (zs:=([st32.1]:List Int)) bs32 R R Z R R R (.c .k .n) R R R) R (bS hm fun x54 ex54 hm=> .op (O.ap 10 Tryz.underlying32 el3 R R Z R R (.fr R) ex54 R) R (.sa R (.nil (.seqN (.exit (.blkX R (.seqX (.seqX ((K50 _ (ho48 _ (oi hm).symm)).sub [(0,10),(1,2),(2,3),(3,4),(4,5),(5,6),(6,7),(7,0)] R)))))))))))))
     ·refine .cF R hc ?_
      exact .skip (.blkN (.seqN (.reg (.bi R (.mv R (.nil ((ih48 _ (oi hm).symm).sub [] R)))))))
    ·intro Jj53
     refine .sub (τ:=⟨[(15,.i x51),(47,.i st48),(46,.i (r1.2.2.length:Int)),(45,.h 0),(13,.i st32.1),(12,.h 1),(10,.h 2),(9,.q 3 0),(8,.q 7 0),(7,.h 0),(5,.q 8 0),(4,.q 9 0)],[(0,ROW qI 3 r1.2.2),(1,ROW qI 3 st32.2),(2,ROW (rL qI) 32 r2.2.1),(3,.bx 35 [lH 4,lI r2.1.2.1,lH 5,lH 6]),(4,ROW qI 3 r2.1.1),(5,ROW qI 3 r2.1.2.2.1),(6,ROW qT 124 r2.1.2.2.2),(7,.bx 37 [lF qI r1.1.1,lI r1.1.2.1,lF qI r1.1.2.2.1,lF qT r1.1.2.2.2,lF qI r1.2.1.1,lI r1.2.1.2.1,lF qI r1.2.1.2.2.1,lF qT r1.2.1.2.2.2,lH 0]),(8,.bx 35 [lF qI r1.1.1,lI r1.1.2.1,lF qI r1.1.2.2.1,lF qT r1.1.2.2.2]),(9,.bx 37 [lN,lI 0,lN,lN,lN,lI 0,lN,lN,lN])],10⟩) ?_ [] R
     refine bS hm fun x55 ex55 hm=>bS hm fun x56 ex56 hm=>bS hm fun r57 er57 hm=> .drP 10 [(10,[]),(10,[]),(10,[]),(10,[oF,oT,oT]),(10,fA 1 (tT 3)),(10,fA 1 (tT 4)),(10,fA 1 (tT 5)),(10,[]),(10,tT 8),(10,tT 9)] [_,_,_,_,_,_,_,_,_,_] ⟨O.lg (l':=[lF qI r1.1.1,lI r1.1.2.1,lF qI r1.1.2.2.1,lF qT r1.1.2.2.2]) ag35 Z R (.B R) R R R,O.mv Z R R,O.mv Z R R,O.ir sl53 Z R R R ex55 R,O.ld nag32 Z R (.R R ex55 lv32) R R,O.ix sl32 Z R R ex56 R,O.ld nag3 Z R (.E lv3) R R,O.mv Z R R,O.ca0 (y3O er57) cf73 R R Z R R R,O.bi Z R R R R,trivial⟩ fun hp58=>?_
     rcases ifS hm with ⟨hc59,hm⟩ | ⟨hc59,hm⟩
     ·skip
      exact bS hm fun r60 er60 hm=> .drF hp58 [(10,tT 10),(10,tT 11),(10,tT 11),(10,tT 11),(10,tT 14),(10,tT 15),(10,tT 16)] [_,_,_,_,_,_,_] ⟨[(67,.b (decide (r60 < 0))),(47,.i st48),(46,.i (r1.2.2.length:Int)),(45,.h 0),(13,.i st32.1),(12,.h 1),(10,.h 2),(9,.q 3 0),(8,.q 7 0),(7,.h 0),(5,.q 8 0),(4,.q 9 0)],[(0,ROW qI 3 r1.2.2),(1,ROW qI 3 st32.2),(2,ROW (rL qI) 32 r2.2.1),(3,.bx 35 [lH 4,lI r2.1.2.1,lH 5,lH 6]),(4,ROW qI 3 r2.1.1),(5,ROW qI 3 r2.1.2.2.1),(6,ROW qT 124 r2.1.2.2.2),(7,.bx 37 [lF qI r1.1.1,lI r1.1.2.1,lF qI r1.1.2.2.1,lF qT r1.1.2.2.2,lF qI r1.2.1.1,lI r1.2.1.2.1,lF qI r1.2.1.2.2.1,lF qT r1.2.1.2.2.2,lH 0]),(8,.bx 35 [lF qI r1.1.1,lI r1.1.2.1,lF qI r1.1.2.2.1,lF qT r1.1.2.2.2]),(9,.bx 37 [lN,lI 0,lN,lN,lN,lI 0,lN,lN,lN])],10⟩ ⟨O.kn (O.mv Z R R) hc59,O.lg (l':=[lH 4,lI r2.1.2.1,lH 5,lH 6]) ag35 (Gu.mk R R) R (.B R) R R R,O.mv (Gu.mk R R) R R,O.mv (Gu.mk R R) R R,O.caZ (y3O er60) cf73 R R (Gu.mk R R) R ⟨⟨R,.hr R,.rf,.hr R,.hr R,trivial⟩,⟨R,LnL.rf⟩,⟨R,LnL.rf⟩,trivial⟩ (fun _ _ _ _ _ h=>h) R,O.bi (Gu.mk R R) R R R R,O.pkT Z R R R R,trivial⟩ (by kernel_rfl) R ((Jj53 _ hm).sub [] R)
     ·skip
      exact .drF hp58 [(10,tT 10),(10,tT 11),(10,tT 11),(10,tT 11),(10,tT 14),(10,tT 15),(10,tT 16)] [_,_,_,_,_,_,_] ⟨[(67,.b false),(47,.i st48),(46,.i (r1.2.2.length:Int)),(45,.h 0),(13,.i st32.1),(12,.h 1),(10,.h 2),(9,.q 3 0),(8,.q 7 0),(7,.h 0),(5,.q 8 0),(4,.q 9 0)],[(0,ROW qI 3 r1.2.2),(1,ROW qI 3 st32.2),(2,ROW (rL qI) 32 r2.2.1),(3,.bx 35 [lH 4,lI r2.1.2.1,lH 5,lH 6]),(4,ROW qI 3 r2.1.1),(5,ROW qI 3 r2.1.2.2.1),(6,ROW qT 124 r2.1.2.2.2),(7,.bx 37 [lF qI r1.1.1,lI r1.1.2.1,lF qI r1.1.2.2.1,lF qT r1.1.2.2.2,lF qI r1.2.1.1,lI r1.2.1.2.1,lF qI r1.2.1.2.2.1,lF qT r1.2.1.2.2.2,lH 0]),(8,.bx 35 [lF qI r1.1.1,lI r1.1.2.1,lF qI r1.1.2.2.1,lF qT r1.1.2.2.2]),(9,.bx 37 [lN,lI 0,lN,lN,lN,lI 0,lN,lN,lN])],10⟩ ⟨O.kn (O.mv Z R R) hc59,O.skip R R R R,O.skip R R R R,O.skip R R R R,O.skip R R R R,O.skip R R R R,O.pkF Z R R R R,trivial⟩ (by kernel_rfl) R ((Jj53 _ hm).sub [] R)
   ·refine .cF R hc ?_
    exact .exit (.seqX (.seqX ((K50 _ (ho48 _ (oi hm).symm)).sub [(0,1),(1,2),(2,3),(3,4),(4,5),(5,6),(6,7),(7,0)] R)))
  ·refine .cF R hc ?_
   exact .exit (.seqX (.seqX ((K34 _ (ho32 _ (oi hm).symm)).sub [(1,2),(2,3),(3,4),(4,5),(5,6),(6,7),(7,9)] R)))
def y2I (b2:Bool):Option Bool:=
 some b2
def y3K (p0:(AutT×(List KeyT))×(AutT×(List KeyT))×(AutT×(List KeyT))×List (List Int)×List Int×List Int) (p1:Int) (p2:Int) (p3:Int):Option Bool:=
 (y1d p0.2.2.1 p1 p2).bind fun r1=>
 if(r1 != (-1)) then
  (y1d p0.2.2.1 p1 p3).bind fun r6=>
  if(r6 != (-1)) then
   (y1d p0.2.2.1 r1 p3).bind fun r9=>
   if(r9 == (-1)) then
    (idx p0.2.2.2.1 r1).bind fun x12=>
    (idx x12 0).bind fun x13=>
    (y1d p0.1 x13 p3).bind fun r14=>
    y2I (r14 != (-1))
   else
    y2I false
  else
   y2I false
 else
  y2I false
theorem y8K {p0:(AutT×(List KeyT))×(AutT×(List KeyT))×(AutT×(List KeyT))×List (List Int)×List Int×List Int} {p1:Int} {p2:Int} {p3:Int} {r:Bool} (hm:y3K p0 p1 p2 p3=some r):
  Fw Tryz.prog 90 ⟨0,[]⟩ [.o (lQ 155 (lx155 p0) 0),.i p1,.i p2,.i p3] [] (.b r) []:=by
 unfold y3K at hm
 refine Fw.mk' Tryz.func90 R Tryz.ntmps90 R R (fun C=>?_) R R
 refine .seq (.reg (.sa R (.nil (.seqN (.seq (.reg (.mv R (.op (O.nc .Q Z R R) R (.op (O.faQ y5J Z R R) R (.op (O.lg (l':=[lF qI p0.2.2.1.1.1,lI p0.2.2.1.1.2.1,lF qI p0.2.2.1.1.2.2.1,lF qT p0.2.2.1.1.2.2.2,lM kvP qI p0.2.2.1.2]) ag141 Z R .Q R R R) R (.mv R (.mv R (bS hm fun r1 er1 hm=> .op (O.ca0 (y1U er1) cf150 R R Z R R R) R (.sa R (.nil (.seqN ?_))))))))))))))))
 refine .join1 (fun (b2:Bool)=>y2I b2=some r) (fun b2=>⟨[(8,.b b2)],[],0⟩) ?_ ?_
 ·intro b2 hm
  unfold y2I at hm
  refine .ret ?_
  obtain rfl:=oi hm
  exact WX.rt [] (.inl R) Tryz.results90 (.tmp R .nil) R (fun _ _ _ h=>h) trivial
 ·intro Jj3
  refine .sub (τ:=⟨[(9,.i r1),(0,.o (lQ 155 (lx155 p0) 0)),(1,.i p1),(3,.i p3)],[],0⟩) ?_ [] R
  refine .drP 2 [(0,[]),(0,[oT])] [_,_] ⟨O.mv Z R R,O.bi Z R R R R,trivial⟩ fun hp4=>?_
  rcases ifS hm with ⟨hc5,hm⟩ | ⟨hc5,hm⟩
  ·skip
   refine bS hm fun r6 er6 hm=> .drX hp4 12 [(0,[oT,oT]),(0,tT 3),(0,tT 4),(0,tT 5),(0,tT 6),(0,tT 3),(0,tT 3),(0,tT 9),(0,tT 10),(0,tT 11)] [_,_,_,_,_,_,_,_,_,_] ⟨O.kn (O.mv Z R R) hc5,O.mv (Gu.mk R R) R R,O.nc .Q (Gu.mk R R) R R,O.faQ y5J (Gu.mk R R) R R,O.lg (l':=[lF qI p0.2.2.1.1.1,lI p0.2.2.1.1.2.1,lF qI p0.2.2.1.1.2.2.1,lF qT p0.2.2.1.1.2.2.2,lM kvP qI p0.2.2.1.2]) ag141 (Gu.mk R R) R .Q R R R,O.mv (Gu.mk R R) R R,O.mv (Gu.mk R R) R R,O.ca0 (y1U er6) cf150 R R (Gu.mk R R) R R R,O.bi (Gu.mk R R) R R R R,O.pkT Z R R R R,trivial⟩ (by kernel_rfl) fun hp7=>?_
   rcases ifS hm with ⟨hc8,hm⟩ | ⟨hc8,hm⟩
   ·skip
    refine bS hm fun r9 er9 hm=> .drX hp7 22 [(0,tT 12),(0,tT 13),(0,tT 14),(0,tT 15),(0,tT 16),(0,tT 13),(0,tT 13),(0,tT 19),(0,tT 20),(0,tT 21)] [_,_,_,_,_,_,_,_,_,_] ⟨O.kn (O.mv Z R R) hc8,O.mv (Gu.mk R R) R R,O.nc .Q (Gu.mk R R) R R,O.faQ y5J (Gu.mk R R) R R,O.lg (l':=[lF qI p0.2.2.1.1.1,lI p0.2.2.1.1.2.1,lF qI p0.2.2.1.1.2.2.1,lF qT p0.2.2.1.1.2.2.2,lM kvP qI p0.2.2.1.2]) ag141 (Gu.mk R R) R .Q R R R,O.mv (Gu.mk R R) R R,O.mv (Gu.mk R R) R R,O.ca0 (y1U er9) cf150 R R (Gu.mk R R) R R R,O.bi (Gu.mk R R) R R R R,O.pkT Z R R R R,trivial⟩ (by kernel_rfl) fun hp10=>?_
    rcases ifS hm with ⟨hc11,hm⟩ | ⟨hc11,hm⟩
    ·skip
     exact bS hm fun x12 ex12 hm=>bS hm fun x13 ex13 hm=>bS hm fun r14 er14 hm=> .drF hp10 [(0,tT 22),(0,tT 23),(0,tT 24),(0,tT 25),(0,tT 26),(0,tT 23),(0,tA 23 (fA 4 (tT 1))),(0,tA 23 (fA 4 (tT 2))),(0,tA 23 (fA 4 (tT 3))),(0,tT 23),(0,tA 23 (fA 4 (tT 5))),(0,tA 23 (fA 4 (tT 6))),(0,tA 23 (fA 4 (tT 7))),(0,tA 23 (fA 4 (tT 8))),(0,tT 23),(0,tT 37),(0,tT 38),(0,tT 39),(0,tT 40)] [_,_,_,_,_,_,_,_,_,_,_,_,_,_,_,_,_,_,_] ⟨[(8,.b (r14 != (-1)))],[],0⟩ ⟨O.kn (O.mv Z R R) hc11,O.mv (Gu.mk R R) R R,O.nc .Q (Gu.mk R R) R R,O.faQ yb9 (Gu.mk R R) R R,O.lg (l':=[lF qI p0.1.1.1,lI p0.1.1.2.1,lF qI p0.1.1.2.2.1,lF qT p0.1.1.2.2.2,lM kvP qI p0.1.2]) ag141 (Gu.mk R R) R .Q R R R,O.mv (Gu.mk R R) R R,O.nc .Q (Gu.mk R R) R R,O.faQ y9V (Gu.mk R R) R R,O.ld nag53 (Gu.mk R R) R .Q R R,O.mv (Gu.mk R R) R R,O.ix sl53 (Gu.mk R R) R R ex12 R,O.ld nag32 (Gu.mk R R) R (.E lv32) R R,O.ix sl32 (Gu.mk R R) R R ex13 R,O.ld nag3 (Gu.mk R R) R (.E lv3) R R,O.mv (Gu.mk R R) R R,O.ca0 (y1U er14) cf150 R R (Gu.mk R R) R R R,O.bi (Gu.mk R R) R R R R,O.pkT Z R R R R,O.as Z R R,trivial⟩ (by kernel_rfl) R ((Jj3 _ hm).sub [] R)
    ·skip
     exact .drF hp10 [(0,tT 22),(0,tT 23),(0,tT 24),(0,tT 25),(0,tT 26),(0,tT 23),(0,tA 23 (fA 4 (tT 1))),(0,tA 23 (fA 4 (tT 2))),(0,tA 23 (fA 4 (tT 3))),(0,tT 23),(0,tA 23 (fA 4 (tT 5))),(0,tA 23 (fA 4 (tT 6))),(0,tA 23 (fA 4 (tT 7))),(0,tA 23 (fA 4 (tT 8))),(0,tT 23),(0,tT 37),(0,tT 38),(0,tT 39),(0,tT 40)] [_,_,_,_,_,_,_,_,_,_,_,_,_,_,_,_,_,_,_] ⟨[(8,.b false)],[],0⟩ ⟨O.kn (O.mv Z R R) hc11,O.skip R R R R,O.skip R R R R,O.skip R R R R,O.skip R R R R,O.skip R R R R,O.skip R R R R,O.skip R R R R,O.skip R R R R,O.skip R R R R,O.skip R R R R,O.skip R R R R,O.skip R R R R,O.skip R R R R,O.skip R R R R,O.skip R R R R,O.skip R R R R,O.pkF Z R R R R,O.as Z R R,trivial⟩ (by kernel_rfl) R ((Jj3 _ hm).sub [] R)
   ·skip
    exact .drF hp7 [(0,tT 12),(0,tT 13),(0,tT 14),(0,tT 15),(0,tT 16),(0,tT 13),(0,tT 13),(0,tT 19),(0,tT 20),(0,tT 21),(0,tT 22),(0,tT 23),(0,tT 24),(0,tT 25),(0,tT 26),(0,tT 23),(0,tA 23 (fA 4 (tT 1))),(0,tA 23 (fA 4 (tT 2))),(0,tA 23 (fA 4 (tT 3))),(0,tT 23),(0,tA 23 (fA 4 (tT 5))),(0,tA 23 (fA 4 (tT 6))),(0,tA 23 (fA 4 (tT 7))),(0,tA 23 (fA 4 (tT 8))),(0,tT 23),(0,tT 37),(0,tT 38),(0,tT 39),(0,tT 40)] [_,_,_,_,_,_,_,_,_,_,_,_,_,_,_,_,_,_,_,_,_,_,_,_,_,_,_,_,_] ⟨[(8,.b false)],[],0⟩ ⟨O.kn (O.mv Z R R) hc8,O.skip R R R R,O.skip R R R R,O.skip R R R R,O.skip R R R R,O.skip R R R R,O.skip R R R R,O.skip R R R R,O.skip R R R R,O.pkF Z R R R R,O.mv Z R R,O.skip R R R R,O.skip R R R R,O.skip R R R R,O.skip R R R R,O.skip R R R R,O.skip R R R R,O.skip R R R R,O.skip R R R R,O.skip R R R R,O.skip R R R R,O.skip R R R R,O.skip R R R R,O.skip R R R R,O.skip R R R R,O.skip R R R R,O.skip R R R R,O.pkF Z R R R R,O.as Z R R,trivial⟩ (by kernel_rfl) R ((Jj3 _ hm).sub [] R)
  ·skip
   exact .drF hp4 [(0,[oT,oT]),(0,tT 3),(0,tT 4),(0,tT 5),(0,tT 6),(0,tT 3),(0,tT 3),(0,tT 9),(0,tT 10),(0,tT 11),(0,tT 12),(0,tT 13),(0,tT 14),(0,tT 15),(0,tT 16),(0,tT 13),(0,tT 13),(0,tT 19),(0,tT 20),(0,tT 21),(0,tT 22),(0,tT 23),(0,tT 24),(0,tT 25),(0,tT 26),(0,tT 23),(0,tA 23 (fA 4 (tT 1))),(0,tA 23 (fA 4 (tT 2))),(0,tA 23 (fA 4 (tT 3))),(0,tT 23),(0,tA 23 (fA 4 (tT 5))),(0,tA 23 (fA 4 (tT 6))),(0,tA 23 (fA 4 (tT 7))),(0,tA 23 (fA 4 (tT 8))),(0,tT 23),(0,tT 37),(0,tT 38),(0,tT 39),(0,tT 40)] [_,_,_,_,_,_,_,_,_,_,_,_,_,_,_,_,_,_,_,_,_,_,_,_,_,_,_,_,_,_,_,_,_,_,_,_,_,_,_] ⟨[(8,.b false)],[],0⟩ ⟨O.kn (O.mv Z R R) hc5,O.skip R R R R,O.skip R R R R,O.skip R R R R,O.skip R R R R,O.skip R R R R,O.skip R R R R,O.skip R R R R,O.skip R R R R,O.pkF Z R R R R,O.mv Z R R,O.skip R R R R,O.skip R R R R,O.skip R R R R,O.skip R R R R,O.skip R R R R,O.skip R R R R,O.skip R R R R,O.skip R R R R,O.pkF Z R R R R,O.mv Z R R,O.skip R R R R,O.skip R R R R,O.skip R R R R,O.skip R R R R,O.skip R R R R,O.skip R R R R,O.skip R R R R,O.skip R R R R,O.skip R R R R,O.skip R R R R,O.skip R R R R,O.skip R R R R,O.skip R R R R,O.skip R R R R,O.skip R R R R,O.skip R R R R,O.pkF Z R R R R,O.as Z R R,trivial⟩ (by kernel_rfl) R ((Jj3 _ hm).sub [] R)
def y4i (p0:AutT×(List KeyT)) (p1:List Int) (st7:Int×Int):Option ((Int×Int) ⊕ (Int ⊕ Unit)):=
 if decide (st7.1 < (p1.length:Int)) then
  (idx p1 st7.1).bind fun x13=>
  (y1d p0 st7.2 x13).bind fun r14=>
  if(r14 == (-1)) then
   some (.inr (.inr (())))
  else
   some (.inl (W (st7.1 + 1),r14))
 else
  some (.inr (.inl st7.2))
def y3p (p0:AutT×(List KeyT)) (p1:List Int):Option Int:=
 if(p0.1.2.1 == 0) then
  some (-1)
 else
  (iter (y4i p0 p1) (0,0)).bind fun o7=>
  match o7 with
  | .inl u9=>
   some u9
  | .inr (u11)=>
   some (-1)
theorem y6O {p0:AutT×(List KeyT)} {p1:List Int} {r:Int} (hm:y3p p0 p1=some r):
  Fw Tryz.prog 91 ⟨0,[]⟩ [.a [lF qI p0.1.1,lI p0.1.2.1,lF qI p0.1.2.2.1,lF qT p0.1.2.2.2,lM kvP qI p0.2],.f qI p1] [] (.i r) []:=by
 unfold y3p at hm
 refine Fw.mk' Tryz.func91 R Tryz.ntmps91 R R (fun C=>?_) R R
 refine .seq (.reg (.op (O.box 0 R Z R R R) R (.sa R (.nil (.seqN (.seq (.seq (.reg (.op (O.faP y5t Z R R) R (.op (O.faP y1g Z R R) R (.op (O.ld nag3 Z R (.B R) R R) R (.bi R (.nil (.seqN ?_))))))))))))))
 rcases ifS hm with ⟨hc,hm⟩ | ⟨hc,hm⟩
 ·refine .cT R hc ?_
  refine .seq (.reg (.sa R (.nil (.seqN (.ret (.seqR ?_))))))
  obtain rfl:=oi hm
  exact WX.rt [] (.inl R) Tryz.results91 (.tmp R .nil) R (fun _ _ _ h=>h) trivial
 ·refine .cF R hc ?_
  refine .skip (.seqN (.seq (.reg (.sa R (.nil (.seqN (.seq (.seq (.reg (.mv R (.op (O.len sl32 Z R R) R (.mv R (.nil (.seqN (.block (bS hm fun o7 eo7 hm=>?_))))))))))))))))
  refine .cutU (z:= .exit 0) (fun u9=> .inl u9=o7) (fun (u9:Int)=>⟨[(5,.i u9)],[],0⟩) ?_ fun K10=>?_
  ·rintro u9 rfl
   dsimp only at hm
   refine .blkE (.seqN (.seq (.reg (.mv R (.sa R (.nil (.seqN (.ret ?_))))))))
   obtain rfl:=oi hm
   exact WX.rt [] (.inl R) Tryz.results91 (.tmp R .nil) R (fun _ _ _ h=>h) trivial
  refine .cutU (z:= .ret) (fun u11=> .inr (u11)=o7) (fun (u11:Unit)=>⟨[(4,.i (-1))],[],0⟩) ?_ fun K12=>?_
  ·rintro u11 rfl
   dsimp only at hm
   refine .blkR (.seqR ?_)
   obtain rfl:=oi hm
   exact WX.rt [] (.inl R) Tryz.results91 (.tmp R .nil) R (fun _ _ _ h=>h) trivial
  refine .iter (fun (st7:Int×Int)=>⟨[(14,.i st7.1),(13,.i (p1.length:Int)),(12,.f qI p1),(5,.i st7.2),(2,.q 0 0)],[(0,.bx 141 [lF qI p0.1.1,lI p0.1.2.1,lF qI p0.1.2.2.1,lF qT p0.1.2.2.2,lM kvP qI p0.2])],1⟩) eo7 [] R ?_
  intro st7 res7 hm ih7 ho7
  unfold y4i at hm
  refine .seq (.reg (.bi R (.nil (.seqN (.seq ?_)))))
  rcases ifS hm with ⟨hc,hm⟩ | ⟨hc,hm⟩
  ·refine .cT R hc ?_
   refine .skip (.seqN (.seq (.block (.seq (.reg (bS hm fun x13 ex13 hm=> .op (O.ix sl32 Z R R ex13 R) R (.op (O.ld nag3 Z R (.E lv3) R R) R (.sa R (.nil (.seqN (.seq (.reg (.op (O.lg (l':=[lF qI p0.1.1,lI p0.1.2.1,lF qI p0.1.2.2.1,lF qT p0.1.2.2.2,lM kvP qI p0.2]) ag141 Z R (.B R) R R R) R (.mv R (.mv R (bS hm fun r14 er14 hm=> .op (O.ca0 (y1U er14) cf150 R R Z R R R) R (.sa R (.nil (.seqN (.seq (.reg (.mv R (.bi R (.nil (.seqN ?_)))))))))))))))))))))))))
   rcases ifS hm with ⟨hc,hm⟩ | ⟨hc,hm⟩
   ·refine .cT R hc ?_
    exact .seq (.reg (.sa R (.nil (.seqN (.ret (.blkR (.seqR (.seqR ((K12 _ (ho7 _ (oi hm).symm)).sub [] R)))))))))
   ·refine .cF R hc ?_
    exact .skip (.blkN (.seqN (.reg (.bi R (.mv R (.nil ((ih7 _ (oi hm).symm).sub [] R)))))))
  ·refine .cF R hc ?_
   exact .exit (.seqX (.seqX ((K10 _ (ho7 _ (oi hm).symm)).sub [] R)))
def y2Q (q0:List Int) (p0:List Int):Option Bool:=
 (y4c p0 q0).bind fun r1=>
 some r1
theorem y8L {q0:List Int} {p0:List Int} {r:Bool} (hm:y2Q q0 p0=some r):
  Fw Tryz.prog 155 ⟨0,[]⟩ [.f qI p0,.o (lQ 32 [lF qI q0] 0)] [] (.b r) []:=by
 unfold y2Q at hm
 refine Fw.mk' Tryz.func155 R Tryz.ntmps155 R R (fun C=>?_) R R
 refine .seq (.reg (.sa R (.nil (.seqN (.seq (.reg (.mv R (.op (O.ld nag32 Z R .Q R R) R (bS hm fun r1 er1 hm=> .op (O.ca0 (y6M er1) cf82 R R Z R R R) R (.sa R (.nil (.seqN (.ret ?_)))))))))))))
 obtain rfl:=oi hm
 exact WX.rt [] (.inl R) Tryz.results155 (.tmp R .nil) R (fun _ _ _ h=>h) trivial
def y4D (p0:List (List Int)) (p1:(List Int)→Option Bool) (st5:Int):Option (Int ⊕ (Unit ⊕ Int)):=
 if decide (st5 < (p0.length:Int)) then
  (idx p0 st5).bind fun x11=>
  (p1 x11).bind fun r12=>
  if r12 then
   some (.inr (.inr (st5)))
  else
   some (.inl (W (st5 + 1)))
 else
  some (.inr (.inl ()))
def y3T (p0:List (List Int)) (p1:(List Int)→Option Bool):Option Int:=
 (iter (y4D p0 p1) 0).bind fun o5=>
 match o5 with
 | .inl u7=>
  some (-1)
 | .inr (u9)=>
  some u9
theorem y6Y {p0:List (List Int)} {p1:(List Int)→Option Bool} {r:Int} (hm:y3T p0 p1=some r):
  Fw Tryz.prog 204 ⟨0,[]⟩ [.f (rL qI) p0,.o (lW Tryz.prog (fun (x:List Int)=> [.f qI x]) (fun (r:Bool)=> .b r) p1)] [] (.i r) []:=by
 unfold y3T at hm
 refine Fw.mk' Tryz.func204 R Tryz.ntmps204 R R (fun C=>?_) R R
 refine .seq (.reg (.sa R (.nil (.seqN (.seq (.seq (.reg (.mv R (.op (O.len sl53 Z R R) R (.mv R (.nil (.seqN (.block (bS hm fun o5 eo5 hm=>?_))))))))))))))
 refine .cutU (z:= .exit 0) (fun u7=> .inl u7=o5) (fun (u7:Unit)=>⟨[],[],0⟩) ?_ fun K8=>?_
 ·rintro u7 rfl
  dsimp only at hm
  refine .blkE (.seqN (.seq (.reg (.sa R (.nil (.seqN (.ret ?_)))))))
  obtain rfl:=oi hm
  exact WX.rt [] (.inl R) Tryz.results204 (.tmp R .nil) R (fun _ _ _ h=>h) trivial
 refine .cutU (z:= .ret) (fun u9=> .inr (u9)=o5) (fun (u9:Int)=>⟨[(4,.i u9)],[],0⟩) ?_ fun K10=>?_
 ·rintro u9 rfl
  dsimp only at hm
  refine .blkR (.seqR ?_)
  obtain rfl:=oi hm
  exact WX.rt [] (.inl R) Tryz.results204 (.tmp R .nil) R (fun _ _ _ h=>h) trivial
 refine .iter (fun (st5:Int)=>⟨[(8,.i st5),(7,.i (p0.length:Int)),(0,.f (rL qI) p0),(1,.o (lW Tryz.prog (fun (x:List Int)=> [.f qI x]) (fun (r:Bool)=> .b r) p1))],[],0⟩) eo5 [] R ?_
 intro st5 res5 hm ih5 ho5
 unfold y4D at hm
 refine .seq (.reg (.bi R (.nil (.seqN (.seq ?_)))))
 rcases ifS hm with ⟨hc,hm⟩ | ⟨hc,hm⟩
 ·refine .cT R hc ?_
  refine .skip (.seqN (.seq (.block (.seq (.reg (.mv R (.sa R (.nil (.seqN (.seq (.reg (.mv R (.mv R (.mv R (bS hm fun x11 ex11 hm=> .op (O.ix sl53 Z R R ex11 R) R (.op (O.ld nag32 Z R (.E lv32) R R) R (bS hm fun r12 er12 hm=>?_)))))))))))))))))
  refine .op (O.fv (y:=x11) R R R Z R er12 R R) R ?_
  refine .nil (.seqN ?_)
  rcases ifS hm with ⟨hc,hm⟩ | ⟨hc,hm⟩
  ·refine .cT R hc ?_
   exact .seq (.reg (.mv R (.sa R (.nil (.seqN (.ret (.blkR (.seqR (.seqR ((K10 _ (ho5 _ (oi hm).symm)).sub [] R))))))))))
  ·refine .cF R hc ?_
   exact .skip (.blkN (.seqN (.reg (.bi R (.mv R (.nil ((ih5 _ (oi hm).symm).sub [] R)))))))
 ·refine .cF R hc ?_
  exact .exit (.seqX (.seqX ((K8 _ (ho5 _ (oi hm).symm)).sub [] R)))
def y3g (p0:List (List Int)) (p1:(List Int)→Option Bool):Option Bool:=
 (y3T p0 p1).bind fun r1=>
 some (decide (r1≥0))
theorem y6C {p0:List (List Int)} {p1:(List Int)→Option Bool} {r:Bool} (hm:y3g p0 p1=some r):
  Fw Tryz.prog 154 ⟨0,[]⟩ [.f (rL qI) p0,.o (lW Tryz.prog (fun (x:List Int)=> [.f qI x]) (fun (r:Bool)=> .b r) p1)] [] (.b r) []:=by
 unfold y3g at hm
 refine Fw.mk' Tryz.func154 R Tryz.ntmps154 R R (fun C=>?_) R R
 refine .seq (.reg (.sa R (.nil (.seqN (.seq (.reg (.mv R (.mv R (bS hm fun r1 er1 hm=> .op (O.ca0 (y6Y er1) cf204 R R Z R R R) R (.bi R (.sa R (.nil (.seqN (.ret ?_))))))))))))))
 obtain rfl:=oi hm
 exact WX.rt [] (.inl R) Tryz.results154 (.tmp R .nil) R (fun _ _ _ h=>h) trivial
def y4z (p0:(AutT×(List KeyT))×(AutT×(List KeyT))×(AutT×(List KeyT))×List (List Int)×List Int×List Int) (p1:Int) (p2:List Int):Option Bool:=
 if((decide ((p2.length:Int) < 2)) || (decide ((p2.length:Int) > 3))) then
  some false
 else
  (y3Y p0 p1 (p2.length:Int)).bind fun r3=>
  (y3g r3 (y2Q p2)).bind fun r4=>
  some r4
theorem y9r {p0:(AutT×(List KeyT))×(AutT×(List KeyT))×(AutT×(List KeyT))×List (List Int)×List Int×List Int} {p1:Int} {p2:List Int} {r:Bool} (hm:y4z p0 p1 p2=some r):
  Fw Tryz.prog 92 ⟨0,[]⟩ [.o (lQ 155 (lx155 p0) 0),.i p1,.f qI p2] [] (.b r) []:=by
 unfold y4z at hm
 refine Fw.mk' Tryz.func92 R Tryz.ntmps92 R R (fun C=>?_) R R
 refine .seq (.reg (.op (O.box 0 R Z R R R) R (.sa R (.nil (.seqN (.seq (.seq (.reg (.op (O.ld nag32 Z R (.B R) R R) R (.op (O.len sl32 Z R R) R (.bi R (.mv R ?_))))))))))))
 refine .cut 4 (fun (v1:Bool)=>((decide ((p2.length:Int) < 2)) || (decide ((p2.length:Int) > 3)))=v1) (fun v1=>⟨[(14,.b v1),(5,.q 0 0),(0,.o (lQ 155 (lx155 p0) 0)),(1,.i p1)],[(0,.bx 32 [lF qI p2])],1⟩) ?_ ?_
 ·rintro _ rfl
  refine .nil (.seqN ?_)
  rcases ifS hm with ⟨hc,hm⟩ | ⟨hc,hm⟩
  ·refine .cT R hc ?_
   refine .seq (.reg (.sa R (.nil (.seqN (.ret (.seqR ?_))))))
   obtain rfl:=oi hm
   exact WX.rt [] (.inl R) Tryz.results92 (.tmp R .nil) R (fun _ _ _ h=>h) trivial
  ·refine .cF R hc ?_
   refine .skip (.seqN (.seq (.reg (.mv R (.mv R (.op (O.ld nag32 Z R (.B R) R R) R (.op (O.len sl32 Z R R) R (bS hm fun r3 er3 hm=> .op (O.ca (r':= .h 1) [1] [(0,ROW (rL qI) 32 r3)] (some 2) (y6J er3) cf109 R R Z R R R R ⟨⟨_,R,fun _ _ _ _ h=>h⟩,trivial⟩ (fun _ _ _ h=>h) R) R (.fz 0 [5] [] R R fB R R (.op (O.mf (args:=(fun (x:List Int)=> [.f qI x])) (res:=(fun (r:Bool)=> .b r)) (m:=(y2Q p2)) cf155 (fun x r h=>y8L h) (fun _=>R) R Z R R) R (bS hm fun r4 er4 hm=> .op (O.caZ (y6C er4) cf154 R R Z R ⟨⟨R,.hr R,trivial⟩,⟨R,LnL.rf⟩,trivial⟩ (fun _ _ _ _ _ h=>h) R) R (.sa R (.nil (.seqN (.ret ?_)))))))))))))))
   obtain rfl:=oi hm
   exact WX.rt [] (.inl R) Tryz.results92 (.tmp R .nil) R (fun _ _ _ h=>h) trivial
 ·intro J2
  rcases Bool.eq_false_or_eq_true (decide ((p2.length:Int) < 2)) with hc | hc
  ·refine .know (d:=10) R hc ?_
   exact .sk R (.sk R (.sk R (.op (O.pkT Z R R R R) R ((J2 true (orT hc).symm).sub [] R))))
  ·refine .know (d:=10) R hc ?_
   exact .op (O.ld nag32 (Gu.mk R R) R (.B R) R R) R (.op (O.len sl32 (Gu.mk R R) R R) R (.op (O.bi (Gu.mk R R) R R R R) R (.op (O.pkF Z R R R R) R ((J2 (decide ((p2.length:Int) > 3)) (orF hc).symm).sub [] R))))
def yp (b4:Bool):Option Int:=
 if(!b4) then
  some 24
 else
  some 0
def y1V (p0:AutT×AutT×List Int) (p1:List Int) (p2:Int×List Int×List Int):Option Int:=
 (y5K p0 p1).bind fun r1=>
 if(r1.2 != 0) then
  some r1.2
 else
  r1.1.bind fun x2=>
  (y3p x2.2.2.1 p2.2.1).bind fun r3=>
  if(p2.1 == 1) then
   (if (r3 != (-1)) then
    (y4z x2 r3 p2.2.2).bind fun r13=>
    some r13
   else
    some false).bind fun b6=>
   (if b6 then
    (y2P x2 r3 p2.2.2).bind fun r12=>
    some (!r12)
   else
    some false).bind fun b9=>
   yp b9
  else
   if(p2.1 == 2) then
    if(r3 != (-1)) then
     if((p2.2.2.length:Int) == 2) then
      (idx p2.2.2 0).bind fun x18=>
      (yk x2.2.2.2.2.1 x18).bind fun r19=>
      if r19 then
       (idx p2.2.2 1).bind fun x22=>
       (yk x2.2.2.2.2.2 x22).bind fun r23=>
       if r23 then
        (idx p2.2.2 0).bind fun x26=>
        (idx p2.2.2 1).bind fun x27=>
        (y3K x2 r3 x26 x27).bind fun r28=>
        yp r28
       else
        yp false
      else
       yp false
     else
      yp false
    else
     yp false
   else
    if(p2.1 == 3) then
     (y1D x2 p1).bind fun r29=>
     (y3p r29 p2.2.1).bind fun r30=>
     (if ((r30 != (-1)) && ((p2.2.2.length:Int) == 0)) then
      (y3F r29).bind fun r36=>
      (idx r36 r30).bind fun x37=>
      some (!x37)
     else
      some false).bind fun b33=>
     yp b33
    else
     some 11
theorem yaF {p0:AutT×AutT×List Int} {p1:List Int} {p2:Int×List Int×List Int} {r:Int} (hm:y1V p0 p1 p2=some r):
  Fw Tryz.prog 31 ⟨0,[]⟩ [.a [lF qI p0.1.1,lI p0.1.2.1,lF qI p0.1.2.2.1,lF qT p0.1.2.2.2,lF qI p0.2.1.1,lI p0.2.1.2.1,lF qI p0.2.1.2.2.1,lF qT p0.2.1.2.2.2,lF qI p0.2.2],.f qI p1,.a [lI p2.1,lF qI p2.2.1,lF qI p2.2.2]] [] (.i r) []:=by
 unfold y1V at hm
 refine Fw.mk' Tryz.func31 R Tryz.ntmps31 R R (fun C=>?_) R R
 refine .seq (.reg (.op (O.box 0 R Z R R R) R (.op (O.box 1 R Z R R R) R (.sa R (.nil (.seqN (.seq (.reg (.op (O.lg (l':=[lF qI p0.1.1,lI p0.1.2.1,lF qI p0.1.2.2.1,lF qT p0.1.2.2.2,lF qI p0.2.1.1,lI p0.2.1.2.1,lF qI p0.2.1.2.2.1,lF qT p0.2.1.2.2.2,lF qI p0.2.2]) ag37 Z R (.B R) R R R) R (.mv R (bS hm fun r1 er1 hm=> .op (O.ca0 (y9l er1) cf77 R R Z R R R) R (.mv R (.op (O.ex Z R R R) R (.op (O.ex Z R R R) R (.sa R (.sa R (.nil (.seqN (.seq (.seq (.reg (.mv R (.bi R (.nil (.seqN ?_)))))))))))))))))))))))))
 rcases ifS hm with ⟨hc,hm⟩ | ⟨hc,hm⟩
 ·refine .cT R hc ?_
  refine .seq (.reg (.mv R (.sa R (.nil (.seqN (.ret (.seqR ?_)))))))
  obtain rfl:=oi hm
  exact WX.rt [] (.inl R) Tryz.results31 (.tmp R .nil) R (fun _ _ _ h=>h) trivial
 ·refine .cF R hc ?_
  refine .skip (.seqN (.seq (bS hm fun x2 ex2 hm=> .cnt 7 R (.c (.pd ex2 lv155) .n) R (.cnt 17 R (.c (.pd ex2 lv155) .n) R ?_))))
  refine .sub (τ:=⟨[(7,.o (lQ 155 (lx155 x2) 0)),(5,.q 1 0),(1,.f qI p1)],[(1,.bx 44 [lI p2.1,lF qI p2.2.1,lF qI p2.2.2])],2⟩) ?_ [] R
  refine bS hm fun r3 er3 hm=>?_
  refine .drw [(2,[]),(2,[oT]),(2,[oT,oT]),(2,tT 3),(2,[]),(2,[oF,oF,oF,oF,oT]),(2,tT 6),(2,tT 7)] [_,_,_,_,_,_,_,_] ⟨[(9,.i r3),(7,.o (lQ 155 (lx155 x2) 0)),(5,.q 1 0),(1,.f qI p1)],[(1,.bx 44 [lI p2.1,lF qI p2.2.1,lF qI p2.2.2])],2⟩ ⟨O.mv Z R R,O.nc .Q Z R R,O.faQ y5J Z R R,O.lg (l':=[lF qI x2.2.2.1.1.1,lI x2.2.2.1.1.2.1,lF qI x2.2.2.1.1.2.2.1,lF qT x2.2.2.1.1.2.2.2,lM kvP qI x2.2.2.1.2]) ag141 Z R .Q R R R,O.faP y6H Z R R,O.ld nag32 Z R (.B R) R R,O.ca0 (y6O er3) cf91 R R Z R R R,O.as Z R R,trivial⟩ (by kernel_rfl) R ?_
  refine .seqN (.seq (.reg (.sa R (.nil (.seqN ?_)))))
  refine .join1 (fun (b4:Bool)=>yp b4=some r) (fun b4=>⟨[(10,.b b4)],[],0⟩) ?_ ?_
  ·intro b4 hm
   unfold yp at hm
   refine .seq (.seq (.reg (.mv R (.op (O.not Z R R) R (.nil (.seqN ?_))))))
   rcases ifS hm with ⟨hc,hm⟩ | ⟨hc,hm⟩
   ·refine .cT R hc ?_
    refine .seq (.reg (.sa R (.nil (.seqN (.ret (.seqR ?_))))))
    obtain rfl:=oi hm
    exact WX.rt [] (.inl R) Tryz.results31 (.tmp R .nil) R (fun _ _ _ h=>h) trivial
   ·refine .cF R hc ?_
    refine .skip (.seqN (.seq (.reg (.sa R (.nil (.seqN (.ret ?_)))))))
    obtain rfl:=oi hm
    exact WX.rt [] (.inl R) Tryz.results31 (.tmp R .nil) R (fun _ _ _ h=>h) trivial
  ·intro Jj5
   refine .seq (.reg (.op (O.faP yaD Z R R) R (.op (O.ld nag3 Z R (.B R) R R) R (.nil (.seqN (.block (.seq (.reg (.bi R (.sa R (.nil (.seqN ?_))))))))))))
   rcases ifS hm with ⟨hc,hm⟩ | ⟨hc,hm⟩
   ·refine .cT R hc ?_
    refine .reg (.mv R (.bi R (.mv R (bS hm fun b6 eb6 hm=>?_))))
    refine .cut 6 (fun (v7:Bool)=>b6=v7) (fun v7=>⟨[(41,.b v7),(9,.i r3),(7,.o (lQ 155 (lx155 x2) 0)),(5,.q 1 0)],[(1,.bx 44 [lI p2.1,lF qI p2.2.1,lF qI p2.2.2])],2⟩) ?_ ?_
    ·rintro _ rfl
     refine .mv R (bS hm fun b9 eb9 hm=>?_)
     refine .cut 7 (fun (v10:Bool)=>b9=v10) (fun v10=>⟨[(49,.b v10)],[],2⟩) ?_ ?_
     ·rintro _ rfl
      exact .sa R (.nil (.blkN ((Jj5 _ hm).sub [] R)))
     ·intro J11
      rcases ifS eb9 with ⟨hc,hm⟩ | ⟨hc,hm⟩
      ·refine .know (d:=42) R hc ?_
       exact .op (O.mv (Gu.mk R R) R R) R (.op (O.mv (Gu.mk R R) R R) R (.op (O.faP y4G (Gu.mk R R) R R) R (.op (O.ld nag32 (Gu.mk R R) R (.B R) R R) R (bS hm fun r12 er12 hm=> .op (O.ca0 (y6x er12) cf93 R R (Gu.mk R R) R R R) R (.op (O.not (Gu.mk R R) R R) R (.op (O.pkT Z R R R R) R ((J11 (!r12) (oi hm).symm).sub [] R)))))))
      ·refine .know (d:=42) R hc ?_
       exact .sk R (.sk R (.sk R (.sk R (.sk R (.sk R (.op (O.pkF Z R R R R) R ((J11 false (oi hm).symm).sub [] R)))))))
    ·intro J8
     rcases ifS eb6 with ⟨hc,hm⟩ | ⟨hc,hm⟩
     ·refine .know (d:=35) R hc ?_
      exact .op (O.mv (Gu.mk R R) R R) R (.op (O.mv (Gu.mk R R) R R) R (.op (O.faP y4G (Gu.mk R R) R R) R (.op (O.ld nag32 (Gu.mk R R) R (.B R) R R) R (bS hm fun r13 er13 hm=> .op (O.ca0 (y9r er13) cf92 R R (Gu.mk R R) R R R) R (.op (O.pkT Z R R R R) R ((J8 r13 (oi hm).symm).sub [] R))))))
     ·refine .know (d:=35) R hc ?_
      exact .sk R (.sk R (.sk R (.sk R (.sk R (.op (O.pkF Z R R R R) R ((J8 false (oi hm).symm).sub [] R))))))
   ·refine .cF R hc ?_
    refine .seq (.reg (.bi R (.sa R (.nil (.seqN ?_)))))
    rcases ifS hm with ⟨hc,hm⟩ | ⟨hc,hm⟩
    ·refine .cT R hc ?_
     refine .sub (τ:=⟨[(9,.i r3),(7,.o (lQ 155 (lx155 x2) 0)),(5,.q 1 0)],[(1,.bx 44 [lI p2.1,lF qI p2.2.1,lF qI p2.2.2])],2⟩) ?_ [] R
     refine .drP 2 [(2,[]),(2,[oT])] [_,_] ⟨O.mv Z R R,O.bi Z R R R R,trivial⟩ fun hp14=>?_
     rcases ifS hm with ⟨hc15,hm⟩ | ⟨hc15,hm⟩
     ·skip
      refine .drX hp14 8 [(2,[oT,oT]),(2,tT 3),(2,tT 4),(2,tT 5),(2,tT 6),(2,tT 7)] [_,_,_,_,_,_] ⟨O.kn (O.mv Z R R) hc15,O.faP y4G (Gu.mk R R) R R,O.ld nag32 (Gu.mk R R) R (.B R) R R,O.len sl32 (Gu.mk R R) R R,O.bi (Gu.mk R R) R R R R,O.pkT Z R R R R,trivial⟩ (by kernel_rfl) fun hp16=>?_
      rcases ifS hm with ⟨hc17,hm⟩ | ⟨hc17,hm⟩
      ·skip
       refine bS hm fun x18 ex18 hm=>bS hm fun r19 er19 hm=> .drX hp16 19 [(2,tT 8),(2,tT 9),(2,tT 10),(2,tT 11),(2,tT 12),(2,tT 9),(2,tA 9 (fA 4 (tT 1))),(2,tA 9 (fA 4 (tT 2))),(2,tA 9 (fA 4 (tT 3))),(2,tT 17),(2,tT 18)] [_,_,_,_,_,_,_,_,_,_,_] ⟨O.kn (O.mv Z R R) hc17,O.mv (Gu.mk R R) R R,O.nc .Q (Gu.mk R R) R R,O.faQ y9W (Gu.mk R R) R R,O.ld nag32 (Gu.mk R R) R .Q R R,O.faP y4G (Gu.mk R R) R R,O.ld nag32 (Gu.mk R R) R (.B R) R R,O.ix sl32 (Gu.mk R R) R R ex18 R,O.ld nag3 (Gu.mk R R) R (.E lv3) R R,O.ca0 (yH er19) cf94 R R (Gu.mk R R) R R R,O.pkT Z R R R R,trivial⟩ (by kernel_rfl) fun hp20=>?_
       rcases ifS hm with ⟨hc21,hm⟩ | ⟨hc21,hm⟩
       ·skip
        refine bS hm fun x22 ex22 hm=>bS hm fun r23 er23 hm=> .drX hp20 30 [(2,tT 19),(2,tT 20),(2,tT 21),(2,tT 22),(2,tT 23),(2,tT 20),(2,tA 20 (fA 4 (tT 1))),(2,tA 20 (fA 4 (tT 2))),(2,tA 20 (fA 4 (tT 3))),(2,tT 28),(2,tT 29)] [_,_,_,_,_,_,_,_,_,_,_] ⟨O.kn (O.mv Z R R) hc21,O.mv (Gu.mk R R) R R,O.nc .Q (Gu.mk R R) R R,O.faQ yfx (Gu.mk R R) R R,O.ld nag32 (Gu.mk R R) R .Q R R,O.faP y4G (Gu.mk R R) R R,O.ld nag32 (Gu.mk R R) R (.B R) R R,O.ix sl32 (Gu.mk R R) R R ex22 R,O.ld nag3 (Gu.mk R R) R (.E lv3) R R,O.ca0 (yH er23) cf94 R R (Gu.mk R R) R R R,O.pkT Z R R R R,trivial⟩ (by kernel_rfl) fun hp24=>?_
        rcases ifS hm with ⟨hc25,hm⟩ | ⟨hc25,hm⟩
        ·skip
         exact bS hm fun x26 ex26 hm=>bS hm fun x27 ex27 hm=>bS hm fun r28 er28 hm=> .drF hp24 [(2,tT 30),(2,tT 31),(2,tT 31),(2,tT 31),(2,tA 31 (fA 2 (tT 1))),(2,tA 31 (fA 2 (tT 2))),(2,tA 31 (fA 2 (tT 3))),(2,tT 31),(2,tA 31 (fA 6 (tT 1))),(2,tA 31 (fA 6 (tT 2))),(2,tA 31 (fA 6 (tT 3))),(2,tT 41),(2,tT 42),(2,tT 43)] [_,_,_,_,_,_,_,_,_,_,_,_,_,_] ⟨[(10,.b r28)],[],2⟩ ⟨O.kn (O.mv Z R R) hc25,O.mv (Gu.mk R R) R R,O.mv (Gu.mk R R) R R,O.faP y4G (Gu.mk R R) R R,O.ld nag32 (Gu.mk R R) R (.B R) R R,O.ix sl32 (Gu.mk R R) R R ex26 R,O.ld nag3 (Gu.mk R R) R (.E lv3) R R,O.faP y4G (Gu.mk R R) R R,O.ld nag32 (Gu.mk R R) R (.B R) R R,O.ix sl32 (Gu.mk R R) R R ex27 R,O.ld nag3 (Gu.mk R R) R (.E lv3) R R,O.ca0 (y8K er28) cf90 R R (Gu.mk R R) R R R,O.pkT Z R R R R,O.as Z R R,trivial⟩ (by kernel_rfl) R (.blkN ((Jj5 _ hm).sub [] R))
        ·skip
         exact .drF hp24 [(2,tT 30),(2,tT 31),(2,tT 31),(2,tT 31),(2,tA 31 (fA 2 (tT 1))),(2,tA 31 (fA 2 (tT 2))),(2,tA 31 (fA 2 (tT 3))),(2,tT 31),(2,tA 31 (fA 6 (tT 1))),(2,tA 31 (fA 6 (tT 2))),(2,tA 31 (fA 6 (tT 3))),(2,tT 41),(2,tT 42),(2,tT 43)] [_,_,_,_,_,_,_,_,_,_,_,_,_,_] ⟨[(10,.b false)],[],2⟩ ⟨O.kn (O.mv Z R R) hc25,O.skip R R R R,O.skip R R R R,O.skip R R R R,O.skip R R R R,O.skip R R R R,O.skip R R R R,O.skip R R R R,O.skip R R R R,O.skip R R R R,O.skip R R R R,O.skip R R R R,O.pkF Z R R R R,O.as Z R R,trivial⟩ (by kernel_rfl) R (.blkN ((Jj5 _ hm).sub [] R))
       ·skip
        exact .drF hp20 [(2,tT 19),(2,tT 20),(2,tT 21),(2,tT 22),(2,tT 23),(2,tT 20),(2,tA 20 (fA 4 (tT 1))),(2,tA 20 (fA 4 (tT 2))),(2,tA 20 (fA 4 (tT 3))),(2,tT 28),(2,tT 29),(2,tT 30),(2,tT 31),(2,tT 31),(2,tT 31),(2,tA 31 (fA 2 (tT 1))),(2,tA 31 (fA 2 (tT 2))),(2,tA 31 (fA 2 (tT 3))),(2,tT 31),(2,tA 31 (fA 6 (tT 1))),(2,tA 31 (fA 6 (tT 2))),(2,tA 31 (fA 6 (tT 3))),(2,tT 41),(2,tT 42),(2,tT 43)] [_,_,_,_,_,_,_,_,_,_,_,_,_,_,_,_,_,_,_,_,_,_,_,_,_] ⟨[(10,.b false)],[],2⟩ ⟨O.kn (O.mv Z R R) hc21,O.skip R R R R,O.skip R R R R,O.skip R R R R,O.skip R R R R,O.skip R R R R,O.skip R R R R,O.skip R R R R,O.skip R R R R,O.skip R R R R,O.pkF Z R R R R,O.mv Z R R,O.skip R R R R,O.skip R R R R,O.skip R R R R,O.skip R R R R,O.skip R R R R,O.skip R R R R,O.skip R R R R,O.skip R R R R,O.skip R R R R,O.skip R R R R,O.skip R R R R,O.pkF Z R R R R,O.as Z R R,trivial⟩ (by kernel_rfl) R (.blkN ((Jj5 _ hm).sub [] R))
      ·skip
       exact .drF hp16 [(2,tT 8),(2,tT 9),(2,tT 10),(2,tT 11),(2,tT 12),(2,tT 9),(2,tA 9 (fA 4 (tT 1))),(2,tA 9 (fA 4 (tT 2))),(2,tA 9 (fA 4 (tT 3))),(2,tT 17),(2,tT 18),(2,tT 19),(2,tT 20),(2,tT 21),(2,tT 22),(2,tT 23),(2,tT 20),(2,tA 20 (fA 4 (tT 1))),(2,tA 20 (fA 4 (tT 2))),(2,tA 20 (fA 4 (tT 3))),(2,tT 28),(2,tT 29),(2,tT 30),(2,tT 31),(2,tT 31),(2,tT 31),(2,tA 31 (fA 2 (tT 1))),(2,tA 31 (fA 2 (tT 2))),(2,tA 31 (fA 2 (tT 3))),(2,tT 31),(2,tA 31 (fA 6 (tT 1))),(2,tA 31 (fA 6 (tT 2))),(2,tA 31 (fA 6 (tT 3))),(2,tT 41),(2,tT 42),(2,tT 43)] [_,_,_,_,_,_,_,_,_,_,_,_,_,_,_,_,_,_,_,_,_,_,_,_,_,_,_,_,_,_,_,_,_,_,_,_] ⟨[(10,.b false)],[],2⟩ ⟨O.kn (O.mv Z R R) hc17,O.skip R R R R,O.skip R R R R,O.skip R R R R,O.skip R R R R,O.skip R R R R,O.skip R R R R,O.skip R R R R,O.skip R R R R,O.skip R R R R,O.pkF Z R R R R,O.mv Z R R,O.skip R R R R,O.skip R R R R,O.skip R R R R,O.skip R R R R,O.skip R R R R,O.skip R R R R,O.skip R R R R,O.skip R R R R,O.skip R R R R,O.pkF Z R R R R,O.mv Z R R,O.skip R R R R,O.skip R R R R,O.skip R R R R,O.skip R R R R,O.skip R R R R,O.skip R R R R,O.skip R R R R,O.skip R R R R,O.skip R R R R,O.skip R R R R,O.skip R R R R,O.pkF Z R R R R,O.as Z R R,trivial⟩ (by kernel_rfl) R (.blkN ((Jj5 _ hm).sub [] R))
     ·skip
      exact .drF hp14 [(2,[oT,oT]),(2,tT 3),(2,tT 4),(2,tT 5),(2,tT 6),(2,tT 7),(2,tT 8),(2,tT 9),(2,tT 10),(2,tT 11),(2,tT 12),(2,tT 9),(2,tA 9 (fA 4 (tT 1))),(2,tA 9 (fA 4 (tT 2))),(2,tA 9 (fA 4 (tT 3))),(2,tT 17),(2,tT 18),(2,tT 19),(2,tT 20),(2,tT 21),(2,tT 22),(2,tT 23),(2,tT 20),(2,tA 20 (fA 4 (tT 1))),(2,tA 20 (fA 4 (tT 2))),(2,tA 20 (fA 4 (tT 3))),(2,tT 28),(2,tT 29),(2,tT 30),(2,tT 31),(2,tT 31),(2,tT 31),(2,tA 31 (fA 2 (tT 1))),(2,tA 31 (fA 2 (tT 2))),(2,tA 31 (fA 2 (tT 3))),(2,tT 31),(2,tA 31 (fA 6 (tT 1))),(2,tA 31 (fA 6 (tT 2))),(2,tA 31 (fA 6 (tT 3))),(2,tT 41),(2,tT 42),(2,tT 43)] [_,_,_,_,_,_,_,_,_,_,_,_,_,_,_,_,_,_,_,_,_,_,_,_,_,_,_,_,_,_,_,_,_,_,_,_,_,_,_,_,_,_] ⟨[(10,.b false)],[],2⟩ ⟨O.kn (O.mv Z R R) hc15,O.skip R R R R,O.skip R R R R,O.skip R R R R,O.skip R R R R,O.pkF Z R R R R,O.mv Z R R,O.skip R R R R,O.skip R R R R,O.skip R R R R,O.skip R R R R,O.skip R R R R,O.skip R R R R,O.skip R R R R,O.skip R R R R,O.skip R R R R,O.pkF Z R R R R,O.mv Z R R,O.skip R R R R,O.skip R R R R,O.skip R R R R,O.skip R R R R,O.skip R R R R,O.skip R R R R,O.skip R R R R,O.skip R R R R,O.skip R R R R,O.pkF Z R R R R,O.mv Z R R,O.skip R R R R,O.skip R R R R,O.skip R R R R,O.skip R R R R,O.skip R R R R,O.skip R R R R,O.skip R R R R,O.skip R R R R,O.skip R R R R,O.skip R R R R,O.skip R R R R,O.pkF Z R R R R,O.as Z R R,trivial⟩ (by kernel_rfl) R (.blkN ((Jj5 _ hm).sub [] R))
    ·refine .cF R hc ?_
     refine .seq (.reg (.bi R (.sa R (.nil (.seqN ?_)))))
     rcases ifS hm with ⟨hc,hm⟩ | ⟨hc,hm⟩
     ·refine .cT R hc ?_
      refine .seq (.reg (.mv R (.mv R (bS hm fun r29 er29 hm=> .op (O.ca0 (y5Z er29) cf78 R R Z R R R) R (.op (O.al 2 R zz141 R Z R) R (.op (O.st ag141.sz Z R R R R R) R (.nil (.seqN (.seq (.reg (.op (O.lg (l':=[lF qI r29.1.1,lI r29.1.2.1,lF qI r29.1.2.2.1,lF qT r29.1.2.2.2,lM kvP qI r29.2]) ag141 Z R (.B R) R R R) R (.op (O.faP y6H Z R R) R (.op (O.ld nag32 Z R (.B R) R R) R (bS hm fun r30 er30 hm=> .op (O.ca0 (y6O er30) cf91 R R Z R R R) R (.sa R (.nil (.seqN (.reg (.mv R (.bi R (.mv R ?_)))))))))))))))))))))
      refine .cut 5 (fun (v31:Bool)=>((r30 != (-1)) && ((p2.2.2.length:Int) == 0))=v31) (fun v31=>⟨[(111,.b v31),(12,.i r30),(11,.q 2 0)],[(2,.bx 141 [lF qI r29.1.1,lI r29.1.2.1,lF qI r29.1.2.2.1,lF qT r29.1.2.2.2,lM kvP qI r29.2])],3⟩) ?_ ?_
      ·rintro _ rfl
       refine .mv R (bS hm fun b33 eb33 hm=>?_)
       refine .cut 7 (fun (v34:Bool)=>b33=v34) (fun v34=>⟨[(119,.b v34)],[],4⟩) ?_ ?_
       ·rintro _ rfl
        exact .sa R (.nil (.blkN ((Jj5 _ hm).sub [] R)))
       ·intro J35
        rcases ifS eb33 with ⟨hc,hm⟩ | ⟨hc,hm⟩
        ·refine .know (d:=112) R hc ?_
         exact .op (O.lg (l':=[lF qI r29.1.1,lI r29.1.2.1,lF qI r29.1.2.2.1,lF qT r29.1.2.2.2,lM kvP qI r29.2]) ag141 (Gu.mk R R) R (.B R) R R R) R (bS hm fun r36 er36 hm=> .op (O.ca (r':= .h 3) [3] [(0,ROW rB 4 r36)] (some 4) (y6T er36) cf80 R R (Gu.mk R R) R R R R ⟨⟨_,R,fun _ _ _ _ h=>h⟩,trivial⟩ (fun _ _ _ h=>h) R) R (.op (O.mv (Gu.mk R R) R R) R (bS hm fun x37 ex37 hm=> .op (O.ir sl144 (Gu.mk R R) R R R ex37 R) R (.op (O.ld nag4 (Gu.mk R R) R (.R R ex37 lv4) R R) R (.op (O.not (Gu.mk R R) R R) R (.op (O.pkT Z R R R R) R ((J35 (!x37) (oi hm).symm).sub [] R)))))))
        ·refine .know (d:=112) R hc ?_
         exact .sk R (.sk R (.sk R (.sk R (.sk R (.sk R (.op (O.pkF Z R R R R) R ((J35 false (oi hm).symm).sub [] R)))))))
      ·intro J32
       rcases Bool.eq_false_or_eq_true (r30 != (-1)) with hc | hc
       ·refine .know (d:=106) R hc ?_
        exact .op (O.faP y4G (Gu.mk R R) R R) R (.op (O.ld nag32 (Gu.mk R R) R (.B R) R R) R (.op (O.len sl32 (Gu.mk R R) R R) R (.op (O.bi (Gu.mk R R) R R R R) R (.op (O.pkT Z R R R R) R ((J32 ((p2.2.2.length:Int) == 0) (andT hc).symm).sub [] R)))))
       ·refine .know (d:=106) R hc ?_
        exact .sk R (.sk R (.sk R (.sk R (.op (O.pkF Z R R R R) R ((J32 false (andF hc).symm).sub [] R)))))
     ·refine .cF R hc ?_
      refine .seq (.reg (.sa R (.nil (.seqN (.ret (.blkR (.seqR ?_)))))))
      obtain rfl:=oi hm
      exact WX.rt [] (.inl R) Tryz.results31 (.tmp R .nil) R (fun _ _ _ h=>h) trivial
def y3P (p0:List Int) (p1:Int) (st4:Int):Option (Int ⊕ (Unit ⊕ Unit)):=
 if decide (st4 < (p0.length:Int)) then
  (idx p0 st4).bind fun x9=>
  if(x9 == p1) then
   some (.inr (.inr (())))
  else
   some (.inl (W (st4 + 1)))
 else
  some (.inr (.inl ()))
def yt (p0:List Int) (p1:Int):Option Bool:=
 (iter (y3P p0 p1) 0).bind fun o4=>
 match o4 with
 | .inl u5=>
  some false
 | .inr (u7)=>
  some true
theorem yQ {p0:List Int} {p1:Int} {r:Bool} (hm:yt p0 p1=some r):
  Fw Tryz.prog 44 ⟨0,[]⟩ [.f qI p0,.i p1] [] (.b r) []:=by
 unfold yt at hm
 refine Fw.mk' Tryz.func44 R Tryz.ntmps44 R R (fun C=>?_) R R
 refine .seq (.reg (.sa R (.nil (.seqN (.seq (.seq (.reg (.sa R (.nil (.seqN (.block (bS hm fun o4 eo4 hm=>?_))))))))))))
 refine .cutU (z:= .exit 0) (fun u5=> .inl u5=o4) (fun (u5:Unit)=>⟨[],[],0⟩) ?_ fun K6=>?_
 ·rintro u5 rfl
  dsimp only at hm
  refine .blkE (.seqN (.seq (.reg (.sa R (.nil (.seqN (.ret ?_)))))))
  obtain rfl:=oi hm
  exact WX.rt [] (.inl R) Tryz.results44 (.tmp R .nil) R (fun _ _ _ h=>h) trivial
 refine .cutU (z:= .ret) (fun u7=> .inr (u7)=o4) (fun (u7:Unit)=>⟨[(4,.b true)],[],0⟩) ?_ fun K8=>?_
 ·rintro u7 rfl
  dsimp only at hm
  refine .blkR (.seqR ?_)
  obtain rfl:=oi hm
  exact WX.rt [] (.inl R) Tryz.results44 (.tmp R .nil) R (fun _ _ _ h=>h) trivial
 refine .iter (fun (st4:Int)=>⟨[(5,.i st4),(0,.f qI p0),(1,.i p1)],[],0⟩) eo4 [] R ?_
 intro st4 res4 hm ih4 ho4
 unfold y3P at hm
 refine .seq (.seq (.reg (.mv R (.mv R (.op (O.len sl32 Z R R) R (.bi R (.nil (.seqN ?_))))))))
 rcases ifS hm with ⟨hc,hm⟩ | ⟨hc,hm⟩
 ·refine .cT R hc ?_
  refine .skip (.seqN (.seq (.block (.seq (.reg (.mv R (.mv R (bS hm fun x9 ex9 hm=> .op (O.ix sl32 Z R R ex9 R) R (.op (O.ld nag3 Z R (.E lv3) R R) R (.mv R (.bi R (.nil (.seqN ?_)))))))))))))
  rcases ifS hm with ⟨hc,hm⟩ | ⟨hc,hm⟩
  ·refine .cT R hc ?_
   exact .seq (.reg (.sa R (.nil (.seqN (.ret (.blkR (.seqR (.seqR ((K8 _ (ho4 _ (oi hm).symm)).sub [] R)))))))))
  ·refine .cF R hc ?_
   exact .skip (.blkN (.seqN (.reg (.mv R (.bi R (.sa R (.nil ((ih4 _ (oi hm).symm).sub [] R))))))))
 ·refine .cF R hc ?_
  exact .exit (.seqX (.seqX ((K6 _ (ho4 _ (oi hm).symm)).sub [] R)))
def y2y (st11:Int) (b17:Bool):Option (Int ⊕ (Unit ⊕ Unit)):=
 if b17 then
  some (.inr (.inr (())))
 else
  some (.inl (W (st11 + 1)))
def y2z (p0:List AutT) (p1:List Int) (st11:Int):Option (Int ⊕ (Unit ⊕ Unit)):=
 if decide (st11 < (p0.length:Int)) then
  (idx p0 st11).bind fun x16=>
  (idx p1 st11).bind fun x19=>
  if decide (x19 < 0) then
   y2y st11 true
  else
   (idx p1 st11).bind fun x22=>
   y2y st11 (decide (x22≥x16.2.1))
 else
  some (.inr (.inl ()))
def y4w (p0:List AutT) (p1:List Int):Option Int:=
 (y3G p0).bind fun r1=>
 if(r1 != 0) then
  some r1
 else
  if((p1.length:Int) != (p0.length:Int)) then
   some 4
  else
   (iter (y2z p0 p1) 0).bind fun o11=>
   match o11 with
   | .inl u12=>
    some 0
   | .inr (u14)=>
    some 2
theorem y8p {p0:List AutT} {p1:List Int} {r:Int} (hm:y4w p0 p1=some r):
  Fw Tryz.prog 216 ⟨0,[]⟩ [.f rE35 p0,.f qI p1] [] (.i r) []:=by
 unfold y4w at hm
 refine Fw.mk' Tryz.func216 R Tryz.ntmps216 R R (fun C=>?_) R R
 refine .seq (.reg (.sa R (.nil (.seqN (.seq (.seq (.reg (.mv R (bS hm fun r1 er1 hm=> .op (O.ca0 (y7v er1) cf95 R R Z R R R) R (.sa R (.nil (.seqN (.seq (.reg (.mv R (.bi R (.nil (.seqN ?_))))))))))))))))))
 rcases ifS hm with ⟨hc,hm⟩ | ⟨hc,hm⟩
 ·refine .cT R hc ?_
  refine .seq (.reg (.mv R (.sa R (.nil (.seqN (.ret (.seqR ?_)))))))
  obtain rfl:=oi hm
  exact WX.rt [] (.inl R) Tryz.results216 (.tmp R .nil) R (fun _ _ _ h=>h) trivial
 ·refine .cF R hc ?_
  refine .skip (.seqN (.seq (.seq (.reg (.mv R (.op (O.len sl32 Z R R) R (.mv R (.op (O.len sl66 Z R R) R (.bi R (.nil (.seqN ?_)))))))))))
  rcases ifS hm with ⟨hc,hm⟩ | ⟨hc,hm⟩
  ·refine .cT R hc ?_
   refine .seq (.reg (.sa R (.nil (.seqN (.ret (.seqR ?_))))))
   obtain rfl:=oi hm
   exact WX.rt [] (.inl R) Tryz.results216 (.tmp R .nil) R (fun _ _ _ h=>h) trivial
  ·refine .cF R hc ?_
   refine .skip (.seqN (.seq (.seq (.reg (.mv R (.op (O.len sl66 Z R R) R (.mv R (.nil (.seqN (.block (bS hm fun o11 eo11 hm=>?_)))))))))))
   refine .cutU (z:= .exit 0) (fun u12=> .inl u12=o11) (fun (u12:Unit)=>⟨[],[],0⟩) ?_ fun K13=>?_
   ·rintro u12 rfl
    dsimp only at hm
    refine .blkE (.seqN (.seq (.reg (.sa R (.nil (.seqN (.ret ?_)))))))
    obtain rfl:=oi hm
    exact WX.rt [] (.inl R) Tryz.results216 (.tmp R .nil) R (fun _ _ _ h=>h) trivial
   refine .cutU (z:= .ret) (fun u14=> .inr (u14)=o11) (fun (u14:Unit)=>⟨[(4,.i 2)],[],0⟩) ?_ fun K15=>?_
   ·rintro u14 rfl
    dsimp only at hm
    refine .blkR (.seqR ?_)
    obtain rfl:=oi hm
    exact WX.rt [] (.inl R) Tryz.results216 (.tmp R .nil) R (fun _ _ _ h=>h) trivial
   refine .iter (fun (st11:Int)=>⟨[(20,.i st11),(19,.i (p0.length:Int)),(18,.f rE35 p0),(1,.f qI p1)],[],0⟩) eo11 [] R ?_
   intro st11 res11 hm ih11 ho11
   unfold y2z at hm
   refine .seq (.reg (.bi R (.nil (.seqN (.seq ?_)))))
   rcases ifS hm with ⟨hc,hm⟩ | ⟨hc,hm⟩
   ·refine .cT R hc ?_
    refine .skip (.seqN (.seq (.block (.seq (.reg (.mv R (bS hm fun x16 ex16 hm=> .op (O.ix sl66 Z R R ex16 R) R (.op (O.lg (l':=[lF qI x16.1,lI x16.2.1,lF qI x16.2.2.1,lF qT x16.2.2.2]) ag35 Z R (.E lv35) R R R) R (.op (O.al 0 R zz35 R Z R) R (.sa R (.op (O.st ag35.sz Z R R R R R) R (.nil (.seqN ?_)))))))))))))
    refine .join1 (fun (b17:Bool)=>y2y st11 b17=some res11) (fun b17=>⟨[(38,.b b17),(20,.i st11),(19,.i (p0.length:Int)),(18,.f rE35 p0),(1,.f qI p1)],[],0⟩) ?_ ?_
    ·intro b17 hm
     unfold y2y at hm
     rcases ifS hm with ⟨hc,hm⟩ | ⟨hc,hm⟩
     ·refine .cT R hc ?_
      exact .seq (.reg (.sa R (.nil (.seqN (.ret (.blkR (.seqR (.seqR ((K15 _ (ho11 _ (oi hm).symm)).sub [] R)))))))))
     ·refine .cF R hc ?_
      exact .skip (.blkN (.seqN (.reg (.bi R (.mv R (.nil ((ih11 _ (oi hm).symm).sub [] R)))))))
    ·intro Jj18
     refine .sub (τ:=⟨[(6,.i st11),(7,.q 0 0),(20,.i st11),(19,.i (p0.length:Int)),(18,.f rE35 p0),(1,.f qI p1)],[(0,.bx 35 [lF qI x16.1,lI x16.2.1,lF qI x16.2.2.1,lF qT x16.2.2.2])],1⟩) ?_ [] R
     refine bS hm fun x19 ex19 hm=> .drP 5 [(1,[]),(1,[]),(1,[oT,oT]),(1,tT 3),(1,tT 4)] [_,_,_,_,_] ⟨O.mv Z R R,O.mv Z R R,O.ix sl32 Z R R ex19 R,O.ld nag3 Z R (.E lv3) R R,O.bi Z R R R R,trivial⟩ fun hp20=>?_
     rcases ifS hm with ⟨hc21,hm⟩ | ⟨hc21,hm⟩
     ·skip
      exact .drF hp20 [(1,tT 5),(1,tT 6),(1,tT 6),(1,tT 8),(1,tT 9),(1,tT 6),(1,tA 6 (fA 4 (tT 1))),(1,tT 12),(1,tT 13)] [_,_,_,_,_,_,_,_,_] ⟨[(38,.b true),(20,.i st11),(19,.i (p0.length:Int)),(18,.f rE35 p0),(1,.f qI p1)],[],1⟩ ⟨O.kn (O.mv Z R R) hc21,O.skip R R R R,O.skip R R R R,O.skip R R R R,O.skip R R R R,O.skip R R R R,O.skip R R R R,O.skip R R R R,O.pkT Z R R R R,trivial⟩ (by kernel_rfl) R ((Jj18 _ hm).sub [] R)
     ·skip
      exact bS hm fun x22 ex22 hm=> .drF hp20 [(1,tT 5),(1,tT 6),(1,tT 6),(1,tT 8),(1,tT 9),(1,tT 6),(1,tA 6 (fA 4 (tT 1))),(1,tT 12),(1,tT 13)] [_,_,_,_,_,_,_,_,_] ⟨[(38,.b (decide (x22≥x16.2.1))),(20,.i st11),(19,.i (p0.length:Int)),(18,.f rE35 p0),(1,.f qI p1)],[],1⟩ ⟨O.kn (O.mv Z R R) hc21,O.mv (Gu.mk R R) R R,O.mv (Gu.mk R R) R R,O.ix sl32 (Gu.mk R R) R R ex22 R,O.ld nag3 (Gu.mk R R) R (.E lv3) R R,O.faP y1g (Gu.mk R R) R R,O.ld nag3 (Gu.mk R R) R (.B R) R R,O.bi (Gu.mk R R) R R R R,O.pkF Z R R R R,trivial⟩ (by kernel_rfl) R ((Jj18 _ hm).sub [] R)
   ·refine .cF R hc ?_
    exact .exit (.seqX (.seqX ((K13 _ (ho11 _ (oi hm).symm)).sub [] R)))
def y5i (p0:List AutT) (p1:List Int) (p2:Int):Option Int:=
 (y4w p0 p1).bind fun r1=>
 if(r1 != 0) then
  some r1
 else
  (y3k p0).bind fun r2=>
  (yk r2 p2).bind fun r3=>
  if(!r3) then
   some 9
  else
   some 0
theorem y8q {p0:List AutT} {p1:List Int} {p2:Int} {r:Int} (hm:y5i p0 p1 p2=some r):
  Fw Tryz.prog 177 ⟨0,[]⟩ [.f rE35 p0,.f qI p1,.i p2] [] (.i r) []:=by
 unfold y5i at hm
 refine Fw.mk' Tryz.func177 R Tryz.ntmps177 R R (fun C=>?_) R R
 refine .seq (.reg (.sa R (.nil (.seqN (.seq (.seq (.reg (.mv R (.mv R (bS hm fun r1 er1 hm=> .op (O.ca0 (y8p er1) cf216 R R Z R R R) R (.sa R (.nil (.seqN (.seq (.reg (.mv R (.bi R (.nil (.seqN ?_)))))))))))))))))))
 rcases ifS hm with ⟨hc,hm⟩ | ⟨hc,hm⟩
 ·refine .cT R hc ?_
  refine .seq (.reg (.mv R (.sa R (.nil (.seqN (.ret (.seqR ?_)))))))
  obtain rfl:=oi hm
  exact WX.rt [] (.inl R) Tryz.results177 (.tmp R .nil) R (fun _ _ _ h=>h) trivial
 ·refine .cF R hc ?_
  refine .skip (.seqN (.seq (.seq (.reg (.mv R (bS hm fun r2 er2 hm=> .op (O.ca (r':= .h 0) [0] [(0,ROW qI 3 r2)] (some 1) (y7h er2) cf159 R R Z R R R R ⟨⟨_,R,fun _ _ _ _ h=>h⟩,trivial⟩ (fun _ _ _ h=>h) R) R (.mv R (bS hm fun r3 er3 hm=> .op (O.caZ (yH er3) cf94 R R Z R ⟨⟨R,.hr R,trivial⟩,⟨R,LnL.rf⟩,trivial⟩ (fun _ _ _ _ _ h=>h) R) R (.op (O.not Z R R) R (.nil (.seqN ?_)))))))))))
  rcases ifS hm with ⟨hc,hm⟩ | ⟨hc,hm⟩
  ·refine .cT R hc ?_
   refine .seq (.reg (.sa R (.nil (.seqN (.ret (.seqR ?_))))))
   obtain rfl:=oi hm
   exact WX.rt [] (.inl R) Tryz.results177 (.tmp R .nil) R (fun _ _ _ h=>h) trivial
  ·refine .cF R hc ?_
   refine .skip (.seqN (.seq (.reg (.sa R (.nil (.seqN (.ret ?_)))))))
   obtain rfl:=oi hm
   exact WX.rt [] (.inl R) Tryz.results177 (.tmp R .nil) R (fun _ _ _ h=>h) trivial
def y2J (p0:List AutT) (p1:List Int) (p2:Int):Option (List Int×Bool×Int):=
 (y5i p0 p1 p2).bind fun r1=>
 if(r1 != 0) then
  some (([]:List Int),false,r1)
 else
  (y3q p0).bind fun r2=>
  (yD r2 p1 p2).bind fun r3=>
  some (r3.1,r3.2,0)
theorem y5G {p0:List AutT} {p1:List Int} {p2:Int} {r:List Int×Bool×Int} (hm:y2J p0 p1 p2=some r):
  Fw Tryz.prog 114 ⟨0,[]⟩ [.f rE35 p0,.f qI p1,.i p2] [] (.tp [.h 0,.b r.2.1,.i r.2.2]) [ROW qI 3 r.1]:=by
 unfold y2J at hm
 refine Fw.mk' Tryz.func114 R Tryz.ntmps114 R R (fun C=>?_) R R
 refine .seq (.reg (.sa R (.sa R (.sa R (.nil (.seqN (.seq (.seq (.reg (.mv R (.mv R (.mv R (bS hm fun r1 er1 hm=> .op (O.ca0 (y8q er1) cf177 R R Z R R R) R (.sa R (.nil (.seqN (.seq (.reg (.mv R (.bi R (.nil (.seqN ?_))))))))))))))))))))))
 rcases ifS hm with ⟨hc,hm⟩ | ⟨hc,hm⟩
 ·refine .cT R hc ?_
  refine .seq (.reg (.mv R (.sa R (.sa R (.sa R (.nil (.seqN (.ret (.seqR (.nlg qI 3 6 0 R R ?_))))))))))
  obtain rfl:=oi hm
  exact WX.rt [0] (.inl R) Tryz.results114 (.tmp R (.tmp R (.tmp R .nil))) R (fun _ _ _ h=>h) ⟨⟨_,R,fun _ _ _ _ h=>h⟩,trivial⟩
 ·refine .cF R hc ?_
  refine .skip (.seqN (.seq (.reg (.mv R (bS hm fun r2 er2 hm=> .op (O.ca (r':= .g [lF rE35 r2.1,lH 0,lH 1]) [0,1] [(0,ROW qI 3 r2.2.1),(1,ROW (rM kvP qI) 139 r2.2.2)] (some 2) (y7O er2) cf96 R R Z R R R R ⟨⟨_,R,fun _ _ _ _ h=>h⟩,⟨_,R,fun _ _ _ _ h=>h⟩,trivial⟩ (fun _ _ _ h=>h) R) R (.mv R (.mv R (bS hm fun r3 er3 hm=> .op (O.caY (r':= .tp [.h 2,.b r3.2]) [2] [(0,ROW qI 3 r3.1)] (some 3) (y5X er3) cf100 R R Z R R ⟨⟨R,.rf,.hr R,.hr R,trivial⟩,⟨R,LnL.rf⟩,⟨R,LnL.rf⟩,trivial⟩ R ⟨.row flr3,trivial⟩ (fun _ _ _ _ h=>h) ⟨⟨_,R,fun _ _ _ _ h=>h⟩,trivial⟩ (fun _ _ _ h=>h) R) R (.mv R (.op (O.ex Z R R R) R (.op (O.ex Z R R R) R (.sa R (.sa R (.nil (.seqN (.seq (.reg (.mv R (.mv R (.sa R (.sa R (.sa R (.nil (.seqN (.ret ?_)))))))))))))))))))))))))
  obtain rfl:=oi hm
  exact WX.rt [2] (.inl R) Tryz.results114 (.tmp R (.tmp R (.tmp R .nil))) R (fun _ _ _ h=>h) ⟨⟨_,R,fun _ _ _ _ h=>h⟩,trivial⟩
def yy (p0:AutT×AutT×List Int) (p3:Int) (r11:List Int×Bool×Int) (b13:Bool):Option Bool:=
 if b13 then
  some false
 else
  (y2J ([p0.1,p0.2.1]:List AutT) r11.1 p3).bind fun r15=>
  some ((r15.2.2 == 0) && (!r15.2.1))
def y1C (p0:AutT×AutT×List Int) (p1:List Int) (p2:Int) (p3:Int):Option Bool:=
 (yt p0.1.1 p2).bind fun r1=>
 (if (!r1) then
  some true
 else
  (yt p0.1.1 p3).bind fun r30=>
  some (!r30)).bind fun b2=>
 (if b2 then
  some true
 else
  (yt p0.2.2 p2).bind fun r29=>
  some (!r29)).bind fun b5=>
 (if b5 then
  some true
 else
  (yt p0.2.2 p3).bind fun r28=>
  some r28).bind fun b8=>
 if b8 then
  some false
 else
  (y2J ([p0.1,p0.2.1]:List AutT) p1 p2).bind fun r11=>
  (y2J ([p0.1,p0.2.1]:List AutT) p1 p3).bind fun r12=>
  if(r11.2.2 != 0) then
   yy p0 p3 r11 true
  else
   if(r12.2.2 != 0) then
    yy p0 p3 r11 true
   else
    if(!r11.2.1) then
     yy p0 p3 r11 true
    else
     if(!r12.2.1) then
      yy p0 p3 r11 true
     else
      (idx r11.1 0).bind fun x26=>
      (y1m p0.1 x26 p3).bind fun r27=>
      yy p0 p3 r11 (decide (r27 < 0))
theorem y8r {p0:AutT×AutT×List Int} {p1:List Int} {p2:Int} {p3:Int} {r:Bool} (hm:y1C p0 p1 p2 p3=some r):
  Fw Tryz.prog 42 ⟨0,[]⟩ [.a [lF qI p0.1.1,lI p0.1.2.1,lF qI p0.1.2.2.1,lF qT p0.1.2.2.2,lF qI p0.2.1.1,lI p0.2.1.2.1,lF qI p0.2.1.2.2.1,lF qT p0.2.1.2.2.2,lF qI p0.2.2],.f qI p1,.i p2,.i p3] [] (.b r) []:=by
 unfold y1C at hm
 refine Fw.mk' Tryz.func42 R Tryz.ntmps42 R R (fun C=>?_) R R
 refine .seq (.reg (.op (O.box 0 R Z R R R) R (.sa R (.nil (.seqN (.seq (.reg (.op (O.faP y5l Z R R) R (.op (O.lg (l':=[lF qI p0.1.1,lI p0.1.2.1,lF qI p0.1.2.2.1,lF qT p0.1.2.2.2]) ag35 Z R (.B R) R R R) R (.op (O.faP y5U Z R R) R (.op (O.lg (l':=[lF qI p0.2.1.1,lI p0.2.1.2.1,lF qI p0.2.1.2.2.1,lF qT p0.2.1.2.2.2]) ag35 Z R (.B R) R R R) R (.op (O.bsF (r:=rE35) (zs:=([p0.1,p0.2.1]:List AutT)) bs66 R R Z R R R (.c (.p .l (.p .k (.p .l .l))) (.c (.p .l (.p .k (.p .l .l))) .n)) R R R) R (.sa R (.nil (.seqN (.seq (.seq (.reg (.op (O.faP y5l Z R R) R (.op (O.faP y1R Z R R) R (.op (O.ld nag32 Z R (.B R) R R) R (.mv R (bS hm fun r1 er1 hm=> .op (O.ca0 (yQ er1) cf44 R R Z R R R) R (.op (O.not Z R R) R (.mv R (bS hm fun b2 eb2 hm=>?_))))))))))))))))))))))))))
 refine .cut 7 (fun (v3:Bool)=>b2=v3) (fun v3=>⟨[(37,.b v3),(9,.f rE35 ([p0.1,p0.2.1]:List AutT)),(4,.q 0 0),(1,.f qI p1),(2,.i p2),(3,.i p3)],[(0,.bx 37 [lF qI p0.1.1,lI p0.1.2.1,lF qI p0.1.2.2.1,lF qT p0.1.2.2.2,lF qI p0.2.1.1,lI p0.2.1.2.1,lF qI p0.2.1.2.2.1,lF qT p0.2.1.2.2.2,lF qI p0.2.2])],1⟩) ?_ ?_
 ·rintro _ rfl
  refine .mv R (bS hm fun b5 eb5 hm=>?_)
  refine .cut 6 (fun (v6:Bool)=>b5=v6) (fun v6=>⟨[(44,.b v6),(9,.f rE35 ([p0.1,p0.2.1]:List AutT)),(4,.q 0 0),(1,.f qI p1),(2,.i p2),(3,.i p3)],[(0,.bx 37 [lF qI p0.1.1,lI p0.1.2.1,lF qI p0.1.2.2.1,lF qT p0.1.2.2.2,lF qI p0.2.1.1,lI p0.2.1.2.1,lF qI p0.2.1.2.2.1,lF qT p0.2.1.2.2.2,lF qI p0.2.2])],1⟩) ?_ ?_
  ·rintro _ rfl
   refine .mv R (bS hm fun b8 eb8 hm=>?_)
   refine .cut 5 (fun (v9:Bool)=>b8=v9) (fun v9=>⟨[(50,.b v9),(9,.f rE35 ([p0.1,p0.2.1]:List AutT)),(4,.q 0 0),(1,.f qI p1),(2,.i p2),(3,.i p3)],[(0,.bx 37 [lF qI p0.1.1,lI p0.1.2.1,lF qI p0.1.2.2.1,lF qT p0.1.2.2.2,lF qI p0.2.1.1,lI p0.2.1.2.1,lF qI p0.2.1.2.2.1,lF qT p0.2.1.2.2.2,lF qI p0.2.2])],1⟩) ?_ ?_
   ·rintro _ rfl
    refine .nil (.seqN ?_)
    rcases ifS hm with ⟨hc,hm⟩ | ⟨hc,hm⟩
    ·refine .cT R hc ?_
     refine .seq (.reg (.sa R (.nil (.seqN (.ret (.seqR ?_))))))
     obtain rfl:=oi hm
     exact WX.rt [] (.inl R) Tryz.results42 (.tmp R .nil) R (fun _ _ _ h=>h) trivial
    ·refine .cF R hc ?_
     refine .skip (.seqN (.seq (.reg (.mv R (.mv R (.mv R (bS hm fun r11 er11 hm=> .op (O.ca (r':= .tp [.h 1,.b r11.2.1,.i r11.2.2]) [1] [(0,ROW qI 3 r11.1)] (some 2) (y5G er11) cf114 R R Z R R R R ⟨⟨_,R,fun _ _ _ _ h=>h⟩,trivial⟩ (fun _ _ _ h=>h) R) R (.mv R (.op (O.ex Z R R R) R (.op (O.ex Z R R R) R (.op (O.ex Z R R R) R (.sa R (.sa R (.sa R (.nil (.seqN (.seq (.reg (.mv R (.mv R (.mv R (bS hm fun r12 er12 hm=> .op (O.ca (r':= .tp [.h 2,.b r12.2.1,.i r12.2.2]) [2] [(0,ROW qI 3 r12.1)] (some 3) (y5G er12) cf114 R R Z R R R R ⟨⟨_,R,fun _ _ _ _ h=>h⟩,trivial⟩ (fun _ _ _ h=>h) R) R (.mv R (.op (O.ex Z R R R) R (.op (O.ex Z R R R) R (.op (O.ex Z R R R) R (.sa R (.sa R (.sa R (.nil (.seqN (.seq ?_))))))))))))))))))))))))))))))))
     refine .join1 (fun (b13:Bool)=>yy p0 p3 r11 b13=some r) (fun b13=>⟨[(90,.b b13),(10,.h 0),(9,.f rE35 ([p0.1,p0.2.1]:List AutT)),(3,.i p3)],[(0,ROW qI 3 r11.1)],1⟩) ?_ ?_
     ·intro b13 hm
      unfold yy at hm
      rcases ifS hm with ⟨hc,hm⟩ | ⟨hc,hm⟩
      ·refine .cT R hc ?_
       refine .seq (.reg (.sa R (.nil (.seqN (.ret (.seqR ?_))))))
       obtain rfl:=oi hm
       exact WX.rt [] (.inl R) Tryz.results42 (.tmp R .nil) R (fun _ _ _ h=>h) trivial
      ·refine .cF R hc ?_
       refine .skip (.seqN (.seq (.reg (.mv R (.mv R (.mv R (bS hm fun r15 er15 hm=> .op (O.caY (r':= .tp [.h 1,.b r15.2.1,.i r15.2.2]) [1] [(0,ROW qI 3 r15.1)] (some 2) (y5G er15) cf114 R R Z R R ⟨⟨R,LnL.rf⟩,⟨R,.hr R,trivial⟩,⟨R,LnL.rf⟩,trivial⟩ R ⟨.row flr3,trivial⟩ (fun _ _ _ _ h=>h) ⟨⟨_,R,fun _ _ _ _ h=>h⟩,trivial⟩ (fun _ _ _ h=>h) R) R (.mv R (.op (O.ex Z R R R) R (.op (O.ex Z R R R) R (.op (O.ex Z R R R) R (.sa R (.sa R (.sa R (.nil (.seqN (.seq (.reg (.mv R (.bi R (.mv R ?_)))))))))))))))))))))
       refine .cut 3 (fun (v16:Bool)=>((r15.2.2 == 0) && (!r15.2.1))=v16) (fun v16=>⟨[(104,.b v16)],[],2⟩) ?_ ?_
       ·rintro _ rfl
        refine .sa R (.nil (.seqN (.ret ?_)))
        obtain rfl:=oi hm
        exact WX.rt [] (.inl R) Tryz.results42 (.tmp R .nil) R (fun _ _ _ h=>h) trivial
       ·intro J17
        rcases Bool.eq_false_or_eq_true (r15.2.2 == 0) with hc | hc
        ·refine .know (d:=101) R hc ?_
         exact .op (O.mv (Gu.mk R R) R R) R (.op (O.not (Gu.mk R R) R R) R (.op (O.pkT Z R R R R) R ((J17 (!r15.2.1) (andT hc).symm).sub [] R)))
        ·refine .know (d:=101) R hc ?_
         exact .sk R (.sk R (.op (O.pkF Z R R R R) R ((J17 false (andF hc).symm).sub [] R)))
     ·intro Jj14
      refine .sub (τ:=⟨[(15,.i r12.2.2),(14,.b r12.2.1),(12,.i r11.2.2),(11,.b r11.2.1),(10,.h 1),(9,.f rE35 ([p0.1,p0.2.1]:List AutT)),(4,.q 0 0),(3,.i p3)],[(1,ROW qI 3 r11.1),(0,.bx 37 [lF qI p0.1.1,lI p0.1.2.1,lF qI p0.1.2.2.1,lF qT p0.1.2.2.2,lF qI p0.2.1.1,lI p0.2.1.2.1,lF qI p0.2.1.2.2.1,lF qT p0.2.1.2.2.2,lF qI p0.2.2])],3⟩) ?_ [] R
      refine .drP 2 [(3,[]),(3,[oT])] [_,_] ⟨O.mv Z R R,O.bi Z R R R R,trivial⟩ fun hp18=>?_
      rcases ifS hm with ⟨hc19,hm⟩ | ⟨hc19,hm⟩
      ·skip
       exact .drF hp18 [(3,[oT,oT]),(3,tT 3),(3,tT 4),(3,tT 5),(3,tT 6),(3,tT 7),(3,tT 8),(3,tT 9),(3,tT 10),(3,tT 11),(3,tT 12),(3,tT 13),(3,tT 14),(3,tT 15),(3,tT 16),(3,tT 15),(3,tA 15 (fA 2 (tT 1))),(3,tA 15 (fA 2 (tT 2))),(3,tT 15),(3,tT 21),(3,tT 22),(3,tT 23)] [_,_,_,_,_,_,_,_,_,_,_,_,_,_,_,_,_,_,_,_,_,_] ⟨[(90,.b true),(10,.h 1),(9,.f rE35 ([p0.1,p0.2.1]:List AutT)),(3,.i p3)],[(1,ROW qI 3 r11.1)],3⟩ ⟨O.kn (O.mv Z R R) hc19,O.skip R R R R,O.skip R R R R,O.pkT Z R R R R,O.mv Z R R,O.skip R R R R,O.skip R R R R,O.pkT Z R R R R,O.mv Z R R,O.skip R R R R,O.skip R R R R,O.pkT Z R R R R,O.mv Z R R,O.skip R R R R,O.skip R R R R,O.skip R R R R,O.skip R R R R,O.skip R R R R,O.skip R R R R,O.skip R R R R,O.skip R R R R,O.pkT Z R R R R,trivial⟩ (by kernel_rfl) R ((Jj14 _ hm).sub [(0,1)] R)
      ·skip
       refine .drX hp18 6 [(3,[oT,oT]),(3,tT 3),(3,tT 4),(3,tT 5)] [_,_,_,_] ⟨O.kn (O.mv Z R R) hc19,O.mv (Gu.mk R R) R R,O.bi (Gu.mk R R) R R R R,O.pkF Z R R R R,trivial⟩ (by kernel_rfl) fun hp20=>?_
       rcases ifS hm with ⟨hc21,hm⟩ | ⟨hc21,hm⟩
       ·skip
        exact .drF hp20 [(3,tT 6),(3,tT 7),(3,tT 8),(3,tT 9),(3,tT 10),(3,tT 11),(3,tT 12),(3,tT 13),(3,tT 14),(3,tT 15),(3,tT 16),(3,tT 15),(3,tA 15 (fA 2 (tT 1))),(3,tA 15 (fA 2 (tT 2))),(3,tT 15),(3,tT 21),(3,tT 22),(3,tT 23)] [_,_,_,_,_,_,_,_,_,_,_,_,_,_,_,_,_,_] ⟨[(90,.b true),(10,.h 1),(9,.f rE35 ([p0.1,p0.2.1]:List AutT)),(3,.i p3)],[(1,ROW qI 3 r11.1)],3⟩ ⟨O.kn (O.mv Z R R) hc21,O.skip R R R R,O.skip R R R R,O.pkT Z R R R R,O.mv Z R R,O.skip R R R R,O.skip R R R R,O.pkT Z R R R R,O.mv Z R R,O.skip R R R R,O.skip R R R R,O.skip R R R R,O.skip R R R R,O.skip R R R R,O.skip R R R R,O.skip R R R R,O.skip R R R R,O.pkT Z R R R R,trivial⟩ (by kernel_rfl) R ((Jj14 _ hm).sub [(0,1)] R)
       ·skip
        refine .drX hp20 10 [(3,tT 6),(3,tT 7),(3,tT 8),(3,tT 9)] [_,_,_,_] ⟨O.kn (O.mv Z R R) hc21,O.mv (Gu.mk R R) R R,O.not (Gu.mk R R) R R,O.pkF Z R R R R,trivial⟩ (by kernel_rfl) fun hp22=>?_
        rcases ifS hm with ⟨hc23,hm⟩ | ⟨hc23,hm⟩
        ·skip
         exact .drF hp22 [(3,tT 10),(3,tT 11),(3,tT 12),(3,tT 13),(3,tT 14),(3,tT 15),(3,tT 16),(3,tT 15),(3,tA 15 (fA 2 (tT 1))),(3,tA 15 (fA 2 (tT 2))),(3,tT 15),(3,tT 21),(3,tT 22),(3,tT 23)] [_,_,_,_,_,_,_,_,_,_,_,_,_,_] ⟨[(90,.b true),(10,.h 1),(9,.f rE35 ([p0.1,p0.2.1]:List AutT)),(3,.i p3)],[(1,ROW qI 3 r11.1)],3⟩ ⟨O.kn (O.mv Z R R) hc23,O.skip R R R R,O.skip R R R R,O.pkT Z R R R R,O.mv Z R R,O.skip R R R R,O.skip R R R R,O.skip R R R R,O.skip R R R R,O.skip R R R R,O.skip R R R R,O.skip R R R R,O.skip R R R R,O.pkT Z R R R R,trivial⟩ (by kernel_rfl) R ((Jj14 _ hm).sub [(0,1)] R)
        ·skip
         refine .drX hp22 14 [(3,tT 10),(3,tT 11),(3,tT 12),(3,tT 13)] [_,_,_,_] ⟨O.kn (O.mv Z R R) hc23,O.mv (Gu.mk R R) R R,O.not (Gu.mk R R) R R,O.pkF Z R R R R,trivial⟩ (by kernel_rfl) fun hp24=>?_
         rcases ifS hm with ⟨hc25,hm⟩ | ⟨hc25,hm⟩
         ·skip
          exact .drF hp24 [(3,tT 14),(3,tT 15),(3,tT 16),(3,tT 15),(3,tA 15 (fA 2 (tT 1))),(3,tA 15 (fA 2 (tT 2))),(3,tT 15),(3,tT 21),(3,tT 22),(3,tT 23)] [_,_,_,_,_,_,_,_,_,_] ⟨[(90,.b true),(10,.h 1),(9,.f rE35 ([p0.1,p0.2.1]:List AutT)),(3,.i p3)],[(1,ROW qI 3 r11.1)],3⟩ ⟨O.kn (O.mv Z R R) hc25,O.skip R R R R,O.skip R R R R,O.skip R R R R,O.skip R R R R,O.skip R R R R,O.skip R R R R,O.skip R R R R,O.skip R R R R,O.pkT Z R R R R,trivial⟩ (by kernel_rfl) R ((Jj14 _ hm).sub [(0,1)] R)
         ·skip
          exact bS hm fun x26 ex26 hm=>bS hm fun r27 er27 hm=> .drF hp24 [(3,tT 14),(3,tT 15),(3,tT 16),(3,tT 15),(3,tA 15 (fA 2 (tT 1))),(3,tA 15 (fA 2 (tT 2))),(3,tT 15),(3,tT 21),(3,tT 22),(3,tT 23)] [_,_,_,_,_,_,_,_,_,_] ⟨[(90,.b (decide (r27 < 0))),(10,.h 1),(9,.f rE35 ([p0.1,p0.2.1]:List AutT)),(3,.i p3)],[(1,ROW qI 3 r11.1)],3⟩ ⟨O.kn (O.mv Z R R) hc25,O.faP y5l (Gu.mk R R) R R,O.lg (l':=[lF qI p0.1.1,lI p0.1.2.1,lF qI p0.1.2.2.1,lF qT p0.1.2.2.2]) ag35 (Gu.mk R R) R (.B R) R R R,O.mv (Gu.mk R R) R R,O.ir sl32 (Gu.mk R R) R R R ex26 R,O.ld nag3 (Gu.mk R R) R (.R R ex26 lv3) R R,O.mv (Gu.mk R R) R R,O.ca0 (y3O er27) cf73 R R (Gu.mk R R) R R R,O.bi (Gu.mk R R) R R R R,O.pkF Z R R R R,trivial⟩ (by kernel_rfl) R ((Jj14 _ hm).sub [(0,1)] R)
   ·intro J10
    rcases ifS eb8 with ⟨hc,hm⟩ | ⟨hc,hm⟩
    ·refine .know (d:=45) R hc ?_
     exact .sk R (.sk R (.sk R (.sk R (.op (O.pkT Z R R R R) R ((J10 true (oi hm).symm).sub [] R)))))
    ·refine .know (d:=45) R hc ?_
     exact .op (O.faP y7M (Gu.mk R R) R R) R (.op (O.ld nag32 (Gu.mk R R) R (.B R) R R) R (.op (O.mv (Gu.mk R R) R R) R (bS hm fun r28 er28 hm=> .op (O.ca0 (yQ er28) cf44 R R (Gu.mk R R) R R R) R (.op (O.pkF Z R R R R) R ((J10 r28 (oi hm).symm).sub [] R)))))
  ·intro J7
   rcases ifS eb5 with ⟨hc,hm⟩ | ⟨hc,hm⟩
   ·refine .know (d:=38) R hc ?_
    exact .sk R (.sk R (.sk R (.sk R (.sk R (.op (O.pkT Z R R R R) R ((J7 true (oi hm).symm).sub [] R))))))
   ·refine .know (d:=38) R hc ?_
    exact .op (O.faP y7M (Gu.mk R R) R R) R (.op (O.ld nag32 (Gu.mk R R) R (.B R) R R) R (.op (O.mv (Gu.mk R R) R R) R (bS hm fun r29 er29 hm=> .op (O.ca0 (yQ er29) cf44 R R (Gu.mk R R) R R R) R (.op (O.not (Gu.mk R R) R R) R (.op (O.pkF Z R R R R) R ((J7 (!r29) (oi hm).symm).sub [] R))))))
 ·intro J4
  rcases ifS eb2 with ⟨hc,hm⟩ | ⟨hc,hm⟩
  ·refine .know (d:=30) R hc ?_
   exact .sk R (.sk R (.sk R (.sk R (.sk R (.sk R (.op (O.pkT Z R R R R) R ((J4 true (oi hm).symm).sub [] R)))))))
  ·refine .know (d:=30) R hc ?_
   exact .op (O.faP y5l (Gu.mk R R) R R) R (.op (O.faP y1R (Gu.mk R R) R R) R (.op (O.ld nag32 (Gu.mk R R) R (.B R) R R) R (.op (O.mv (Gu.mk R R) R R) R (bS hm fun r30 er30 hm=> .op (O.ca0 (yQ er30) cf44 R R (Gu.mk R R) R R R) R (.op (O.not (Gu.mk R R) R R) R (.op (O.pkF Z R R R R) R ((J4 (!r30) (oi hm).symm).sub [] R)))))))
def yi (p0:List (Int×Int×Int)) (p1:Int) (p2:(Int×Int×Int)→Int→Option Int) (st7:Int×Int):Option ((Int×Int) ⊕ Int):=
 if decide (st7.2 < st7.1) then
  (idx p0 (W ((IntKind.u64.wrap (W (st7.2 + st7.1))).fdiv (2 ^ (min (1:Int).toNat 64))))).bind fun x15=>
  (p2 x15 p1).bind fun r16=>
  if decide (r16 < 0) then
   some (.inl (st7.1,W ((W ((IntKind.u64.wrap (W (st7.2 + st7.1))).fdiv (2 ^ (min (1:Int).toNat 64)))) + 1)))
  else
   some (.inl (W ((IntKind.u64.wrap (W (st7.2 + st7.1))).fdiv (2 ^ (min (1:Int).toNat 64))),st7.2))
 else
  some (.inr st7.2)
def yf (p0:List (Int×Int×Int)) (p1:Int) (p2:(Int×Int×Int)→Int→Option Int):Option (Int×Bool):=
 (iter (yi p0 p1 p2) ((p0.length:Int),0)).bind fun o7=>
 (if decide (o7 < (p0.length:Int)) then
  (idx p0 o7).bind fun x13=>
  (p2 x13 p1).bind fun r14=>
  some (r14 == 0)
 else
  some false).bind fun b10=>
 some (o7,b10)
theorem y3e {p0:List (Int×Int×Int)} {p1:Int} {p2:(Int×Int×Int)→Int→Option Int} {r:Int×Bool} (hm:yf p0 p1 p2=some r):
  Fw Tryz.prog 166 ⟨0,[]⟩ [.f qT p0,.i p1,.o (lW Tryz.prog (fun (x:(Int×Int×Int)×Int)=> [.a [lI x.1.1,lI x.1.2.1,lI x.1.2.2],.i x.2]) (fun (r:Int)=> .i r) (fun x=>p2 x.1 x.2))] [] (.tp [.i r.1,.b r.2]) []:=by
 unfold yf at hm
 refine Fw.mk' Tryz.func166 R Tryz.ntmps166 R R (fun C=>?_) R R
 refine .seq (.reg (.sa R (.sa R (.nil (.seqN (.seq (.reg (.mv R (.op (O.len sl33 Z R R) R (.sa R (.nil (.seqN (.seq (.reg (.mv R (.sa R (.sa R (.nil (.seqN (.seq (.block (bS hm fun o7 eo7 hm=>?_))))))))))))))))))))))
 refine .cut1 (z:= .exit 0) o7 (fun (o7:Int)=>⟨[(9,.i o7),(8,.i (p0.length:Int)),(0,.f qT p0),(1,.i p1),(2,.o (lW Tryz.prog (fun (x:(Int×Int×Int)×Int)=> [.a [lI x.1.1,lI x.1.2.1,lI x.1.2.2],.i x.2]) (fun (r:Int)=> .i r) (fun x=>p2 x.1 x.2)))],[],0⟩) ?_ fun K9=>?_
 ·skip
  refine .blkE (.seqN (.seq (.reg (.mv R (.mv R (.mv R (.bi R (.mv R (bS hm fun b10 eb10 hm=>?_)))))))))
  refine .cut 9 (fun (v11:Bool)=>b10=v11) (fun v11=>⟨[(48,.b v11),(35,.i o7)],[],0⟩) ?_ ?_
  ·rintro _ rfl
   refine .sa R (.sa R (.nil (.seqN (.ret ?_))))
   obtain rfl:=oi hm
   exact WX.rt [] (.inl R) Tryz.results166 (.tmp R (.tmp R .nil)) R (fun _ _ _ h=>h) trivial
  ·intro J12
   rcases ifS eb10 with ⟨hc,hm⟩ | ⟨hc,hm⟩
   ·refine .know (d:=39) R hc ?_
    refine .op (O.mv (Gu.mk R R) R R) R (.op (O.mv (Gu.mk R R) R R) R (.op (O.mv (Gu.mk R R) R R) R (bS hm fun x13 ex13 hm=> .op (O.ix sl33 (Gu.mk R R) R R ex13 R) R (.op (O.lg (l':=[lI x13.1,lI x13.2.1,lI x13.2.2]) ag124 (Gu.mk R R) R (.E lv124) R R R) R (.op (O.mv (Gu.mk R R) R R) R (bS hm fun r14 er14 hm=>?_))))))
    refine .op (O.fv (y:=(x13,p1)) R R R (Gu.mk R R) R er14 R R) R ?_
    exact .op (O.bi (Gu.mk R R) R R R R) R (.op (O.pkT Z R R R R) R ((J12 (r14 == 0) (oi hm).symm).sub [] R))
   ·refine .know (d:=39) R hc ?_
    exact .sk R (.sk R (.sk R (.sk R (.sk R (.sk R (.sk R (.sk R (.op (O.pkF Z R R R R) R ((J12 false (oi hm).symm).sub [] R)))))))))
 refine .iter (fun (st7:Int×Int)=>⟨[(10,.i st7.1),(9,.i st7.2),(8,.i (p0.length:Int)),(0,.f qT p0),(1,.i p1),(2,.o (lW Tryz.prog (fun (x:(Int×Int×Int)×Int)=> [.a [lI x.1.1,lI x.1.2.1,lI x.1.2.2],.i x.2]) (fun (r:Int)=> .i r) (fun x=>p2 x.1 x.2)))],[],0⟩) eo7 [] R ?_
 intro st7 res7 hm ih7 ho7
 unfold yi at hm
 refine .seq (.seq (.reg (.mv R (.mv R (.bi R (.nil (.seqN ?_)))))))
 rcases ifS hm with ⟨hc,hm⟩ | ⟨hc,hm⟩
 ·refine .cT R hc ?_
  refine .skip (.seqN (.block (.seq (.reg (.mv R (.mv R (.bi R (.op (O.cv Tryz.underlying3 Tryz.underlying295 Z R R) R (.op (O.shr Z R R (by decide) R) R (.op (O.cv Tryz.underlying295 Tryz.underlying3 Z R R) R (.sa R (.nil (.seqN (.seq (.reg (.mv R (.mv R (.mv R (bS hm fun x15 ex15 hm=> .op (O.ix sl33 Z R R ex15 R) R (.op (O.lg (l':=[lI x15.1,lI x15.2.1,lI x15.2.2]) ag124 Z R (.E lv124) R R R) R (.mv R (bS hm fun r16 er16 hm=>?_))))))))))))))))))))))
  refine .op (O.fv (y:=(x15,p1)) R R R Z R er16 R R) R ?_
  refine .bi R (.nil (.seqN ?_))
  rcases ifS hm with ⟨hc,hm⟩ | ⟨hc,hm⟩
  ·refine .cT R hc ?_
   exact .reg (.mv R (.bi R (.sa R (.nil (.blkN ((ih7 _ (oi hm).symm).sub [] R))))))
  ·refine .cF R hc ?_
   exact .reg (.mv R (.sa R (.nil (.blkN ((ih7 _ (oi hm).symm).sub [] R)))))
 ·refine .cF R hc ?_
  exact .exit (.seqX (.seqX ((K9 _ (ho7 _ (oi hm).symm)).sub [] R)))
def y5e (p0:Int×Int×Int) (p1:Int):Option Int:=
 some (W (p0.1 - p1))
theorem y9s {p0:Int×Int×Int} {p1:Int} {r:Int} (hm:y5e p0 p1=some r):
  Fw Tryz.prog 167 ⟨0,[]⟩ [.a [lI p0.1,lI p0.2.1,lI p0.2.2],.i p1] [] (.i r) []:=by
 unfold y5e at hm
 refine Fw.mk' Tryz.func167 R Tryz.ntmps167 R R (fun C=>?_) R R
 refine .seq (.reg (.op (O.box 0 R Z R R R) R (.sa R (.nil (.seqN (.seq (.reg (.op (O.faP y1W Z R R) R (.op (O.ld nag3 Z R (.B R) R R) R (.mv R (.bi R (.sa R (.nil (.seqN (.ret ?_)))))))))))))))
 obtain rfl:=oi hm
 exact WX.rt [] (.inl R) Tryz.results167 (.tmp R .nil) R (fun _ _ _ h=>h) trivial
def y5f (p0:Int×Int×Int) (p1:Int):Option Int:=
 some (W (p0.1 - p1))
theorem y9t {p0:Int×Int×Int} {p1:Int} {r:Int} (hm:y5f p0 p1=some r):
  Fw Tryz.prog 168 ⟨0,[]⟩ [.a [lI p0.1,lI p0.2.1,lI p0.2.2],.i p1] [] (.i r) []:=by
 unfold y5f at hm
 refine Fw.mk' Tryz.func168 R Tryz.ntmps168 R R (fun C=>?_) R R
 refine .seq (.reg (.op (O.box 0 R Z R R R) R (.sa R (.nil (.seqN (.seq (.reg (.op (O.faP y1W Z R R) R (.op (O.ld nag3 Z R (.B R) R R) R (.mv R (.bi R (.sa R (.nil (.seqN (.ret ?_)))))))))))))))
 obtain rfl:=oi hm
 exact WX.rt [] (.inl R) Tryz.results168 (.tmp R .nil) R (fun _ _ _ h=>h) trivial
def y4x (p0:AutT) (p1:Int):Option EdgL:=
 (yf p0.2.2.2 p1 y5e).bind fun r1=>
 (yf p0.2.2.2 (W (p1 + 1)) y5f).bind fun r2=>
 (slc p0.2.2.2 r1.1 r2.1).bind fun x3=>
 some x3
theorem y7x {p0:AutT} {p1:Int} {r:EdgL} (hm:y4x p0 p1=some r):
  Fw Tryz.prog 102 ⟨0,[]⟩ [.a [lF qI p0.1,lI p0.2.1,lF qI p0.2.2.1,lF qT p0.2.2.2],.i p1] [] (.f qT r) []:=by
 unfold y4x at hm
 refine Fw.mk' Tryz.func102 R Tryz.ntmps102 R R (fun C=>?_) R R
 refine .seq (.reg (.op (O.box 0 R Z R R R) R (.sa R (.nil (.seqN (.seq (.reg (.op (O.faP yG Z R R) R (.op (O.ld nag33 Z R (.B R) R R) R (.mv R (bS hm fun r1 er1 hm=> .op (O.ca0c (y3e er1) cf166 R R Z R ⟨⟨R,.rf⟩,⟨R,.rf⟩,⟨R,(.c (.fn cf167 (fun x r h=>y9s h) (fun _=>R)) .n)⟩,trivial⟩ R R) R (.mv R (.op (O.ex Z R R R) R (.op (O.ex Z R R R) R (.sa R (.sa R (.nil (.seqN (.seq (.reg (.op (O.faP yG Z R R) R (.op (O.ld nag33 Z R (.B R) R R) R (.mv R (.bi R (bS hm fun r2 er2 hm=> .op (O.ca0c (y3e er2) cf166 R R Z R ⟨⟨R,.rf⟩,⟨R,.rf⟩,⟨R,(.c (.fn cf168 (fun x r h=>y9t h) (fun _=>R)) .n)⟩,trivial⟩ R R) R (.mv R (.op (O.ex Z R R R) R (.op (O.ex Z R R R) R (.sa R (.sa R (.nil (.seqN (.seq (.reg (.op (O.faP yG Z R R) R (.op (O.ld nag33 Z R (.B R) R R) R (.mv R ?_)))))))))))))))))))))))))))))))))))))
 refine .mv R (bS hm fun x3 ex3 hm=> .op (O.sl sl33 Z R R R ex3 R) R (.sa R (.nil (.seqN (.ret ?_)))))
 obtain rfl:=oi hm
 exact WX.rt [] (.inl R) Tryz.results102 (.tmp R .nil) R (fun _ _ _ h=>h) trivial
def y4R (p0:AutT) (p1:Int):Option Int:=
 (yF p0).bind fun r1=>
 if(r1 != 0) then
  some r1
 else
  if((decide (p1 < 0)) || (decide (p1≥p0.2.1))) then
   some 2
  else
   some 0
theorem y7U {p0:AutT} {p1:Int} {r:Int} (hm:y4R p0 p1=some r):
  Fw Tryz.prog 105 ⟨0,[]⟩ [.a [lF qI p0.1,lI p0.2.1,lF qI p0.2.2.1,lF qT p0.2.2.2],.i p1] [] (.i r) []:=by
 unfold y4R at hm
 refine Fw.mk' Tryz.func105 R Tryz.ntmps105 R R (fun C=>?_) R R
 refine .seq (.reg (.op (O.box 0 R Z R R R) R (.sa R (.nil (.seqN (.seq (.seq (.reg (.op (O.lg (l':=[lF qI p0.1,lI p0.2.1,lF qI p0.2.2.1,lF qT p0.2.2.2]) ag35 Z R (.B R) R R R) R (bS hm fun r1 er1 hm=> .op (O.ca0 (y2O er1) cf101 R R Z R R R) R (.sa R (.nil (.seqN (.seq (.reg (.mv R (.bi R (.nil (.seqN ?_)))))))))))))))))))
 rcases ifS hm with ⟨hc,hm⟩ | ⟨hc,hm⟩
 ·refine .cT R hc ?_
  refine .seq (.reg (.mv R (.sa R (.nil (.seqN (.ret (.seqR ?_)))))))
  obtain rfl:=oi hm
  exact WX.rt [] (.inl R) Tryz.results105 (.tmp R .nil) R (fun _ _ _ h=>h) trivial
 ·refine .cF R hc ?_
  refine .skip (.seqN (.seq (.seq (.reg (.mv R (.bi R (.mv R ?_)))))))
  refine .cut 5 (fun (v2:Bool)=>((decide (p1 < 0)) || (decide (p1≥p0.2.1)))=v2) (fun v2=>⟨[(18,.b v2)],[],1⟩) ?_ ?_
  ·rintro _ rfl
   refine .nil (.seqN ?_)
   rcases ifS hm with ⟨hc,hm⟩ | ⟨hc,hm⟩
   ·refine .cT R hc ?_
    refine .seq (.reg (.sa R (.nil (.seqN (.ret (.seqR ?_))))))
    obtain rfl:=oi hm
    exact WX.rt [] (.inl R) Tryz.results105 (.tmp R .nil) R (fun _ _ _ h=>h) trivial
   ·refine .cF R hc ?_
    refine .skip (.seqN (.seq (.reg (.sa R (.nil (.seqN (.ret ?_)))))))
    obtain rfl:=oi hm
    exact WX.rt [] (.inl R) Tryz.results105 (.tmp R .nil) R (fun _ _ _ h=>h) trivial
  ·intro J3
   rcases Bool.eq_false_or_eq_true (decide (p1 < 0)) with hc | hc
   ·refine .know (d:=13) R hc ?_
    exact .sk R (.sk R (.sk R (.sk R (.op (O.pkT Z R R R R) R ((J3 true (orT hc).symm).sub [] R)))))
   ·refine .know (d:=13) R hc ?_
    exact .op (O.mv (Gu.mk R R) R R) R (.op (O.faP y1g (Gu.mk R R) R R) R (.op (O.ld nag3 (Gu.mk R R) R (.B R) R R) R (.op (O.bi (Gu.mk R R) R R R R) R (.op (O.pkF Z R R R R) R ((J3 (decide (p1≥p0.2.1)) (orF hc).symm).sub [] R)))))
def y4A (q0:AutT) (p0:Int):Option Bool:=
 (yA q0.1 p0).bind fun r1=>
 some (!r1)
theorem y9u {q0:AutT} {p0:Int} {r:Bool} (hm:y4A q0 p0=some r):
  Fw Tryz.prog 107 ⟨0,[]⟩ [.i p0,.o (lQ 35 [lF qI q0.1,lI q0.2.1,lF qI q0.2.2.1,lF qT q0.2.2.2] 0)] [] (.b r) []:=by
 unfold y4A at hm
 refine Fw.mk' Tryz.func107 R Tryz.ntmps107 R R (fun C=>?_) R R
 refine .seq (.reg (.sa R (.nil (.seqN (.seq (.reg (.op (O.faQ y1R Z R R) R (.op (O.ld nag32 Z R .Q R R) R (.mv R (bS hm fun r1 er1 hm=> .op (O.ca0 (y2t er1) cf104 R R Z R R R) R (.op (O.not Z R R) R (.sa R (.nil (.seqN (.ret ?_)))))))))))))))
 obtain rfl:=oi hm
 exact WX.rt [] (.inl R) Tryz.results107 (.tmp R .nil) R (fun _ _ _ h=>h) trivial
def y4n (p0:List Int) (p1:Int→Option Bool):Option Bool:=
 (y2G p0 p1).bind fun r1=>
 some (decide (r1≥0))
theorem y7n {p0:List Int} {p1:Int→Option Bool} {r:Bool} (hm:y4n p0 p1=some r):
  Fw Tryz.prog 106 ⟨0,[]⟩ [.f qI p0,.o (lW Tryz.prog (fun (x:Int)=> [.i x]) (fun (r:Bool)=> .b r) p1)] [] (.b r) []:=by
 unfold y4n at hm
 refine Fw.mk' Tryz.func106 R Tryz.ntmps106 R R (fun C=>?_) R R
 refine .seq (.reg (.sa R (.nil (.seqN (.seq (.reg (.mv R (.mv R (bS hm fun r1 er1 hm=> .op (O.ca0 (y5Y er1) cf136 R R Z R R R) R (.bi R (.sa R (.nil (.seqN (.ret ?_))))))))))))))
 obtain rfl:=oi hm
 exact WX.rt [] (.inl R) Tryz.results106 (.tmp R .nil) R (fun _ _ _ h=>h) trivial
def y4V (q0:Int) (p0:Int×Int×Int):Option Bool:=
 some (p0.2.1 == q0)
theorem y9c {q0:Int} {p0:Int×Int×Int} {r:Bool} (hm:y4V q0 p0=some r):
  Fw Tryz.prog 213 ⟨0,[]⟩ [.a [lI p0.1,lI p0.2.1,lI p0.2.2],.o (lQ 3 [lI q0] 0)] [] (.b r) []:=by
 unfold y4V at hm
 refine Fw.mk' Tryz.func213 R Tryz.ntmps213 R R (fun C=>?_) R R
 refine .seq (.reg (.op (O.box 0 R Z R R R) R (.sa R (.nil (.seqN (.seq (.reg (.op (O.faP y4L Z R R) R (.op (O.ld nag3 Z R (.B R) R R) R (.op (O.ld nag3 Z R .Q R R) R (.bi R (.sa R (.nil (.seqN (.ret ?_)))))))))))))))
 obtain rfl:=oi hm
 exact WX.rt [] (.inl R) Tryz.results213 (.tmp R .nil) R (fun _ _ _ h=>h) trivial
def y5n (p0:AutT) (p1:Int) (p2:Int):Option Int:=
 (y4x p0 p1).bind fun r1=>
 (y2u r1 (y4V p2)).bind fun r2=>
 if decide (r2 < 0) then
  some (-1)
 else
  (idx r1 r2).bind fun x3=>
  some x3.2.2
theorem y9G {p0:AutT} {p1:Int} {p2:Int} {r:Int} (hm:y5n p0 p1 p2=some r):
  Fw Tryz.prog 170 ⟨0,[]⟩ [.a [lF qI p0.1,lI p0.2.1,lF qI p0.2.2.1,lF qT p0.2.2.2],.i p1,.i p2] [] (.i r) []:=by
 unfold y5n at hm
 refine Fw.mk' Tryz.func170 R Tryz.ntmps170 R R (fun C=>?_) R R
 refine .seq (.reg (.op (O.box 0 R Z R R R) R (.op (O.box 1 R Z R R R) R (.sa R (.nil (.seqN (.seq (.reg (.op (O.lg (l':=[lF qI p0.1,lI p0.2.1,lF qI p0.2.2.1,lF qT p0.2.2.2]) ag35 Z R (.B R) R R R) R (.mv R (bS hm fun r1 er1 hm=> .op (O.ca0 (y7x er1) cf102 R R Z R R R) R (.sa R (.nil (.seqN (.seq (.reg (.mv R (.fz 1 [5] [] R R fB R R (.op (O.mf (args:=(fun (x:(Int×Int×Int))=> [.a [lI x.1,lI x.2.1,lI x.2.2]])) (res:=(fun (r:Bool)=> .b r)) (m:=(y4V p2)) cf213 (fun x r h=>y9c h) (fun _=>R) R Z R R) R (bS hm fun r2 er2 hm=> .op (O.ca0 (y5O er2) cf140 R R Z R R R) R (.sa R (.nil (.seqN (.seq (.seq (.reg (.mv R (.bi R (.nil (.seqN ?_))))))))))))))))))))))))))))))
 rcases ifS hm with ⟨hc,hm⟩ | ⟨hc,hm⟩
 ·refine .cT R hc ?_
  refine .seq (.reg (.sa R (.nil (.seqN (.ret (.seqR ?_))))))
  obtain rfl:=oi hm
  exact WX.rt [] (.inl R) Tryz.results170 (.tmp R .nil) R (fun _ _ _ h=>h) trivial
 ·refine .cF R hc ?_
  refine .skip (.seqN (.seq (.reg (.mv R (.mv R (bS hm fun x3 ex3 hm=> .op (O.ix sl33 Z R R ex3 R) R (.op (O.faE y2W Z R R) R (.op (O.ld nag3 Z R (.E lv124) R R) R (.sa R (.nil (.seqN (.ret ?_))))))))))))
  obtain rfl:=oi hm
  exact WX.rt [] (.inl R) Tryz.results170 (.tmp R .nil) R (fun _ _ _ h=>h) trivial
def y4j (p0:AutT) (p2:List Int) (st7:Int×Int):Option ((Int×Int) ⊕ (Int ⊕ (Int×Int))):=
 if decide (st7.1 < (p2.length:Int)) then
  (idx p2 st7.1).bind fun x15=>
  (y5n p0 st7.2 x15).bind fun r16=>
  if decide (r16 < 0) then
   some (.inr (.inr (st7)))
  else
   some (.inl (W (st7.1 + 1),r16))
 else
  some (.inr (.inl st7.2))
def y4k (p0:AutT) (p1:Int) (p2:List Int):Option (Int×Int):=
 (iter (y4j p0 p2) (0,p1)).bind fun o7=>
 match o7 with
 | .inl u11=>
  some (u11,(p2.length:Int))
 | .inr (u13)=>
  some (u13.2,u13.1)
theorem y6P {p0:AutT} {p1:Int} {p2:List Int} {r:Int×Int} (hm:y4k p0 p1 p2=some r):
  Fw Tryz.prog 108 ⟨0,[]⟩ [.a [lF qI p0.1,lI p0.2.1,lF qI p0.2.2.1,lF qT p0.2.2.2],.i p1,.f qI p2] [] (.tp [.i r.1,.i r.2]) []:=by
 unfold y4k at hm
 refine Fw.mk' Tryz.func108 R Tryz.ntmps108 R R (fun C=>?_) R R
 refine .seq (.reg (.op (O.box 0 R Z R R R) R (.sa R (.sa R (.nil (.seqN (.seq (.seq (.reg (.mv R (.op (O.len sl32 Z R R) R (.mv R (.nil (.seqN (.block (bS hm fun o7 eo7 hm=>?_))))))))))))))))
 refine .cutU (z:= .exit 0) (fun u11=> .inl u11=o7) (fun (u11:Int)=>⟨[(1,.i u11),(2,.f qI p2)],[],0⟩) ?_ fun K12=>?_
 ·rintro u11 rfl
  dsimp only at hm
  refine .blkE (.seqN (.seq (.reg (.mv R (.mv R (.op (O.len sl32 Z R R) R (.sa R (.sa R (.nil (.seqN (.ret ?_)))))))))))
  obtain rfl:=oi hm
  exact WX.rt [] (.inl R) Tryz.results108 (.tmp R (.tmp R .nil)) R (fun _ _ _ h=>h) trivial
 refine .cutU (z:= .ret) (fun u13=> .inr (u13)=o7) (fun (u13:Int×Int)=>⟨[(7,.i u13.1),(6,.i u13.2)],[],0⟩) ?_ fun K14=>?_
 ·rintro u13 rfl
  dsimp only at hm
  refine .blkR (.seqR ?_)
  obtain rfl:=oi hm
  exact WX.rt [] (.inl R) Tryz.results108 (.tmp R (.tmp R .nil)) R (fun _ _ _ h=>h) trivial
 refine .iter (fun (st7:Int×Int)=>⟨[(13,.i st7.1),(12,.i (p2.length:Int)),(11,.f qI p2),(3,.q 0 0),(1,.i st7.2),(2,.f qI p2)],[(0,.bx 35 [lF qI p0.1,lI p0.2.1,lF qI p0.2.2.1,lF qT p0.2.2.2])],1⟩) eo7 [] R ?_
 intro st7 res7 hm ih7 ho7
 unfold y4j at hm
 refine .seq (.reg (.bi R (.nil (.seqN (.seq ?_)))))
 rcases ifS hm with ⟨hc,hm⟩ | ⟨hc,hm⟩
 ·refine .cT R hc ?_
  refine .skip (.seqN (.seq (.block (.seq (.reg (.mv R (bS hm fun x15 ex15 hm=> .op (O.ix sl32 Z R R ex15 R) R (.op (O.ld nag3 Z R (.E lv3) R R) R (.sa R (.sa R (.nil (.seqN (.seq (.reg (.op (O.lg (l':=[lF qI p0.1,lI p0.2.1,lF qI p0.2.2.1,lF qT p0.2.2.2]) ag35 Z R (.B R) R R R) R (.mv R (.mv R (bS hm fun r16 er16 hm=> .op (O.ca0 (y9G er16) cf170 R R Z R R R) R (.sa R (.nil (.seqN (.seq (.seq (.reg (.mv R (.bi R (.nil (.seqN ?_))))))))))))))))))))))))))))
  rcases ifS hm with ⟨hc,hm⟩ | ⟨hc,hm⟩
  ·refine .cT R hc ?_
   exact .seq (.reg (.mv R (.mv R (.sa R (.sa R (.nil (.seqN (.ret (.seqR (.blkR (.seqR (.seqR ((K14 _ (ho7 _ (oi hm).symm)).sub [] R)))))))))))))
  ·refine .cF R hc ?_
   exact .skip (.seqN (.reg (.mv R (.sa R (.nil (.blkN (.seqN (.reg (.bi R (.mv R (.nil ((ih7 _ (oi hm).symm).sub [] R))))))))))))
 ·refine .cF R hc ?_
  exact .exit (.seqX (.seqX ((K12 _ (ho7 _ (oi hm).symm)).sub [] R)))
def y4Y (p0:AutT) (p1:Int) (p2:List Int):Option (Int×Int×Int):=
 (y4R p0 p1).bind fun r1=>
 if(r1 != 0) then
  some (0,0,r1)
 else
  (y4n p2 (y4A p0)).bind fun r2=>
  if r2 then
   some (0,0,9)
  else
   (y4k p0 p1 p2).bind fun r3=>
   some (r3.1,r3.2,0)
theorem y7y {p0:AutT} {p1:Int} {p2:List Int} {r:Int×Int×Int} (hm:y4Y p0 p1 p2=some r):
  Fw Tryz.prog 35 ⟨0,[]⟩ [.a [lF qI p0.1,lI p0.2.1,lF qI p0.2.2.1,lF qT p0.2.2.2],.i p1,.f qI p2] [] (.tp [.i r.1,.i r.2.1,.i r.2.2]) []:=by
 unfold y4Y at hm
 refine Fw.mk' Tryz.func35 R Tryz.ntmps35 R R (fun C=>?_) R R
 refine .seq (.reg (.op (O.box 0 R Z R R R) R (.sa R (.sa R (.sa R (.nil (.seqN (.seq (.seq (.reg (.op (O.lg (l':=[lF qI p0.1,lI p0.2.1,lF qI p0.2.2.1,lF qT p0.2.2.2]) ag35 Z R (.B R) R R R) R (.mv R (bS hm fun r1 er1 hm=> .op (O.ca0 (y7U er1) cf105 R R Z R R R) R (.sa R (.nil (.seqN (.seq (.reg (.mv R (.bi R (.nil (.seqN ?_))))))))))))))))))))))
 rcases ifS hm with ⟨hc,hm⟩ | ⟨hc,hm⟩
 ·refine .cT R hc ?_
  refine .seq (.reg (.mv R (.sa R (.sa R (.sa R (.nil (.seqN (.ret (.seqR ?_)))))))))
  obtain rfl:=oi hm
  exact WX.rt [] (.inl R) Tryz.results35 (.tmp R (.tmp R (.tmp R .nil))) R (fun _ _ _ h=>h) trivial
 ·refine .cF R hc ?_
  refine .skip (.seqN (.seq (.seq (.reg (.mv R (.fz 0 [3] [] R R fB R R (.op (O.mf (args:=(fun (x:Int)=> [.i x])) (res:=(fun (r:Bool)=> .b r)) (m:=(y4A p0)) cf107 (fun x r h=>y9u h) (fun _=>R) R Z R R) R (bS hm fun r2 er2 hm=> .op (O.ca0 (y7n er2) cf106 R R Z R R R) R (.nil (.seqN ?_))))))))))
  rcases ifS hm with ⟨hc,hm⟩ | ⟨hc,hm⟩
  ·refine .cT R hc ?_
   refine .seq (.reg (.sa R (.sa R (.sa R (.nil (.seqN (.ret (.seqR ?_))))))))
   obtain rfl:=oi hm
   exact WX.rt [] (.inl R) Tryz.results35 (.tmp R (.tmp R (.tmp R .nil))) R (fun _ _ _ h=>h) trivial
  ·refine .cF R hc ?_
   refine .skip (.seqN (.seq (.reg (.op (O.lg (l':=[lF qI p0.1,lI p0.2.1,lF qI p0.2.2.1,lF qT p0.2.2.2]) ag35 Z R .Q R R R) R (.mv R (.mv R (bS hm fun r3 er3 hm=> .op (O.ca0 (y6P er3) cf108 R R Z R R R) R (.mv R (.op (O.ex Z R R R) R (.op (O.ex Z R R R) R (.sa R (.sa R (.nil (.seqN (.seq (.reg (.mv R (.mv R (.sa R (.sa R (.sa R (.nil (.seqN (.ret ?_))))))))))))))))))))))))
   obtain rfl:=oi hm
   exact WX.rt [] (.inl R) Tryz.results35 (.tmp R (.tmp R (.tmp R .nil))) R (fun _ _ _ h=>h) trivial
def y1w (p0:AutT×AutT×List Int) (p2:List Int) (st17:Int×Int) (b22:Bool):Option ((Int×Int) ⊕ (Unit ⊕ Unit)):=
 if b22 then
  some (.inr (.inr (())))
 else
  (idx p2 st17.1).bind fun x24=>
  (y1m p0.1 st17.2 x24).bind fun r25=>
  if decide (r25 < 0) then
   some (.inr (.inr (())))
  else
   some (.inl (W (st17.1 + 1),r25))
def y2C (p0:AutT×AutT×List Int) (p2:List Int) (st17:Int×Int):Option ((Int×Int) ⊕ (Unit ⊕ Unit)):=
 if decide (st17.1 < (p2.length:Int)) then
  (idx p2 st17.1).bind fun x26=>
  (yt p0.2.2 x26).bind fun r27=>
  if(!r27) then
   y1w p0 p2 st17 true
  else
   (slc p2 0 st17.1).bind fun x30=>
   (idx p2 st17.1).bind fun x31=>
   (yt x30 x31).bind fun r32=>
   y1w p0 p2 st17 r32
 else
  some (.inr (.inl ()))
def y3D (p0:AutT×AutT×List Int) (p1:List Int) (p2:List Int):Option Bool:=
 (idx p1 0).bind fun x1=>
 (iter (y2C p0 p2) (0,x1)).bind fun o17=>
 match o17 with
 | .inl u18=>
  some (decide ((p2.length:Int)≥2))
 | .inr (u20)=>
  some false
theorem y7A {p0:AutT×AutT×List Int} {p1:List Int} {p2:List Int} {r:Bool} (hm:y3D p0 p1 p2=some r):
  Fw Tryz.prog 40 ⟨0,[]⟩ [.a [lF qI p0.1.1,lI p0.1.2.1,lF qI p0.1.2.2.1,lF qT p0.1.2.2.2,lF qI p0.2.1.1,lI p0.2.1.2.1,lF qI p0.2.1.2.2.1,lF qT p0.2.1.2.2.2,lF qI p0.2.2],.f qI p1,.f qI p2] [] (.b r) []:=by
 unfold y3D at hm
 refine Fw.mk' Tryz.func40 R Tryz.ntmps40 R R (fun C=>?_) R R
 refine .seq (.reg (.op (O.box 0 R Z R R R) R (.sa R (.nil (.seqN (.seq (.reg (.mv R (bS hm fun x1 ex1 hm=> .op (O.ix sl32 Z R R ex1 R) R (.op (O.ld nag3 Z R (.E lv3) R R) R (.sa R (.nil (.seqN (.seq (.seq (.reg (.sa R (.nil (.seqN (.block (bS hm fun o17 eo17 hm=>?_)))))))))))))))))))))
 refine .cutU (z:= .exit 0) (fun u18=> .inl u18=o17) (fun (u18:Unit)=>⟨[(2,.f qI p2)],[],0⟩) ?_ fun K19=>?_
 ·rintro u18 rfl
  dsimp only at hm
  refine .blkE (.seqN (.seq (.reg (.mv R (.op (O.len sl32 Z R R) R (.bi R (.sa R (.nil (.seqN (.ret ?_))))))))))
  obtain rfl:=oi hm
  exact WX.rt [] (.inl R) Tryz.results40 (.tmp R .nil) R (fun _ _ _ h=>h) trivial
 refine .cutU (z:= .ret) (fun u20=> .inr (u20)=o17) (fun (u20:Unit)=>⟨[(6,.b false)],[],0⟩) ?_ fun K21=>?_
 ·rintro u20 rfl
  dsimp only at hm
  refine .blkR (.seqR ?_)
  obtain rfl:=oi hm
  exact WX.rt [] (.inl R) Tryz.results40 (.tmp R .nil) R (fun _ _ _ h=>h) trivial
 refine .iter (fun (st17:Int×Int)=>⟨[(8,.i st17.1),(7,.i st17.2),(3,.q 0 0),(2,.f qI p2)],[(0,.bx 37 [lF qI p0.1.1,lI p0.1.2.1,lF qI p0.1.2.2.1,lF qT p0.1.2.2.2,lF qI p0.2.1.1,lI p0.2.1.2.1,lF qI p0.2.1.2.2.1,lF qT p0.2.1.2.2.2,lF qI p0.2.2])],1⟩) eo17 [] R ?_
 intro st17 res17 hm ih17 ho17
 unfold y2C at hm
 refine .seq (.seq (.reg (.mv R (.mv R (.op (O.len sl32 Z R R) R (.bi R (.nil (.seqN ?_))))))))
 rcases ifS hm with ⟨hc,hm⟩ | ⟨hc,hm⟩
 ·refine .cT R hc ?_
  refine .skip (.seqN (.seq (.block (.seq ?_))))
  refine .join1 (fun (b22:Bool)=>y1w p0 p2 st17 b22=some res17) (fun b22=>⟨[(35,.b b22),(8,.i st17.1),(7,.i st17.2),(3,.q 0 0),(2,.f qI p2)],[(0,.bx 37 [lF qI p0.1.1,lI p0.1.2.1,lF qI p0.1.2.2.1,lF qT p0.1.2.2.2,lF qI p0.2.1.1,lI p0.2.1.2.1,lF qI p0.2.1.2.2.1,lF qT p0.2.1.2.2.2,lF qI p0.2.2])],1⟩) ?_ ?_
  ·intro b22 hm
   unfold y1w at hm
   rcases ifS hm with ⟨hc,hm⟩ | ⟨hc,hm⟩
   ·refine .cT R hc ?_
    exact .seq (.reg (.sa R (.nil (.seqN (.ret (.seqR (.blkR (.seqR (.seqR ((K21 _ (ho17 _ (oi hm).symm)).sub [] R))))))))))
   ·refine .cF R hc ?_
    refine .skip (.seqN (.seq ?_))
    refine .sub (τ:=⟨[(8,.i st17.1),(7,.i st17.2),(3,.q 0 0),(2,.f qI p2)],[(0,.bx 37 [lF qI p0.1.1,lI p0.1.2.1,lF qI p0.1.2.2.1,lF qT p0.1.2.2.2,lF qI p0.2.1.1,lI p0.2.1.2.1,lF qI p0.2.1.2.2.1,lF qT p0.2.1.2.2.2,lF qI p0.2.2])],1⟩) ?_ [] R
    refine bS hm fun x24 ex24 hm=>bS hm fun r25 er25 hm=>?_
    refine .drg 1 [(1,[]),(1,[oT]),(1,[]),(1,[]),(1,[]),(1,[oF,oF,oF,oT,oT]),(1,fA 3 (tT 3)),(1,tT 7),(1,tT 8)] [_,_,_,_,_,_,_,_,_] ⟨[(7,.i r25),(8,.i st17.1),(3,.q 0 0),(2,.f qI p2)],[(0,.bx 37 [lF qI p0.1.1,lI p0.1.2.1,lF qI p0.1.2.2.1,lF qT p0.1.2.2.2,lF qI p0.2.1.1,lI p0.2.1.2.1,lF qI p0.2.1.2.2.1,lF qT p0.2.1.2.2.2,lF qI p0.2.2])],1⟩ ⟨O.faP y5l Z R R,O.lg (l':=[lF qI p0.1.1,lI p0.1.2.1,lF qI p0.1.2.2.1,lF qT p0.1.2.2.2]) ag35 Z R (.B R) R R R,O.mv Z R R,O.mv Z R R,O.mv Z R R,O.ix sl32 Z R R ex24 R,O.ld nag3 Z R (.E lv3) R R,O.ca0 (y3O er25) cf73 R R Z R R R,O.as Z R R,trivial⟩ (by kernel_rfl) R ?_
    refine .seqN (.seq (.reg (.mv R (.bi R (.nil (.seqN ?_))))))
    rcases ifS hm with ⟨hc,hm⟩ | ⟨hc,hm⟩
    ·refine .cT R hc ?_
     exact .seq (.reg (.sa R (.nil (.seqN (.ret (.blkR (.seqR (.seqR ((K21 _ (ho17 _ (oi hm).symm)).sub [] R)))))))))
    ·refine .cF R hc ?_
     exact .skip (.blkN (.seqN (.reg (.mv R (.bi R (.sa R (.nil ((ih17 _ (oi hm).symm).sub [] R))))))))
  ·intro Jj23
   refine .sub (τ:=⟨[(8,.i st17.1),(7,.i st17.2),(3,.q 0 0),(2,.f qI p2)],[(0,.bx 37 [lF qI p0.1.1,lI p0.1.2.1,lF qI p0.1.2.2.1,lF qT p0.1.2.2.2,lF qI p0.2.1.1,lI p0.2.1.2.1,lF qI p0.2.1.2.2.1,lF qT p0.2.1.2.2.2,lF qI p0.2.2])],1⟩) ?_ [] R
   refine bS hm fun x26 ex26 hm=>bS hm fun r27 er27 hm=> .drP 8 [(1,[]),(1,[oT]),(1,[]),(1,[]),(1,[oF,oF,oT,oT]),(1,fA 2 (tT 3)),(1,tT 6),(1,tT 7)] [_,_,_,_,_,_,_,_] ⟨O.faP y7M Z R R,O.ld nag32 Z R (.B R) R R,O.mv Z R R,O.mv Z R R,O.ix sl32 Z R R ex26 R,O.ld nag3 Z R (.E lv3) R R,O.ca0 (yQ er27) cf44 R R Z R R R,O.not Z R R,trivial⟩ fun hp28=>?_
   rcases ifS hm with ⟨hc29,hm⟩ | ⟨hc29,hm⟩
   ·skip
    exact .drF hp28 [(1,tT 8),(1,tT 9),(1,tT 9),(1,tT 11),(1,tT 9),(1,tT 9),(1,tA 9 (fA 3 (tT 2))),(1,tA 9 (fA 3 (tT 3))),(1,tT 16),(1,tT 17)] [_,_,_,_,_,_,_,_,_,_] ⟨[(35,.b true),(8,.i st17.1),(7,.i st17.2),(3,.q 0 0),(2,.f qI p2)],[(0,.bx 37 [lF qI p0.1.1,lI p0.1.2.1,lF qI p0.1.2.2.1,lF qT p0.1.2.2.2,lF qI p0.2.1.1,lI p0.2.1.2.1,lF qI p0.2.1.2.2.1,lF qT p0.2.1.2.2.2,lF qI p0.2.2])],1⟩ ⟨O.kn (O.mv Z R R) hc29,O.skip R R R R,O.skip R R R R,O.skip R R R R,O.skip R R R R,O.skip R R R R,O.skip R R R R,O.skip R R R R,O.skip R R R R,O.pkT Z R R R R,trivial⟩ (by kernel_rfl) R ((Jj23 _ hm).sub [] R)
   ·skip
    exact bS hm fun x30 ex30 hm=>bS hm fun x31 ex31 hm=>bS hm fun r32 er32 hm=> .drF hp28 [(1,tT 8),(1,tT 9),(1,tT 9),(1,tT 11),(1,tT 9),(1,tT 9),(1,tA 9 (fA 3 (tT 2))),(1,tA 9 (fA 3 (tT 3))),(1,tT 16),(1,tT 17)] [_,_,_,_,_,_,_,_,_,_] ⟨[(35,.b r32),(8,.i st17.1),(7,.i st17.2),(3,.q 0 0),(2,.f qI p2)],[(0,.bx 37 [lF qI p0.1.1,lI p0.1.2.1,lF qI p0.1.2.2.1,lF qT p0.1.2.2.2,lF qI p0.2.1.1,lI p0.2.1.2.1,lF qI p0.2.1.2.2.1,lF qT p0.2.1.2.2.2,lF qI p0.2.2])],1⟩ ⟨O.kn (O.mv Z R R) hc29,O.mv (Gu.mk R R) R R,O.mv (Gu.mk R R) R R,O.sh sl32 (Gu.mk R R) R R ex30 R,O.mv (Gu.mk R R) R R,O.mv (Gu.mk R R) R R,O.ix sl32 (Gu.mk R R) R R ex31 R,O.ld nag3 (Gu.mk R R) R (.E lv3) R R,O.ca0 (yQ er32) cf44 R R (Gu.mk R R) R R R,O.pkF Z R R R R,trivial⟩ (by kernel_rfl) R ((Jj23 _ hm).sub [] R)
 ·refine .cF R hc ?_
  exact .exit (.seqX (.seqX ((K19 _ (ho17 _ (oi hm).symm)).sub [] R)))
def y1O (st11:Int×Int) (n19:Int):Option ((Int×Int) ⊕ (Int ⊕ (Int×Int))):=
 some (.inl (W (st11.1 + 1),n19))
def y2T (p0:AutT) (p2:List Int) (st11:Int×Int):Option ((Int×Int) ⊕ (Int ⊕ (Int×Int))):=
 if decide (st11.1 < (p2.length:Int)) then
  (idx p2 st11.1).bind fun x21=>
  (yt p0.1 x21).bind fun r22=>
  if(!r22) then
   y1O st11 st11.2
  else
   (idx p2 st11.1).bind fun x23=>
   (y1m p0 st11.2 x23).bind fun r24=>
   if decide (r24 < 0) then
    some (.inr (.inr (st11)))
   else
    y1O st11 r24
 else
  some (.inr (.inl st11.2))
def y2K (p0:AutT) (p1:Int) (p2:List Int):Option (Int×Int):=
 (iter (y2T p0 p2) (0,p1)).bind fun o11=>
 match o11 with
 | .inl u15=>
  some (u15,(p2.length:Int))
 | .inr (u17)=>
  some (u17.2,u17.1)
theorem y6a {p0:AutT} {p1:Int} {p2:List Int} {r:Int×Int} (hm:y2K p0 p1 p2=some r):
  Fw Tryz.prog 27 ⟨0,[]⟩ [.a [lF qI p0.1,lI p0.2.1,lF qI p0.2.2.1,lF qT p0.2.2.2],.i p1,.f qI p2] [] (.tp [.i r.1,.i r.2]) []:=by
 unfold y2K at hm
 refine Fw.mk' Tryz.func27 R Tryz.ntmps27 R R (fun C=>?_) R R
 refine .seq (.reg (.op (O.box 0 R Z R R R) R (.sa R (.sa R (.nil (.seqN (.seq (.seq (.reg (.sa R (.nil (.seqN (.block (bS hm fun o11 eo11 hm=>?_))))))))))))))
 refine .cutU (z:= .exit 0) (fun u15=> .inl u15=o11) (fun (u15:Int)=>⟨[(1,.i u15),(2,.f qI p2)],[],0⟩) ?_ fun K16=>?_
 ·rintro u15 rfl
  dsimp only at hm
  refine .blkE (.seqN (.seq (.reg (.mv R (.mv R (.op (O.len sl32 Z R R) R (.sa R (.sa R (.nil (.seqN (.ret ?_)))))))))))
  obtain rfl:=oi hm
  exact WX.rt [] (.inl R) Tryz.results27 (.tmp R (.tmp R .nil)) R (fun _ _ _ h=>h) trivial
 refine .cutU (z:= .ret) (fun u17=> .inr (u17)=o11) (fun (u17:Int×Int)=>⟨[(7,.i u17.1),(6,.i u17.2)],[],0⟩) ?_ fun K18=>?_
 ·rintro u17 rfl
  dsimp only at hm
  refine .blkR (.seqR ?_)
  obtain rfl:=oi hm
  exact WX.rt [] (.inl R) Tryz.results27 (.tmp R (.tmp R .nil)) R (fun _ _ _ h=>h) trivial
 refine .iter (fun (st11:Int×Int)=>⟨[(8,.i st11.1),(3,.q 0 0),(1,.i st11.2),(2,.f qI p2)],[(0,.bx 35 [lF qI p0.1,lI p0.2.1,lF qI p0.2.2.1,lF qT p0.2.2.2])],1⟩) eo11 [] R ?_
 intro st11 res11 hm ih11 ho11
 unfold y2T at hm
 refine .seq (.seq (.reg (.mv R (.mv R (.op (O.len sl32 Z R R) R (.bi R (.nil (.seqN ?_))))))))
 rcases ifS hm with ⟨hc,hm⟩ | ⟨hc,hm⟩
 ·refine .cT R hc ?_
  refine .skip (.seqN ?_)
  refine .join1 (fun (n19:Int)=>y1O st11 n19=some res11) (fun n19=>⟨[(8,.i st11.1),(3,.q 0 0),(1,.i n19),(2,.f qI p2)],[(0,.bx 35 [lF qI p0.1,lI p0.2.1,lF qI p0.2.2.1,lF qT p0.2.2.2])],1⟩) ?_ ?_
  ·intro n19 hm
   unfold y1O at hm
   exact .reg (.mv R (.bi R (.sa R (.nil ((ih11 _ (oi hm).symm).sub [] R)))))
  ·intro Jj20
   refine .block (.seq (.seq ?_))
   refine .sub (τ:=⟨[(8,.i st11.1),(3,.q 0 0),(1,.i st11.2),(2,.f qI p2)],[(0,.bx 35 [lF qI p0.1,lI p0.2.1,lF qI p0.2.2.1,lF qT p0.2.2.2])],1⟩) ?_ [] R
   refine bS hm fun x21 ex21 hm=>bS hm fun r22 er22 hm=>?_
   refine .drw [(1,[]),(1,[oT]),(1,[]),(1,[]),(1,[oF,oF,oT,oT]),(1,fA 2 (tT 3)),(1,tT 6),(1,tT 7)] [_,_,_,_,_,_,_,_] ⟨[(23,.b (!r22)),(8,.i st11.1),(3,.q 0 0),(1,.i st11.2),(2,.f qI p2)],[(0,.bx 35 [lF qI p0.1,lI p0.2.1,lF qI p0.2.2.1,lF qT p0.2.2.2])],1⟩ ⟨O.faP y1R Z R R,O.ld nag32 Z R (.B R) R R,O.mv Z R R,O.mv Z R R,O.ix sl32 Z R R ex21 R,O.ld nag3 Z R (.E lv3) R R,O.ca0 (yQ er22) cf44 R R Z R R R,O.not Z R R,trivial⟩ (by kernel_rfl) R ?_
   refine .seqN ?_
   rcases ifS hm with ⟨hc,hm⟩ | ⟨hc,hm⟩
   ·refine .cT R hc ?_
    exact .exit (.seqX (.blkE ((Jj20 _ hm).sub [] R)))
   ·refine .cF R hc ?_
    refine .skip (.seqN (.seq ?_))
    refine .sub (τ:=⟨[(8,.i st11.1),(3,.q 0 0),(1,.i st11.2),(2,.f qI p2)],[(0,.bx 35 [lF qI p0.1,lI p0.2.1,lF qI p0.2.2.1,lF qT p0.2.2.2])],1⟩) ?_ [] R
    refine bS hm fun x23 ex23 hm=>bS hm fun r24 er24 hm=>?_
    refine .drw [(1,[]),(1,[]),(1,[]),(1,[]),(1,[oF,oF,oT,oT]),(1,fA 2 (tT 3)),(1,tT 6),(1,tT 7)] [_,_,_,_,_,_,_,_] ⟨[(9,.i r24),(8,.i st11.1),(3,.q 0 0),(1,.i st11.2),(2,.f qI p2)],[(0,.bx 35 [lF qI p0.1,lI p0.2.1,lF qI p0.2.2.1,lF qT p0.2.2.2])],1⟩ ⟨O.lg (l':=[lF qI p0.1,lI p0.2.1,lF qI p0.2.2.1,lF qT p0.2.2.2]) ag35 Z R (.B R) R R R,O.mv Z R R,O.mv Z R R,O.mv Z R R,O.ix sl32 Z R R ex23 R,O.ld nag3 Z R (.E lv3) R R,O.ca0 (y3O er24) cf73 R R Z R R R,O.as Z R R,trivial⟩ (by kernel_rfl) R ?_
    refine .seqN (.seq (.seq (.reg (.mv R (.bi R (.nil (.seqN ?_)))))))
    rcases ifS hm with ⟨hc,hm⟩ | ⟨hc,hm⟩
    ·refine .cT R hc ?_
     exact .seq (.reg (.mv R (.mv R (.sa R (.sa R (.nil (.seqN (.ret (.seqR (.blkR (.seqR (.seqR ((K18 _ (ho11 _ (oi hm).symm)).sub [] R)))))))))))))
    ·refine .cF R hc ?_
     exact .skip (.seqN (.reg (.mv R (.sa R (.nil (.blkN ((Jj20 _ hm).sub [] R)))))))
 ·refine .cF R hc ?_
  exact .exit (.seqX (.seqX ((K16 _ (ho11 _ (oi hm).symm)).sub [] R)))
def y1P (st38:Int) (b46:Bool):Option (Int ⊕ Int):=
 if b46 then
  some (.inl (W (st38 - 1)))
 else
  some (.inr st38)
def y1Q (p0:List Int) (st27:Int×List Int) (st38:Int):Option (Int ⊕ Int):=
 if decide (st38 > 0) then
  (idx st27.2 (W (st38 - 1))).bind fun x50=>
  (idx p0 st27.1).bind fun x51=>
  y1P st38 (decide (x50 > x51))
 else
  y1P st38 false
def y2U (p0:List Int) (st27:Int×List Int):Option ((Int×List Int) ⊕ (List Int)):=
 if decide (st27.1 < (p0.length:Int)) then
  (iter (y1Q p0 st27) (st27.2.length:Int)).bind fun o38=>
  (slc3 st27.2 0 o38 o38).bind fun x41=>
  (idx p0 st27.1).bind fun x42=>
  (slc st27.2 o38 (st27.2.length:Int)).bind fun x43=>
  (app ([x42]:List Int) x43).bind fun x44=>
  (app x41 x44).bind fun x45=>
  some (.inl (W (st27.1 + 1),x45))
 else
  some (.inr st27.2)
def y3Q (p0:List Int):Option (List Int):=
 (iter (y2U p0) (0,([]:List Int))).bind fun o27=>
 some o27
theorem y7V {p0:List Int} {r:List Int} (hm:y3Q p0=some r):
  Fw Tryz.prog 113 ⟨0,[]⟩ [.f qI p0] [] (.f qI r) []:=by
 unfold y3Q at hm
 refine Fw.mk' Tryz.func113 R Tryz.ntmps113 R R (fun C=>?_) R R
 refine .seq (.reg (.sa R (.nil (.seqN (.seq (.reg (.sa R (.nil (.seqN (.seq (.seq (.reg (.sa R (.nil (.seqN (.block (bS hm fun o27 eo27 hm=>?_)))))))))))))))))
 refine .cut1 (z:= .exit 0) o27 (fun (o27:List Int)=>⟨[(3,.f qI o27)],[],0⟩) ?_ fun K29=>?_
 ·skip
  refine .blkE (.seqN (.seq (.reg (.mv R (.sa R (.nil (.seqN (.ret ?_))))))))
  obtain rfl:=oi hm
  exact WX.rt [] (.inl R) Tryz.results113 (.tmp R .nil) R (fun _ _ _ h=>h) trivial
 refine .cnt 3 R (.c (.nf (r:=qI)) .n) R (.iter (fun (st27:Int×List Int)=>⟨[(4,.i st27.1),(3,.f qI st27.2),(0,.f qI p0)],[],0⟩) eo27 [] R ?_)
 intro st27 res27 hm ih27 ho27
 unfold y2U at hm
 refine .seq (.seq (.reg (.mv R (.mv R (.op (O.len sl32 Z R R) R (.bi R (.nil (.seqN ?_))))))))
 rcases ifS hm with ⟨hc,hm⟩ | ⟨hc,hm⟩
 ·refine .cT R hc ?_
  refine .skip (.seqN (.seq (.block (.seq (.reg (.mv R (.op (O.len sl32 Z R R) R (.sa R (.nil (.seqN (.seq (.block (bS hm fun o38 eo38 hm=>?_)))))))))))))
  refine .cut1 (z:= .exit 2) o38 (fun (o38:Int)=>⟨[(5,.i o38),(4,.i st27.1),(3,.f qI st27.2),(0,.f qI p0)],[],0⟩) ?_ fun K40=>?_
  ·skip
   refine .blkE (.seqN ?_)
   refine .sub (τ:=⟨[(5,.i o38),(4,.i st27.1),(3,.f qI st27.2),(0,.f qI p0)],[],0⟩) ?_ [] R
   refine bS hm fun x41 ex41 hm=>bS hm fun x42 ex42 hm=>bS hm fun x43 ex43 hm=>bS hm fun x44 ex44 hm=>bS hm fun x45 ex45 hm=>?_
   refine .drz 2 [(8,0)] [(0,[],[],[]),(0,[],[],[]),(0,[],[],[]),(0,[oT,oT,oT],[],[]),(0,[],[],[]),(0,[],[],[]),(0,[oF,oF,oF,oF,oT,oT],[],[]),(0,[oF,oF,oF,oF,oT,oT,oT],[],[]),(0,[oF,oF,oF,oF,oT,oT,oT,oT],[],[]),(0,[],[],[]),(0,[],[],[]),(0,[oF,oF,oF,oF,oF,oF,oF,oF,oF,oT,oT],[],[]),(1,[oF,oF,oF,oF,oT,oT,oT,oT,oT,oT,oT,oT],[],[]),(2,[oT,oT,oT,oT,oT,oT,oT,oT,oT,oT,oT,oT,oT],[],[(8,0)]),(2,[oT,oT,oT,oT,oT,oT,oT,oT,oT,oT,oT,oT,oT,oT],[],[(8,0)])] [_,_,_,_,_,_,_,_,_,_,_,_,_,_,_] ⟨[(3,.f qI x45),(4,.i st27.1),(0,.f qI p0)],[],2⟩ ⟨O.mv Z R R,O.mv Z R R,O.mv Z R R,O.s30f sl32 Z R R R R ex41 R,O.mv Z R R,O.mv Z R R,O.ix sl32 Z R R ex42 R,O.ld nag3 Z R (.E lv3) R R,O.bsO (r:=qI) (zs:=([x42]:List Int)) 0 R bs32 R R Z R R R (.c .k .n) R R R,O.mv Z R R,O.mv Z R R,O.sf sl32 Z R R ex43 R,O.ap 1 Tryz.underlying32 el3 R R Z R R (.fr R) ex44 R,O.apf Tryz.underlying32 el3 R Z R (.ow R R) ex45 R,O.as Z R R,trivial⟩ (by kernel_rfl) R ?_
   exact .blkN (.seqN (.reg (.mv R (.bi R (.sa R (.nil ((ih27 _ (oi hm).symm).sub [] R)))))))
  refine .iter (fun (st38:Int)=>⟨[(5,.i st38),(4,.i st27.1),(3,.f qI st27.2),(0,.f qI p0)],[],0⟩) eo38 [] R ?_
  intro st38 res38 hm ih38 ho38
  unfold y1Q at hm
  refine .seq ?_
  refine .join1 (fun (b46:Bool)=>y1P st38 b46=some res38) (fun b46=>⟨[(27,.b b46),(5,.i st38),(4,.i st27.1),(3,.f qI st27.2),(0,.f qI p0)],[],0⟩) ?_ ?_
  ·intro b46 hm
   unfold y1P at hm
   rcases ifS hm with ⟨hc,hm⟩ | ⟨hc,hm⟩
   ·refine .cT R hc ?_
    exact .skip (.seqN (.block (.reg (.mv R (.bi R (.sa R (.nil (.blkN ((ih38 _ (oi hm).symm).sub [] R)))))))))
   ·refine .cF R hc ?_
    exact .exit (.seqX (.seqX ((K40 _ (ho38 _ (oi hm).symm)).sub [] R)))
  ·intro Jj47
   refine .sub (τ:=⟨[(5,.i st38),(4,.i st27.1),(3,.f qI st27.2),(0,.f qI p0)],[],0⟩) ?_ [] R
   refine .drP 2 [(0,[]),(0,[oT])] [_,_] ⟨O.mv Z R R,O.bi Z R R R R,trivial⟩ fun hp48=>?_
   rcases ifS hm with ⟨hc49,hm⟩ | ⟨hc49,hm⟩
   ·skip
    exact bS hm fun x50 ex50 hm=>bS hm fun x51 ex51 hm=> .drF hp48 [(0,[oT,oT]),(0,tT 3),(0,tT 3),(0,tA 3 (fA 1 (tT 1))),(0,tT 6),(0,tT 7),(0,tT 3),(0,tT 3),(0,tA 3 (fA 5 (tT 2))),(0,tA 3 (fA 5 (tT 3))),(0,tT 12),(0,tT 13)] [_,_,_,_,_,_,_,_,_,_,_,_] ⟨[(27,.b (decide (x50 > x51))),(5,.i st38),(4,.i st27.1),(3,.f qI st27.2),(0,.f qI p0)],[],0⟩ ⟨O.kn (O.mv Z R R) hc49,O.mv (Gu.mk R R) R R,O.mv (Gu.mk R R) R R,O.bi (Gu.mk R R) R R R R,O.ix sl32 (Gu.mk R R) R R ex50 R,O.ld nag3 (Gu.mk R R) R (.E lv3) R R,O.mv (Gu.mk R R) R R,O.mv (Gu.mk R R) R R,O.ix sl32 (Gu.mk R R) R R ex51 R,O.ld nag3 (Gu.mk R R) R (.E lv3) R R,O.bi (Gu.mk R R) R R R R,O.pkT Z R R R R,trivial⟩ (by kernel_rfl) R ((Jj47 _ hm).sub [] R)
   ·skip
    exact .drF hp48 [(0,[oT,oT]),(0,tT 3),(0,tT 3),(0,tA 3 (fA 1 (tT 1))),(0,tT 6),(0,tT 7),(0,tT 3),(0,tT 3),(0,tA 3 (fA 5 (tT 2))),(0,tA 3 (fA 5 (tT 3))),(0,tT 12),(0,tT 13)] [_,_,_,_,_,_,_,_,_,_,_,_] ⟨[(27,.b false),(5,.i st38),(4,.i st27.1),(3,.f qI st27.2),(0,.f qI p0)],[],0⟩ ⟨O.kn (O.mv Z R R) hc49,O.skip R R R R,O.skip R R R R,O.skip R R R R,O.skip R R R R,O.skip R R R R,O.skip R R R R,O.skip R R R R,O.skip R R R R,O.skip R R R R,O.skip R R R R,O.pkF Z R R R R,trivial⟩ (by kernel_rfl) R ((Jj47 _ hm).sub [] R)
 ·refine .cF R hc ?_
  exact .exit (.seqX (.seqX ((K29 _ (ho27 _ (oi hm).symm)).sub [] R)))
def y3R (p0:AutT×AutT×List Int) (p1:List Int) (p2:List Int):Option Bool:=
 (idx p1 1).bind fun x1=>
 (y2K p0.2.1 x1 p2).bind fun r2=>
 (idx p1 1).bind fun x3=>
 (y3Q p2).bind fun r4=>
 (y2K p0.2.1 x3 r4).bind fun r5=>
 some (((decide (r2.2 < (p2.length:Int))) || (decide (r5.2 < (p2.length:Int)))) || (r2.1 != r5.1))
theorem y7W {p0:AutT×AutT×List Int} {p1:List Int} {p2:List Int} {r:Bool} (hm:y3R p0 p1 p2=some r):
  Fw Tryz.prog 41 ⟨0,[]⟩ [.a [lF qI p0.1.1,lI p0.1.2.1,lF qI p0.1.2.2.1,lF qT p0.1.2.2.2,lF qI p0.2.1.1,lI p0.2.1.2.1,lF qI p0.2.1.2.2.1,lF qT p0.2.1.2.2.2,lF qI p0.2.2],.f qI p1,.f qI p2] [] (.b r) []:=by
 unfold y3R at hm
 refine Fw.mk' Tryz.func41 R Tryz.ntmps41 R R (fun C=>?_) R R
 refine .seq (.reg (.op (O.box 0 R Z R R R) R (.sa R (.nil (.seqN (.seq ?_))))))
 refine .sub (τ:=⟨[(3,.q 0 0),(1,.f qI p1),(2,.f qI p2)],[(0,.bx 37 [lF qI p0.1.1,lI p0.1.2.1,lF qI p0.1.2.2.1,lF qT p0.1.2.2.2,lF qI p0.2.1.1,lI p0.2.1.2.1,lF qI p0.2.1.2.2.1,lF qT p0.2.1.2.2.2,lF qI p0.2.2])],1⟩) ?_ [] R
 refine bS hm fun x1 ex1 hm=>bS hm fun r2 er2 hm=>?_
 refine .drw [(1,[]),(1,[oT]),(1,[]),(1,[oF,oF,oT]),(1,[oF,oF,oT,oT]),(1,[]),(1,tT 6),(1,tT 7),(1,tT 8),(1,tT 8),(1,tT 9),(1,tT 11)] [_,_,_,_,_,_,_,_,_,_,_,_] ⟨[(8,.i r2.2),(7,.i r2.1),(3,.q 0 0),(1,.f qI p1),(2,.f qI p2)],[(0,.bx 37 [lF qI p0.1.1,lI p0.1.2.1,lF qI p0.1.2.2.1,lF qT p0.1.2.2.2,lF qI p0.2.1.1,lI p0.2.1.2.1,lF qI p0.2.1.2.2.1,lF qT p0.2.1.2.2.2,lF qI p0.2.2])],1⟩ ⟨O.faP y5U Z R R,O.lg (l':=[lF qI p0.2.1.1,lI p0.2.1.2.1,lF qI p0.2.1.2.2.1,lF qT p0.2.1.2.2.2]) ag35 Z R (.B R) R R R,O.mv Z R R,O.ix sl32 Z R R ex1 R,O.ld nag3 Z R (.E lv3) R R,O.mv Z R R,O.ca0 (y6a er2) cf27 R R Z R R R,O.mv Z R R,O.ex Z R R R,O.ex Z R R R,O.as Z R R,O.as Z R R,trivial⟩ (by kernel_rfl) R ?_
 refine .seqN (.seq ?_)
 refine .sub (τ:=⟨[(8,.i r2.2),(7,.i r2.1),(3,.q 0 0),(1,.f qI p1),(2,.f qI p2)],[(0,.bx 37 [lF qI p0.1.1,lI p0.1.2.1,lF qI p0.1.2.2.1,lF qT p0.1.2.2.2,lF qI p0.2.1.1,lI p0.2.1.2.1,lF qI p0.2.1.2.2.1,lF qT p0.2.1.2.2.2,lF qI p0.2.2])],1⟩) ?_ [] R
 refine bS hm fun x3 ex3 hm=>bS hm fun r4 er4 hm=>bS hm fun r5 er5 hm=>?_
 refine .drw [(1,[]),(1,[oT]),(1,[]),(1,[oF,oF,oT]),(1,[oF,oF,oT,oT]),(1,[]),(1,[oF,oF,oF,oF,oF,oT]),(1,tT 7),(1,tT 8),(1,tT 9),(1,tT 9),(1,tT 10),(1,tT 12)] [_,_,_,_,_,_,_,_,_,_,_,_,_] ⟨[(10,.i r5.2),(9,.i r5.1),(8,.i r2.2),(7,.i r2.1),(2,.f qI p2)],[],1⟩ ⟨O.faP y5U Z R R,O.lg (l':=[lF qI p0.2.1.1,lI p0.2.1.2.1,lF qI p0.2.1.2.2.1,lF qT p0.2.1.2.2.2]) ag35 Z R (.B R) R R R,O.mv Z R R,O.ix sl32 Z R R ex3 R,O.ld nag3 Z R (.E lv3) R R,O.mv Z R R,O.ca0 (y7V er4) cf113 R R Z R R R,O.ca0 (y6a er5) cf27 R R Z R R R,O.mv Z R R,O.ex Z R R R,O.ex Z R R R,O.as Z R R,O.as Z R R,trivial⟩ (by kernel_rfl) R ?_
 refine .seqN (.seq (.reg (.mv R (.mv R (.op (O.len sl32 Z R R) R (.bi R (.mv R ?_)))))))
 refine .cut 5 (fun (v6:Bool)=>((decide (r2.2 < (p2.length:Int))) || (decide (r5.2 < (p2.length:Int))))=v6) (fun v6=>⟨[(41,.b v6),(9,.i r5.1),(7,.i r2.1)],[],1⟩) ?_ ?_
 ·rintro _ rfl
  refine .mv R ?_
  refine .cut 4 (fun (v8:Bool)=>(((decide (r2.2 < (p2.length:Int))) || (decide (r5.2 < (p2.length:Int)))) || (r2.1 != r5.1))=v8) (fun v8=>⟨[(46,.b v8)],[],1⟩) ?_ ?_
  ·rintro _ rfl
   refine .sa R (.nil (.seqN (.ret ?_)))
   obtain rfl:=oi hm
   exact WX.rt [] (.inl R) Tryz.results41 (.tmp R .nil) R (fun _ _ _ h=>h) trivial
  ·intro J9
   rcases Bool.eq_false_or_eq_true ((decide (r2.2 < (p2.length:Int))) || (decide (r5.2 < (p2.length:Int)))) with hc | hc
   ·refine .know (d:=42) R hc ?_
    exact .sk R (.sk R (.sk R (.op (O.pkT Z R R R R) R ((J9 true (orT hc).symm).sub [] R))))
   ·refine .know (d:=42) R hc ?_
    exact .op (O.mv (Gu.mk R R) R R) R (.op (O.mv (Gu.mk R R) R R) R (.op (O.bi (Gu.mk R R) R R R R) R (.op (O.pkF Z R R R R) R ((J9 (r2.1 != r5.1) (orF hc).symm).sub [] R))))
 ·intro J7
  rcases Bool.eq_false_or_eq_true (decide (r2.2 < (p2.length:Int))) with hc | hc
  ·refine .know (d:=36) R hc ?_
   exact .sk R (.sk R (.sk R (.sk R (.op (O.pkT Z R R R R) R ((J7 true (orT hc).symm).sub [] R)))))
  ·refine .know (d:=36) R hc ?_
   exact .op (O.mv (Gu.mk R R) R R) R (.op (O.mv (Gu.mk R R) R R) R (.op (O.len sl32 (Gu.mk R R) R R) R (.op (O.bi (Gu.mk R R) R R R R) R (.op (O.pkF Z R R R R) R ((J7 (decide (r5.2 < (p2.length:Int))) (orF hc).symm).sub [] R)))))
def y5q (p0:AutT) (p1:List Int):Option (Int×Bool):=
 if(p0.2.1 == 0) then
  some (0,false)
 else
  (y4k p0 0 p1).bind fun r1=>
  some (r1.1,(r1.2 == (p1.length:Int)))
theorem y8M {p0:AutT} {p1:List Int} {r:Int×Bool} (hm:y5q p0 p1=some r):
  Fw Tryz.prog 111 ⟨0,[]⟩ [.a [lF qI p0.1,lI p0.2.1,lF qI p0.2.2.1,lF qT p0.2.2.2],.f qI p1] [] (.tp [.i r.1,.b r.2]) []:=by
 unfold y5q at hm
 refine Fw.mk' Tryz.func111 R Tryz.ntmps111 R R (fun C=>?_) R R
 refine .seq (.reg (.op (O.box 0 R Z R R R) R (.sa R (.sa R (.nil (.seqN (.seq (.seq (.reg (.op (O.faP y1g Z R R) R (.op (O.ld nag3 Z R (.B R) R R) R (.bi R (.nil (.seqN ?_))))))))))))))
 rcases ifS hm with ⟨hc,hm⟩ | ⟨hc,hm⟩
 ·refine .cT R hc ?_
  refine .seq (.reg (.sa R (.sa R (.nil (.seqN (.ret (.seqR ?_)))))))
  obtain rfl:=oi hm
  exact WX.rt [] (.inl R) Tryz.results111 (.tmp R (.tmp R .nil)) R (fun _ _ _ h=>h) trivial
 ·refine .cF R hc ?_
  refine .skip (.seqN (.seq (.reg (.op (O.lg (l':=[lF qI p0.1,lI p0.2.1,lF qI p0.2.2.1,lF qT p0.2.2.2]) ag35 Z R (.B R) R R R) R (.mv R (bS hm fun r1 er1 hm=> .op (O.ca0 (y6P er1) cf108 R R Z R R R) R (.mv R (.op (O.ex Z R R R) R (.op (O.ex Z R R R) R (.sa R (.sa R (.nil (.seqN (.seq (.reg (.mv R (.mv R (.mv R (.op (O.len sl32 Z R R) R (.bi R (.sa R (.sa R (.nil (.seqN (.ret ?_)))))))))))))))))))))))))
  obtain rfl:=oi hm
  exact WX.rt [] (.inl R) Tryz.results111 (.tmp R (.tmp R .nil)) R (fun _ _ _ h=>h) trivial
def y3f (p0:AutT) (p1:List Int):Option (Bool×Int):=
 (yF p0).bind fun r1=>
 if(r1 != 0) then
  some (false,r1)
 else
  (y5q p0 p1).bind fun r2=>
  some (r2.2,0)
theorem y6k {p0:AutT} {p1:List Int} {r:Bool×Int} (hm:y3f p0 p1=some r):
  Fw Tryz.prog 38 ⟨0,[]⟩ [.a [lF qI p0.1,lI p0.2.1,lF qI p0.2.2.1,lF qT p0.2.2.2],.f qI p1] [] (.tp [.b r.1,.i r.2]) []:=by
 unfold y3f at hm
 refine Fw.mk' Tryz.func38 R Tryz.ntmps38 R R (fun C=>?_) R R
 refine .seq (.reg (.op (O.box 0 R Z R R R) R (.sa R (.sa R (.nil (.seqN (.seq (.seq (.reg (.op (O.lg (l':=[lF qI p0.1,lI p0.2.1,lF qI p0.2.2.1,lF qT p0.2.2.2]) ag35 Z R (.B R) R R R) R (bS hm fun r1 er1 hm=> .op (O.ca0 (y2O er1) cf101 R R Z R R R) R (.sa R (.nil (.seqN (.seq (.reg (.mv R (.bi R (.nil (.seqN ?_))))))))))))))))))))
 rcases ifS hm with ⟨hc,hm⟩ | ⟨hc,hm⟩
 ·refine .cT R hc ?_
  refine .seq (.reg (.mv R (.sa R (.sa R (.nil (.seqN (.ret (.seqR ?_))))))))
  obtain rfl:=oi hm
  exact WX.rt [] (.inl R) Tryz.results38 (.tmp R (.tmp R .nil)) R (fun _ _ _ h=>h) trivial
 ·refine .cF R hc ?_
  refine .skip (.seqN (.seq (.reg (.op (O.lg (l':=[lF qI p0.1,lI p0.2.1,lF qI p0.2.2.1,lF qT p0.2.2.2]) ag35 Z R (.B R) R R R) R (.mv R (bS hm fun r2 er2 hm=> .op (O.ca0 (y8M er2) cf111 R R Z R R R) R (.mv R (.op (O.ex Z R R R) R (.op (O.ex Z R R R) R (.sa R (.sa R (.nil (.seqN (.seq (.reg (.mv R (.sa R (.sa R (.nil (.seqN (.ret ?_)))))))))))))))))))))
  obtain rfl:=oi hm
  exact WX.rt [] (.inl R) Tryz.results38 (.tmp R (.tmp R .nil)) R (fun _ _ _ h=>h) trivial
def y2V (p0:AutT×AutT×List Int) (p1:List Int) (p2:List Int) (st6:Int):Option (Int ⊕ (Unit ⊕ Int)):=
 if decide (st6 < (p2.length:Int)) then
  (idx p2 st6).bind fun x12=>
  (y2J ([p0.1,p0.2.1]:List AutT) p1 x12).bind fun r13=>
  if r13.2.1 then
   (idx p2 st6).bind fun x14=>
   some (.inr (.inr (x14)))
  else
   some (.inl (W (st6 + 1)))
 else
  some (.inr (.inl ()))
def y3S (p0:AutT×AutT×List Int) (p1:List Int) (p2:List Int):Option Int:=
 (iter (y2V p0 p1 p2) 0).bind fun o6=>
 match o6 with
 | .inl u8=>
  some (-1)
 | .inr (u10)=>
  some u10
theorem y7X {p0:AutT×AutT×List Int} {p1:List Int} {p2:List Int} {r:Int} (hm:y3S p0 p1 p2=some r):
  Fw Tryz.prog 115 ⟨0,[]⟩ [.a [lF qI p0.1.1,lI p0.1.2.1,lF qI p0.1.2.2.1,lF qT p0.1.2.2.2,lF qI p0.2.1.1,lI p0.2.1.2.1,lF qI p0.2.1.2.2.1,lF qT p0.2.1.2.2.2,lF qI p0.2.2],.f qI p1,.f qI p2] [] (.i r) []:=by
 unfold y3S at hm
 refine Fw.mk' Tryz.func115 R Tryz.ntmps115 R R (fun C=>?_) R R
 refine .seq (.reg (.op (O.box 0 R Z R R R) R (.sa R (.nil (.seqN (.seq (.seq (.reg (.sa R (.nil (.seqN (.block (bS hm fun o6 eo6 hm=>?_)))))))))))))
 refine .cutU (z:= .exit 0) (fun u8=> .inl u8=o6) (fun (u8:Unit)=>⟨[],[],0⟩) ?_ fun K9=>?_
 ·rintro u8 rfl
  dsimp only at hm
  refine .blkE (.seqN (.seq (.reg (.sa R (.nil (.seqN (.ret ?_)))))))
  obtain rfl:=oi hm
  exact WX.rt [] (.inl R) Tryz.results115 (.tmp R .nil) R (fun _ _ _ h=>h) trivial
 refine .cutU (z:= .ret) (fun u10=> .inr (u10)=o6) (fun (u10:Int)=>⟨[(6,.i u10)],[],0⟩) ?_ fun K11=>?_
 ·rintro u10 rfl
  dsimp only at hm
  refine .blkR (.seqR ?_)
  obtain rfl:=oi hm
  exact WX.rt [] (.inl R) Tryz.results115 (.tmp R .nil) R (fun _ _ _ h=>h) trivial
 refine .iter (fun (st6:Int)=>⟨[(7,.i st6),(3,.q 0 0),(1,.f qI p1),(2,.f qI p2)],[(0,.bx 37 [lF qI p0.1.1,lI p0.1.2.1,lF qI p0.1.2.2.1,lF qT p0.1.2.2.2,lF qI p0.2.1.1,lI p0.2.1.2.1,lF qI p0.2.1.2.2.1,lF qT p0.2.1.2.2.2,lF qI p0.2.2])],1⟩) eo6 [] R ?_
 intro st6 res6 hm ih6 ho6
 unfold y2V at hm
 refine .seq (.seq (.reg (.mv R (.mv R (.op (O.len sl32 Z R R) R (.bi R (.nil (.seqN ?_))))))))
 rcases ifS hm with ⟨hc,hm⟩ | ⟨hc,hm⟩
 ·refine .cT R hc ?_
  refine .skip (.seqN (.seq (.block (.seq ?_))))
  refine .sub (τ:=⟨[(7,.i st6),(3,.q 0 0),(1,.f qI p1),(2,.f qI p2)],[(0,.bx 37 [lF qI p0.1.1,lI p0.1.2.1,lF qI p0.1.2.2.1,lF qT p0.1.2.2.2,lF qI p0.2.1.1,lI p0.2.1.2.1,lF qI p0.2.1.2.2.1,lF qT p0.2.1.2.2.2,lF qI p0.2.2])],1⟩) ?_ [] R
  refine bS hm fun x12 ex12 hm=>bS hm fun r13 er13 hm=>?_
  refine .drw [(1,[]),(1,[oT]),(1,[]),(1,[oF,oF,oT]),(1,tT 4),(1,[]),(1,[]),(1,[]),(1,[oF,oF,oF,oF,oF,oF,oT,oT]),(1,fA 6 (tT 3)),(1,tT 10),(2,tT 11),(2,tT 12),(2,tT 12),(2,tT 12),(2,tT 13),(2,tA 14 (fA 1 (tT 1))),(2,tT 17)] [_,_,_,_,_,_,_,_,_,_,_,_,_,_,_,_,_,_] ⟨[(9,.b r13.2.1),(7,.i st6),(3,.q 0 0),(1,.f qI p1),(2,.f qI p2)],[(0,.bx 37 [lF qI p0.1.1,lI p0.1.2.1,lF qI p0.1.2.2.1,lF qT p0.1.2.2.2,lF qI p0.2.1.1,lI p0.2.1.2.1,lF qI p0.2.1.2.2.1,lF qT p0.2.1.2.2.2,lF qI p0.2.2])],2⟩ ⟨O.faP y5l Z R R,O.lg (l':=[lF qI p0.1.1,lI p0.1.2.1,lF qI p0.1.2.2.1,lF qT p0.1.2.2.2]) ag35 Z R (.B R) R R R,O.faP y5U Z R R,O.lg (l':=[lF qI p0.2.1.1,lI p0.2.1.2.1,lF qI p0.2.1.2.2.1,lF qT p0.2.1.2.2.2]) ag35 Z R (.B R) R R R,O.bsF (r:=rE35) (zs:=([p0.1,p0.2.1]:List AutT)) bs66 R R Z R R R (.c (.p .l (.p .k (.p .l .l))) (.c (.p .l (.p .k (.p .l .l))) .n)) R R R,O.mv Z R R,O.mv Z R R,O.mv Z R R,O.ix sl32 Z R R ex12 R,O.ld nag3 Z R (.E lv3) R R,O.ca (r':= .tp [.h 1,.b r13.2.1,.i r13.2.2]) [1] [(0,ROW qI 3 r13.1)] (some 2) (y5G er13) cf114 R R Z R R R R ⟨⟨_,R,fun _ _ _ _ h=>h⟩,trivial⟩ (fun _ _ _ h=>h) R,O.mv Z R R,O.ex Z R R R,O.ex Z R R R,O.ex Z R R R,O.as Z R R,O.as Z R R,O.as Z R R,trivial⟩ (by kernel_rfl) R ?_
  refine .seqN (.seq (.reg (.mv R (.nil (.seqN ?_)))))
  rcases ifS hm with ⟨hc,hm⟩ | ⟨hc,hm⟩
  ·refine .cT R hc ?_
   exact .seq (.reg (.mv R (.mv R (bS hm fun x14 ex14 hm=> .op (O.ix sl32 Z R R ex14 R) R (.op (O.ld nag3 Z R (.E lv3) R R) R (.sa R (.nil (.seqN (.ret (.blkR (.seqR (.seqR ((K11 _ (ho6 _ (oi hm).symm)).sub [] R)))))))))))))
  ·refine .cF R hc ?_
   exact .skip (.blkN (.seqN (.reg (.mv R (.bi R (.sa R (.nil ((ih6 _ (oi hm).symm).sub [] R))))))))
 ·refine .cF R hc ?_
  exact .exit (.seqX (.seqX ((K9 _ (ho6 _ (oi hm).symm)).sub [] R)))
def y2i (st64:Int×List Int×List Int×List Int×EdgL) (st91:Int×List Int×List Int×EdgL) (x96:Int×Int×Int) (l97:List Int) (l98:List Int):Option ((Int×List Int×List Int×EdgL) ⊕ (List Int×List Int×EdgL)):=
 (idx l98 x96.2.2).bind fun x100=>
 (app st91.2.2.2 ([(st64.1,x96.2.1,x100)]:List (Int×Int×Int))).bind fun x101=>
 some (.inl (W (st91.1 + 1),l97,l98,x101))
def y2j (st64:Int×List Int×List Int×List Int×EdgL) (r72:EdgL) (st91:Int×List Int×List Int×EdgL):Option ((Int×List Int×List Int×EdgL) ⊕ (List Int×List Int×EdgL)):=
 if decide (st91.1 < (r72.length:Int)) then
  (idx r72 st91.1).bind fun x96=>
  (idx st91.2.2.1 x96.2.2).bind fun x102=>
  if decide (x102 < 0) then
   (idx st91.2.2.1 x96.2.2).bind fun x103=>
   (upd st91.2.2.1 x96.2.2 (st91.2.1.length:Int)).bind fun x104=>
   (app st91.2.1 ([x96.2.2]:List Int)).bind fun x105=>
   y2i st64 st91 x96 x105 x104
  else
   y2i st64 st91 x96 st91.2.1 st91.2.2.1
 else
  some (.inr st91.2)
def y2k (p0:AutT) (st64:Int×List Int×List Int×List Int×EdgL) (l69:List Int):Option ((Int×List Int×List Int×List Int×EdgL) ⊕ (List Int×List Int×EdgL)):=
 (idx st64.2.1 st64.1).bind fun x71=>
 (y4x p0 x71).bind fun r72=>
 (iter (y2j st64 r72) (0,st64.2.1,st64.2.2.1,st64.2.2.2.2)).bind fun o91=>
 some (.inl (W (st64.1 + 1),o91.1,o91.2.1,l69,o91.2.2))
def y2l (p0:AutT) (st64:Int×List Int×List Int×List Int×EdgL):Option ((Int×List Int×List Int×List Int×EdgL) ⊕ (List Int×List Int×EdgL)):=
 if decide (st64.1 < (st64.2.1.length:Int)) then
  (idx st64.2.1 st64.1).bind fun x106=>
  (y1H p0.2.2.1 x106).bind fun r107=>
  if r107.2 then
   (app st64.2.2.2.1 ([st64.1]:List Int)).bind fun x108=>
   y2k p0 st64 x108
  else
   y2k p0 st64 st64.2.2.2.1
 else
  some (.inr (st64.2.1,st64.2.2.2))
def y2m (x2:List Int) (st9:Int×List Int):Option ((Int×List Int) ⊕ (List Int)):=
 if decide (st9.1 < (x2.length:Int)) then
  (idx st9.2 st9.1).bind fun x109=>
  (upd st9.2 st9.1 (-1)).bind fun x110=>
  some (.inl (W (st9.1 + 1),x110))
 else
  some (.inr st9.2)
def y4l (p0:AutT):Option AutT:=
 (y1a p0.1).bind fun r1=>
 if(p0.2.1 == 0) then
  some (r1,0,([]:List Int),([]:List (Int×Int×Int)))
 else
  (mkL p0.2.1 (0:Int)).bind fun x2=>
  (iter (y2m x2) (0,x2)).bind fun o9=>
  (idx o9 0).bind fun x12=>
  (upd o9 0 0).bind fun x13=>
  (iter (y2l p0) (0,([0]:List Int),x13,([]:List Int),([]:List (Int×Int×Int)))).bind fun o64=>
  some (r1,(o64.1.length:Int),o64.2)
theorem y8c {p0:AutT} {r:AutT} (hm:y4l p0=some r):
  Fw Tryz.prog 178 ⟨0,[]⟩ [.a [lF qI p0.1,lI p0.2.1,lF qI p0.2.2.1,lF qT p0.2.2.2]] [] (.g [lH 0,lI r.2.1,lH 1,lH 2]) [ROW qI 3 r.1,ROW qI 3 r.2.2.1,ROW qT 124 r.2.2.2]:=by
 unfold y4l at hm
 refine Fw.mk' Tryz.func178 R Tryz.ntmps178 R R (fun C=>?_) R R
 refine .seq (.reg (.op (O.box 0 R Z R R R) R (.op (O.al 1 R zz35 R Z R) R (.nil (.seqN (.seq (.reg (.op (O.faP y1R Z R R) R (.op (O.ld nag32 Z R (.B R) R R) R (bS hm fun r1 er1 hm=> .op (O.ca (r':= .h 2) [2] [(0,ROW qI 3 r1)] (some 3) (y4p er1) cf103 R R Z R R R R ⟨⟨_,R,fun _ _ _ _ h=>h⟩,trivial⟩ (fun _ _ _ h=>h) R) R (.op (O.bu (l:=[lH 2,lI 0,lN,lN]) pl35 R Z R R R) R (.op (O.al 3 R zz35 R Z R) R (.op (O.st ag35.sz Z R R R R R) R (.nil (.seqN (.seq (.seq (.reg (.op (O.faP y1g Z R R) R (.op (O.ld nag3 Z R (.B R) R R) R (.bi R (.nil (.seqN ?_)))))))))))))))))))))))
 rcases ifS hm with ⟨hc,hm⟩ | ⟨hc,hm⟩
 ·refine .cT R hc ?_
  refine .seq (.reg (.op (O.lg (l':=[lH 2,lI 0,lN,lN]) ag35 Z R (.B R) R R R) R (.op (O.st ag35.sz Z R R R R R) R (.nil (.seqN (.ret (.seqR (.nlb qI 3 1 2 R R (.nlb qT 124 1 3 R R ?_)))))))))
  obtain rfl:=oi hm
  exact WX.rt [2,4,5] (.inl R) Tryz.results178 (.cell R R ag35 R .nil) R (fun _ _ _ h=>h) ⟨⟨_,R,fun _ _ _ _ h=>h⟩,⟨_,R,fun _ _ _ _ h=>h⟩,⟨_,R,fun _ _ _ _ h=>h⟩,trivial⟩
 ·refine .cF R hc ?_
  refine .skip (.seqN (.seq (.reg (.op (O.faP y1g Z R R) R (.op (O.ld nag3 Z R (.B R) R R) R (bS hm fun x2 ex2 hm=> .op (O.mk (z:=(0:Int)) 4 Tryz.underlying32 zr3 R R Z R R ex2 R) R (.sa R (.nil (.seqN (.seq (.seq (.reg (.mv R (.op (O.lenH sl32 Z R R R) R (.mv R (.nil (.seqN (.block (bS hm fun o9 eo9 hm=>?_)))))))))))))))))))
  refine .cut1 (z:= .exit 0) o9 (fun (o9:List Int)=>⟨[(4,.h 0),(3,.q 1 0),(2,.q 3 0),(1,.q 4 0)],[(0,ROW qI 3 o9),(1,.bx 35 [lH 2,lI 0,lN,lN]),(2,ROW qI 3 r1),(3,.bx 35 [lN,lI 0,lN,lN]),(4,.bx 35 [lF qI p0.1,lI p0.2.1,lF qI p0.2.2.1,lF qT p0.2.2.2])],5⟩) ?_ fun K11=>?_
  ·skip
   refine .blkE (.seqN (.seq (.reg (.mv R (bS hm fun x12 ex12 hm=> .op (O.ir sl32 Z R R R ex12 R) R (bS hm fun x13 ex13 hm=> .op (O.su (z:=0) nag3.sz Z R R ex12 ex13 R R R lv3 R .k) R (.nil (.seqN (.seq (.reg (.op (O.bsO (r:=qI) (zs:=([0]:List Int)) 5 R bs32 R R Z R R R (.c .k .n) R R R) R (.sa R (.nil (.seqN (.seq (.seq (.reg (.sa R (.nil (.seqN (.block (bS hm fun o64 eo64 hm=>?_))))))))))))))))))))))
   refine .cut1 (z:= .exit 2) o64 (fun (o64:List Int×List Int×EdgL)=>⟨[(6,.h 0),(3,.q 1 0),(2,.q 5 0)],[(0,ROW qI 3 o64.1),(1,.bx 35 [lH 2,lI 0,lH 3,lH 4]),(2,ROW qI 3 r1),(3,ROW qI 3 o64.2.1),(4,ROW qT 124 o64.2.2),(5,.bx 35 [lN,lI 0,lN,lN])],6⟩) ?_ fun K68=>?_
   ·skip
    refine .blkE (.seqN (.seq (.reg (.mv R (.op (O.lenH sl32 Z R R R) R (.op (O.faP y1g Z R R) R (.op (O.st nag3.sz Z R R R R R) R (.nil (.seqN (.seq (.reg (.op (O.lg (l':=[lH 2,lI (o64.1.length:Int),lH 3,lH 4]) ag35 Z R (.B R) R R R) R (.op (O.st ag35.sz Z R R R R R) R (.nil (.seqN (.ret ?_))))))))))))))))
    obtain rfl:=oi hm
    exact WX.rt [2,3,4] (.inl R) Tryz.results178 (.cell R R ag35 R .nil) R (fun _ _ _ h=>h) ⟨⟨_,R,fun _ _ _ _ h=>h⟩,⟨_,R,fun _ _ _ _ h=>h⟩,⟨_,R,fun _ _ _ _ h=>h⟩,trivial⟩
   refine .nlb qI 3 1 2 R R (.nlb qT 124 1 3 R R (.iter (fun (st64:Int×List Int×List Int×List Int×EdgL)=>⟨[(7,.i st64.1),(6,.h 0),(4,.h 1),(3,.q 2 0),(2,.q 6 0),(1,.q 7 0)],[(0,ROW qI 3 st64.2.1),(1,ROW qI 3 st64.2.2.1),(2,.bx 35 [lH 3,lI 0,lH 4,lH 5]),(3,ROW qI 3 r1),(4,ROW qI 3 st64.2.2.2.1),(5,ROW qT 124 st64.2.2.2.2),(6,.bx 35 [lN,lI 0,lN,lN]),(7,.bx 35 [lF qI p0.1,lI p0.2.1,lF qI p0.2.2.1,lF qT p0.2.2.2])],8⟩) eo64 [(0,5),(1,0),(2,1),(3,2),(4,6),(5,7),(6,3),(7,4)] R ?_))
   intro st64 res64 hm ih64 ho64
   unfold y2l at hm
   refine .seq (.seq (.reg (.mv R (.mv R (.op (O.lenH sl32 Z R R R) R (.bi R (.nil (.seqN ?_))))))))
   rcases ifS hm with ⟨hc,hm⟩ | ⟨hc,hm⟩
   ·refine .cT R hc ?_
    refine .skip (.seqN (.seq (.block ?_)))
    refine .join1 (fun (l69:List Int)=>y2k p0 st64 l69=some res64) (fun l69=>⟨[(7,.i st64.1),(6,.h 0),(4,.h 1),(3,.q 2 0),(2,.q 6 0),(1,.q 7 0)],[(0,ROW qI 3 st64.2.1),(1,ROW qI 3 st64.2.2.1),(2,.bx 35 [lH 3,lI 0,lH 4,lH 5]),(3,ROW qI 3 r1),(4,ROW qI 3 l69),(5,ROW qT 124 st64.2.2.2.2),(6,.bx 35 [lN,lI 0,lN,lN]),(7,.bx 35 [lF qI p0.1,lI p0.2.1,lF qI p0.2.2.1,lF qT p0.2.2.2])],8⟩) ?_ ?_
    ·intro l69 hm
     unfold y2k at hm
     refine .seq ?_
     refine .sub (τ:=⟨[(7,.i st64.1),(6,.h 0),(4,.h 1),(3,.q 2 0),(2,.q 6 0),(1,.q 7 0)],[(0,ROW qI 3 st64.2.1),(1,ROW qI 3 st64.2.2.1),(2,.bx 35 [lH 3,lI 0,lH 4,lH 5]),(3,ROW qI 3 r1),(4,ROW qI 3 l69),(5,ROW qT 124 st64.2.2.2.2),(6,.bx 35 [lN,lI 0,lN,lN]),(7,.bx 35 [lF qI p0.1,lI p0.2.1,lF qI p0.2.2.1,lF qT p0.2.2.2])],8⟩) ?_ [] R
     refine bS hm fun x71 ex71 hm=>bS hm fun r72 er72 hm=>?_
     refine .drw [(8,[]),(8,[]),(8,[]),(8,[oF,oT,oT]),(8,fA 1 (tT 3)),(8,tT 5),(8,tT 6),(8,[])] [_,_,_,_,_,_,_,_] ⟨[(65,.i 0),(64,.i (r72.length:Int)),(63,.f qT r72),(7,.i st64.1),(6,.h 0),(4,.h 1),(3,.q 2 0),(2,.q 6 0),(1,.q 7 0)],[(0,ROW qI 3 st64.2.1),(1,ROW qI 3 st64.2.2.1),(2,.bx 35 [lH 3,lI 0,lH 4,lH 5]),(3,ROW qI 3 r1),(4,ROW qI 3 l69),(5,ROW qT 124 st64.2.2.2.2),(6,.bx 35 [lN,lI 0,lN,lN]),(7,.bx 35 [lF qI p0.1,lI p0.2.1,lF qI p0.2.2.1,lF qT p0.2.2.2])],8⟩ ⟨O.lg (l':=[lF qI p0.1,lI p0.2.1,lF qI p0.2.2.1,lF qT p0.2.2.2]) ag35 Z R (.B R) R R R,O.mv Z R R,O.mv Z R R,O.ir sl32 Z R R R ex71 R,O.ld nag3 Z R (.R R ex71 lv3) R R,O.ca0 (y7x er72) cf102 R R Z R R R,O.len sl33 Z R R,O.mv Z R R,trivial⟩ (by kernel_rfl) R ?_
     refine .seqN (.block (bS hm fun o91 eo91 hm=>?_))
     refine .cut1 (z:= .exit 4) o91 (fun (o91:List Int×List Int×EdgL)=>⟨[(7,.i st64.1),(6,.h 0),(4,.h 1),(3,.q 2 0),(2,.q 6 0),(1,.q 7 0)],[(0,ROW qI 3 o91.1),(1,ROW qI 3 o91.2.1),(2,.bx 35 [lH 3,lI 0,lH 4,lH 5]),(3,ROW qI 3 r1),(4,ROW qI 3 l69),(5,ROW qT 124 o91.2.2),(6,.bx 35 [lN,lI 0,lN,lN]),(7,.bx 35 [lF qI p0.1,lI p0.2.1,lF qI p0.2.2.1,lF qT p0.2.2.2])],8⟩) ?_ fun K95=>?_
     ·skip
      exact .blkE (.blkN (.seqN (.reg (.mv R (.bi R (.sa R (.nil ((ih64 _ (oi hm).symm).sub [] R))))))))
     refine .iter (fun (st91:Int×List Int×List Int×EdgL)=>⟨[(65,.i st91.1),(64,.i (r72.length:Int)),(63,.f qT r72),(7,.i st64.1),(6,.h 0),(4,.h 1),(3,.q 2 0),(2,.q 6 0),(1,.q 7 0)],[(0,ROW qI 3 st91.2.1),(1,ROW qI 3 st91.2.2.1),(2,.bx 35 [lH 3,lI 0,lH 4,lH 5]),(3,ROW qI 3 r1),(4,ROW qI 3 l69),(5,ROW qT 124 st91.2.2.2),(6,.bx 35 [lN,lI 0,lN,lN]),(7,.bx 35 [lF qI p0.1,lI p0.2.1,lF qI p0.2.2.1,lF qT p0.2.2.2])],8⟩) eo91 [] R ?_
     intro st91 res91 hm ih91 ho91
     unfold y2j at hm
     refine .seq (.reg (.bi R (.nil (.seqN (.seq ?_)))))
     rcases ifS hm with ⟨hc,hm⟩ | ⟨hc,hm⟩
     ·refine .cT R hc ?_
      refine .skip (.seqN (.seq (.block (.seq (.reg (bS hm fun x96 ex96 hm=> .op (O.ix sl33 Z R R ex96 R) R (.op (O.lg (l':=[lI x96.1,lI x96.2.1,lI x96.2.2]) ag124 Z R (.E lv124) R R R) R (.op (O.al 8 R zz124 R Z R) R (.op (O.st ag124.sz Z R R R R R) R (.nil (.seqN ?_)))))))))))
      refine .join2 (fun (l97:List Int) (l98:List Int)=>y2i st64 st91 x96 l97 l98=some res91) (fun l97 l98=>⟨[(6,.h 0),(11,.q 1 0),(65,.i st91.1),(64,.i (r72.length:Int)),(63,.f qT r72),(7,.i st64.1),(4,.h 2),(3,.q 3 0),(2,.q 7 0),(1,.q 8 0)],[(0,ROW qI 3 l97),(1,.bx 124 [lI x96.1,lI x96.2.1,lI x96.2.2]),(2,ROW qI 3 l98),(3,.bx 35 [lH 4,lI 0,lH 5,lH 6]),(4,ROW qI 3 r1),(5,ROW qI 3 l69),(6,ROW qT 124 st91.2.2.2),(7,.bx 35 [lN,lI 0,lN,lN]),(8,.bx 35 [lF qI p0.1,lI p0.2.1,lF qI p0.2.2.1,lF qT p0.2.2.2])],9⟩) ?_ ?_
      ·intro l97 l98 hm
       unfold y2i at hm
       refine .sub (τ:=⟨[(6,.h 0),(11,.q 1 0),(65,.i st91.1),(64,.i (r72.length:Int)),(63,.f qT r72),(7,.i st64.1),(4,.h 2),(3,.q 3 0),(2,.q 7 0),(1,.q 8 0)],[(0,ROW qI 3 l97),(1,.bx 124 [lI x96.1,lI x96.2.1,lI x96.2.2]),(2,ROW qI 3 l98),(3,.bx 35 [lH 4,lI 0,lH 5,lH 6]),(4,ROW qI 3 r1),(5,ROW qI 3 l69),(6,ROW qT 124 st91.2.2.2),(7,.bx 35 [lN,lI 0,lN,lN]),(8,.bx 35 [lF qI p0.1,lI p0.2.1,lF qI p0.2.2.1,lF qT p0.2.2.2])],9⟩) ?_ [] R
       refine bS hm fun x100 ex100 hm=>bS hm fun x101 ex101 hm=>?_
       refine .drg 10 [(9,[]),(9,[oT]),(9,[]),(9,[]),(9,[oF,oF,oF,oT]),(9,[]),(9,[]),(9,[oF,oF,oF,oF,oF,oF,oT]),(9,fA 5 (tT 3)),(9,fA 5 (tT 4)),(9,fA 2 (tT 8)),(9,fA 2 (tT 9)),(9,tT 12),(10,tT 13),(10,tT 14)] [_,_,_,_,_,_,_,_,_,_,_,_,_,_,_] ⟨[(6,.h 0),(65,.i st91.1),(64,.i (r72.length:Int)),(63,.f qT r72),(7,.i st64.1),(4,.h 2),(3,.q 3 0),(2,.q 7 0),(1,.q 8 0)],[(0,ROW qI 3 l97),(2,ROW qI 3 l98),(3,.bx 35 [lH 4,lI 0,lH 5,lH 9]),(4,ROW qI 3 r1),(5,ROW qI 3 l69),(9,ROW qT 124 x101),(7,.bx 35 [lN,lI 0,lN,lN]),(8,.bx 35 [lF qI p0.1,lI p0.2.1,lF qI p0.2.2.1,lF qT p0.2.2.2])],10⟩ ⟨O.faP yG Z R R,O.ld nag33 Z R (.B R) R R,O.mv Z R R,O.faP y4L Z R R,O.ld nag3 Z R (.B R) R R,O.mv Z R R,O.faP y2W Z R R,O.ld nag3 Z R (.B R) R R,O.ir sl32 Z R R R ex100 R,O.ld nag3 Z R (.R R ex100 lv3) R R,O.bu (l:=[lI st64.1,lI x96.2.1,lI x100]) pl124 R Z R R R,O.bsF (r:=qT) (zs:=([(st64.1,x96.2.1,x100)]:List (Int×Int×Int))) bs33 R R Z R R R (.c (.p .k (.p .k .k)) .n) R R R,O.ap 9 Tryz.underlying33 el124 R R Z R R (.fr R) ex101 R,O.faP yG Z R R,O.st nag33.sz Z R R R R R,trivial⟩ (by kernel_rfl) R ?_
       exact .blkN (.seqN (.reg (.bi R (.mv R (.nil ((ih91 _ (oi hm).symm).sub [(1,2),(2,3),(3,4),(4,5),(5,9),(6,7),(7,8)] R))))))
      ·intro Jj99
       refine .seq (.reg (.mv R (.op (O.faP y2W Z R R) R (.op (O.ld nag3 Z R (.B R) R R) R (bS hm fun x102 ex102 hm=> .op (O.ir sl32 Z R R R ex102 R) R (.op (O.ld nag3 Z R (.R R ex102 lv3) R R) R (.bi R (.nil (.seqN ?_)))))))))
       rcases ifS hm with ⟨hc,hm⟩ | ⟨hc,hm⟩
       ·refine .cT R hc ?_
        exact .seq (.reg (.mv R (.op (O.faP y2W Z R R) R (.op (O.ld nag3 Z R (.B R) R R) R (.mv R (.op (O.lenH sl32 Z R R R) R (bS hm fun x103 ex103 hm=> .op (O.ir sl32 Z R R R ex103 R) R (bS hm fun x104 ex104 hm=> .op (O.su (z:=(st91.2.1.length:Int)) nag3.sz Z R R ex103 ex104 R R R lv3 R .k) R (.nil (.seqN (.reg (.mv R (.op (O.faP y2W Z R R) R (.op (O.ld nag3 Z R (.B R) R R) R (.op (O.bsF (r:=qI) (zs:=([x96.2.2]:List Int)) bs32 R R Z R R R (.c .k .n) R R R) R (bS hm fun x105 ex105 hm=> .op (O.ap 9 Tryz.underlying32 el3 R R Z R R (.fr R) ex105 R) R (.sa R (.nil ((Jj99 _ _ hm).sub [(0,9),(1,8),(2,1),(3,2),(4,3),(5,4),(6,5),(7,6),(8,7)] R)))))))))))))))))))
       ·refine .cF R hc ?_
        exact .skip ((Jj99 _ _ hm).sub [(1,8),(2,1),(3,2),(4,3),(5,4),(6,5),(7,6),(8,7)] R)
     ·refine .cF R hc ?_
      exact .exit (.seqX (.seqX ((K95 _ (ho91 _ (oi hm).symm)).sub [] R)))
    ·intro Jj70
     refine .seq ?_
     refine .sub (τ:=⟨[(7,.i st64.1),(6,.h 0),(4,.h 1),(3,.q 2 0),(2,.q 6 0),(1,.q 7 0)],[(0,ROW qI 3 st64.2.1),(1,ROW qI 3 st64.2.2.1),(2,.bx 35 [lH 3,lI 0,lH 4,lH 5]),(3,ROW qI 3 r1),(4,ROW qI 3 st64.2.2.2.1),(5,ROW qT 124 st64.2.2.2.2),(6,.bx 35 [lN,lI 0,lN,lN]),(7,.bx 35 [lF qI p0.1,lI p0.2.1,lF qI p0.2.2.1,lF qT p0.2.2.2])],8⟩) ?_ [] R
     refine bS hm fun x106 ex106 hm=>bS hm fun r107 er107 hm=>?_
     refine .drw [(8,[]),(8,[oT]),(8,[]),(8,[]),(8,[oF,oF,oT,oT]),(8,fA 2 (tT 3)),(8,tT 6),(8,tT 7),(8,tT 8),(8,tT 8),(8,tT 9),(8,tT 11)] [_,_,_,_,_,_,_,_,_,_,_,_] ⟨[(9,.b r107.2),(7,.i st64.1),(6,.h 0),(4,.h 1),(3,.q 2 0),(2,.q 6 0),(1,.q 7 0)],[(0,ROW qI 3 st64.2.1),(1,ROW qI 3 st64.2.2.1),(2,.bx 35 [lH 3,lI 0,lH 4,lH 5]),(3,ROW qI 3 r1),(4,ROW qI 3 st64.2.2.2.1),(5,ROW qT 124 st64.2.2.2.2),(6,.bx 35 [lN,lI 0,lN,lN]),(7,.bx 35 [lF qI p0.1,lI p0.2.1,lF qI p0.2.2.1,lF qT p0.2.2.2])],8⟩ ⟨O.faP y3y Z R R,O.ld nag32 Z R (.B R) R R,O.mv Z R R,O.mv Z R R,O.ir sl32 Z R R R ex106 R,O.ld nag3 Z R (.R R ex106 lv3) R R,O.ca0 (y5E er107) cf158 R R Z R R R,O.mv Z R R,O.ex Z R R R,O.ex Z R R R,O.as Z R R,O.as Z R R,trivial⟩ (by kernel_rfl) R ?_
     refine .seqN (.seq (.reg (.mv R (.nil (.seqN ?_)))))
     rcases ifS hm with ⟨hc,hm⟩ | ⟨hc,hm⟩
     ·refine .cT R hc ?_
      exact .reg (.op (O.faP y3y Z R R) R (.op (O.ld nag32 Z R (.B R) R R) R (.mv R (.op (O.bsF (r:=qI) (zs:=([st64.1]:List Int)) bs32 R R Z R R R (.c .k .n) R R R) R (bS hm fun x108 ex108 hm=> .op (O.ap 8 Tryz.underlying32 el3 R R Z R R (.fr R) ex108 R) R (.op (O.faP y3y Z R R) R (.op (O.st nag32.sz Z R R R R R) R (.nil ((Jj70 _ hm).sub [(4,8)] R)))))))))
     ·refine .cF R hc ?_
      exact .skip ((Jj70 _ hm).sub [] R)
   ·refine .cF R hc ?_
    exact .exit (.seqX (.seqX ((K68 _ (ho64 _ (oi hm).symm)).sub [(1,2),(2,3),(3,4),(4,5),(5,6)] R)))
  refine .iter (fun (st9:Int×List Int)=>⟨[(25,.i st9.1),(24,.i (x2.length:Int)),(4,.h 0),(3,.q 1 0),(2,.q 3 0),(1,.q 4 0)],[(0,ROW qI 3 st9.2),(1,.bx 35 [lH 2,lI 0,lN,lN]),(2,ROW qI 3 r1),(3,.bx 35 [lN,lI 0,lN,lN]),(4,.bx 35 [lF qI p0.1,lI p0.2.1,lF qI p0.2.2.1,lF qT p0.2.2.2])],5⟩) eo9 [(0,4),(1,3),(3,1),(4,0)] R ?_
  intro st9 res9 hm ih9 ho9
  unfold y2m at hm
  refine .seq (.reg (.bi R (.nil (.seqN (.seq ?_)))))
  rcases ifS hm with ⟨hc,hm⟩ | ⟨hc,hm⟩
  ·refine .cT R hc ?_
   exact .skip (.seqN (.seq (.block (.seq (.reg (.mv R (.sa R (.nil (.seqN (.reg (.mv R (.mv R (bS hm fun x109 ex109 hm=> .op (O.ir sl32 Z R R R ex109 R) R (bS hm fun x110 ex110 hm=> .op (O.su (z:=(-1)) nag3.sz Z R R ex109 ex110 R R R lv3 R .k) R (.nil (.blkN (.seqN (.reg (.bi R (.mv R (.nil ((ih9 _ (oi hm).symm).sub [] R))))))))))))))))))))))
  ·refine .cF R hc ?_
   exact .exit (.seqX (.seqX ((K11 _ (ho9 _ (oi hm).symm)).sub [] R)))
def y4Z (p0:AutT):Option (AutT×Int):=
 (yF p0).bind fun r1=>
 if(r1 != 0) then
  some ((([]:List Int),0,([]:List Int),([]:List (Int×Int×Int))),r1)
 else
  (y4l p0).bind fun r2=>
  some (r2,0)
theorem y8d {p0:AutT} {r:AutT×Int} (hm:y4Z p0=some r):
  Fw Tryz.prog 116 ⟨0,[]⟩ [.a [lF qI p0.1,lI p0.2.1,lF qI p0.2.2.1,lF qT p0.2.2.2]] [] (.tp [.a [lH 0,lI r.1.2.1,lH 1,lH 2],.i r.2]) [ROW qI 3 r.1.1,ROW qI 3 r.1.2.2.1,ROW qT 124 r.1.2.2.2]:=by
 unfold y4Z at hm
 refine Fw.mk' Tryz.func116 R Tryz.ntmps116 R R (fun C=>?_) R R
 refine .seq (.reg (.op (O.box 0 R Z R R R) R (.op (O.al 1 R zz35 R Z R) R (.sa R (.nil (.seqN (.seq (.seq (.reg (.op (O.lg (l':=[lF qI p0.1,lI p0.2.1,lF qI p0.2.2.1,lF qT p0.2.2.2]) ag35 Z R (.B R) R R R) R (bS hm fun r1 er1 hm=> .op (O.ca0 (y2O er1) cf101 R R Z R R R) R (.sa R (.nil (.seqN (.seq (.reg (.mv R (.bi R (.nil (.seqN ?_))))))))))))))))))))
 rcases ifS hm with ⟨hc,hm⟩ | ⟨hc,hm⟩
 ·refine .cT R hc ?_
  refine .seq (.reg (.op (O.bu (l:=[lN,lI 0,lN,lN]) pl35 R Z R R R) R (.mv R (.op (O.st ag35.sz Z R R R R R) R (.sa R (.nil (.seqN (.ret (.seqR (.nlb qI 3 1 0 R R (.nlb qI 3 1 2 R R (.nlb qT 124 1 3 R R ?_))))))))))))
  obtain rfl:=oi hm
  exact WX.rt [2,3,4] (.inl R) Tryz.results116 (.cell R R ag35 R (.tmp R .nil)) R (fun _ _ _ h=>h) ⟨⟨_,R,fun _ _ _ _ h=>h⟩,⟨_,R,fun _ _ _ _ h=>h⟩,⟨_,R,fun _ _ _ _ h=>h⟩,trivial⟩
 ·refine .cF R hc ?_
  refine .skip (.seqN (.seq (.reg (.op (O.lg (l':=[lF qI p0.1,lI p0.2.1,lF qI p0.2.2.1,lF qT p0.2.2.2]) ag35 Z R (.B R) R R R) R (bS hm fun r2 er2 hm=> .op (O.ca (r':= .g [lH 2,lI r2.2.1,lH 3,lH 4]) [2,3,4] [(0,ROW qI 3 r2.1),(1,ROW qI 3 r2.2.2.1),(2,ROW qT 124 r2.2.2.2)] (some 5) (y8c er2) cf178 R R Z R R R R ⟨⟨_,R,fun _ _ _ _ h=>h⟩,⟨_,R,fun _ _ _ _ h=>h⟩,⟨_,R,fun _ _ _ _ h=>h⟩,trivial⟩ (fun _ _ _ h=>h) R) R (.op (O.st ag35.sz Z R R R R R) R (.sa R (.nil (.seqN (.ret ?_))))))))))
  obtain rfl:=oi hm
  exact WX.rt [2,3,4] (.inl R) Tryz.results116 (.cell R R ag35 R (.tmp R .nil)) R (fun _ _ _ h=>h) ⟨⟨_,R,fun _ _ _ _ h=>h⟩,⟨_,R,fun _ _ _ _ h=>h⟩,⟨_,R,fun _ _ _ _ h=>h⟩,trivial⟩
def y1j (st17:Int×EdgL) (l21:List (Int×Int×Int)):Option ((Int×EdgL) ⊕ EdgL):=
 some (.inl (W (st17.1 + 1),l21))
def y1k (st17:Int×EdgL) (x23:Int×Int×Int) (b24:Bool):Option ((Int×EdgL) ⊕ EdgL):=
 if b24 then
  (app st17.2 ([x23]:List (Int×Int×Int))).bind fun x26=>
  y1j st17 x26
 else
  y1j st17 st17.2
def y1l (p0:AutT×AutT×List Int) (p1:List Int) (r1:AutT×List (List Int)×Int) (st17:Int×EdgL):Option ((Int×EdgL) ⊕ EdgL):=
 if decide (st17.1 < (r1.1.2.2.2.length:Int)) then
  (idx r1.1.2.2.2 st17.1).bind fun x23=>
  (yt p0.2.2 x23.2.1).bind fun r27=>
  if r27 then
   y1k st17 x23 true
  else
   (idx r1.2.1 x23.1).bind fun x30=>
   (y3S p0 x30 p1).bind fun r31=>
   y1k st17 x23 (r31 == x23.2.1)
 else
  some (.inr st17.2)
def y2D (p0:AutT×AutT×List Int) (p1:List Int):Option AutT:=
 (ym ([p0.1,p0.2.1]:List AutT)).bind fun r1=>
 (iter (y1l p0 p1 r1) (0,([]:List (Int×Int×Int)))).bind fun o17=>
 (y4Z (r1.1.1,r1.1.2.1,r1.1.2.2.1,o17)).bind fun r20=>
 some r20.1
theorem y6Z {p0:AutT×AutT×List Int} {p1:List Int} {r:AutT} (hm:y2D p0 p1=some r):
  Fw Tryz.prog 43 ⟨0,[]⟩ [.a [lF qI p0.1.1,lI p0.1.2.1,lF qI p0.1.2.2.1,lF qT p0.1.2.2.2,lF qI p0.2.1.1,lI p0.2.1.2.1,lF qI p0.2.1.2.2.1,lF qT p0.2.1.2.2.2,lF qI p0.2.2],.f qI p1] [] (.g [lH 0,lI r.2.1,lH 1,lH 2]) [ROW qI 3 r.1,ROW qI 3 r.2.2.1,ROW qT 124 r.2.2.2]:=by
 unfold y2D at hm
 refine Fw.mk' Tryz.func43 R Tryz.ntmps43 R R (fun C=>?_) R R
 refine .seq (.reg (.op (O.box 0 R Z R R R) R (.op (O.al 1 R zz35 R Z R) R (.nil (.seqN (.seq (.reg (.op (O.faP y5l Z R R) R (.op (O.lg (l':=[lF qI p0.1.1,lI p0.1.2.1,lF qI p0.1.2.2.1,lF qT p0.1.2.2.2]) ag35 Z R (.B R) R R R) R (.op (O.faP y5U Z R R) R (.op (O.lg (l':=[lF qI p0.2.1.1,lI p0.2.1.2.1,lF qI p0.2.1.2.2.1,lF qT p0.2.1.2.2.2]) ag35 Z R (.B R) R R R) R (.op (O.bsF (r:=rE35) (zs:=([p0.1,p0.2.1]:List AutT)) bs66 R R Z R R R (.c (.p .l (.p .k (.p .l .l))) (.c (.p .l (.p .k (.p .l .l))) .n)) R R R) R (bS hm fun r1 er1 hm=> .op (O.ca (r':= .tp [.a [lH 2,lI r1.1.2.1,lH 3,lH 4],.h 5,.i r1.2.2]) [2,3,4,5] [(0,ROW qI 3 r1.1.1),(1,ROW qI 3 r1.1.2.2.1),(2,ROW qT 124 r1.1.2.2.2),(3,ROW (rL qI) 32 r1.2.1)] (some 6) (y4E er1) cf32 R R Z R R R R ⟨⟨_,R,fun _ _ _ _ h=>h⟩,⟨_,R,fun _ _ _ _ h=>h⟩,⟨_,R,fun _ _ _ _ h=>h⟩,⟨_,R,fun _ _ _ _ h=>h⟩,trivial⟩ (fun _ _ _ h=>h) R) R (.mv R (.op (O.ex Z R R R) R (.op (O.ex Z R R R) R (.op (O.ex Z R R R) R (.op (O.al 6 R zz35 R Z R) R (.op (O.st ag35.sz Z R R R R R) R (.sa R (.sa R (.nil (.seqN (.seq (.reg (.op (O.faP y1R Z R R) R (.op (O.ld nag32 Z R (.B R) R R) R (.op (O.faP y1g Z R R) R (.op (O.ld nag3 Z R (.B R) R R) R (.op (O.faP y3y Z R R) R (.op (O.ld nag32 Z R (.B R) R R) R (.op (O.bu (l:=[lH 2,lI r1.1.2.1,lH 3,lN]) pl35 R Z R R R) R (.op (O.al 7 R zz35 R Z R) R (.op (O.st ag35.sz Z R R R R R) R (.nil (.seqN (.seq (.seq ?_))))))))))))))))))))))))))))))))))))))
 refine .reg (.op (O.faP yG Z R R) R (.op (O.ld nag33 Z R (.B R) R R) R (.op (O.lenH sl33 Z R R R) R (.mv R (.nil (.seqN (.block (bS hm fun o17 eo17 hm=>?_))))))))
 refine .cut1 (z:= .exit 0) o17 (fun (o17:EdgL)=>⟨[(8,.q 0 0),(4,.q 4 0)],[(0,.bx 35 [lH 1,lI r1.1.2.1,lH 2,lH 3]),(1,ROW qI 3 r1.1.1),(2,ROW qI 3 r1.1.2.2.1),(3,ROW qT 124 o17),(4,.bx 35 [lN,lI 0,lN,lN])],5⟩) ?_ fun K19=>?_
 ·skip
  refine .blkE (.seqN (.seq (.reg (.op (O.lg (l':=[lH 1,lI r1.1.2.1,lH 2,lH 3]) ag35 Z R (.B R) R R R) R (bS hm fun r20 er20 hm=> .op (O.caY (r':= .tp [.a [lH 5,lI r20.1.2.1,lH 6,lH 7],.i r20.2]) [5,6,7] [(0,ROW qI 3 r20.1.1),(1,ROW qI 3 r20.1.2.2.1),(2,ROW qT 124 r20.1.2.2.2)] (some 8) (y8d er20) cf116 R R Z R R ⟨⟨R,.hr R,.rf,.hr R,.hr R,trivial⟩,trivial⟩ R ⟨.row flr3,.row flr3,.row y5m,trivial⟩ (fun _ _ _ _ h=>h) ⟨⟨_,R,fun _ _ _ _ h=>h⟩,⟨_,R,fun _ _ _ _ h=>h⟩,⟨_,R,fun _ _ _ _ h=>h⟩,trivial⟩ (fun _ _ _ h=>h) R) R (.mv R (.op (O.ex Z R R R) R (.op (O.ex Z R R R) R (.op (O.st ag35.sz Z R R R R R) R (.nil (.seqN (.seq (.reg (.op (O.lg (l':=[lH 5,lI r20.1.2.1,lH 6,lH 7]) ag35 Z R (.B R) R R R) R (.op (O.st ag35.sz Z R R R R R) R (.nil (.seqN (.ret ?_))))))))))))))))))
  obtain rfl:=oi hm
  exact WX.rt [5,6,7] (.inl R) Tryz.results43 (.cell R R ag35 R .nil) R (fun _ _ _ h=>h) ⟨⟨_,R,fun _ _ _ _ h=>h⟩,⟨_,R,fun _ _ _ _ h=>h⟩,⟨_,R,fun _ _ _ _ h=>h⟩,trivial⟩
 refine .nlb qT 124 7 3 R R (.iter (fun (st17:Int×EdgL)=>⟨[(31,.i st17.1),(30,.i (r1.1.2.2.2.length:Int)),(29,.h 0),(8,.q 1 0),(6,.h 5),(4,.q 6 0),(2,.q 7 0),(1,.f qI p1)],[(0,ROW qT 124 r1.1.2.2.2),(1,.bx 35 [lH 2,lI r1.1.2.1,lH 3,lH 4]),(2,ROW qI 3 r1.1.1),(3,ROW qI 3 r1.1.2.2.1),(4,ROW qT 124 st17.2),(5,ROW (rL qI) 32 r1.2.1),(6,.bx 35 [lN,lI 0,lN,lN]),(7,.bx 37 [lF qI p0.1.1,lI p0.1.2.1,lF qI p0.1.2.2.1,lF qT p0.1.2.2.2,lF qI p0.2.1.1,lI p0.2.1.2.1,lF qI p0.2.1.2.2.1,lF qT p0.2.1.2.2.2,lF qI p0.2.2])],8⟩) eo17 [(0,4),(1,7),(4,8),(6,1),(7,0)] R ?_)
 intro st17 res17 hm ih17 ho17
 unfold y1l at hm
 refine .seq (.reg (.bi R (.nil (.seqN (.seq ?_)))))
 rcases ifS hm with ⟨hc,hm⟩ | ⟨hc,hm⟩
 ·refine .cT R hc ?_
  refine .skip (.seqN ?_)
  refine .join1 (fun (l21:List (Int×Int×Int))=>y1j st17 l21=some res17) (fun l21=>⟨[(31,.i st17.1),(30,.i (r1.1.2.2.2.length:Int)),(29,.h 0),(8,.q 1 0),(6,.h 5),(4,.q 6 0),(2,.q 7 0),(1,.f qI p1)],[(0,ROW qT 124 r1.1.2.2.2),(1,.bx 35 [lH 2,lI r1.1.2.1,lH 3,lH 4]),(2,ROW qI 3 r1.1.1),(3,ROW qI 3 r1.1.2.2.1),(4,ROW qT 124 l21),(5,ROW (rL qI) 32 r1.2.1),(6,.bx 35 [lN,lI 0,lN,lN]),(7,.bx 37 [lF qI p0.1.1,lI p0.1.2.1,lF qI p0.1.2.2.1,lF qT p0.1.2.2.2,lF qI p0.2.1.1,lI p0.2.1.2.1,lF qI p0.2.1.2.2.1,lF qT p0.2.1.2.2.2,lF qI p0.2.2])],8⟩) ?_ ?_
  ·intro l21 hm
   unfold y1j at hm
   exact .reg (.bi R (.mv R (.nil ((ih17 _ (oi hm).symm).sub [] R))))
  ·intro Jj22
   refine .block (.seq (.reg (bS hm fun x23 ex23 hm=> .op (O.ir sl33 Z R R R ex23 R) R (.op (O.lg (l':=[lI x23.1,lI x23.2.1,lI x23.2.2]) ag124 Z R (.R R ex23 lv124) R R R) R (.op (O.al 8 R zz124 R Z R) R (.op (O.st ag124.sz Z R R R R R) R (.nil (.seqN ?_))))))))
   refine .join1 (fun (b24:Bool)=>y1k st17 x23 b24=some res17) (fun b24=>⟨[(52,.b b24),(10,.q 0 0),(31,.i st17.1),(30,.i (r1.1.2.2.2.length:Int)),(29,.h 1),(8,.q 2 0),(6,.h 6),(4,.q 7 0),(2,.q 8 0),(1,.f qI p1)],[(0,.bx 124 [lI x23.1,lI x23.2.1,lI x23.2.2]),(1,ROW qT 124 r1.1.2.2.2),(2,.bx 35 [lH 3,lI r1.1.2.1,lH 4,lH 5]),(3,ROW qI 3 r1.1.1),(4,ROW qI 3 r1.1.2.2.1),(5,ROW qT 124 st17.2),(6,ROW (rL qI) 32 r1.2.1),(7,.bx 35 [lN,lI 0,lN,lN]),(8,.bx 37 [lF qI p0.1.1,lI p0.1.2.1,lF qI p0.1.2.2.1,lF qT p0.1.2.2.2,lF qI p0.2.1.1,lI p0.2.1.2.1,lF qI p0.2.1.2.2.1,lF qT p0.2.1.2.2.2,lF qI p0.2.2])],9⟩) ?_ ?_
   ·intro b24 hm
    unfold y1k at hm
    rcases ifS hm with ⟨hc,hm⟩ | ⟨hc,hm⟩
    ·refine .cT R hc ?_
     exact .reg (.op (O.faP yG Z R R) R (.op (O.ld nag33 Z R (.B R) R R) R (.op (O.lg (l':=[lI x23.1,lI x23.2.1,lI x23.2.2]) ag124 Z R (.B R) R R R) R (.op (O.bsF (r:=qT) (zs:=([x23]:List (Int×Int×Int))) bs33 R R Z R R R (.c (.p .k (.p .k .k)) .n) R R R) R (bS hm fun x26 ex26 hm=> .op (O.ap 9 Tryz.underlying33 el124 R R Z R R (.fr R) ex26 R) R (.op (O.faP yG Z R R) R (.op (O.st nag33.sz Z R R R R R) R (.nil (.blkN ((Jj22 _ hm).sub [(0,1),(1,2),(2,3),(3,4),(4,9),(5,6),(6,7),(7,8)] R))))))))))
    ·refine .cF R hc ?_
     exact .skip (.blkN ((Jj22 _ hm).sub [(0,1),(1,2),(2,3),(3,4),(4,5),(5,6),(6,7),(7,8)] R))
   ·intro Jj25
    refine .sub (τ:=⟨[(10,.q 8 0),(31,.i st17.1),(30,.i (r1.1.2.2.2.length:Int)),(29,.h 0),(8,.q 1 0),(6,.h 5),(4,.q 6 0),(2,.q 7 0),(1,.f qI p1)],[(8,.bx 124 [lI x23.1,lI x23.2.1,lI x23.2.2]),(0,ROW qT 124 r1.1.2.2.2),(1,.bx 35 [lH 2,lI r1.1.2.1,lH 3,lH 4]),(2,ROW qI 3 r1.1.1),(3,ROW qI 3 r1.1.2.2.1),(4,ROW qT 124 st17.2),(5,ROW (rL qI) 32 r1.2.1),(6,.bx 35 [lN,lI 0,lN,lN]),(7,.bx 37 [lF qI p0.1.1,lI p0.1.2.1,lF qI p0.1.2.2.1,lF qT p0.1.2.2.2,lF qI p0.2.1.1,lI p0.2.1.2.1,lF qI p0.2.1.2.2.1,lF qT p0.2.1.2.2.2,lF qI p0.2.2])],9⟩) ?_ [] R
    refine bS hm fun r27 er27 hm=> .drP 5 [(9,[]),(9,[oT]),(9,[]),(9,[oF,oF,oT]),(9,tT 4)] [_,_,_,_,_] ⟨O.faP y7M Z R R,O.ld nag32 Z R (.B R) R R,O.faP y4L Z R R,O.ld nag3 Z R (.B R) R R,O.ca0 (yQ er27) cf44 R R Z R R R,trivial⟩ fun hp28=>?_
    rcases ifS hm with ⟨hc29,hm⟩ | ⟨hc29,hm⟩
    ·skip
     exact .drF hp28 [(9,tT 5),(9,tT 6),(9,tT 6),(9,tT 6),(9,tA 6 (fA 2 (tT 1))),(9,tA 6 (fA 1 (tT 3))),(9,tA 6 (fA 1 (tT 4))),(9,tT 6),(9,tT 13),(9,tT 6),(9,tA 6 (fA 8 (tT 1))),(9,tT 16),(9,tT 17)] [_,_,_,_,_,_,_,_,_,_,_,_,_] ⟨[(52,.b true),(10,.q 8 0),(31,.i st17.1),(30,.i (r1.1.2.2.2.length:Int)),(29,.h 0),(8,.q 1 0),(6,.h 5),(4,.q 6 0),(2,.q 7 0),(1,.f qI p1)],[(8,.bx 124 [lI x23.1,lI x23.2.1,lI x23.2.2]),(0,ROW qT 124 r1.1.2.2.2),(1,.bx 35 [lH 2,lI r1.1.2.1,lH 3,lH 4]),(2,ROW qI 3 r1.1.1),(3,ROW qI 3 r1.1.2.2.1),(4,ROW qT 124 st17.2),(5,ROW (rL qI) 32 r1.2.1),(6,.bx 35 [lN,lI 0,lN,lN]),(7,.bx 37 [lF qI p0.1.1,lI p0.1.2.1,lF qI p0.1.2.2.1,lF qT p0.1.2.2.2,lF qI p0.2.1.1,lI p0.2.1.2.1,lF qI p0.2.1.2.2.1,lF qT p0.2.1.2.2.2,lF qI p0.2.2])],9⟩ ⟨O.kn (O.mv Z R R) hc29,O.skip R R R R,O.skip R R R R,O.skip R R R R,O.skip R R R R,O.skip R R R R,O.skip R R R R,O.skip R R R R,O.skip R R R R,O.skip R R R R,O.skip R R R R,O.skip R R R R,O.pkT Z R R R R,trivial⟩ (by kernel_rfl) R ((Jj25 _ hm).sub [(0,8),(1,0),(2,1),(3,2),(4,3),(5,4),(6,5),(7,6),(8,7)] R)
    ·skip
     exact bS hm fun x30 ex30 hm=>bS hm fun r31 er31 hm=> .drF hp28 [(9,tT 5),(9,tT 6),(9,tT 6),(9,tT 6),(9,tA 6 (fA 2 (tT 1))),(9,tA 6 (fA 1 (tT 3))),(9,tA 6 (fA 1 (tT 4))),(9,tT 6),(9,tT 13),(9,tT 6),(9,tA 6 (fA 8 (tT 1))),(9,tT 16),(9,tT 17)] [_,_,_,_,_,_,_,_,_,_,_,_,_] ⟨[(52,.b (r31 == x23.2.1)),(10,.q 8 0),(31,.i st17.1),(30,.i (r1.1.2.2.2.length:Int)),(29,.h 0),(8,.q 1 0),(6,.h 5),(4,.q 6 0),(2,.q 7 0),(1,.f qI p1)],[(8,.bx 124 [lI x23.1,lI x23.2.1,lI x23.2.2]),(0,ROW qT 124 r1.1.2.2.2),(1,.bx 35 [lH 2,lI r1.1.2.1,lH 3,lH 4]),(2,ROW qI 3 r1.1.1),(3,ROW qI 3 r1.1.2.2.1),(4,ROW qT 124 st17.2),(5,ROW (rL qI) 32 r1.2.1),(6,.bx 35 [lN,lI 0,lN,lN]),(7,.bx 37 [lF qI p0.1.1,lI p0.1.2.1,lF qI p0.1.2.2.1,lF qT p0.1.2.2.2,lF qI p0.2.1.1,lI p0.2.1.2.1,lF qI p0.2.1.2.2.1,lF qT p0.2.1.2.2.2,lF qI p0.2.2])],9⟩ ⟨O.kn (O.mv Z R R) hc29,O.lg (l':=[lF qI p0.1.1,lI p0.1.2.1,lF qI p0.1.2.2.1,lF qT p0.1.2.2.2,lF qI p0.2.1.1,lI p0.2.1.2.1,lF qI p0.2.1.2.2.1,lF qT p0.2.1.2.2.2,lF qI p0.2.2]) ag37 (Gu.mk R R) R (.B R) R R R,O.mv (Gu.mk R R) R R,O.faP y1W (Gu.mk R R) R R,O.ld nag3 (Gu.mk R R) R (.B R) R R,O.ir sl53 (Gu.mk R R) R R R ex30 R,O.ld nag32 (Gu.mk R R) R (.R R ex30 lv32) R R,O.mv (Gu.mk R R) R R,O.ca0 (y7X er31) cf115 R R (Gu.mk R R) R R R,O.faP y4L (Gu.mk R R) R R,O.ld nag3 (Gu.mk R R) R (.B R) R R,O.bi (Gu.mk R R) R R R R,O.pkF Z R R R R,trivial⟩ (by kernel_rfl) R ((Jj25 _ hm).sub [(0,8),(1,0),(2,1),(3,2),(4,3),(5,4),(6,5),(7,6),(8,7)] R)
 ·refine .cF R hc ?_
  exact .exit (.seqX (.seqX ((K19 _ (ho17 _ (oi hm).symm)).sub [(0,1),(1,2),(2,3),(3,4),(4,6)] R)))
def y4H (p0:AutT) (st21:Int×List Int):Option ((Int×List Int) ⊕ (List Int)):=
 if decide (st21.1 < p0.2.1) then
  (idx st21.2 (W (st21.1 + 1))).bind fun x24=>
  (idx st21.2 st21.1).bind fun x25=>
  (idx st21.2 (W (st21.1 + 1))).bind fun x26=>
  (upd st21.2 (W (st21.1 + 1)) (W (x24 + x25))).bind fun x27=>
  some (.inl (W (st21.1 + 1),x27))
 else
  some (.inr st21.2)
def y4I (p0:AutT) (st10:Int×List Int):Option ((Int×List Int) ⊕ (List Int)):=
 if decide (st10.1 < (p0.2.2.2.length:Int)) then
  (idx p0.2.2.2 st10.1).bind fun x28=>
  (idx st10.2 (W (x28.1 + 1))).bind fun x29=>
  (idx st10.2 (W (x28.1 + 1))).bind fun x30=>
  (upd st10.2 (W (x28.1 + 1)) (W (x29 + 1))).bind fun x31=>
  some (.inl (W (st10.1 + 1),x31))
 else
  some (.inr st10.2)
def y5o (p0:AutT):Option (AutT×List Int):=
 (mkL (W (p0.2.1 + 1)) (0:Int)).bind fun x1=>
 (iter (y4I p0) (0,x1)).bind fun o10=>
 (iter (y4H p0) (0,o10)).bind fun o21=>
 some (p0,o21)
theorem y9H {p0:AutT} {r:(AutT×List Int)} (hm:y5o p0=some r):
  Fw Tryz.prog 179 ⟨0,[]⟩ [.a [lF qI p0.1,lI p0.2.1,lF qI p0.2.2.1,lF qT p0.2.2.2]] [] (.g [lF qI r.1.1,lI r.1.2.1,lF qI r.1.2.2.1,lF qT r.1.2.2.2,lH 0]) [ROW qI 3 r.2]:=by
 unfold y5o at hm
 refine Fw.mk' Tryz.func179 R Tryz.ntmps179 R R (fun C=>?_) R R
 refine .seq (.reg (.op (O.box 0 R Z R R R) R (.op (O.al 1 R zz265 R Z R) R (.nil (.seqN (.seq ?_))))))
 refine .sub (τ:=⟨[(2,.q 1 0),(1,.q 0 0)],[(1,.bx 265 [lN,lI 0,lN,lN,lN]),(0,.bx 35 [lF qI p0.1,lI p0.2.1,lF qI p0.2.2.1,lF qT p0.2.2.2])],2⟩) ?_ [] R
 refine bS hm fun x1 ex1 hm=>?_
 refine .drz 4 [(6,3)] [(2,[],[],[]),(2,[],[],[]),(2,[oF,oT],[],[]),(2,[oF,oT,oT],[],[]),(2,[oF,oT,oT,oT],[],[]),(3,[oT,oT,oT,oT,oT],[],[]),(2,[],[],[]),(4,[oT,oT,oT,oT,oT,oT,oT],[],[])] [_,_,_,_,_,_,_,_] ⟨[(3,.q 3 0),(2,.q 1 0),(1,.q 0 0)],[(3,.bx 265 [lF qI p0.1,lI p0.2.1,lF qI p0.2.2.1,lF qT p0.2.2.2,lH 2]),(2,ROW qI 3 x1),(1,.bx 265 [lN,lI 0,lN,lN,lN]),(0,.bx 35 [lF qI p0.1,lI p0.2.1,lF qI p0.2.2.1,lF qT p0.2.2.2])],4⟩ ⟨O.lg (l':=[lF qI p0.1,lI p0.2.1,lF qI p0.2.2.1,lF qT p0.2.2.2]) ag35 Z R (.B R) R R R,O.faP y1g Z R R,O.ld nag3 Z R (.B R) R R,O.bi Z R R R R,O.mk (z:=(0:Int)) 2 Tryz.underlying32 zr3 R R Z R R ex1 R,O.bu (l:=[lF qI p0.1,lI p0.2.1,lF qI p0.2.2.1,lF qT p0.2.2.2,lH 2]) pl265 R Z R R R,O.al 3 R zz265 R Z R,O.st ag265.sz Z R R R R R,trivial⟩ (by kernel_rfl) R ?_
 refine .seqN (.seq (.seq (.reg (.op (O.faP yG Z R R) R (.op (O.ld nag33 Z R (.B R) R R) R (.op (O.len sl33 Z R R) R (.mv R (.nil (.seqN (.block (bS hm fun o10 eo10 hm=>?_)))))))))))
 refine .cut1 (z:= .exit 0) o10 (fun (o10:List Int)=>⟨[(3,.q 0 0),(2,.q 2 0),(1,.q 3 0)],[(0,.bx 265 [lF qI p0.1,lI p0.2.1,lF qI p0.2.2.1,lF qT p0.2.2.2,lH 1]),(1,ROW qI 3 o10),(2,.bx 265 [lN,lI 0,lN,lN,lN]),(3,.bx 35 [lF qI p0.1,lI p0.2.1,lF qI p0.2.2.1,lF qT p0.2.2.2])],4⟩) ?_ fun K12=>?_
 ·skip
  refine .blkE (.seqN (.seq (.seq (.reg (.op (O.faP y1g Z R R) R (.op (O.ld nag3 Z R (.B R) R R) R (.mv R (.nil (.seqN (.block (bS hm fun o21 eo21 hm=>?_)))))))))))
  refine .cut1 (z:= .exit 2) o21 (fun (o21:List Int)=>⟨[(3,.q 0 0),(2,.q 2 0)],[(0,.bx 265 [lF qI p0.1,lI p0.2.1,lF qI p0.2.2.1,lF qT p0.2.2.2,lH 1]),(1,ROW qI 3 o21),(2,.bx 265 [lN,lI 0,lN,lN,lN])],3⟩) ?_ fun K23=>?_
  ·skip
   refine .blkE (.seqN (.seq (.reg (.op (O.lg (l':=[lF qI p0.1,lI p0.2.1,lF qI p0.2.2.1,lF qT p0.2.2.2,lH 1]) ag265 Z R (.B R) R R R) R (.op (O.st ag265.sz Z R R R R R) R (.nil (.seqN (.ret ?_))))))))
   obtain rfl:=oi hm
   exact WX.rt [1] (.inl R) Tryz.results179 (.cell R R ag265 R .nil) R (fun _ _ _ h=>h) ⟨⟨_,R,fun _ _ _ _ h=>h⟩,trivial⟩
  refine .iter (fun (st21:Int×List Int)=>⟨[(32,.i st21.1),(31,.i p0.2.1),(3,.q 0 0),(2,.q 2 0)],[(0,.bx 265 [lF qI p0.1,lI p0.2.1,lF qI p0.2.2.1,lF qT p0.2.2.2,lH 1]),(1,ROW qI 3 st21.2),(2,.bx 265 [lN,lI 0,lN,lN,lN])],3⟩) eo21 [] R ?_
  intro st21 res21 hm ih21 ho21
  unfold y4H at hm
  refine .seq (.reg (.bi R (.nil (.seqN (.seq ?_)))))
  rcases ifS hm with ⟨hc,hm⟩ | ⟨hc,hm⟩
  ·refine .cT R hc ?_
   refine .skip (.seqN (.seq (.block (.seq (.reg (.mv R (.sa R (.nil (.seqN ?_)))))))))
   refine .sub (τ:=⟨[(6,.i st21.1),(32,.i st21.1),(31,.i p0.2.1),(3,.q 0 0),(2,.q 2 0)],[(0,.bx 265 [lF qI p0.1,lI p0.2.1,lF qI p0.2.2.1,lF qT p0.2.2.2,lH 1]),(1,ROW qI 3 st21.2),(2,.bx 265 [lN,lI 0,lN,lN,lN])],3⟩) ?_ [] R
   refine bS hm fun x24 ex24 hm=>bS hm fun x25 ex25 hm=>bS hm fun x26 ex26 hm=>bS hm fun x27 ex27 hm=>?_
   refine .drg 3 [(3,[]),(3,[oT]),(3,[]),(3,[oF,oF,oT]),(3,tT 4),(3,tT 5),(3,[]),(3,[oF,oF,oF,oF,oF,oF,oT]),(3,[]),(3,fA 6 (tT 3)),(3,fA 6 (tT 4)),(3,tT 11),(3,tT 12),(3,tT 13)] [_,_,_,_,_,_,_,_,_,_,_,_,_,_] ⟨[(32,.i st21.1),(31,.i p0.2.1),(3,.q 0 0),(2,.q 2 0)],[(0,.bx 265 [lF qI p0.1,lI p0.2.1,lF qI p0.2.2.1,lF qT p0.2.2.2,lH 1]),(1,ROW qI 3 x27),(2,.bx 265 [lN,lI 0,lN,lN,lN])],3⟩ ⟨O.faP ybb Z R R,O.ld nag32 Z R (.B R) R R,O.mv Z R R,O.bi Z R R R R,O.ir sl32 Z R R R ex24 R,O.ld nag3 Z R (.R R ex24 lv3) R R,O.faP ybb Z R R,O.ld nag32 Z R (.B R) R R,O.mv Z R R,O.ir sl32 Z R R R ex25 R,O.ld nag3 Z R (.R R ex25 lv3) R R,O.bi Z R R R R,O.ir sl32 Z R R R ex26 R,O.su (z:=W (x24 + x25)) nag3.sz Z R R ex26 ex27 R R R lv3 R .k,trivial⟩ (by kernel_rfl) R ?_
   exact .blkN (.seqN (.reg (.bi R (.mv R (.nil ((ih21 _ (oi hm).symm).sub [] R))))))
  ·refine .cF R hc ?_
   exact .exit (.seqX (.seqX ((K23 _ (ho21 _ (oi hm).symm)).sub [] R)))
 refine .iter (fun (st10:Int×List Int)=>⟨[(16,.i st10.1),(15,.i (p0.2.2.2.length:Int)),(14,.f qT p0.2.2.2),(3,.q 0 0),(2,.q 2 0),(1,.q 3 0)],[(0,.bx 265 [lF qI p0.1,lI p0.2.1,lF qI p0.2.2.1,lF qT p0.2.2.2,lH 1]),(1,ROW qI 3 st10.2),(2,.bx 265 [lN,lI 0,lN,lN,lN]),(3,.bx 35 [lF qI p0.1,lI p0.2.1,lF qI p0.2.2.1,lF qT p0.2.2.2])],4⟩) eo10 [(0,3),(1,2),(2,1),(3,0)] R ?_
 intro st10 res10 hm ih10 ho10
 unfold y4I at hm
 refine .seq (.reg (.bi R (.nil (.seqN (.seq ?_)))))
 rcases ifS hm with ⟨hc,hm⟩ | ⟨hc,hm⟩
 ·refine .cT R hc ?_
  exact .skip (.seqN (.seq (.block (.seq (.reg (bS hm fun x28 ex28 hm=> .op (O.ix sl33 Z R R ex28 R) R (.op (O.lg (l':=[lI x28.1,lI x28.2.1,lI x28.2.2]) ag124 Z R (.E lv124) R R R) R (.op (O.al 4 R zz124 R Z R) R (.op (O.st ag124.sz Z R R R R R) R (.nil (.seqN (.reg (.op (O.faP ybb Z R R) R (.op (O.ld nag32 Z R (.B R) R R) R (.op (O.faP y1W Z R R) R (.op (O.ld nag3 Z R (.B R) R R) R (.bi R (bS hm fun x29 ex29 hm=> .op (O.ir sl32 Z R R R ex29 R) R (.op (O.ld nag3 Z R (.R R ex29 lv3) R R) R (.bi R (bS hm fun x30 ex30 hm=> .op (O.ir sl32 Z R R R ex30 R) R (bS hm fun x31 ex31 hm=> .op (O.su (z:=W (x29 + 1)) nag3.sz Z R R ex30 ex31 R R R lv3 R .k) R (.nil (.blkN (.seqN (.reg (.bi R (.mv R (.nil ((ih10 _ (oi hm).symm).sub [] R))))))))))))))))))))))))))))))
 ·refine .cF R hc ?_
  exact .exit (.seqX (.seqX ((K12 _ (ho10 _ (oi hm).symm)).sub [] R)))
def y2L (st12:Int×List Int) (l15:List Int):Option ((Int×List Int) ⊕ (List Int)):=
 some (.inl (W (st12.1 + 1),l15))
def y2M (r3:List Int) (st12:Int×List Int):Option ((Int×List Int) ⊕ (List Int)):=
 if decide (st12.1 < (r3.length:Int)) then
  (idx r3 st12.1).bind fun x17=>
  if decide (x17≥0) then
   (app st12.2 ([st12.1]:List Int)).bind fun x18=>
   y2L st12 x18
  else
   y2L st12 st12.2
 else
  some (.inr st12.2)
def y4J (p0:AutT):Option (List Int×Int):=
 (yF p0).bind fun r1=>
 if(r1 != 0) then
  some (([]:List Int),r1)
 else
  (y5o p0).bind fun r2=>
  (y2F r2 p0.2.2.1).bind fun r3=>
  (iter (y2M r3) (0,([]:List Int))).bind fun o12=>
  some (o12,0)
theorem y8N {p0:AutT} {r:List Int×Int} (hm:y4J p0=some r):
  Fw Tryz.prog 117 ⟨0,[]⟩ [.a [lF qI p0.1,lI p0.2.1,lF qI p0.2.2.1,lF qT p0.2.2.2]] [] (.tp [.h 0,.i r.2]) [ROW qI 3 r.1]:=by
 unfold y4J at hm
 refine Fw.mk' Tryz.func117 R Tryz.ntmps117 R R (fun C=>?_) R R
 refine .seq (.reg (.op (O.box 0 R Z R R R) R (.sa R (.sa R (.nil (.seqN (.seq (.seq (.reg (.op (O.lg (l':=[lF qI p0.1,lI p0.2.1,lF qI p0.2.2.1,lF qT p0.2.2.2]) ag35 Z R (.B R) R R R) R (bS hm fun r1 er1 hm=> .op (O.ca0 (y2O er1) cf101 R R Z R R R) R (.sa R (.nil (.seqN (.seq (.reg (.mv R (.bi R (.nil (.seqN ?_))))))))))))))))))))
 rcases ifS hm with ⟨hc,hm⟩ | ⟨hc,hm⟩
 ·refine .cT R hc ?_
  refine .seq (.reg (.mv R (.sa R (.sa R (.nil (.seqN (.ret (.seqR (.nlg qI 3 2 0 R R ?_)))))))))
  obtain rfl:=oi hm
  exact WX.rt [1] (.inl R) Tryz.results117 (.tmp R (.tmp R .nil)) R (fun _ _ _ h=>h) ⟨⟨_,R,fun _ _ _ _ h=>h⟩,trivial⟩
 ·refine .cF R hc ?_
  refine .skip (.seqN (.seq (.reg (.sa R (.nil (.seqN (.seq (.seq ?_))))))))
  refine .sub (τ:=⟨[(5,.o (lN)),(1,.q 0 0)],[(0,.bx 35 [lF qI p0.1,lI p0.2.1,lF qI p0.2.2.1,lF qT p0.2.2.2])],1⟩) ?_ [] R
  refine bS hm fun r2 er2 hm=>bS hm fun r3 er3 hm=>?_
  refine .drw [(1,[]),(1,[oT]),(1,[]),(1,[oF,oF,oT]),(1,tT 4),(1,tT 5),(1,[])] [_,_,_,_,_,_,_] ⟨[(19,.i 0),(18,.i (r3.length:Int)),(17,.f qI r3),(5,.o (lN))],[],1⟩ ⟨O.lg (l':=[lF qI p0.1,lI p0.2.1,lF qI p0.2.2.1,lF qT p0.2.2.2]) ag35 Z R (.B R) R R R,O.ca0 (r:= .g [lF qI r2.1.1,lI r2.1.2.1,lF qI r2.1.2.2.1,lF qT r2.1.2.2.2,lF qI r2.2]) (Fw.fz (y9H er2)) cf179 R R Z R R R,O.faP y3y Z R R,O.ld nag32 Z R (.B R) R R,O.ca0 (y7K er3) cf180 R R Z R R R,O.len sl32 Z R R,O.mv Z R R,trivial⟩ (by kernel_rfl) R ?_
  refine .seqN (.block (bS hm fun o12 eo12 hm=>?_))
  refine .cut1 (z:= .exit 0) o12 (fun (o12:List Int)=>⟨[(5,.h 0)],[(0,ROW qI 3 o12)],1⟩) ?_ fun K14=>?_
  ·skip
   refine .blkE (.seqN (.seq (.reg (.mv R (.sa R (.sa R (.nil (.seqN (.ret ?_)))))))))
   obtain rfl:=oi hm
   exact WX.rt [0] (.inl R) Tryz.results117 (.tmp R (.tmp R .nil)) R (fun _ _ _ h=>h) ⟨⟨_,R,fun _ _ _ _ h=>h⟩,trivial⟩
  refine .nlg qI 3 5 0 R R (.iter (fun (st12:Int×List Int)=>⟨[(19,.i st12.1),(18,.i (r3.length:Int)),(17,.f qI r3),(5,.h 0)],[(0,ROW qI 3 st12.2)],1⟩) eo12 [(0,1)] R ?_)
  intro st12 res12 hm ih12 ho12
  unfold y2M at hm
  refine .seq (.reg (.bi R (.nil (.seqN (.seq ?_)))))
  rcases ifS hm with ⟨hc,hm⟩ | ⟨hc,hm⟩
  ·refine .cT R hc ?_
   refine .skip (.seqN ?_)
   refine .join1 (fun (l15:List Int)=>y2L st12 l15=some res12) (fun l15=>⟨[(5,.h 0),(19,.i st12.1),(18,.i (r3.length:Int)),(17,.f qI r3)],[(0,ROW qI 3 l15)],1⟩) ?_ ?_
   ·intro l15 hm
    unfold y2L at hm
    exact .reg (.bi R (.mv R (.nil ((ih12 _ (oi hm).symm).sub [] R))))
   ·intro Jj16
    refine .block (.seq (.reg (.mv R (bS hm fun x17 ex17 hm=> .op (O.ix sl32 Z R R ex17 R) R (.op (O.ld nag3 Z R (.E lv3) R R) R (.sa R (.sa R (.nil (.seqN (.seq (.reg (.mv R (.bi R (.nil (.seqN ?_)))))))))))))))
    rcases ifS hm with ⟨hc,hm⟩ | ⟨hc,hm⟩
    ·refine .cT R hc ?_
     exact .reg (.mv R (.mv R (.op (O.bsF (r:=qI) (zs:=([st12.1]:List Int)) bs32 R R Z R R R (.c .k .n) R R R) R (bS hm fun x18 ex18 hm=> .op (O.ap 1 Tryz.underlying32 el3 R R Z R R (.fr R) ex18 R) R (.sa R (.nil (.blkN ((Jj16 _ hm).sub [(0,1)] R))))))))
    ·refine .cF R hc ?_
     exact .skip (.blkN ((Jj16 _ hm).sub [] R))
  ·refine .cF R hc ?_
   exact .exit (.seqX (.seqX ((K14 _ (ho12 _ (oi hm).symm)).sub [] R)))
def y1x (st10:Int×List Int) (l13:List Int):Option ((Int×List Int) ⊕ (List Int)):=
 some (.inl (W (st10.1 + 1),l13))
def y2E (p0:AutT) (r1:List Int×Int) (st10:Int×List Int):Option ((Int×List Int) ⊕ (List Int)):=
 if decide (st10.1 < p0.2.1) then
  (yt r1.1 st10.1).bind fun r15=>
  if(!r15) then
   (app st10.2 ([st10.1]:List Int)).bind fun x16=>
   y1x st10 x16
  else
   y1x st10 st10.2
 else
  some (.inr st10.2)
def y3E (p0:AutT):Option (List Int):=
 (y4J p0).bind fun r1=>
 (iter (y2E p0 r1) (0,([]:List Int))).bind fun o10=>
 some o10
theorem y7B {p0:AutT} {r:List Int} (hm:y3E p0=some r):
  Fw Tryz.prog 45 ⟨0,[]⟩ [.a [lF qI p0.1,lI p0.2.1,lF qI p0.2.2.1,lF qT p0.2.2.2]] [] (.h 0) [ROW qI 3 r]:=by
 unfold y3E at hm
 refine Fw.mk' Tryz.func45 R Tryz.ntmps45 R R (fun C=>?_) R R
 refine .seq (.reg (.op (O.box 0 R Z R R R) R (.sa R (.nil (.seqN (.seq (.reg (.op (O.lg (l':=[lF qI p0.1,lI p0.2.1,lF qI p0.2.2.1,lF qT p0.2.2.2]) ag35 Z R (.B R) R R R) R (bS hm fun r1 er1 hm=> .op (O.ca (r':= .tp [.h 1,.i r1.2]) [1] [(0,ROW qI 3 r1.1)] (some 2) (y8N er1) cf117 R R Z R R R R ⟨⟨_,R,fun _ _ _ _ h=>h⟩,trivial⟩ (fun _ _ _ h=>h) R) R (.mv R (.op (O.ex Z R R R) R (.op (O.ex Z R R R) R (.sa R (.sa R (.nil (.seqN (.seq (.reg (.sa R (.nil (.seqN (.seq (.seq (.reg (.sa R (.nil (.seqN (.block (bS hm fun o10 eo10 hm=>?_)))))))))))))))))))))))))))))
 refine .cut1 (z:= .exit 0) o10 (fun (o10:List Int)=>⟨[(5,.h 0)],[(0,ROW qI 3 o10)],1⟩) ?_ fun K12=>?_
 ·skip
  refine .blkE (.seqN (.seq (.reg (.mv R (.sa R (.nil (.seqN (.ret ?_))))))))
  obtain rfl:=oi hm
  exact WX.rt [0] (.inl R) Tryz.results45 (.tmp R .nil) R (fun _ _ _ h=>h) ⟨⟨_,R,fun _ _ _ _ h=>h⟩,trivial⟩
 refine .nlg qI 3 5 0 R R (.iter (fun (st10:Int×List Int)=>⟨[(6,.i st10.1),(5,.h 0),(3,.h 1),(1,.q 2 0)],[(0,ROW qI 3 st10.2),(1,ROW qI 3 r1.1),(2,.bx 35 [lF qI p0.1,lI p0.2.1,lF qI p0.2.2.1,lF qT p0.2.2.2])],3⟩) eo10 [(0,2),(2,0)] R ?_)
 intro st10 res10 hm ih10 ho10
 unfold y2E at hm
 refine .seq (.seq (.reg (.mv R (.op (O.faP y1g Z R R) R (.op (O.ld nag3 Z R (.B R) R R) R (.bi R (.nil (.seqN ?_))))))))
 rcases ifS hm with ⟨hc,hm⟩ | ⟨hc,hm⟩
 ·refine .cT R hc ?_
  refine .skip (.seqN ?_)
  refine .join1 (fun (l13:List Int)=>y1x st10 l13=some res10) (fun l13=>⟨[(5,.h 0),(6,.i st10.1),(3,.h 1),(1,.q 2 0)],[(0,ROW qI 3 l13),(1,ROW qI 3 r1.1),(2,.bx 35 [lF qI p0.1,lI p0.2.1,lF qI p0.2.2.1,lF qT p0.2.2.2])],3⟩) ?_ ?_
  ·intro l13 hm
   unfold y1x at hm
   exact .reg (.mv R (.bi R (.sa R (.nil ((ih10 _ (oi hm).symm).sub [] R)))))
  ·intro Jj14
   refine .block (.seq (.reg (.mv R (.mv R (bS hm fun r15 er15 hm=> .op (O.caZ (yQ er15) cf44 R R Z R ⟨⟨R,.hr R,trivial⟩,⟨R,LnL.rf⟩,trivial⟩ (fun _ _ _ _ _ h=>h) R) R (.op (O.not Z R R) R (.nil (.seqN ?_))))))))
   rcases ifS hm with ⟨hc,hm⟩ | ⟨hc,hm⟩
   ·refine .cT R hc ?_
    exact .reg (.mv R (.mv R (.op (O.bsF (r:=qI) (zs:=([st10.1]:List Int)) bs32 R R Z R R R (.c .k .n) R R R) R (bS hm fun x16 ex16 hm=> .op (O.ap 3 Tryz.underlying32 el3 R R Z R R (.fr R) ex16 R) R (.sa R (.nil (.blkN ((Jj14 _ hm).sub [(0,3)] R))))))))
   ·refine .cF R hc ?_
    exact .skip (.blkN ((Jj14 _ hm).sub [] R))
 ·refine .cF R hc ?_
  exact .exit (.seqX (.seqX ((K12 _ (ho10 _ (oi hm).symm)).sub [] R)))
end
end Go.Proofs.YtecmobjeeonmaaaGreatDoor
