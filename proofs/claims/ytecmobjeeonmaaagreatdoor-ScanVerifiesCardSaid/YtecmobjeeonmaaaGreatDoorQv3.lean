/- Parts of the proof, without what nothing here names. -/
import Derived.Shelf.Strings.Builder1
import Derived.Shelf.Strings.BuilderF
import Derived.Shelf.Strings.BuilderK
import Derived.Shelf.Strconv.Itoa0
import Derived.Shelf.Strconv.Itoa1
import Derived.Shelf.LaysM
import Derived.Shelf.Strconv.Itoa2
import Derived.Shelf.Strconv.Itoa3
import Derived.Test.YtecmobjeeonmaaaGreatDoorProg
import Derived.Shelf.Sort.Plain
import Derived.Shelf.Slices.In.SortNone
import Derived.Ground.SlsfProg
import Derived.RangeFuncBound
import Derived.RangeFuncCalls
import Derived.RangeFuncLeaves
import Derived.RangeFuncNested
import Derived.Shelf.Abstract
import Derived.Test.YtecmobjeeonmaaaGreatDoorQv2
set_option maxRecDepth 100000
set_option maxHeartbeats 8000000
namespace Go.Proofs.YtecmobjeeonmaaaGreatDoor
open Go Go.RowKit
@[reducible] def tT :Nat→List Bool
 | 0=> []
 | n + 1=>oT :: tT n
@[reducible] def tA :Nat→List Bool→List Bool
 | 0,l=>l
 | n + 1,l=>oT :: tA n l
@[reducible] def fA :Nat→List Bool→List Bool
 | 0,l=>l
 | n + 1,l=>oF :: fA n l
theorem ycF {f2:List Eff} {l:List (Nat×SV)}:∀{m:List Bool} {f1:List Eff},m.length≤f1.length→muM m (f1 ++ f2) l=muM m f1 l
 | [],_,_=>rfl
 | _ :: _,[],h=>absurd h (Nat.not_succ_le_zero _)
 | b :: m,f :: fs,h=>by
  have:=ycF (f2:=f2) (l:=l) (m:=m) (f1:=fs) (Nat.le_of_succ_le_succ h)
  simp only [List.cons_append,muM,this]
theorem ycG {f2:List Eff} {l:List (Nat×Ob)}:∀{m:List Bool} {f1:List Eff},m.length≤f1.length→muO m (f1 ++ f2) l=muO m f1 l
 | [],_,_=>rfl
 | _ :: _,[],h=>absurd h (Nat.not_succ_le_zero _)
 | b :: m,f :: fs,h=>by
  have:=ycG (f2:=f2) (l:=l) (m:=m) (f1:=fs) (Nat.le_of_succ_le_succ h)
  simp only [List.cons_append,muO,this]
def lenOk (k:Nat) (ms:List (Nat×List Bool)):Bool:=ms.all fun m=>Nat.ble m.2.length k
section
variable {K:Kx} {C:Cx} {P:Program} {n:Nat} {ops:Array Oper} {σ:Sx}
theorem Wst.pre {all f2:List Eff}:∀{l:List Oper} {ms:List (Nat×List Bool)} {fs:List Eff},lenOk all.length ms=true→Wst K C P n ops all σ ms fs l→Wst K C P n ops (all ++ f2) σ ms fs l
 | [],ms,fs,_,_=>by cases ms <;> cases fs <;> trivial
 | o :: os,m :: ms,f :: fs,hm,h=>by
  simp only [lenOk,List.all_cons,Bool.and_eq_true] at hm
  have hl:=Nat.le_of_ble_eq_true hm.1
  refine⟨?_,Wst.pre hm.2 h.2⟩
  have:muS σ (all ++ f2) m.2 m.1=muS σ all m.2 m.1:=by unfold muS;rw [ycF hl,ycG hl]
  rw [this]
  exact h.1
 | _ :: _,[],_,_,h=>by cases h
 | _ :: _,_ :: _,[],_,h=>by cases h
theorem Wst.app {all:List Eff}:∀{l l2:List Oper} {ms ms2:List (Nat×List Bool)} {fs fs2:List Eff},ms.length=l.length→fs.length=l.length→Wst K C P n ops all σ ms fs l→Wst K C P n ops all σ ms2 fs2 l2→Wst K C P n ops all σ (ms ++ ms2) (fs ++ fs2) (l ++ l2)
 | [],_,[],_,[],_,_,_,_,h2=>h2
 | o :: os,_,m :: ms,_,f :: fs,_,h,h',h1,h2=>⟨h1.1,Wst.app (Nat.succ.inj h) (Nat.succ.inj h') h1.2 h2⟩
 | [],_,_ :: _,_,_,_,h,_,_,_=>by cases h
 | [],_,[],_,_ :: _,_,_,h,_,_=>by cases h
 | _ :: _,_,[],_,_,_,h,_,_,_=>by cases h
 | _ :: _,_,_ :: _,_,[],_,_,h,_,_=>by cases h
def preOk (k N:Nat) (ms:List (Nat×List Bool)) (fs:List Eff):Bool:=Nat.ble k N && (Nat.beq ms.length k && (Nat.beq fs.length k && lenOk fs.length ms))
theorem Wst.fin {l:List Oper} {k:Nat} {ms1 ms2:List (Nat×List Bool)} {fs1 fs2:List Eff} (hp:Wst K C P n ops fs1 σ ms1 fs1 (l.take k)) (h2:Wst K C P n ops (fs1 ++ fs2) σ ms2 fs2 (l.drop k)) (hk:preOk k l.length ms1 fs1=true):Wst K C P n ops (fs1 ++ fs2) σ (ms1 ++ ms2) (fs1 ++ fs2) l:=by
 simp only [preOk,Bool.and_eq_true] at hk
 obtain⟨h0,h1,h3,h4⟩:=hk
 have h0:=Nat.le_of_ble_eq_true h0
 have h1:=Nat.eq_of_beq_eq_true h1
 have h3:=Nat.eq_of_beq_eq_true h3
 have:=Wst.app (l:=l.take k) (l2:=l.drop k) (by rw [List.length_take];omega) (by rw [List.length_take];omega) (hp.pre (f2:=fs2) h4) h2
 rwa [List.take_append_drop] at this
theorem Wst.mid {l:List Oper} {k j:Nat} {ms1 ms2:List (Nat×List Bool)} {fs1 fs2:List Eff} (hp:Wst K C P n ops fs1 σ ms1 fs1 (l.take k)) (h2:Wst K C P n ops (fs1 ++ fs2) σ ms2 fs2 ((l.take j).drop k)) (hk:(Nat.ble k j && preOk k l.length ms1 fs1)=true):Wst K C P n ops (fs1 ++ fs2) σ (ms1 ++ ms2) (fs1 ++ fs2) (l.take j):=by
 rw [Bool.and_eq_true] at hk
 have hkj:=Nat.le_of_ble_eq_true hk.1
 have hk:=hk.2
 simp only [preOk,Bool.and_eq_true] at hk
 obtain⟨h0,h1,h3,h4⟩:=hk
 have h0:=Nat.le_of_ble_eq_true h0
 have h1:=Nat.eq_of_beq_eq_true h1
 have h3:=Nat.eq_of_beq_eq_true h3
 have e:l.take k=(l.take j).take k:=by rw [List.take_take,Nat.min_eq_left hkj]
 rw [e] at hp
 have hl:(l.take j).length≥k:=by rw [List.length_take];omega
 have:=Wst.app (l:=(l.take j).take k) (l2:=(l.take j).drop k) (by rw [List.length_take];omega) (by rw [List.length_take];omega) (hp.pre (f2:=fs2) h4) h2
 rwa [List.take_append_drop] at this
end
section
variable {K:Kx} {C:Cx} {Φ:Fr} {P:Program} {Q:Exit→Act→World→Prop} {n:Nat} {σ:Sx}
theorem WE.drP {id:Nat} {l:List Oper} (k:Nat) (ms:List (Nat×List Bool)) (fs:List Eff) (hs:Wst K C P n l.toArray fs σ ms fs (l.take k)) (h:Wst K C P n l.toArray fs σ ms fs (l.take k)→WE K C Φ P Q n (.region id l.toArray true) σ):WE K C Φ P Q n (.region id l.toArray true) σ:=h hs
theorem WE.drX {id:Nat} {l:List Oper} {k:Nat} {ms1:List (Nat×List Bool)} {fs1:List Eff} (hp:Wst K C P n l.toArray fs1 σ ms1 fs1 (l.take k)) (j:Nat) (ms:List (Nat×List Bool)) (fs:List Eff) (hs:Wst K C P n l.toArray (fs1 ++ fs) σ ms fs ((l.take j).drop k)) (hk:(Nat.ble k j && preOk k l.length ms1 fs1)=true) (h:Wst K C P n l.toArray (fs1 ++ fs) σ (ms1 ++ ms) (fs1 ++ fs) (l.take j)→WE K C Φ P Q n (.region id l.toArray true) σ):WE K C Φ P Q n (.region id l.toArray true) σ:=h (hp.mid hs hk)
theorem WE.drF {id:Nat} {l:List Oper} {k:Nat} {ms1:List (Nat×List Bool)} {fs1:List Eff} (hp:Wst K C P n l.toArray fs1 σ ms1 fs1 (l.take k)) (ms:List (Nat×List Bool)) (fs:List Eff) (τ:Sx) (hs:Wst K C P n l.toArray (fs1 ++ fs) σ ms fs (l.drop k)) (hok:(preOk k l.length ms1 fs1 && (smp (fs1 ++ fs) σ && (nsOk (fs1 ++ fs) σ.n (ms1 ++ ms) && y7f P K ((ms1 ++ ms).map fun m=>ixs m.2 0) (fs1 ++ fs) σ.n l.toArray)))=true) (hτ:τ.is K (muS σ (fs1 ++ fs) (List.replicate l.length true) (muK (List.replicate l.length true) (fs1 ++ fs) σ.n)) []) (h0:WX K C Φ Q n .normal τ):WE K C Φ P Q n (.region id l.toArray true) σ:=by
 obtain⟨h1,h2⟩:=Bool.and_eq_true_iff.1 hok
 exact .drw (ms1 ++ ms) (fs1 ++ fs) τ (hp.fin hs h1) h2 hτ h0
end
end Go.Proofs.YtecmobjeeonmaaaGreatDoor
namespace Go.Proofs
open Go.Shelf
def Tryz.lays169_ren :Go.Shelf.Ren:=⟨fun | 169=>163 | n=>n,fun | 70=>242 | 9=>9 | 0=>0 | 72=>245 | 37=>243 | 127=>297 | 3=>3 | 5=>5 | n=>n,fun | n=>n⟩
theorem Tryz.lays169 :Go.Proofs.Lays.n169 Tryz.prog Tryz.lays169_ren:={
 mixed:=by kernel_rfl
 f169:=Tryz.func163.trans (congrArg some (by kernel_rfl))
 t0:=Tryz.underlying0
 a0:=Tryz.isAgg0
 z0:=Tryz.sizeOf0
 v0:=Tryz.zeroValue0
 t3:=Tryz.underlying3
 a3:=Tryz.isAgg3
 z3:=Tryz.sizeOf3
 v3:=Tryz.zeroValue3
 t9:=Tryz.underlying9
 a9:=Tryz.isAgg9
 z9:=Tryz.sizeOf9
 v9:=Tryz.zeroValue9
 t37:=Tryz.underlying243
 a37:=Tryz.isAgg243
 z37:=Tryz.sizeOf243
 v37:=Tryz.zeroValue243
 t70:=Tryz.underlying242
 a70:=Tryz.isAgg242
 z70:=Tryz.sizeOf242
 v70:=Tryz.zeroValue242
 t72:=Tryz.underlying245
 a72:=Tryz.isAgg245
 z72:=Tryz.sizeOf245
 v72:=Tryz.zeroValue245
 t127:=Tryz.underlying297
 a127:=Tryz.isAgg297
 z127:=Tryz.sizeOf297
 v127:=Tryz.zeroValue297 }
theorem Tryz.Builder_Extra_169 :Builder.Extra Tryz.prog Tryz.lays169_ren:={
 sizeBuilder:=by kernel_rfl
 liesBuilder:=by kernel_rfl
 t5:=Tryz.underlying5
 a5:=Tryz.isAgg5
 z5:=Tryz.sizeOf5
 v5:=Tryz.zeroValue5
 infoByte:=by kernel_rfl
 cellsByte:=by kernel_rfl
 sizeByte:=by kernel_rfl
 neB5:=by decide }
open Go.RowKit in
theorem Tryz.Builder_String_any (B b:Nat) (l:List UInt8) (w:World) (h:Lib.IsBuilder 245 5 B b (Lib.byteCells l) w) (hBw:B≤w.heap.size):
  Calls Tryz.prog 163 #[.pointer (some ⟨b,0,none⟩)] w fun e w'=>e= .returned (.string ⟨l.toArray⟩)∧Below B w w':=Any.Builder_String_any Tryz.lays169 Tryz.Builder_Extra_169 B b l w h hBw
def Tryz.lays171_ren :Go.Shelf.Ren:=⟨fun | 171=>161 | 243=>212 | 246=>239 | 283=>264 | 284=>265 | 285=>266 | 286=>267 | 129=>255 | 317=>281 | 318=>282 | 319=>283 | 320=>284 | 337=>301 | 338=>302 | n=>n,fun | 3=>3 | 9=>9 | 2=>2 | 4=>4 | 171=>342 | 0=>0 | 53=>336 | 37=>243 | 5=>5 | 173=>344 | 212=>360 | 51=>334 | 20=>20 | 213=>361 | 46=>295 | 232=>384 | 233=>385 | n=>n,fun | 17=>0 | 18=>1 | 19=>2 | n=>n⟩
theorem Tryz.lays171 :Go.Proofs.Lays.n171 Tryz.prog Tryz.lays171_ren:={
 mixed:=by kernel_rfl
 f129:=Tryz.func255.trans (congrArg some (by kernel_rfl))
 f171:=Tryz.func161.trans (congrArg some (by kernel_rfl))
 f243:=Tryz.func212.trans (congrArg some (by kernel_rfl))
 f246:=Tryz.func239.trans (congrArg some (by kernel_rfl))
 f283:=Tryz.func264.trans (congrArg some (by kernel_rfl))
 f284:=Tryz.func265.trans (congrArg some (by kernel_rfl))
 f285:=Tryz.func266.trans (congrArg some (by kernel_rfl))
 f286:=Tryz.func267.trans (congrArg some (by kernel_rfl))
 f317:=Tryz.func281.trans (congrArg some (by kernel_rfl))
 f318:=Tryz.func282.trans (congrArg some (by kernel_rfl))
 f319:=Tryz.func283.trans (congrArg some (by kernel_rfl))
 f320:=Tryz.func284.trans (congrArg some (by kernel_rfl))
 f337:=Tryz.func301.trans (congrArg some (by kernel_rfl))
 f338:=Tryz.func302.trans (congrArg some (by kernel_rfl))
 t0:=Tryz.underlying0
 a0:=Tryz.isAgg0
 z0:=Tryz.sizeOf0
 v0:=Tryz.zeroValue0
 t2:=Tryz.underlying2
 a2:=Tryz.isAgg2
 z2:=Tryz.sizeOf2
 v2:=Tryz.zeroValue2
 t3:=Tryz.underlying3
 a3:=Tryz.isAgg3
 z3:=Tryz.sizeOf3
 v3:=Tryz.zeroValue3
 t4:=Tryz.underlying4
 a4:=Tryz.isAgg4
 z4:=Tryz.sizeOf4
 v4:=Tryz.zeroValue4
 t5:=Tryz.underlying5
 a5:=Tryz.isAgg5
 z5:=Tryz.sizeOf5
 v5:=Tryz.zeroValue5
 t9:=Tryz.underlying9
 a9:=Tryz.isAgg9
 z9:=Tryz.sizeOf9
 v9:=Tryz.zeroValue9
 t20:=Tryz.underlying20
 a20:=Tryz.isAgg20
 z20:=Tryz.sizeOf20
 v20:=Tryz.zeroValue20
 t37:=Tryz.underlying243
 a37:=Tryz.isAgg243
 z37:=Tryz.sizeOf243
 v37:=Tryz.zeroValue243
 t46:=Tryz.underlying295
 a46:=Tryz.isAgg295
 z46:=Tryz.sizeOf295
 v46:=Tryz.zeroValue295
 t51:=Tryz.underlying334
 a51:=Tryz.isAgg334
 z51:=Tryz.sizeOf334
 v51:=Tryz.zeroValue334
 t53:=Tryz.underlying336
 a53:=Tryz.isAgg336
 z53:=Tryz.sizeOf336
 v53:=Tryz.zeroValue336
 t171:=Tryz.underlying342
 a171:=Tryz.isAgg342
 z171:=Tryz.sizeOf342
 v171:=Tryz.zeroValue342
 t173:=Tryz.underlying344
 a173:=Tryz.isAgg344
 z173:=Tryz.sizeOf344
 v173:=Tryz.zeroValue344
 t212:=Tryz.underlying360
 a212:=Tryz.isAgg360
 z212:=Tryz.sizeOf360
 v212:=Tryz.zeroValue360
 t213:=Tryz.underlying361
 a213:=Tryz.isAgg361
 z213:=Tryz.sizeOf361
 t232:=Tryz.underlying384
 a232:=Tryz.isAgg384
 z232:=Tryz.sizeOf384
 v232:=Tryz.zeroValue384
 t233:=Tryz.underlying385
 a233:=Tryz.isAgg385
 z233:=Tryz.sizeOf385
 v233:=Tryz.zeroValue385
 g17:=by kernel_rfl
 g18:=by kernel_rfl
 g19:=by kernel_rfl }
open Go.RowKit Go.Sort Go.Lib in
theorem Tryz.strconv_Itoa_small (i:Nat) (hi:i < 100) (w:World):
  Calls Tryz.prog 161 #[.int .i64 i] w fun e w'=>e= .returned (.string ⟨(Lib.decDigits i).toArray⟩)∧w'=w:=Any.strconv_Itoa_small Tryz.lays171 i hi w
end Go.Proofs
namespace Go.Proofs.YtecmobjeeonmaaaGreatDoor
open Go Go.RowKit
abbrev bT :TypeId:=245
abbrev bE :TypeId:=5
theorem yfp :(Tryz.prog.info? bT).map (fun i=>i.size)=some 2:=by kernel_rfl
theorem yfq :liesAt Tryz.prog (Tryz.prog).depth bT (2 / (Tryz.prog).cellsOf bT) 0 bT 1=true:=by kernel_rfl
theorem ycH :(Tryz.prog.info? bE).map (fun i=>(i.zero,i.size,i.bytes))=some (some (.int .u8 0),1,1):=by kernel_rfl
theorem ky_tp :(Tryz.prog).underlying 242=some (.pointer bT):=by kernel_rfl
theorem ky_un :(Tryz.prog).underlying 317=some .unsafePointer:=by kernel_rfl
/-- Behind copyCheck the builder knows its address. -/
theorem ybY (B b:Nat) (bs:List Value) (w:World) (h:Lib.IsBuilder bT bE B b bs w):
  Calls Tryz.prog 211 #[.pointer (some ⟨b,0,none⟩)] w fun e w'=>e= .returned (.tuple #[])∧Lib.BuilderAt bT bE B b (.pointer (some ⟨b,0,none⟩)) bs w'∧Below B w w':=by
 obtain⟨j,hj,hjs⟩:=Option.map_eq_some_iff.1 yfp
 rcases h with h | h
 ·have h0:=h.cell0
  have hsh:=h.shape
  have hfz:=h.frozen0
  suffices hh:Calls Tryz.prog 211 #[.pointer (some ⟨b,0,none⟩)] w fun e w'=>e= .returned (.tuple #[])∧w'=w.setCell ⟨b,0,none⟩ (.pointer (some ⟨b,0,none⟩)) by
   refine hh.mono ?_
   rintro e w' ⟨rfl,rfl⟩
   exact⟨rfl,h.used _,(Below.refl B w).setCell (p:=⟨b,0,none⟩) h.1 _⟩
  go_enter Tryz.func211,Tryz.ntmps211
  go_wp2
  rw [Lib.run_to_unsafe w ⟨b,0,none⟩ ky_tp ky_un hj (by rw [hjs];decide) hsh (Nat.zero_lt_succ 1)]
  simp only [Result.andThen]
  rw [Oper.upon_value]
  go_wp2
  rw [run_callFunc_extern Tryz.func238 (by kernel_rfl) (by kernel_rfl) (by kernel_rfl) (e:=Extern.AbiNoEscape.same) (by kernel_rfl)]
  rw [Lib.run_noEscape]
  simp only [Result.andThen]
  rw [Oper.upon_value]
  go_wp2
  rw [Lib.run_from_unsafe w ⟨b,0,none⟩ ky_un ky_tp hj hsh yfq]
  simp only [Result.andThen]
  rw [Oper.upon_value]
  go_wp2
  go_end0
  exact⟨rfl,rfl⟩
 ·have h0:=h.cell0
  suffices hh:Calls Tryz.prog 211 #[.pointer (some ⟨b,0,none⟩)] w fun e w'=>e= .returned (.tuple #[])∧w'=w by
   refine hh.mono ?_
   rintro e w' ⟨rfl,rfl⟩
   exact⟨rfl,h,Below.refl B _⟩
  go_enter Tryz.func211,Tryz.ntmps211
  go_wp2
  rw [Lib.run_neq_ptr_same w _ ky_tp hj]
  go_wp2
  go_end0
  exact⟨rfl,rfl⟩
theorem yeD (B b:Nat) (bs:List Value) (c:Int) (w:World) (h:Lib.IsBuilder bT bE B b bs w) (hlen:bs.length + 1≤1000000) (hBw:B≤w.heap.size):
  Calls Tryz.prog 162 #[.pointer (some ⟨b,0,none⟩),.int .u8 c] w fun e w'=>e= .returned .nilIface∧Lib.BuilderAt bT bE B b (.pointer (some ⟨b,0,none⟩)) (bs ++ [.int .u8 c]) w'∧Below B w w':=by
 obtain⟨i0,hi,hz0,hz1,hz2⟩:=info_parts ycH
 go_enter Tryz.func162,Tryz.ntmps162
 go_wp2_with (go_at_call 211;refine(ybY B b bs _ h).mono ?_)
 rintro e w1 ⟨rfl,h1,hb1⟩
 obtain⟨hB,v,hbk,hown,hne⟩:=h1
 have c1:w1.cell? ⟨b,1,none⟩=some v:=by rw [Lib.cell_of_heap hbk];rfl
 have hlt:b < w1.heap.size:=(Array.getElem?_eq_some_iff.1 hbk).1
 have hsz:=hb1.size
 go_wp2_with (at_builtin;refine wpList_append_own _ rfl _ _ 243 rfl B bE i0 (.int .u8 0) 1 1 Tryz.underlying243 hi hz0 hz1 hz2 rfl (by decide) _ _ _ rfl (hown.alloc _) ⟨w1.heap.size,0,none⟩ 1 1 [.int .u8 c] rfl rfl ?c1 ?c2 (by unfold maxLen;omega) (by omega) (by simp;omega) ?_)
 case c1=>
  intro j u hj
  match j,hj with
  | 0,hj=>simp at hj;subst hj;simp [Addr.add]
 case c2=>intro u hu;simp at hu;subst hu;rfl
 intro v' w2 hown' hgrow _
 have hb2:w2.heap[b]? =some (.cells #[.pointer (some ⟨b,0,none⟩),v] bT (0,0)):=by
  rw [hgrow.block b (by simp;omega) (fun e=>hne e.symm),Lib.alloc_old w1 _ b hlt]
  exact hbk
 have d1:w2.cell? ⟨b,1,none⟩=some v:=by rw [Lib.cell_of_heap hb2];rfl
 have f1:w2.frozen? ⟨b,1,none⟩=false:=Lib.frozen_of_heap hb2 1
 obtain⟨ao,n',cap,rfl⟩:∃ao n' cap,v'= .slice ao n' cap:=by
  rcases hown'.2 with ⟨hv,_⟩ | ⟨g,cap,cur,hv,_⟩ <;> exact⟨_,_,_,hv⟩
 go_wp2
 go_ret
 refine⟨rfl,Lib.BuilderAt.put (T:=bT) (e:=bE) hB hb2 (bs':=bs ++ [.int .u8 c]) (by simpa using hown') (by decide),?_⟩
 exact((hb1.alloc (by omega) _).grown hgrow (by simp;omega) (fun k hk=>(hown.lt k hk).1)).setCell (p:=⟨b,1,none⟩) hB _
theorem yfr (B b:Nat) (bs:List Value) (t:ByteArray) (w:World) (h:Lib.IsBuilder bT bE B b bs w) (hlen:bs.length + t.size≤1000000) (hBw:B≤w.heap.size):
  Calls Tryz.prog 160 #[.pointer (some ⟨b,0,none⟩),.string t] w fun e w'=>e= .returned (.tuple #[.int .i64 t.size,.nilIface])∧Lib.BuilderAt bT bE B b (.pointer (some ⟨b,0,none⟩)) (bs ++ Lib.strCells t) w'∧Below B w w':=by
 obtain⟨i0,hi,hz0,hz1,hz2⟩:=info_parts ycH
 go_enter Tryz.func160,Tryz.ntmps160
 go_wp2_with (go_at_call 211;refine(ybY B b bs _ h).mono ?_)
 rintro e w1 ⟨rfl,h1,hb1⟩
 obtain⟨hB,v,hbk,hown,hne⟩:=h1
 have c1:w1.cell? ⟨b,1,none⟩=some v:=by rw [Lib.cell_of_heap hbk];rfl
 have hlt:b < w1.heap.size:=(Array.getElem?_eq_some_iff.1 hbk).1
 have hsz:=hb1.size
 go_wp2_with (at_builtin;refine Lib.wpList_append_own_string _ rfl _ _ 243 9 rfl B bE i0 Tryz.underlying243 Tryz.underlying9 hi hz0 hz1 hz2 _ _ _ rfl hown t rfl (by unfold maxLen;omega) (by omega) (by omega) ?_)
 intro v' w2 hown' hgrow _
 have hb2:w2.heap[b]? =some (.cells #[.pointer (some ⟨b,0,none⟩),v] bT (0,0)):=by
  rw [hgrow.block b hlt (fun e=>hne e.symm)]
  exact hbk
 have d1:w2.cell? ⟨b,1,none⟩=some v:=by rw [Lib.cell_of_heap hb2];rfl
 have f1:w2.frozen? ⟨b,1,none⟩=false:=Lib.frozen_of_heap hb2 1
 obtain⟨ao,n',cap,rfl⟩:∃ao n' cap,v'= .slice ao n' cap:=by
  rcases hown'.2 with ⟨hv,_⟩ | ⟨g,cap,cur,hv,_⟩ <;> exact⟨_,_,_,hv⟩
 go_wp2
 go_ret2
 refine⟨rfl,Lib.BuilderAt.put (T:=bT) (e:=bE) hB hb2 (bs':=bs ++ Lib.strCells t) (by simpa [Lib.strCells_length] using hown') (by decide),?_⟩
 exact(hb1.grown hgrow (by omega) (fun k hk=>(hown.lt k hk).1)).setCell (p:=⟨b,1,none⟩) hB _
def dig2 (u:Nat):List UInt8:=if u < 10 then [UInt8.ofNat (48 + u)] else [UInt8.ofNat (48 + u / 10),UInt8.ofNat (48 + u % 10)]
theorem yb6 {u:Nat} (h:u < 100):Lib.decDigits u=dig2 u:=by
 unfold dig2
 split
 ·exact Lib.decDigits_one ‹_›
 ·exact Lib.decDigits_two ‹_› h
theorem ybZ (u:Nat):(dig2 u).length≤2:=by unfold dig2;split <;> simp
def keyB :List Int→List UInt8
 | []=> []
 | x :: xs=>dig2 x.toNat ++ 32 :: keyB xs
theorem ybs :∀(xs:List Int) (x:Int),keyB (xs ++ [x])=keyB xs ++ dig2 x.toNat ++ [32]
 | [],x=>by simp [keyB]
 | y :: ys,x=>by rw [List.cons_append,keyB,ybs ys x,keyB];simp
theorem yc0 :∀(xs:List Int),(keyB xs).length≤3 * xs.length
 | []=>by simp [keyB]
 | x :: xs=>by have h1:=yc0 xs;have h2:=ybZ x.toNat;simp only [keyB,List.length_append,List.length_cons];omega
def y4C (p0:List Int):Option ByteArray:=if(p0.all fun x=>decide (0≤x∧x < 100))=true∧p0.length≤1000 then some ⟨(keyB p0).toArray⟩ else none
theorem yfs (a:Option Addr) (c:Nat) (xs:List Int) (w:World) (hr:RdS w 1 a xs.length c (ints xs)) (hx:∀x∈xs,0≤x∧x < 100) (hl:xs.length≤1000):
  Calls Tryz.prog 98 #[.slice a xs.length c] w fun e w'=>e= .returned (.string ⟨(keyB xs).toArray⟩)∧Below w.heap.size w w':=by
 have Hx:=Lib.hid hx
 clear hx
 go_enter Tryz.func98,Tryz.ntmps98
 go_wp2
 go_loopw [8] (fun i wr=>∃k:Nat,k≤xs.length∧i= .int .i64 k∧Lib.IsBuilder bT bE w.heap.size w.heap.size (Lib.byteCells (keyB (xs.take k))) wr∧Below w.heap.size w wr) (fun i _=>xs.length - (intOf i).toNat)
 case atStart=>exact⟨0,Nat.zero_le _,rfl,Lib.fresh_isBuilder bT bE w,(Below.refl _ w).alloc (Nat.le_refl _) _⟩
 case round=>
  obtain⟨k,hk,rfl,hI,hbw⟩:=hrel
  by_cases hlt:k < xs.length
  ·obtain ⟨b,off,rfl,hc0⟩:=hr.at_int k hlt
   have hc:=keep0 hbw hc0
   have hsz:=hbw.size
   obtain⟨n,hn⟩:∃n:Nat,xs[k]=n:=⟨xs[k].toNat,by have:=Hx.out _ (List.getElem_mem hlt);omega⟩
   have hn100:n < 100:=by have:=Hx.out _ (List.getElem_mem hlt);omega
   rw [hn] at hc
   have hkl:=yc0 (xs.take k)
   rw [List.length_take,Nat.min_eq_left hk] at hkl
   have hd2:=ybZ n
   go_wp2_with (go_at_call 161;refine(Tryz.strconv_Itoa_small n hn100 _).mono ?_)
   rintro e W0 ⟨rfl,rfl⟩
   go_wp2_with (go_at_call 160;refine(yfr w.heap.size w.heap.size _ _ _ hI (by rw [Lib.byteCells_length,yb6 hn100];simp [ByteArray.size];omega) hsz).mono ?_)
   rintro e W1 ⟨rfl,h1,b1⟩
   go_wp2_with (go_at_call 162;refine(yeD w.heap.size w.heap.size _ _ _ (.inr h1) (by rw [List.length_append,Lib.byteCells_length,Lib.strCells_length,yb6 hn100];simp [ByteArray.size];omega) (Nat.le_trans hsz b1.size)).mono ?_)
   rintro e W2 ⟨rfl,h2,b2⟩
   go_wp2
   go_roundw
   case rel=>
    refine⟨k + 1,by omega,by go_num,.inr ?_,(hbw.trans b1).trans b2⟩
    rw [y6v xs k hlt,ybs,hn,Lib.byteCells_append,Lib.byteCells_append]
    rw [yb6 hn100] at h2
    exact h2
   case measure=>simp [intOf];omega
  ·have hke:k=xs.length:=by omega
   subst hke
   rw [List.take_length] at hI
   go_wp2_with (go_at_call 163;refine(Tryz.Builder_String_any w.heap.size w.heap.size _ _ hI hbw.size).mono ?_)
   rintro e W1 ⟨rfl,b1⟩
   go_wp2
   go_ret
   exact⟨rfl,hbw.trans b1⟩
theorem yaC {s:Sig} {p0:List Int} {a1:Option Addr} {c1:Nat} {r:ByteArray} (h1:RdL (rK .i64) s a1 c1 p0) (hm:y4C p0=some r):
  Calls Tryz.prog 98 #[.slice a1 p0.length c1] s.w (RetS No s fun v s'=>v= .string r):=by
 unfold y4C at hm
 split at hm
 ·rename_i hc
  cases hm
  obtain⟨g1,g2⟩:=hc
  obtain⟨a,c,he,h2⟩:=h1.rdI
  cases he
  refine(yfs _ _ p0 s.w h2 (fun x hx=>by simpa using List.all_eq_true.1 g1 x hx) g2).mono fun en w' hh=>?_
  obtain⟨rfl,hb⟩:=hh
  exact⟨_,s.nw w',rfl,rfl,Sig.nw_mv hb,rfl⟩
 ·cases hm
end Go.Proofs.YtecmobjeeonmaaaGreatDoor
namespace Go.Proofs.YtecmobjeeonmaaaGreatDoor
open Go.RowKit
def revK (xs:List Int) (k:Nat):List Int:=(List.range xs.length).map fun m=>if m < k∨xs.length - k≤m then xs.getD (xs.length - 1 - m) 0 else xs.getD m 0
theorem ydJ (xs:List Int):revK xs 0=xs:=by
 apply List.ext_getElem
 ·simp [revK]
 ·intro i h1 h2
  simp only [revK,List.getElem_map,List.getElem_range]
  rw [if_neg (by omega),List.getD_eq_getElem?_getD,yGe h2];rfl
theorem yc1 (xs:List Int) (k m:Nat) (hm:m < xs.length) (h:¬(m < k∨xs.length - k≤m)):(ints (revK xs k))[m]? =some (.int .i64 (xs.getD m 0)):=by
 rw [List.getElem?_map,revK,List.getElem?_map,List.getElem?_range hm]
 simp only [Option.map_some]
 rw [if_neg h]
theorem ydK (xs:List Int) (k:Nat) (h:2 * k + 1 < xs.length):ints (revK xs (k + 1))=((ints (revK xs k)).set k (.int .i64 (xs.getD (xs.length - 1 - k) 0))).set (xs.length - 1 - k) (.int .i64 (xs.getD k 0)):=by
 apply List.ext_getElem
 ·simp [revK]
 ·intro i g1 g2
  have hi:i < xs.length:=by simpa [revK] using g1
  rw [List.getElem_set,List.getElem_set]
  simp only [revK,List.getElem_map,List.getElem_range]
  by_cases e1:xs.length - 1 - k=i
  ·rw [if_pos e1,if_pos (by omega)]
   congr 2
   omega
  ·rw [if_neg e1]
   by_cases e2:k=i
   ·rw [if_pos e2,if_pos (by omega)]
    congr 2
    omega
   ·rw [if_neg e2]
    by_cases e3:i < k∨xs.length - k≤i
    ·rw [if_pos e3,if_pos (by omega)]
    ·rw [if_neg e3,if_neg (by omega)]
theorem yeE (xs:List Int) (k:Nat) (h:xs.length≤2 * k + 1):revK xs k=xs.reverse:=by
 apply List.ext_getElem
 ·simp [revK]
 ·intro i h1 h2
  have hi:i < xs.length:=by simpa using h2
  simp only [revK,List.getElem_map,List.getElem_range,List.getElem_reverse]
  split
  ·rw [List.getD_eq_getElem?_getD,yGe (by omega)];rfl
  ·have:xs.length - 1 - i=i:=by omega
   rw [List.getD_eq_getElem?_getD,yGe hi,Option.getD_some]
   congr 1
   exact this.symm
theorem yc2 (v:Value) (xs:List Int) (w:World) (B:Nat) (tag:Nat→Nat) (k0:Nat) (hr:Row w B tag k0 3 1 v xs.length (ints xs)) (hl:xs.length≤1000000):
  Calls Tryz.prog 142 #[v] w fun e w'=>e= .returned (.tuple #[])∧Row w' B tag k0 3 1 v xs.length (ints xs.reverse)∧Turn B tag tag k0 w w':=by
 obtain⟨a,cap,rfl⟩:=hr.val
 go_enter Tryz.func142,Tryz.ntmps142
 go_wp2_with fail
 go_loopw [2,3] (fun i j wr=>∃k:Nat,i= .int .i64 k∧j= .int .i64 ((xs.length:Int) - 1 - k)∧2 * k≤xs.length + 1∧Row wr B tag k0 3 1 (.slice a xs.length cap) xs.length (ints (revK xs k))∧Turn B tag tag k0 w wr) (fun i _ _=>xs.length - (intOf i).toNat)
 case atStart=>exact⟨0,rfl,by simp,by omega,by rw [ydJ];exact hr,Turn.refl _ _ _ _⟩
 case round=>
  obtain⟨k,rfl,rfl,hk,hrow,ht⟩:=hrel
  by_cases hlt:2 * k + 1 < xs.length
  ·obtain ⟨b,off,cap',e1,hbl,_⟩:=hrow.addr (by omega)
   cases e1
   have c1:=hrow.cellAt k (by omega)
   rw [yc1 xs k k (by omega) (by omega)] at c1
   have c2:=hrow.cellAt (xs.length - 1 - k) (by omega)
   rw [yc1 xs k (xs.length - 1 - k) (by omega) (by omega)] at c2
   have f1:=hrow.frozenAt (off + k)
   have f2:=hrow.frozenAt (off + (xs.length - 1 - k))
   have s1:=hrow.set k (.int .i64 (xs.getD (xs.length - 1 - k) 0))
   have s2:=s1.1.set (xs.length - 1 - k) (.int .i64 (xs.getD k 0))
   rw [←ydK xs k hlt] at s2
   have S1:=Lib.hid s1.2
   have S2:=Lib.hid s2
   have c3:(wr.setCell ⟨b,off + k,none⟩ (.int .i64 (xs.getD (xs.length - 1 - k) 0))).cell? ⟨b,off + (xs.length - 1 - k),none⟩=some (.int .i64 (xs.getD (xs.length - 1 - k) 0)):=by
    rw [World.cell?_setCell_other,c2]
    intro e;simp at e;try omega
   clear s1 s2 hr
   generalize xs.getD (xs.length - 1 - k) 0=p at *
   generalize xs.getD k 0=q at *
   have hidx:((xs.length:Int) - 1 - k).toNat=xs.length - 1 - k:=by omega
   go_wp2
   go_region
   go_wp2
   go_roundw
   case rel=>exact⟨k + 1,by go_num,by congr 1;omega,by omega,S2.out.1.below (ybL _),((ht.trans S1.out).trans S2.out.2).trans (Turn.below (ybL _))⟩
   case measure=>simp [intOf];omega
  ·go_wp2
   refine⟨rfl,.tuple #[],by simp [results,Tryz.results142],⟨rfl,by rw [yeE xs k (by omega)] at hrow;exact hrow,ht⟩⟩
end Go.Proofs.YtecmobjeeonmaaaGreatDoor
namespace Go.Proofs.YtecmobjeeonmaaaGreatDoor
open Go Go.RowKit
def y4o (p0:List Int):Option (List Int):=if p0.length≤1000000 then some p0.reverse else none
theorem y8i {s:Sig} {p0:List Int} {t0:Nat} {a1:Option Addr} {c1:Nat} {r:List Int} (_zt0:0 < t0) (h1:RowT (rK .i64) s t0 3 a1 c1 p0) (hm:y4o p0=some r):
  Calls Tryz.prog 142 #[.slice a1 p0.length c1] s.w (RetS (One t0) s fun v s'=>v= .tuple #[]∧RowT (rK .i64) s' t0 3 a1 c1 r):=by
 obtain⟨hl,rfl⟩:p0.length≤1000000∧p0.reverse=r:=by
  unfold y4o at hm
  split at hm
  ·exact ⟨by assumption,Option.some.inj hm⟩
  ·cases hm
 obtain⟨cs,h2,h3⟩:=h1
 have hc:=y8V h3
 subst hc
 refine(yc2 _ p0 s.w 0 s.tag t0 h2 hl).mono ?_
 rintro e w' ⟨rfl,hr,ht⟩
 exact⟨_,⟨w',s.tag⟩,rfl,rfl,ht.mv,rfl,ints p0.reverse,by rw [List.length_reverse];exact hr,y8W _⟩
end Go.Proofs.YtecmobjeeonmaaaGreatDoor
namespace Go.Proofs
open Go.Shelf
def Tryz.lays189_ren :Go.Shelf.Ren:=⟨fun | 189=>206 | 125=>234 | 257=>236 | 128=>254 | 129=>255 | 294=>256 | 295=>257 | 296=>258 | 297=>259 | 298=>260 | 299=>261 | 216=>208 | 300=>262 | 301=>263 | 328=>278 | 329=>274 | 330=>275 | 331=>279 | 332=>280 | 215=>214 | 343=>300 | n=>n,fun | 28=>32 | 3=>3 | 46=>295 | 0=>0 | 51=>334 | 53=>336 | 4=>4 | 183=>328 | 182=>327 | 131=>170 | 5=>5 | 9=>9 | 218=>351 | 222=>355 | 228=>378 | 229=>58 | n=>n,fun | n=>n⟩
theorem Tryz.lays189 :Go.Proofs.Lays.n189 Tryz.prog Tryz.lays189_ren:={
 mixed:=by kernel_rfl
 f125:=Tryz.func234.trans (congrArg some (by kernel_rfl))
 f128:=Tryz.func254.trans (congrArg some (by kernel_rfl))
 f129:=Tryz.func255.trans (congrArg some (by kernel_rfl))
 f189:=Tryz.func206.trans (congrArg some (by kernel_rfl))
 f215:=Tryz.func214.trans (congrArg some (by kernel_rfl))
 f216:=Tryz.func208.trans (congrArg some (by kernel_rfl))
 f257:=Tryz.func236.trans (congrArg some (by kernel_rfl))
 f294:=Tryz.func256.trans (congrArg some (by kernel_rfl))
 f295:=Tryz.func257.trans (congrArg some (by kernel_rfl))
 f296:=Tryz.func258.trans (congrArg some (by kernel_rfl))
 f297:=Tryz.func259.trans (congrArg some (by kernel_rfl))
 f298:=Tryz.func260.trans (congrArg some (by kernel_rfl))
 f299:=Tryz.func261.trans (congrArg some (by kernel_rfl))
 f300:=Tryz.func262.trans (congrArg some (by kernel_rfl))
 f301:=Tryz.func263.trans (congrArg some (by kernel_rfl))
 f328:=Tryz.func278.trans (congrArg some (by kernel_rfl))
 f329:=Tryz.func274.trans (congrArg some (by kernel_rfl))
 f330:=Tryz.func275.trans (congrArg some (by kernel_rfl))
 f331:=Tryz.func279.trans (congrArg some (by kernel_rfl))
 f332:=Tryz.func280.trans (congrArg some (by kernel_rfl))
 f343:=Tryz.func300.trans (congrArg some (by kernel_rfl))
 t0:=Tryz.underlying0
 a0:=Tryz.isAgg0
 z0:=Tryz.sizeOf0
 v0:=Tryz.zeroValue0
 t3:=Tryz.underlying3
 a3:=Tryz.isAgg3
 z3:=Tryz.sizeOf3
 v3:=Tryz.zeroValue3
 t4:=Tryz.underlying4
 a4:=Tryz.isAgg4
 z4:=Tryz.sizeOf4
 v4:=Tryz.zeroValue4
 t5:=Tryz.underlying5
 a5:=Tryz.isAgg5
 z5:=Tryz.sizeOf5
 v5:=Tryz.zeroValue5
 t9:=Tryz.underlying9
 a9:=Tryz.isAgg9
 z9:=Tryz.sizeOf9
 v9:=Tryz.zeroValue9
 t28:=Tryz.underlying32
 a28:=Tryz.isAgg32
 z28:=Tryz.sizeOf32
 v28:=Tryz.zeroValue32
 t46:=Tryz.underlying295
 a46:=Tryz.isAgg295
 z46:=Tryz.sizeOf295
 v46:=Tryz.zeroValue295
 t51:=Tryz.underlying334
 a51:=Tryz.isAgg334
 z51:=Tryz.sizeOf334
 v51:=Tryz.zeroValue334
 t53:=Tryz.underlying336
 a53:=Tryz.isAgg336
 z53:=Tryz.sizeOf336
 v53:=Tryz.zeroValue336
 t131:=Tryz.underlying170
 a131:=Tryz.isAgg170
 z131:=Tryz.sizeOf170
 v131:=Tryz.zeroValue170
 t182:=Tryz.underlying327
 a182:=Tryz.isAgg327
 z182:=Tryz.sizeOf327
 v182:=Tryz.zeroValue327
 t183:=Tryz.underlying328
 a183:=Tryz.isAgg328
 z183:=Tryz.sizeOf328
 v183:=Tryz.zeroValue328
 t218:=Tryz.underlying351
 a218:=Tryz.isAgg351
 z218:=Tryz.sizeOf351
 v218:=Tryz.zeroValue351
 t222:=Tryz.underlying355
 a222:=Tryz.isAgg355
 z222:=Tryz.sizeOf355
 v222:=Tryz.zeroValue355
 t228:=Tryz.underlying378
 a228:=Tryz.isAgg378
 z228:=Tryz.sizeOf378
 v228:=Tryz.zeroValue378
 t229:=Tryz.underlying58
 a229:=Tryz.isAgg58
 z229:=Tryz.sizeOf58
 v229:=Tryz.zeroValue58 }
open Go.RowKit Go.Sort Go.Lib in
theorem Tryz.slices_Sort_int (blk off cap:Nat) (zs:List Int) (w:World) (hH:Holds (Value.int .i64) w blk off zs.toArray) (hblk:blk < w.heap.size) (hsz:zs.length < 4611686018427387904):
  Calls Tryz.prog 206 #[.slice (some ⟨blk,off,none⟩) zs.length cap] w fun e w'=>e= .returned (.tuple #[])∧∃n os,w'=grow (putRow (Value.int .i64) (Sort.ahead w n) blk off (zs.mergeSort fun x y=>decide (x≤y)).toArray) os:=Any.slices_Sort_int Tryz.lays189 blk off cap zs w hH hblk hsz
open Go.RowKit Go.Sort Go.Lib in
theorem Tryz.slices_Sort_int_none (p:Option Addr) (cap:Nat) (w:World):
  Calls Tryz.prog 206 #[.slice p 0 cap] w fun e w'=>e= .returned (.tuple #[])∧w'=w:=Any.slices_Sort_int_none Tryz.lays189 p cap w
end Go.Proofs
namespace Go.Proofs.YtecmobjeeonmaaaGreatDoor
open Go Go.RowKit Go.Sort
section
variable {α β:Type} {r:Rep α} {s:Sig} {t:Nat} {T:TypeId} {a:Option Addr} {cap:Nat} {xs ys:List α}
theorem ydL {enc:β→Value} [Inhabited β] {w:World} {b off n:Nat} {d:Array β} {os:Array Obj} {cur:Array Value} {fr:Nat×Nat} (h:w.heap[b]? =some (.cells cur T fr)):(grow (putRow enc (Sort.ahead w n) b off d) os).heap[b]? =some (.cells (putCells enc off d cur) T fr):=by
 have hb:b < w.heap.size:=(Array.getElem?_eq_some_iff.1 h).1
 show((w.heap.modify b (onCells (putCells enc off d))) ++ os)[b]? =_
 rw [Array.getElem?_append_left (by simpa using hb),Array.getElem?_modify,if_pos rfl,h]
 rfl
theorem ybt {enc:β→Value} [Inhabited β] {w:World} {b b' off n:Nat} {d:Array β} {os:Array Obj} (hb:b' < w.heap.size) (hne:b'≠b):(grow (putRow enc (Sort.ahead w n) b off d) os).heap[b']? =w.heap[b']? :=by
 show((w.heap.modify b (onCells (putCells enc off d))) ++ os)[b']? =_
 rw [Array.getElem?_append_left (by simpa using hb),Array.getElem?_modify,if_neg (Ne.symm hne)]
theorem RowAt.put {b off:Nat} {cur:Array Value} {vs:List Value} (h:RowAt r s t T b off cap cur vs xs) (h1:r.sz=1) (ht:0 < t) {enc:β→Value} [Inhabited β] {d:Array β} (hd:d.size=xs.length) (hy:ys.length=xs.length) (hr:∀j,j < d.size→∀h2:j < ys.length,r.rd s [enc d[j]!] ys[j]) {w':World} (hw:∃n os,w'=grow (putRow enc (Sort.ahead s.w n) b off d) os):
  ∃s',w'=s'.w∧Mv (One t) s s'∧RowT r s' t T (some ⟨b,off,none⟩) cap ys:=by
 obtain⟨n,os,rfl⟩:=hw
 have hb:b < s.w.heap.size:=(Array.getElem?_eq_some_iff.1 h.heap).1
 refine⟨⟨_,fun b=>if b < s.w.heap.size then s.tag b else 0⟩,rfl,⟨rfl,rfl,rfl,?_,fun b' hb' hn=>⟨ybt hb' fun e=>hn (by rw [e];exact h.tag),if_pos hb'⟩⟩,?_⟩
 ·show _≤((s.w.heap.modify b _) ++ os).size
  simp
 ·have hm:Mv (One t) s ⟨grow (putRow enc (Sort.ahead s.w n) b off d) os,fun b=>if b < s.w.heap.size then s.tag b else 0⟩:=⟨rfl,rfl,rfl,(by show _≤((s.w.heap.modify b _) ++ os).size;simp),fun b' hb' hn=>⟨ybt hb' fun e=>hn (by rw [e];exact h.tag),if_pos hb'⟩⟩
  have hle:=hm.le (by show ¬0=t;omega)
  have hcap:=h.cap
  have hcs:((putCells enc off d cur).toList.drop off).take (ys.length * 1)=(d.toList.map enc):=by
   rw [Nat.mul_one]
   apply List.ext_getElem?
   intro j
   rw [List.getElem?_take,List.getElem?_drop,List.getElem?_map]
   by_cases hj:j < ys.length
   ·rw [if_pos hj,Array.getElem?_toList,putCells,Array.getElem?_mapIdx,Array.getElem?_eq_getElem (by omega),Option.map_some,if_pos ⟨by omega,by omega⟩,Nat.add_sub_cancel_left,Array.getElem?_toList,Array.getElem?_eq_getElem (by omega),Option.map_some,getElem!_pos _ _ (by omega)]
   ·rw [if_neg hj,Array.getElem?_toList,Array.getElem?_eq_none (by omega)];rfl
  refine⟨d.toList.map enc,⟨by rw [h1,Nat.mul_one,List.length_map,Array.length_toList];omega,.inr ⟨b,off,cap,putCells enc off d cur,rfl,⟨ydL h.heap,?_,Nat.zero_le _⟩,by omega,hcap.2.1,?_,by rw [h1];exact hcs⟩⟩,Cells.of h1 (by simp;omega) fun j hj hj2=>?_⟩
  ·show (if b < s.w.heap.size then s.tag b else 0)=t
   rw [if_pos hb];exact h.tag
  ·rw [h1,Nat.mul_one,putCells,Array.size_mapIdx];exact hcap.2.2
  ·have hjd:j < d.size:=by simpa using hj
   have:=hr j hjd hj2
   rw [getElem!_pos d j hjd] at this
   rw [List.getElem_map,Array.getElem_toList]
   exact r.mono hle this
theorem RowAt.holds {b off:Nat} {cur:Array Value} {vs:List Value} (h:RowAt r s t T b off cap cur vs xs) {enc:β→Value} [Inhabited β] {d:Array β} (hd:d.size=vs.length) (he:∀j (h:j < vs.length),enc d[j]! =vs[j]):Holds enc s.w b off d:=fun j hj=>by
 have hc:=h.cell j (by omega)
 refine⟨?_,?_⟩
 ·unfold World.cell?
  rw [h.heap]
  show cur[off + j]? =_
  rw [hc,he j (by omega)]
 ·unfold World.frozen?
  rw [h.heap]
  show(decide (0≤off + j) && decide (off + j < 0))=false
  simp
end
def isI (x:Int):List Int→List Int
 | []=> [x]
 | y :: l=>if x≤y then x :: y :: l else y :: isI x l
def isL :List Int→List Int
 | []=> []
 | x :: l=>isI x (isL l)
theorem yaj (x:Int):∀l:List Int,(isI x l).Perm (x :: l)
 | []=> .refl _
 | y :: l=>by
  unfold isI
  split
  ·exact .refl _
  ·exact ((yaj x l).cons y).trans (.swap x y l)
theorem y6X :∀l:List Int,(isL l).Perm l
 | []=> .refl _
 | x :: l=>(yaj x _).trans ((y6X l).cons x)
theorem ydM (x:Int):∀{l:List Int},l.Pairwise (· ≤ ·)→(isI x l).Pairwise (· ≤ ·)
 | [],_=>by simp [isI]
 | y :: l,h=>by
  obtain⟨h1,h2⟩:=List.pairwise_cons.1 h
  unfold isI
  split
  ·rename_i hxy
   refine List.pairwise_cons.2 ⟨fun z hz=>?_,h⟩
   rcases List.mem_cons.1 hz with rfl | hz
   ·exact hxy
   ·exact Int.le_trans hxy (h1 z hz)
  ·rename_i hxy
   refine List.pairwise_cons.2 ⟨fun z hz=>?_,ydM x h2⟩
   rcases List.mem_cons.1 ((yaj x l).mem_iff.1 hz) with rfl | hz
   ·omega
   ·exact h1 z hz
theorem yc3 :∀l:List Int,(isL l).Pairwise (· ≤ ·)
 | []=> .nil
 | x :: l=>ydM x (yc3 l)
theorem yfT (l:List Int):isL l=l.mergeSort fun x y=>decide (x≤y):=by
 refine List.Perm.eq_of_pairwise (le:=(· ≤ ·)) (fun a b _ _ h1 h2=>Int.le_antisymm h1 h2) (yc3 l) ?_ ((y6X l).trans (List.mergeSort_perm l _).symm)
 exact(List.pairwise_mergeSort (le:=fun x y:Int=>decide (x≤y)) (fun a b c h1 h2=>by simp at *;omega) (fun a b=>by simp;omega) l).imp fun h=>by simpa using h
def y5A (p0:List Int):Option (List Int):=if p0.length≤4294967296 then some (isL p0) else none
theorem y9n {s:Sig} {p0:List Int} {t0:Nat} {a1:Option Addr} {c1:Nat} {r:List Int} (zt0:0 < t0) (h1:RowT (rK .i64) s t0 3 a1 c1 p0) (hm:y5A p0=some r):
  Calls Tryz.prog 206 #[.slice a1 p0.length c1] s.w (RetS (One t0) s fun v s'=>v= .tuple #[]∧RowT (rK .i64) s' t0 3 a1 c1 r):=by
 obtain⟨hl,rfl⟩:p0.length≤4294967296∧p0.mergeSort (fun x y=>decide (x≤y))=r:=by
  unfold y5A at hm
  rw [yfT] at hm
  split at hm
  ·exact ⟨by assumption,Option.some.inj hm⟩
  ·cases hm
 rcases h1.seen rfl with ⟨rfl,rfl,rfl⟩ | ⟨b,off,cur,vs,rfl,h⟩
 ·refine (Tryz.slices_Sort_int_none none 0 s.w).mono ?_
  rintro e w' ⟨rfl,rfl⟩
  exact⟨_,s,rfl,rfl,Mv.refl _ _,rfl,by simpa using RowT.nil⟩
 ·have hv:∀j (h2:j < vs.length) (h3:j < p0.length),vs[j]= .int .i64 p0[j]:=fun j h2 h3=>by
   have:=h.rd j h2 h3
   exact List.head_eq_of_cons_eq this
  have hlen:=h.len
  have hb:b < s.w.heap.size:=(Array.getElem?_eq_some_iff.1 h.heap).1
  refine(Tryz.slices_Sort_int b off c1 p0 s.w (h.holds (by simp [hlen]) fun j hj=>?_) hb (by omega)).mono ?_
  ·rw [hv j hj (by omega),getElem!_pos _ _ (by simp;omega)]
   simp
  ·rintro e w' ⟨rfl,hw⟩
   obtain⟨s',hw',hm,hr⟩:=h.put rfl zt0 (ys:=p0.mergeSort fun x y=>decide (x≤y)) (by simp) (by simp) (fun j hj h2=>by
    have e:=getElem!_pos (p0.mergeSort fun x y=>decide (x≤y)).toArray j hj
    rw [e]
    show [_]= [_]
    simp) hw
   exact⟨_,s',hw',rfl,hm,rfl,hr⟩
end Go.Proofs.YtecmobjeeonmaaaGreatDoor
namespace Go.Proofs.YtecmobjeeonmaaaGreatDoor
open Go.RowKit Go.Shelf
def mark (D:Nat):Deferred:={ target:= .collected D,args:= #[] }
theorem yb7 {P:Program} {f:FuncId} {fn:Func} {c:Code} {args:Array Value} {w:World} {R:Ending→World→Prop} (hf:P.funcs[f]? =some fn) (hb:fn.body=some c)
  (h:c.wp P (bodyPostM Fence.wide 4 P fn R) { tmps:=args ++ Array.replicate (fn.ntmps - args.size) undef,defers:=[] } w):Calls P f args w R:=
 (callsIn_wide (n:=4)).1 (callsIn_of_wp_marks hf hb trivial (wpIn_wide.2 h) rfl)
end Go.Proofs.YtecmobjeeonmaaaGreatDoor
namespace Go.Proofs.YtecmobjeeonmaaaGreatDoor
open Go Go.RowKit
noncomputable section
def Yd (P:Program) (l N:Nat) (enc:Nat→List Value) (J:Nat→Sig→Prop):Prop:=
 ∀k,k < N→∀s,J k s→YieldAt Fence.wide 2 P l (enc k).toArray s.w fun e W'=>e= .returned (.bool true)∧∃s',W'=s'.w∧Le s s'∧J (k + 1) s'
def FI (P:Program) (s:Sig) (v:Value) (N:Nat) (enc:Nat→List Value):Prop:=
 ∃gf lb,v= .func (.func gf) #[] lb∧Cf P gf∧∀(l:Nat) (J:Nat→Sig→Prop) (s1:Sig),Le s s1→(∀k a b,J k a→Mv No a b→J k b)→Yd P l N enc J→J 0 s1→
  Calls P gf (#[.func (.yield l) #[] #[]] ++ lb) s1.w fun e W'=>(∃v,e= .returned v)∧∃s2,W'=s2.w∧J N s2
theorem FI.mono {P:Program} {s s':Sig} {v:Value} {N:Nat} {enc:Nat→List Value} (h:FI P s v N enc) (m:Le s s'):FI P s' v N enc:=by
 obtain⟨gf,lb,e,hc,h⟩:=h
 exact⟨gf,lb,e,hc,fun l J s1 h1 h2 h3 h4=>h l J s1 (m.trans h1) h2 h3 h4⟩
def Lf (s0 s:Sig):Prop:=Le s0 s
theorem Lf.mono {s0 s s':Sig} (h:Lf s0 s) (m:Le s s'):Lf s0 s':=Le.trans h m
structure Rc (s:Sig) (t u D:Nat) (r:Loop):Prop where
 lp:s.w.heap[D + 1]? =some (.loop r)
 mark:s.w.heap[D]? =some (.deferred (some []))
 tr:s.tag (D + 1)=t
 tm:s.tag D=u
theorem Rc.mv {S:Nat→Prop} {s s':Sig} {t u D:Nat} {r:Loop} (h:Rc s t u D r) (m:Mv S s s') (hn:¬S t) (hu:¬S u):Rc s' t u D r:=by
 obtain⟨g1,g2⟩:=m.blk (D + 1) (Array.getElem?_eq_some_iff.1 h.lp).1 (by rw [h.tr];exact hn)
 obtain⟨g3,g4⟩:=m.blk D (Array.getElem?_eq_some_iff.1 h.mark).1 (by rw [h.tm];exact hu)
 exact⟨g1.trans h.lp,g3.trans h.mark,g2.trans h.tr,g4.trans h.tm⟩
structure Mk (s:Sig) (t D:Nat):Prop where
 mark:s.w.heap[D]? =some (.deferred (some []))
 tm:s.tag D=t
theorem Rc.put {s:Sig} {t u D:Nat} {r:Loop} (h:Rc s t u D r) (r':Loop):Mv (One t) s ⟨s.w.putObj (D + 1) (.loop r'),s.tag⟩∧Rc ⟨s.w.putObj (D + 1) (.loop r'),s.tag⟩ t u D r':=by
 have hl:=(Array.getElem?_eq_some_iff.1 h.lp).1
 refine⟨⟨rfl,rfl,rfl,by simp [World.putObj],fun b hb hn=>⟨World.putObj_heap_other fun e=>hn ?_,rfl⟩⟩,⟨World.putObj_heap_same hl,(World.putObj_heap_other (by omega)).trans h.mark,h.tr,h.tm⟩⟩
 subst e;exact h.tr
def Env.zp :List Nat→List Value→List (Nat×Value)→List (Nat×Value)
 | p :: ps,v :: vs,e=>Env.zp ps vs ((p,v) :: e)
 | _,_,e=>e
theorem Fits.zp {Φ:Fr} {n:Nat}:∀{ps:List Nat} {vs:List Value} {e:List (Nat×Value)} {a:Act},(∀p∈ps,p < n)→Fits Φ n e a→
  Fits Φ n (Env.zp ps vs e) { a with tmps:=(ps.zip vs).foldl (fun t (p,v)=>t.setIfInBounds p v) a.tmps }
 | [],_,_,_,_,h=>by simpa [Env.zp] using h
 | _ :: _,[],_,_,_,h=>by simpa [Env.zp] using h
 | p :: ps,v :: vs,e,a,hp,h=>by
  have:=Fits.zp (ps:=ps) (vs:=vs) (fun q hq=>hp q (List.mem_cons_of_mem _ hq)) (h.put (d:=p) (by simpa using hp p (List.mem_cons_self ..)) v)
  simpa [Env.zp,Act.put] using this
def RQ (K:Sig→Prop):Exit→Act→World→Prop
 | .normal,_,W=>∃c:Sig,W=c.w∧K c
 | _,_,_=>False
def RB (Φ:Fr) (P:Program) (l:Nat) (body:Code) (K:Sig→Prop) (a:Act) (w:World):Prop:=∃w₂,(Instr.beginRound l).run P w= .ok () w₂∧body.wpIn Φ.f 2 P (RQ K) a w₂
theorem X.beg {Φ:Fr} {P:Program} {n t u D:Nat} {r:Loop} {body:Code} {K:Sig→Prop} {e:List (Nat×Value)} {s:Sig} (h:Rc s t u D r) (hr:r.state= .ready)
  (hb:∀s',Mv (One t) s s'→Rc s' t u D { r with state:= .busy }→E Φ P (RQ K) n body e s'.w):X Φ (Exit.then (RB Φ P (D + 1) body K) (fun _ _ _=>False)) n .normal e s.w:=fun a ha=>
 ⟨_,run_beginRound h.lp hr,hb _ (h.put _).1 (h.put _).2 a ha⟩
theorem X.rnd {Φ:Fr} {n:Nat} {K:Sig→Prop} {e:List (Nat×Value)} {s:Sig} (h:K s):X Φ (RQ K) n .normal e s.w:=fun _ _=>⟨s,rfl,h⟩
theorem E.range {ds:List Deferred} {P:Program} {Q:Exit→Act→World→Prop} {n:Nat} {e:List (Nat×Value)} {s:Sig} {g:Operand} {ps:Array Tmp} {assign body:Code} {v:Value} {N:Nat} {enc:Nat→List Value} (t u:Nat) (ht:t≠0) (htu:t≠u)
  (J:Nat→Sig→Prop) (hg:Env.ev e g=some v) (hit:FI P s v N enc) (hps:∀k,(enc k).length=ps.size) (hpn:∀p∈ps.toList,p < n) (h0:J 0 s)
  (hbody:∀(k D:Nat) (r:Loop) (a b:Sig),k < N→J k a→Mv (One t) a b→Rc b t u D r→r.state= .ready→
   E ⟨some (D + 1),[]⟩ P (Exit.then (RB ⟨some (D + 1),[]⟩ P (D + 1) body (fun c=>J (k + 1) c∧Rc c t u D { r with state:= .busy }∧Le b c)) (fun _ _ _=>False)) n assign (Env.zp ps.toList (enc k) e) b.w)
  (hend:∀(D:Nat) (a b:Sig),s.w.heap.size≤D→J N a→Mv (One t) a b→Mk b u D→X ⟨none,mark D :: ds⟩ Q n .normal e b.w):E ⟨none,ds⟩ P Q n (.rangeFunc g ps assign body) e s.w:=by
 obtain⟨gf,lb,rfl,hcf,hit⟩:=hit
 intro ac ha
 refine wpIn_rangeFunc ?_
 intro fn _
 obtain⟨r0,hr0⟩:∃r0:Loop,r0= { state:= .ready,pending:=none,fn,tmps:=ac.tmps,params:=ps,assign,body,defers:=s.w.heap.size }:=⟨_,rfl⟩
 obtain⟨W1,hW1⟩:∃W1,(s.w.alloc (.deferred (some []))).alloc (.loop r0)=W1:=⟨_,rfl⟩
 have hsz:(s.w.alloc (.deferred (some []))).heap.size=s.w.heap.size + 1:=World.size_alloc _ _
 have hL1:W1.heap[s.w.heap.size + 1]? =some (.loop r0):=by
  rw [←hW1];have:=World.alloc_heap_new (s.w.alloc (.deferred (some []))) (.loop r0);rwa [World.size_alloc] at this
 have hK1:W1.heap[s.w.heap.size]? =some (.deferred (some [])):=by
  rw [←hW1];exact(Below.heap_alloc _ _ _ (by simp)).trans (World.alloc_heap_new s.w _)
 have hb1:Below s.w.heap.size s.w W1:=by
  rw [←hW1];exact((Below.refl _ s.w).alloc (Nat.le_refl _) _).alloc (by simp) _
 obtain⟨tg,htg⟩:∃tg:Nat→Nat,tg=fun b=>if b < s.w.heap.size then s.tag b else if b=s.w.heap.size then u else t:=⟨_,rfl⟩
 have hm1:Mv No s ⟨W1,tg⟩:=Below.mv hb1 fun b hb=>by rw [htg];exact if_pos hb
 have hRc1:Rc ⟨W1,tg⟩ t u s.w.heap.size r0:=⟨hL1,hK1,by rw [htg];exact(if_neg (by omega)).trans (if_neg (by omega)),by rw [htg];exact(if_neg (by omega)).trans (if_pos rfl)⟩
 have hev:ac.eval g= .func (.func gf) #[] lb:=ha.ev hg
 refine⟨s.w.heap.size + 1,[{ target:= .collected s.w.heap.size,args:= #[] }],W1,{ target:= .fn (.func gf) lb,args:= #[.func (.yield (s.w.heap.size + 1)) #[] #[]] },W1,gf,
  #[.func (.yield (s.w.heap.size + 1)) #[] #[]] ++ lb,W1,?_,?_,?_,?_,fun e=>(by cases e),?_⟩
 ·rw [←hW1,hr0];exact run_enterLoop_outer _ _ _ _ _
 ·simp only [resolve,hev]
  simp [go_sem]
 ·intro f' _;trivial
 ·have:=hcf (#[.func (.yield (s.w.heap.size + 1)) #[] #[]] ++ lb) W1
  simp [invoke,go_sem] at this ⊢
  exact this
 ·obtain ⟨J',hJ'⟩:∃J':Nat→Sig→Prop,J'=fun k b=>(∃a,J k a∧Mv (One t) a b)∧Rc b t u s.w.heap.size r0:=⟨_,rfl⟩
  have h:=hit (s.w.heap.size + 1) J' ⟨W1,tg⟩ (hm1.le no_No) (by
   intro k a b hk hm
   rw [hJ'] at hk ⊢
   obtain⟨⟨a0,h1,h2⟩,h3⟩:=hk
   exact⟨⟨a0,h1,h2.trans hm.no⟩,h3.mv hm no_No no_No⟩) (by
   intro k hkN a hk
   rw [hJ'] at hk ⊢
   obtain⟨⟨a0,h1,h2⟩,h3⟩:=hk
   have hy:=run_yield (P:=P) (args:=(enc k).toArray) h3.lp (by rw [hr0];simpa using hps k)
   rw [hr0] at hy
   refine⟨fn,_,assign,body,hy,roundIn_of_wpIn trivial ?_⟩
   have hf0:Fits ⟨some (s.w.heap.size + 1),[]⟩ n e { tmps:=ac.tmps,defers:=[] }:=⟨ha.size,rfl,ha.has⟩
   have hf:=hf0.zp (ps:=ps.toList) (vs:=enc k) hpn
   have hfold:(Array.zip ps (enc k).toArray).foldl (fun t (x:Tmp×Value)=>t.setIfInBounds x.1 x.2) ac.tmps=(ps.toList.zip (enc k)).foldl (fun t (x:Nat×Value)=>t.setIfInBounds x.1 x.2) ac.tmps:=by
    rw [←Array.foldl_toList,Array.toList_zip]
   have hb:=hbody k s.w.heap.size r0 a0 a hkN h1 h2 h3 (by rw [hr0]) _ hf
   rw [←hfold] at hb
   refine wpIn_mono hb fun ex a1 w1 hq=>?_
   cases ex <;> first | exact hq | skip
   obtain⟨w2,hq1,hq2⟩:=hq
   refine⟨w2,hq1,wpIn_mono hq2 fun ex a3 w3 hq=>?_⟩
   cases ex <;> first | exact hq.elim | skip
   obtain⟨c,rfl,hJc,hRc,hle⟩:=hq
   obtain⟨g1,g2⟩:=hRc.put r0
   have hend:=run_endRound (P:=P) none hRc.lp
   refine⟨_,_,hend,rfl,⟨c.w.putObj (s.w.heap.size + 1) (.loop r0),c.tag⟩,?_,hle.trans (g1.le (Ne.symm ht)),⟨c,hJc,g1⟩,g2⟩
   rw [hr0];rfl) (by
   rw [hJ']
   exact⟨⟨s,h0,hm1.no⟩,hRc1⟩)
  refine(callsIn_wide (n:=1)).2 (h.mono ?_)
  rintro en W2 ⟨⟨vv,rfl⟩,s2,rfl,h5⟩
  rw [hJ'] at h5
  obtain⟨⟨a0,h1,h2⟩,h3⟩:=h5
  obtain⟨g1,g2⟩:=h3.put { r0 with state:= .exhausted,pending:=none }
  have hen:=run_endLoop (P:=P) h3.lp (by rw [hr0];simp)
  rw [show r0.pending=none by rw [hr0]] at hen
  refine⟨none,_,hen,?_⟩
  refine hend s.w.heap.size a0 _ (Nat.le_refl _) h1 (h2.trans g1) ⟨g2.mark,g2.tm⟩ _ ?_
  exact⟨ha.size,by rw [←show ac.defers=ds from ha.defers];rfl,ha.has⟩
theorem L.opIn {Φ:Fr} {P:Program} {Q:Exit→Act→World→Prop} {n:Nat} {e:List (Nat×Value)} {w:World} {ops:Array Oper} {os:List Oper} {o:Oper} (hw:Wt ops e o.guard) (h:∀a,Fits Φ n e a→∀K:Act→World→Prop,(∀e' a' w',Fits Φ n e' a'→L Φ P Q n ops os e' w'→K a' w')→o.wpIn Φ.f 2 P a w K Q):L Φ P Q n ops (o :: os) e w:=fun is his a ha=>by
 cases is with
 | nil=>cases his
 | cons i rest=>
  simp only [List.map_cons,List.cons.injEq] at his
  obtain⟨h1,h2⟩:=his
  simp only [wpOpsIn,h1]
  rw [if_pos (Wt.wanted ha hw)]
  exact h a ha _ fun e' a' w' hf hl=>hl rest h2 a' hf
theorem L.yd {P:Program} {Q:Exit→Act→World→Prop} {n:Nat} {e:List (Nat×Value)} {s:Sig} {ops:Array Oper} {os:List Oper} {d:Nat} {ty:TypeId} {pos:String} {af:Array Edge} {g:Option (Nat×Bool)} {c:Call} {x:Operand} {xs:List Operand} {l N k:Nat} {enc:Nat→List Value} {J:Nat→Sig→Prop}
  (hY:Yd P l N enc J) (hk:k < N) (hJ:J k s) (hc:c.callee= .value x) (hca:c.args=xs.toArray) (hw:Wt ops e g) (hx:Env.ev e x=some (.func (.yield l) #[] #[])) (hxs:Env.evs e xs=some (enc k)) (hd:Nat.blt d n=true)
  (h:∀s',Le s s'→J (k + 1) s'→L Fr.o P Q n ops os ((d,.bool true) :: e) s'.w):L Fr.o P Q n ops (⟨some d,.call c,ty,pos,af,g⟩ :: os) e s.w:=
 L.opIn hw fun ac ha K hK=>by
  obtain⟨fn,tmps,assign,body,hy,hR⟩:=hY k hk s hJ
  refine⟨fun _ _=>trivial,?_⟩
  have h2:c.args.map ac.eval=(enc k).toArray:=by rw [hca,List.map_toArray,ha.evs hxs]
  have h3:ac.eval x= .func (.yield l) #[] #[]:=ha.ev hx
  have hrun:(Oper.semAt Fr.o.f.round ac.eval ⟨some d,.call c,ty,pos,af,g⟩).run P s.w= .ok (.round l fn tmps assign body) s.w:=by
   show(execOp ac.eval ⟨some d,.call c,ty,pos,af,g⟩).run P s.w=_
   simp [execOp,resolve,hc,h2,h3,Deferred.ofValue,invoke,hy]
  rw [hrun]
  refine⟨fun e=>(by cases e),?_⟩
  have hR1:RoundIn Fr.o.f (2 - 1) P l fn tmps assign body s.w fun e W'=>e= .returned (.bool true)∧∃s',W'=s'.w∧Le s s'∧J (k + 1) s':=⟨trivial,fun c cs hr=>hR.2 c cs (fun d hd=>by cases hd)⟩
  refine hR1.mono ?_
  rintro en W' ⟨rfl,s',rfl,hle,hJ'⟩
  exact hK _ _ _ (ha.put hd (.bool true)) (h s' hle hJ')
def rngF {S:Type} (f:Nat→S→Option S):Nat→Nat→S→Option S
 | 0,_,s=>some s
 | m + 1,k,s=>(f k s).bind (rngF f m (k + 1))
theorem yeF {S:Type} {f:Nat→S→Option S} {N k:Nat} {s o:S} (hk:k < N) (h:rngF f (N - k) k s=some o):∃s',f k s=some s'∧rngF f (N - (k + 1)) (k + 1) s'=some o:=by
 rw [show N - k=(N - (k + 1)) + 1 by omega,rngF] at h
 exact Option.bind_eq_some_iff.1 h
theorem yft {S:Type} {f:Nat→S→Option S} {N:Nat} {s o:S} (h:rngF f (N - N) N s=some o):s=o:=by
 rw [Nat.sub_self,rngF] at h
 exact Option.some.inj h
def Mks (s:Sig) (t:Nat) (ds:List Deferred):Prop:=∃Ds:List Nat,ds=Ds.map mark∧Ds.Nodup∧∀D∈Ds,s.w.heap[D]? =some (.deferred (some []))∧s.tag D=t
theorem Mks.nil {s:Sig} {t:Nat}:Mks s t []:=⟨[],rfl,List.nodup_nil,fun _ h=>by cases h⟩
theorem Mks.mv {S:Nat→Prop} {s s':Sig} {t:Nat} {ds:List Deferred} (h:Mks s t ds) (m:Mv S s s') (hn:¬S t):Mks s' t ds:=by
 obtain⟨Ds,h1,h2,h3⟩:=h
 refine⟨Ds,h1,h2,fun D hD=>?_⟩
 obtain⟨g1,g2⟩:=h3 D hD
 obtain⟨g3,g4⟩:=m.blk D (Array.getElem?_eq_some_iff.1 g1).1 (by rw [g2];exact hn)
 exact⟨g3.trans g1,g4.trans g2⟩
theorem Mks.old {s:Sig} {t:Nat} {ds:List Deferred} (h:Mks s t ds):∀D,mark D∈ds→D < s.w.heap.size:=by
 obtain⟨Ds,rfl,_,h3⟩:=h
 intro D hD
 obtain⟨D',h4,h5⟩:=List.mem_map.1 hD
 cases h5
 exact(Array.getElem?_eq_some_iff.1 (h3 _ h4).1).1
theorem Mks.cons {s:Sig} {t D N:Nat} {ds:List Deferred} (h:Mks s t ds) (ho:∀D,mark D∈ds→D < N) (hD:N≤D) (hk:Mk s t D):Mks s t (mark D :: ds):=by
 obtain⟨Ds,rfl,h2,h3⟩:=h
 refine⟨D :: Ds,rfl,List.nodup_cons.2 ⟨fun hm=>?_,h2⟩,fun D' hD'=>?_⟩
 ·have:=ho D (List.mem_map.2 ⟨D,hm,rfl⟩);omega
 ·rcases List.mem_cons.1 hD' with rfl | h4
  ·exact ⟨hk.mark,hk.tm⟩
  ·exact h3 D' h4
theorem ycI {F:Fence} {n:Nat} {P:Program} {fn:Func} {tmps:Array Value} {R:Ending→World→Prop} {t:Nat}:∀(Ds:List Nat) (s:Sig),Ds.Nodup→(∀D∈Ds,s.w.heap[D]? =some (.deferred (some []))∧s.tag D=t)→
  (∀s',Mv (One t) s s'→∃v,(results fn tmps).run P s'.w= .ok v s'.w∧R (.returned v) s'.w)→LeavesInM F n P fn tmps R (Ds.map mark) .returning s.w
 | [],s,_,_,hfin=>hfin s (Mv.refl _ _)
 | D :: Ds,s,hnd,hD,hfin=>by
  obtain⟨hd,ht⟩:=hD D (List.mem_cons_self ..)
  have hm:Mv (One t) s ⟨s.w.putObj D (.deferred none),s.tag⟩:=by
   refine⟨rfl,rfl,rfl,by simp [World.putObj],fun b hb hn=>⟨World.putObj_heap_other fun e=>hn ?_,rfl⟩⟩
   subst e;exact ht
  refine⟨by simp,.inl ⟨D,_,rfl,run_takeDeferred hd,ycI Ds ⟨s.w.putObj D (.deferred none),s.tag⟩ (List.nodup_cons.1 hnd).2 (fun D' hD'=>⟨?_,(hD D' (List.mem_cons_of_mem _ hD')).2⟩) fun s' hs'=>hfin s' (hm.trans hs')⟩⟩
  show(s.w.putObj D (.deferred none)).heap[D']? =_
  rw [World.putObj_heap_other ?_]
  ·exact (hD D' (List.mem_cons_of_mem _ hD')).1
  ·rintro rfl;exact(List.nodup_cons.1 hnd).1 hD'
theorem X.lv {P:Program} {fn:Func} {R:Ending→World→Prop} {n t:Nat} {e:List (Nat×Value)} {s:Sig} {ds:List Deferred} {x:Exit} (hx:x= .ret∨x= .normal) (hk:Mks s t ds) (h:∀s',Mv (One t) s s'→X Fr.o (bodyPost P fn R) n x e s'.w):
  X ⟨none,ds⟩ (bodyPostM Fence.wide 4 P fn R) n x e s.w:=fun a ha=>by
 obtain⟨Ds,rfl,h2,h3⟩:=hk
 have hl:LeavesInM Fence.wide 4 P fn a.tmps R (Ds.map mark) .returning s.w:=ycI Ds s h2 h3 fun s' hs'=>by
  have:=h s' hs' { a with defers:=[] } ⟨ha.size,rfl,ha.has⟩
  rcases hx with rfl | rfl
  ·exact this.2
  ·exact this.2
 obtain⟨tmps,dd⟩:=a
 obtain rfl:dd=Ds.map mark:=ha.defers
 rcases hx with rfl | rfl
 ·exact hl
 ·exact hl
theorem E.entryM {P:Program} {f:FuncId} {fn:Func} {c:Code} {vs:List Value} {w:World} {R:Ending→World→Prop} {n:Nat} {e:List (Nat×Value)} (hf:P.funcs[f]? =some fn) (hb:fn.body=some c) (hn:fn.ntmps=n) (hv:Nat.ble vs.length n=true) (he:Env.ofArgs 0 vs=e)
  (h:E Fr.o P (bodyPostM Fence.wide 4 P fn R) n c e w):Calls P f vs.toArray w R:=by
 subst hn
 subst he
 have hv':vs.length≤fn.ntmps:=Nat.le_of_ble_eq_true hv
 refine yb7 hf hb ((wpIn_wide (n:=2)).1 (h _ ⟨by simp;omega,rfl,fun d v hg=>?_⟩))
 obtain⟨_,h2⟩:=Env.get_ofArgs hg
 have hl:=(List.getElem?_eq_some_iff.1 h2).1
 rw [Nat.sub_zero] at h2 hl
 rw [Array.getElem?_append_left (by simpa using hl)]
 simpa using h2
theorem vlNi :NAg Tryz.prog 32:=NAg.mk' Tryz.underlying32 rfl (by kernel_rfl)
theorem vlNn :NAg Tryz.prog 3:=NAg.mk' Tryz.underlying3 rfl (by kernel_rfl)
theorem vlSi :Sl Tryz.prog 32 3 1:=Sl.mk' Tryz.underlying32 (by kernel_rfl)
theorem vlCf :Cf Tryz.prog 207:=Cf.mk Tryz.func207 (by kernel_rfl) (by kernel_rfl)
def y4F (p0:List Int):Option (List Int):=if p0.length≤4294967296 then some p0 else none
theorem yd9 {s:Sig} {q0:List Int} {a1:Option Addr} {c1:Nat} {b2:Nat} (h1:RdL (rK .i64) s a1 c1 q0) (bx2:Bx s 0 b2 #[.slice a1 q0.length c1] 32) (hlen:q0.length≤4294967296):
    FI Tryz.prog s (.func (.func 207) #[] #[.pointer (some ⟨b2,0,none⟩)]) q0.length (fun k=>encI (q0.getD k 0)):=by
 refine⟨207,#[.pointer (some ⟨b2,0,none⟩)],rfl,vlCf,fun l J s1 hle hcl hY h0=>?_⟩
 replace h1:=h1.mono hle
 replace bx2:=bx2.le hle
 have hW:∀i:Nat,i < 4294967296→W ((i:Int) + 1)=((i + 1:Nat):Int):=fun i hi=>by rw [show W ((i:Int) + 1)=(i:Int) + 1 from IntWalk.i64_in _ (by omega)];rfl
 obtain⟨f,hf⟩:∃f:Int→Option (Int ⊕ Unit),f=fun i=>if decide (i < (q0.length:Int)) then some (.inl (W (i + 1))) else some (.inr ()):=⟨_,rfl⟩
 have hit:iter f 0=some ():=by
  refine yev (fun i=>(i:Int)) q0.length (by omega) (fun i hi=>?_) ?_
  · rw [hf]
    show(if decide ((i:Int) < (q0.length:Int)) then some (Sum.inl (W ((i:Int) + 1))) else some (Sum.inr ()))=some (Sum.inl (((i + 1:Nat):Int)))
    rw [if_pos (by simpa using hi),hW i (by omega)]
  · rw [hf]
    show(if decide ((q0.length:Int) < (q0.length:Int)) then some (Sum.inl (W ((q0.length:Int) + 1))) else some (Sum.inr ()))=some (Sum.inr ())
    rw [if_neg (by simp)]
 refine E.entry (vs:=[.func (.yield l) #[] #[],.pointer (some ⟨b2,0,none⟩)]) Tryz.func207 rfl Tryz.ntmps207 rfl rfl (E.seq (E.reg (L.ld (j:=0) bx2.mem vlNi Wt.no rfl rfl rfl rfl (L.len vlSi Wt.no rfl rfl (L.mv Wt.no rfl rfl (L.nil (X.seqN (E.block ?_))))))))
 refine E.cut (x:= .exit 0) (fun e w=>∃(s46:Sig),J q0.length s46∧e= []∧w=s46.w) ?_ ?_
 · rintro _ _ ⟨s46,hJ,rfl,rfl⟩
   refine X.blkE ?_
   exact X.rt (.inr rfl) Tryz.results207 Rs.nil rfl ⟨⟨_,rfl⟩,s46,rfl,hJ⟩
 intro K47
 refine E.iter (fun (st43:Int) (e:List (Nat×Value)) (w:World)=>∃(k:Nat) (s44:Sig),st43=(k:Int)∧k≤q0.length∧J k s44∧RdL (rK .i64) s44 a1 c1 q0∧e= [(7,.int .i64 st43),(6,.int .i64 (q0.length:Int)),(5,.slice a1 q0.length c1),(0,.func (.yield l) #[] #[])]∧w=s44.w) hit ⟨0,s1,rfl,Nat.zero_le _,h0,h1,rfl,rfl⟩ (Sub.rf rfl) ?_
 rintro st43 res43 hm ih43 ho43 _ _ ⟨k,s44,rfl,hk,hJ,h1,rfl,rfl⟩
 rw [hf] at hm
 refine E.seq (E.reg (L.bi Wt.no rfl rfl rfl rfl (L.nil (X.seqN (E.seq ?_)))))
 rcases ifS hm with ⟨hc,hm⟩ | ⟨hc,hm⟩
 · refine E.cT rfl hc (E.skip (X.seqN (E.seq (E.block (E.seq (E.reg ?_))))))
   have hk2:k < q0.length:=by simpa using hc
   have ex18:idx q0 (k:Int)=some q0[k]:=by unfold idx;rw [if_pos (by omega),Int.toNat_natCast,yGe hk2]
   have henc: [Value.int .i64 q0[k]]=encI (q0.getD k 0):=by rw [List.getD_eq_getElem?_getD,yGe hk2];rfl
   generalize q0[k]=x18 at ex18 henc
   refine L.ix (r:=(rK .i64)) vlSi h1 Wt.no rfl rfl ex18 rfl fun b19 o19 cc19 me19 rd19=>?_
   obtain rfl:=rd19
   refine L.ld (j:=0) me19 vlNn Wt.no rfl rfl rfl rfl (L.as Wt.no rfl rfl (L.nil (X.seqN (E.seq (E.reg (L.mv Wt.no rfl rfl (L.mv Wt.no rfl rfl ?_)))))))
   refine L.yd (x:= .tmp 11) (xs:=[.tmp 12]) hY hk2 hJ rfl rfl Wt.no rfl (by rw [←henc];rfl) rfl fun s59 hle59 hJ=>?_
   have h1:=h1.mono hle59
   refine L.not Wt.no rfl rfl (L.nil (X.seqN (E.cF rfl rfl (E.skip (X.blkN (X.seqN (E.reg (L.bi Wt.no rfl rfl rfl rfl (L.mv Wt.no rfl rfl (L.nil (X.sub (ih43 _ (Option.some.inj hm).symm _ _ ⟨k + 1,s59,?_,hk2,hJ,h1,rfl,rfl⟩) (Sub.rf rfl))))))))))))
   exact hW k (by omega)
 refine E.cF rfl hc (E.exit (X.seqX (X.seqX ?_)))
 have hkl:k=q0.length:=by simp at hc;omega
 subst hkl
 exact X.sub (K47 _ _ ⟨s44,hJ,rfl,rfl⟩) Sub.nil
theorem y8B {s:Sig} {p0:List Int} {a1:Option Addr} {c1:Nat} {r:List Int} (h1:RdL (rK .i64) s a1 c1 p0) (hm:y4F p0=some r):
    Calls Tryz.prog 157 #[.slice a1 p0.length c1] s.w (RetS No s fun v s'=>FI Tryz.prog s' v r.length (fun k=>encI (r.getD k 0))):=by
 obtain⟨hlen,rfl⟩:p0.length≤4294967296∧p0=r:=by
  unfold y4F at hm
  split at hm
  · exact⟨by assumption,Option.some.inj hm⟩
  · cases hm
 obtain⟨N,hN,hNb⟩:=s.fresh
 have m0:Mv (Up N No) s s:=Mv.refl _ _
 refine E.entry (vs:=[.slice a1 p0.length c1]) Tryz.func157 rfl Tryz.ntmps157 rfl rfl (E.seq (E.reg (L.box (N + 0) Wt.no rfl rfl rfl fun b1 s2 m3 bx1=>?_)))
 replace m0:=m0.trans m3.no
 replace h1:=h1.mono (m3.le no_No)
 refine L.as Wt.no rfl rfl (L.nil (X.seqN (E.seq (E.reg (L.mf Wt.no rfl rfl rfl (L.as Wt.no rfl rfl (L.nil (X.seqN (E.ret ?_)))))))))
 refine X.rt (.inl rfl) Tryz.results157 (Rs.tmp rfl Rs.nil) rfl ⟨_,s2.ren N (fun _=>0),rfl,rfl,m0.ren hNb,?_⟩
 have hr:∀{k b:Nat} {cs:Array Value} {T:TypeId},Bx s2 (N + k) b cs T→Bx (s2.ren N (fun _=>0)) 0 b cs T:=fun h=>⟨h.heap,by simp [Sig.ren,h.htag]⟩
 exact yd9 (h1.ren hN) (hr bx1) hlen
theorem bs32 :Bs Tryz.prog 32 3 1 [.int .i64 0]:=Bs.mk' Tryz.underlying32 (by kernel_rfl) (by kernel_rfl) rfl
theorem el3 :El Tryz.prog 3 1 8:=El.mk' (z:= .int .i64 0) (by kernel_rfl) (by kernel_rfl) (by kernel_rfl) rfl
theorem nag32 :NAg Tryz.prog 32:=NAg.mk' Tryz.underlying32 rfl (by kernel_rfl)
def y1E (x22:Int) (st20:List Int):Option (List Int):=
 (app st20 ([x22]:List Int)).bind fun x32=>
 some x32
def y4P (p0:List Int) (p1:List (Int)):Option (List Int):=
 (rngF (fun k=>y1E (p1.getD k 0)) p1.length 0 p0).bind fun o20=>
 some o20
theorem y7L {s:Sig} {p0:List Int} {p1:List (Int)} {t0:Nat} {a1:Option Addr} {c1:Nat} {vp1:Value} {r:List Int} (zt0:0 < t0) (h1:RowT (rK .i64) s t0 3 a1 c1 p0) (hp1:FI Tryz.prog s vp1 p1.length (fun k=>encI (p1.getD k 0))) (hm:y4P p0 p1=some r):
  Calls Tryz.prog 235 #[.slice a1 p0.length c1,vp1] s.w (RetS (One t0) s fun v s'=>∃(a2:Option Addr) (c2:Nat),v= .slice a2 r.length c2∧RowT (rK .i64) s' t0 3 a2 c2 r):=by
 unfold y4P at hm
 obtain⟨N,hN,hNb,lt0,-⟩:=s.freshL [t0]
 have m0:Mv (Up N (One t0)) s s:=Mv.refl _ _
 have mk0:Mks s (N + 0) []:=Mks.nil
 refine E.entryM (vs:=[.slice a1 p0.length c1,vp1]) (e:=[(0,.slice a1 p0.length c1),(1,vp1)]) Tryz.func235 rfl Tryz.ntmps235 rfl rfl ?_
 refine E.seq ?_
 refine E.reg ?_
 refine L.box (N + 1) Wt.no rfl rfl rfl ?_
 intro b3 s4 m5 bx3
 replace m0:=m0.trans m5.no
 replace hp1:=hp1.mono (m5.le no_No)
 replace mk0:=mk0.mv m5 no_No
 replace h1:=h1.mv m5 no_No no_No
 refine L.as Wt.no rfl rfl ?_
 refine L.nil ?_
 refine X.seqN ?_
 refine E.seq ?_
 refine E.seq ?_
 refine E.reg ?_
 refine L.mv Wt.no rfl rfl ?_
 refine L.nil ?_
 refine X.seqN ?_
 refine E.block ?_
 obtain⟨o20,eo20,hm⟩:=bindS hm
 have mko20:=mk0.old
 refine E.range (N + 2) (N + 0) (tgn hN) (by omega) (fun (k:Nat) (s21:Sig)=>∃(st20:List Int) (a7:Option Addr) (c7:Nat),rngF (fun k=>y1E (p1.getD k 0)) (p1.length - k) k st20=some o20∧Mv (Up N (One t0)) s s21∧RowT (rK .i64) s21 t0 3 a7 c7 st20∧Mks s21 (N + 0) []∧Bx s21 (N + 1) b3 #[.slice a7 st20.length c7] 32) rfl hp1 (fun _=>rfl) (by decide) ⟨p0,a1,c1,eo20,m0,h1,mk0,bx3⟩ ?_ ?_
 ·rintro k20 D20 r20 s21 s23 hk20 ⟨st20,a7,c7,hj20,m0,h7,mk0,bx3⟩ m24 rc25 hr20
  obtain⟨res20,hm,hj20⟩:=yeF hk20 hj20
  have hm:y1E (p1.getD k20 0) st20=some res20:=hm
  show E _ _ _ _ _ (Env.zp _ (encI (p1.getD k20 0)) _) _
  generalize p1.getD k20 0=x22 at hm ⊢
  refine E.sub (e':=[(2,.pointer (some ⟨b3,0,none⟩)),(7,.int .i64 x22)]) (Sub.rf rfl) ?_
  unfold y1E at hm
  replace m0:=m0.trans (m24.one up)
  replace mk0:=mk0.mv m24 (tgN (by decide))
  replace bx3:=bx3.mv m24 (tgN (by decide))
  replace h7:=h7.mv m24 (tgV lt0) (tg0 hN)
  have h26:Lf s23 s23:=Le.refl _
  refine E.reg ?_
  refine L.as Wt.no rfl rfl ?_
  refine L.nil ?_
  refine X.beg rc25 hr20 fun s27 m28 rc25=>?_
  replace m0:=m0.trans (m28.one up)
  replace mk0:=mk0.mv m28 (tgN (by decide))
  replace h26:=h26.mono (m28.le (tg0 hN))
  replace bx3:=bx3.mv m28 (tgN (by decide))
  replace h7:=h7.mv m28 (tgV lt0) (tg0 hN)
  refine E.block ?_
  refine E.reg ?_
  refine L.ld (j:=0) bx3.mem nag32 Wt.no rfl rfl rfl rfl ?_
  refine L.mv Wt.no rfl rfl ?_
  refine L.bsE (k:=1) (cs:=[.int .i64 x22]) 0 bs32 (Nat.le_of_ble_eq_true rfl) Wt.no rfl rfl rfl rfl ?_
  intro b29 s30 m31 bx29
  replace m0:=m0.trans m31.no
  replace h7:=h7.mv m31 no_No no_No
  replace mk0:=mk0.mv m31 no_No
  replace h26:=h26.mono (m31.le no_No)
  replace rc25:=rc25.mv m31 no_No no_No
  replace bx3:=bx3.mv m31 no_No
  have h29:=Bx.rdL (r:=(rK .i64)) (xs:=([x22]:List Int)) bx29 ⟨[.int .i64 x22],_,rfl,rfl,rfl⟩ (Nat.le_of_ble_eq_true rfl)
  obtain⟨x32,ex32,hm⟩:=bindS hm
  refine L.ap (r:=(rK .i64)) Tryz.underlying32 el3 rfl (tgpV zt0) h7 h29.wk Wt.no rfl rfl ex32 rfl ?_
  intro a33 c33 s34 m35 h33
  replace m0:=m0.trans (m35.one (.inr rfl))
  replace mk0:=mk0.mv m35 (tgW lt0)
  replace h26:=h26.mono (m35.le (tgz zt0))
  replace rc25:=rc25.mv m35 (tgW lt0) (tgW lt0)
  replace bx3:=bx3.mv m35 (tgW lt0)
  refine L.st (c:=[.slice a33 x32.length c33]) (cs':= #[.slice a33 x32.length c33]) bx3 nag32.sz Wt.no rfl rfl rfl rfl rfl (Nat.le_of_ble_eq_true rfl) rfl ?_
  intro s36 m37 bx3
  replace m0:=m0.trans (m37.one up)
  replace mk0:=mk0.mv m37 (tgN (by decide))
  replace h26:=h26.mono (m37.le (tg0 hN))
  replace rc25:=rc25.mv m37 (tgN (by decide)) (tgN (by decide))
  replace h33:=h33.mv m37 (tgV lt0) (tg0 hN)
  refine L.nil ?_
  refine X.blkN ?_
  obtain rfl:=Option.some.inj hm
  exact X.rnd ⟨⟨x32,a33,c33,hj20,m0,h33,mk0,bx3⟩,rc25,h26⟩
 ·rintro D20 s21 s23 hD20 ⟨st20,a7,c7,hj20,m0,h7,mk0,bx3⟩ m24 mk20
  have hx:=(yft hj20).symm
  subst hx
  replace m0:=m0.trans (m24.one up)
  replace mk0:=mk0.mv m24 (tgN (by decide))
  replace bx3:=bx3.mv m24 (tgN (by decide))
  replace h7:=h7.mv m24 (tgV lt0) (tg0 hN)
  replace mk0:=mk0.cons mko20 hD20 mk20
  refine X.blkN ?_
  refine X.seqN ?_
  refine E.seq ?_
  refine E.reg ?_
  refine L.ld (j:=0) bx3.mem nag32 Wt.no rfl rfl rfl rfl ?_
  refine L.as Wt.no rfl rfl ?_
  refine L.nil ?_
  refine X.seqN ?_
  refine E.ret ?_
  refine X.lv (.inl rfl) mk0 fun s38 m39=>?_
  replace m0:=m0.trans (m39.one up)
  replace h7:=h7.mv m39 (tgV lt0) (tg0 hN)
  obtain rfl:=Option.some.inj hm
  exact X.rt (.inl rfl) Tryz.results235 (Rs.tmp rfl Rs.nil) rfl ⟨_,(s38).ren N (fun _=>0),rfl,rfl,m0.ren hNb,⟨a7,c7,rfl,(h7.renV hN lt0)⟩⟩
theorem cf235 :Cf Tryz.prog 235:=Cf.mk Tryz.func235 (by kernel_rfl) (by kernel_rfl)
def y5g (p0:List (Int)):Option (List Int):=
 (y4P ([]:List Int) p0).bind fun r2=>
 some r2
theorem y8j {s:Sig} {p0:List (Int)} {vp0:Value} {u0:Nat} {r:List Int} (hp0:FI Tryz.prog s vp0 p0.length (fun k=>encI (p0.getD k 0))) (hm:y5g p0=some r):
  Calls Tryz.prog 205 #[vp0] s.w (RetS No s fun v s'=>∃(a1:Option Addr) (c1:Nat),v= .slice a1 r.length c1∧RowT (rK .i64) s' u0 3 a1 c1 r):=by
 unfold y5g at hm
 obtain⟨N,hN,hNb⟩:=s.fresh
 have m0:Mv (Up N No) s s:=Mv.refl _ _
 refine E.entry (vs:=[vp0]) (e:=[(0,vp0)]) Tryz.func205 rfl Tryz.ntmps205 rfl rfl ?_
 refine E.seq ?_
 refine E.reg ?_
 refine L.as Wt.no rfl rfl ?_
 refine L.nil ?_
 refine X.seqN ?_
 refine E.seq ?_
 refine E.reg ?_
 refine L.mv Wt.no rfl rfl ?_
 obtain⟨r2,er2,hm⟩:=bindS hm
 refine L.ca (vs:=[.slice none 0 0,vp0]) cf235 rfl rfl Wt.no rfl (y7L (s:=s) (p0:=([]:List Int)) (p1:=p0) (t0:=(N + 0)) (tpos hN) RowT.nil hp0 er2) rfl ?_
 rintro _ s3 m4 ⟨a5,c5,rfl,h5⟩
 replace m0:=m0.trans (m4.one up)
 refine L.as Wt.no rfl rfl ?_
 refine L.nil ?_
 refine X.seqN ?_
 refine E.ret ?_
 obtain rfl:=Option.some.inj hm
 exact X.rt (.inl rfl) Tryz.results205 (Rs.tmp rfl Rs.nil) rfl ⟨_,(s3).ren N (fun k=>cond (Nat.beq k 0) u0 (0)),rfl,rfl,m0.ren hNb,⟨a5,c5,rfl,(h5.ren hN)⟩⟩
theorem cf205 :Cf Tryz.prog 205:=Cf.mk Tryz.func205 (by kernel_rfl) (by kernel_rfl)
theorem cf206 :Cf Tryz.prog 206:=Cf.mk Tryz.func206 (by kernel_rfl) (by kernel_rfl)
def y3H (p0:List (Int)):Option (List Int):=
 (y5g p0).bind fun r2=>
 (y5A r2).bind fun r6=>
 (lenEq r6 r2).bind fun _=>
 some r6
theorem y8C {s:Sig} {p0:List (Int)} {vp0:Value} {u0:Nat} {r:List Int} (hp0:FI Tryz.prog s vp0 p0.length (fun k=>encI (p0.getD k 0))) (hm:y3H p0=some r):
  Calls Tryz.prog 156 #[vp0] s.w (RetS No s fun v s'=>∃(a1:Option Addr) (c1:Nat),v= .slice a1 r.length c1∧RowT (rK .i64) s' u0 3 a1 c1 r):=by
 unfold y3H at hm
 obtain⟨N,hN,hNb⟩:=s.fresh
 have m0:Mv (Up N No) s s:=Mv.refl _ _
 refine E.entry (vs:=[vp0]) (e:=[(0,vp0)]) Tryz.func156 rfl Tryz.ntmps156 rfl rfl ?_
 refine E.seq ?_
 refine E.reg ?_
 refine L.as Wt.no rfl rfl ?_
 refine L.nil ?_
 refine X.seqN ?_
 refine E.seq ?_
 refine E.reg ?_
 refine L.mv Wt.no rfl rfl ?_
 obtain⟨r2,er2,hm⟩:=bindS hm
 refine L.ca (vs:=[vp0]) cf205 rfl rfl Wt.no rfl (y8j (s:=s) (p0:=p0) (u0:=(N + 0)) hp0 er2) rfl ?_
 rintro _ s3 m4 ⟨a5,c5,rfl,h5⟩
 replace m0:=m0.trans m4.no
 refine L.as Wt.no rfl rfl ?_
 refine L.nil ?_
 refine X.seqN ?_
 refine E.seq ?_
 refine E.reg ?_
 refine L.mv Wt.no rfl rfl ?_
 obtain⟨r6,er6,hm⟩:=bindS hm
 refine L.ca (vs:=[.slice a5 r2.length c5]) cf206 rfl rfl Wt.no rfl (y9n (s:=s3) (p0:=r2) (t0:=(N + 0)) (tpos hN) h5 er6) rfl ?_
 rintro _ s7 m8 ⟨rfl,h5⟩
 obtain⟨_,qz9,hm⟩:=bindS hm
 have elz9:=yew qz9
 replace m0:=m0.trans (m8.one up)
 refine L.reval (d:=3) rfl elz9 ?_
 refine L.nil ?_
 refine X.seqN ?_
 refine E.seq ?_
 refine E.reg ?_
 refine L.mv Wt.no rfl rfl ?_
 refine L.as Wt.no rfl rfl ?_
 refine L.nil ?_
 refine X.seqN ?_
 refine E.ret ?_
 obtain rfl:=Option.some.inj hm
 exact X.rt (.inl rfl) Tryz.results156 (Rs.tmp rfl Rs.nil) rfl ⟨_,(s7).ren N (fun k=>cond (Nat.beq k 0) u0 (0)),rfl,rfl,m0.ren hNb,⟨a5,c5,rfl,(h5.ren hN)⟩⟩
def lT (P:Program) (xs:List Int):LV:=⟨fun _ s v=>FI P s v xs.length (fun k=>encI (xs.getD k 0)),[],none,none,fun _ hl h=>h.mono hl,nofun,nofun,fun⟨_,_,e,_⟩=>by rw [e];rfl⟩
theorem y6G {p0:List Int} {r:ByteArray} (hm:y4C p0=some r):Fw Tryz.prog 98 ⟨0,[]⟩ [.f qI p0] [] (.o (lV (.string r))) []:=
 ⟨fun ts β s vs _ _ _ _ ⟨v,us,⟨a,c,e,h⟩,hu,e2⟩ _=>by
  have hu:us= []:=hu
  subst hu;subst e;subst e2
  exact Calls.mono (yaC h hm) fun en w' ⟨v,s',e1,e2,m,hv⟩=>⟨v,s',e1,e2,m.no,β,fun _ _=>rfl,⟨hv,rfl⟩,fun i o ho=>by simp at ho⟩⟩
theorem y8D {p0:List Int} {r:List Int} (hm:y4F p0=some r):Fw Tryz.prog 157 ⟨0,[]⟩ [.f qI p0] [] (.o (lT Tryz.prog r)) []:=
 ⟨fun ts β s vs _ _ _ _ ⟨v,us,⟨a,c,e,h⟩,hu,e2⟩ _=>by
  have hu:us= []:=hu
  subst hu;subst e;subst e2
  exact Calls.mono (y8B h hm) fun en w' ⟨v,s',e1,e2,m,hv⟩=>⟨v,s',e1,e2,m.no,β,fun _ _=>rfl,hv,fun i o ho=>by simp at ho⟩⟩
theorem y8E {p0:List Int} {r:List Int} (hm:y3H p0=some r):Fw Tryz.prog 156 ⟨0,[]⟩ [.o (lT Tryz.prog p0)] [] (.h 0) [ROW qI 3 r]:=
 ⟨fun ts β s vs ht _ _ _ ⟨v,us,h,hu,e2⟩ _=>by
  have hu:us= []:=hu
  subst hu;subst e2
  obtain⟨t,rfl⟩:∃t,ts= [t]:=by
   match ts,ht with
   | [t],_=>exact⟨t,rfl⟩
  exact Calls.mono (y8C (u0:=t) h hm) fun en w' ⟨v,s',e1,e2,m,a,c,hv,hr⟩=>⟨v,s',e1,e2,m.no,fun _=>v,fun i hi=>(by cases hi),⟨rfl,by rw [hv];rfl⟩,fun i o ho=>by
   match i,ho with
   | 0,ho=>cases ho;exact⟨a,c,hv,hr⟩⟩⟩
theorem y8k {p0:List Int} {r:List Int} (hm:y4o p0=some r):Fw Tryz.prog 142 ⟨1,[0]⟩ [.h 0] [ROW qI 3 p0] (.tp []) [ROW qI 3 r]:=
 ⟨fun ts β s vs ht _ _ hp ⟨v,us,h,hu,e2⟩ ho=>by
  have hu:us= []:=hu
  subst hu;subst e2
  obtain⟨t,rfl⟩:∃t,ts= [t]:=by
   match ts,ht with
   | [t],_=>exact⟨t,rfl⟩
  obtain⟨a,c,e,h2⟩:=ho 0 _ rfl
  have hv:v= .slice a p0.length c:=h.1.trans e
  subst hv
  have hl:r.length=p0.length:=by
   unfold y4o at hm
   split at hm
   ·cases hm;exact List.length_reverse
   ·cases hm
  exact Calls.mono (y8i (hp t (.head _)) h2 hm) fun en w' ⟨v,s',e1,e2,m,hv,hr⟩=>⟨v,s',e1,e2,m.weak fun t' ht'=>⟨0,.head _,by rw [show t'=t from ht'];rfl⟩,β,fun _ _=>rfl,⟨[],rfl,hv⟩,fun i o ho=>by
   match i,ho with
   | 0,ho=>cases ho;exact⟨a,c,by rw [e,hl],hr⟩⟩⟩
end
end Go.Proofs.YtecmobjeeonmaaaGreatDoor
set_option maxRecDepth 100000
set_option maxHeartbeats 8000000
namespace Go.Proofs.YtecmobjeeonmaaaGreatDoor
open Go Go.RowKit
noncomputable section
abbrev Arr55 :=(Int×Int×Int×Int×Int)×(Int×Int×Int×Int×Int)×(Int×Int×Int×Int×Int)×(Int×Int×Int×Int×Int)×(Int×Int×Int×Int×Int)
abbrev y2B :=Int×Int×Arr55
abbrev EdgL :=List (Int×Int×Int)
abbrev KeyT :=(Int×Int)×Int
theorem ag35 :Ag Tryz.prog 35 4:=Ag.mk' Tryz.underlying35 rfl (by kernel_rfl)
theorem ag37 :Ag Tryz.prog 37 9:=Ag.mk' Tryz.underlying37 rfl (by kernel_rfl)
theorem bs33 :Bs Tryz.prog 33 124 3 [.int .i64 0,.int .i64 0,.int .i64 0]:=Bs.mk' Tryz.underlying33 (by kernel_rfl) (by kernel_rfl) rfl
theorem pl124 :Pl Tryz.prog 124 [(0,1),(1,1),(2,1)] [.int .i64 0,.int .i64 0,.int .i64 0]:=Pl.str Tryz.underlying124 (by kernel_rfl) (by kernel_rfl)
theorem pl35 :Pl Tryz.prog 35 [(0,1),(1,1),(2,1),(3,1)] [.slice none 0 0,.int .i64 0,.slice none 0 0,.slice none 0 0]:=Pl.str Tryz.underlying35 (by kernel_rfl) (by kernel_rfl)
theorem pl37 :Pl Tryz.prog 37 [(0,4),(4,4),(8,1)] [.slice none 0 0,.int .i64 0,.slice none 0 0,.slice none 0 0,.slice none 0 0,.int .i64 0,.slice none 0 0,.slice none 0 0,.slice none 0 0]:=Pl.str Tryz.underlying37 (by kernel_rfl) (by kernel_rfl)
theorem zz35 :(Tryz.prog.info? 35).bind (·.zero)=some (.agg #[.slice none 0 0,.int .i64 0,.slice none 0 0,.slice none 0 0]):=by kernel_rfl
theorem zz37 :(Tryz.prog.info? 37).bind (·.zero)=some (.agg #[.slice none 0 0,.int .i64 0,.slice none 0 0,.slice none 0 0,.slice none 0 0,.int .i64 0,.slice none 0 0,.slice none 0 0,.slice none 0 0]):=by kernel_rfl
theorem nag3 :NAg Tryz.prog 3:=NAg.mk' Tryz.underlying3 rfl (by kernel_rfl)
theorem sl32 :Sl Tryz.prog 32 3 1:=Sl.mk' Tryz.underlying32 (by kernel_rfl)
theorem lv3 {y:Int}:Lv qI y [lI y]:= .k
theorem cf169 :Cf Tryz.prog 169:=Cf.mk Tryz.func169 (by kernel_rfl) (by kernel_rfl)
theorem ag124 :Ag Tryz.prog 124 3:=Ag.mk' Tryz.underlying124 rfl (by kernel_rfl)
theorem cf104 :Cf Tryz.prog 104:=Cf.mk Tryz.func104 (by kernel_rfl) (by kernel_rfl)
theorem y1W :FA Tryz.prog 124 0 0:=FA.mk Tryz.underlying124 rfl rfl ⟨1,by decide,by kernel_rfl⟩
theorem y4L :FA Tryz.prog 124 1 1:=FA.mk Tryz.underlying124 rfl rfl ⟨1,by decide,by kernel_rfl⟩
theorem y2W :FA Tryz.prog 124 2 2:=FA.mk Tryz.underlying124 rfl rfl ⟨1,by decide,by kernel_rfl⟩
theorem y1R :FA Tryz.prog 35 0 0:=FA.mk Tryz.underlying35 rfl rfl ⟨1,by decide,by kernel_rfl⟩
theorem y1g :FA Tryz.prog 35 1 1:=FA.mk Tryz.underlying35 rfl rfl ⟨1,by decide,by kernel_rfl⟩
theorem yG :FA Tryz.prog 35 3 3:=FA.mk Tryz.underlying35 rfl rfl ⟨1,by decide,by kernel_rfl⟩
theorem nag33 :NAg Tryz.prog 33:=NAg.mk' Tryz.underlying33 rfl (by kernel_rfl)
theorem sl33 :Sl Tryz.prog 33 124 3:=Sl.mk' Tryz.underlying33 (by kernel_rfl)
theorem zz124 :(Tryz.prog.info? 124).bind (·.zero)=some (.agg #[.int .i64 0,.int .i64 0,.int .i64 0]):=by kernel_rfl
theorem lv124 {y:Int×Int×Int}:Lv qT y [lI y.1,lI y.2.1,lI y.2.2]:=(.p .k (.p .k .k))
theorem cf164 :Cf Tryz.prog 164:=Cf.mk Tryz.func164 (by kernel_rfl) (by kernel_rfl)
theorem cf165 :Cf Tryz.prog 165:=Cf.mk Tryz.func165 (by kernel_rfl) (by kernel_rfl)
theorem y3y :FA Tryz.prog 35 2 2:=FA.mk Tryz.underlying35 rfl rfl ⟨1,by decide,by kernel_rfl⟩
theorem cf75 :Cf Tryz.prog 75:=Cf.mk Tryz.func75 (by kernel_rfl) (by kernel_rfl)
theorem cf76 :Cf Tryz.prog 76:=Cf.mk Tryz.func76 (by kernel_rfl) (by kernel_rfl)
theorem cf17 :Cf Tryz.prog 17:=Cf.mk Tryz.func17 (by kernel_rfl) (by kernel_rfl)
theorem cf101 :Cf Tryz.prog 101:=Cf.mk Tryz.func101 (by kernel_rfl) (by kernel_rfl)
theorem sl66 :Sl Tryz.prog 66 35 4:=Sl.mk' Tryz.underlying66 (by kernel_rfl)
abbrev rE35 :Rep AutT:=(rP (rL qI) (rP qI (rP (rL qI) (rL qT))))
theorem lv35 {y:AutT}:Lv rE35 y [lF qI y.1,lI y.2.1,lF qI y.2.2.1,lF qT y.2.2.2]:=(.p .l (.p .k (.p .l .l)))
theorem cf237 :Cf Tryz.prog 237:=Cf.mk Tryz.func237 (by kernel_rfl) (by kernel_rfl)
theorem cf210 :Cf Tryz.prog 210:=Cf.mk Tryz.func210 (by kernel_rfl) (by kernel_rfl)
theorem flr3 :FlatR (rK .i64):=fun _ _ _ _ h=>h
theorem ag162 :Ag Tryz.prog 162 3:=Ag.mk' Tryz.underlying162 rfl (by kernel_rfl)
theorem bs160 :Bs Tryz.prog 160 139 1 [.map none]:=Bs.mk' Tryz.underlying160 (by kernel_rfl) (by kernel_rfl) rfl
theorem cf159 :Cf Tryz.prog 159:=Cf.mk Tryz.func159 (by kernel_rfl) (by kernel_rfl)
theorem el139 :El Tryz.prog 139 1 8:=El.mk' (z:= .map none) (by kernel_rfl) (by kernel_rfl) (by kernel_rfl) rfl
theorem yb8 :FA Tryz.prog 162 2 2:=FA.mk Tryz.underlying162 rfl rfl ⟨1,by decide,by kernel_rfl⟩
theorem md139 :Md Tryz.prog 139 241 3 kvP (rK .i64) 0 (.int .i64 0):=Md.mk' Tryz.underlying139 (KE.pair' Tryz.underlying241 (by kernel_rfl) Tryz.underlying3 (by kernel_rfl) (NAg.mk' Tryz.underlying3 rfl (by kernel_rfl)).agg) (by kernel_rfl) (fun _=>rfl)
theorem yc4 :NAg Tryz.prog 160:=NAg.mk' Tryz.underlying160 rfl (by kernel_rfl)
theorem pl162 :Pl Tryz.prog 162 [(0,1),(1,1),(2,1)] [.slice none 0 0,.slice none 0 0,.slice none 0 0]:=Pl.str Tryz.underlying162 (by kernel_rfl) (by kernel_rfl)
theorem pl241 :Pl Tryz.prog 241 (plK 1 2 0) [.int .i64 0,.int .i64 0]:=Pl.arr Tryz.underlying241 (by kernel_rfl) (by kernel_rfl)
theorem zz162 :(Tryz.prog.info? 162).bind (·.zero)=some (.agg #[.slice none 0 0,.slice none 0 0,.slice none 0 0]):=by kernel_rfl
theorem y9U :FA Tryz.prog 162 0 0:=FA.mk Tryz.underlying162 rfl rfl ⟨1,by decide,by kernel_rfl⟩
theorem nag66 :NAg Tryz.prog 66:=NAg.mk' Tryz.underlying66 rfl (by kernel_rfl)
theorem zr3 :Zr Tryz.prog (rK .i64) 3 8 (0:Int):=Zr.mk' (v:= .int .i64 0) (by kernel_rfl) (by kernel_rfl) (by kernel_rfl) (fun _=>rfl)
theorem cf214 :Cf Tryz.prog 214:=Cf.mk Tryz.func214 (by kernel_rfl) (by kernel_rfl)
theorem cf208 :Cf Tryz.prog 208:=Cf.mk Tryz.func208 (by kernel_rfl) (by kernel_rfl)
theorem cf209 :Cf Tryz.prog 209:=Cf.mk Tryz.func209 (by kernel_rfl) (by kernel_rfl)
theorem cf158 :Cf Tryz.prog 158:=Cf.mk Tryz.func158 (by kernel_rfl) (by kernel_rfl)
theorem cf94 :Cf Tryz.prog 94:=Cf.mk Tryz.func94 (by kernel_rfl) (by kernel_rfl)
theorem cf103 :Cf Tryz.prog 103:=Cf.mk Tryz.func103 (by kernel_rfl) (by kernel_rfl)
theorem yc5 :NAg Tryz.prog 139:=NAg.mk' Tryz.underlying139 rfl (by kernel_rfl)
theorem sl160 :Sl Tryz.prog 160 139 1:=Sl.mk' Tryz.underlying160 (by kernel_rfl)
theorem lv139 {y:List KeyT}:Lv (rM kvP qI) y [lM kvP qI y]:= .m
theorem bs53 :Bs Tryz.prog 53 32 1 [.slice none 0 0]:=Bs.mk' Tryz.underlying53 (by kernel_rfl) (by kernel_rfl) rfl
theorem cf100 :Cf Tryz.prog 100:=Cf.mk Tryz.func100 (by kernel_rfl) (by kernel_rfl)
theorem cf95 :Cf Tryz.prog 95:=Cf.mk Tryz.func95 (by kernel_rfl) (by kernel_rfl)
theorem cf96 :Cf Tryz.prog 96:=Cf.mk Tryz.func96 (by kernel_rfl) (by kernel_rfl)
theorem cf97 :Cf Tryz.prog 97:=Cf.mk Tryz.func97 (by kernel_rfl) (by kernel_rfl)
theorem cf98 :Cf Tryz.prog 98:=Cf.mk Tryz.func98 (by kernel_rfl) (by kernel_rfl)
theorem cf99 :Cf Tryz.prog 99:=Cf.mk Tryz.func99 (by kernel_rfl) (by kernel_rfl)
theorem el124 :El Tryz.prog 124 3 24:=El.mk' (z:= .agg #[.int .i64 0,.int .i64 0,.int .i64 0]) (by kernel_rfl) (by kernel_rfl) (by kernel_rfl) rfl
theorem el32 :El Tryz.prog 32 1 24:=El.mk' (z:= .slice none 0 0) (by kernel_rfl) (by kernel_rfl) (by kernel_rfl) rfl
theorem ycJ :FA Tryz.prog 162 1 1:=FA.mk Tryz.underlying162 rfl rfl ⟨1,by decide,by kernel_rfl⟩
theorem md167 :Md Tryz.prog 167 9 3 kvS (rK .i64) 0 (.int .i64 0):=Md.mk' Tryz.underlying167 (KE.string Tryz.underlying9) (by kernel_rfl) (fun _=>rfl)
theorem sl53 :Sl Tryz.prog 53 32 1:=Sl.mk' Tryz.underlying53 (by kernel_rfl)
theorem lv32 {y:List Int}:Lv (rL qI) y [lF qI y]:= .l
theorem cf196 :Cf Tryz.prog 196:=Cf.mk Tryz.func196 (by kernel_rfl) (by kernel_rfl)
theorem ag141 :Ag Tryz.prog 141 5:=Ag.mk' Tryz.underlying141 rfl (by kernel_rfl)
theorem ycK :FA Tryz.prog 141 1 4:=FA.mk Tryz.underlying141 rfl rfl ⟨1,by decide,by kernel_rfl⟩
theorem pl141 :Pl Tryz.prog 141 [(0,4),(4,1)] [.slice none 0 0,.int .i64 0,.slice none 0 0,.slice none 0 0,.map none]:=Pl.str Tryz.underlying141 (by kernel_rfl) (by kernel_rfl)
theorem zz141 :(Tryz.prog.info? 141).bind (·.zero)=some (.agg #[.slice none 0 0,.int .i64 0,.slice none 0 0,.slice none 0 0,.map none]):=by kernel_rfl
theorem bs66 :Bs Tryz.prog 66 35 4 [.slice none 0 0,.int .i64 0,.slice none 0 0,.slice none 0 0]:=Bs.mk' Tryz.underlying66 (by kernel_rfl) (by kernel_rfl) rfl
theorem cf145 :Cf Tryz.prog 145:=Cf.mk Tryz.func145 (by kernel_rfl) (by kernel_rfl)
theorem cf151 :Cf Tryz.prog 151:=Cf.mk Tryz.func151 (by kernel_rfl) (by kernel_rfl)
theorem cf25 :Cf Tryz.prog 25:=Cf.mk Tryz.func25 (by kernel_rfl) (by kernel_rfl)
theorem cf26 :Cf Tryz.prog 26:=Cf.mk Tryz.func26 (by kernel_rfl) (by kernel_rfl)
theorem cf32 :Cf Tryz.prog 32:=Cf.mk Tryz.func32 (by kernel_rfl) (by kernel_rfl)
theorem y5l :FA Tryz.prog 37 0 0:=FA.mk Tryz.underlying37 rfl rfl ⟨4,by decide,by kernel_rfl⟩
theorem y5U :FA Tryz.prog 37 1 4:=FA.mk Tryz.underlying37 rfl rfl ⟨4,by decide,by kernel_rfl⟩
theorem y7M :FA Tryz.prog 37 2 8:=FA.mk Tryz.underlying37 rfl rfl ⟨1,by decide,by kernel_rfl⟩
theorem pl155 :Pl Tryz.prog 155 [(0,5),(5,5),(10,5),(15,1),(16,1),(17,1)] [.slice none 0 0,.int .i64 0,.slice none 0 0,.slice none 0 0,.map none,.slice none 0 0,.int .i64 0,.slice none 0 0,.slice none 0 0,.map none,.slice none 0 0,.int .i64 0,.slice none 0 0,.slice none 0 0,.map none,.slice none 0 0,.slice none 0 0,.slice none 0 0]:=Pl.str Tryz.underlying155 (by kernel_rfl) (by kernel_rfl)
abbrev rE141 :Rep (AutT×(List KeyT)):=(rP rE35 (rM kvP qI))
abbrev rE155 :Rep ((AutT×(List KeyT))×(AutT×(List KeyT))×(AutT×(List KeyT))×List (List Int)×List Int×List Int):=(rP rE141 (rP rE141 (rP rE141 (rP (rL (rL qI)) (rP (rL qI) (rL qI))))))
theorem bs258 :Bs Tryz.prog 258 257 2 [.int .i64 0,.slice none 0 0]:=Bs.mk' Tryz.underlying258 (by kernel_rfl) (by kernel_rfl) rfl
theorem cf150 :Cf Tryz.prog 150:=Cf.mk Tryz.func150 (by kernel_rfl) (by kernel_rfl)
theorem el257 :El Tryz.prog 257 2 32:=El.mk' (z:= .agg #[.int .i64 0,.slice none 0 0]) (by kernel_rfl) (by kernel_rfl) (by kernel_rfl) rfl
theorem yb9 :FA Tryz.prog 155 0 0:=FA.mk Tryz.underlying155 rfl rfl ⟨5,by decide,by kernel_rfl⟩
theorem y9V :FA Tryz.prog 155 3 15:=FA.mk Tryz.underlying155 rfl rfl ⟨1,by decide,by kernel_rfl⟩
theorem y9W :FA Tryz.prog 155 4 16:=FA.mk Tryz.underlying155 rfl rfl ⟨1,by decide,by kernel_rfl⟩
theorem yfu :FA Tryz.prog 257 0 0:=FA.mk Tryz.underlying257 rfl rfl ⟨1,by decide,by kernel_rfl⟩
theorem y8F :FA Tryz.prog 257 1 1:=FA.mk Tryz.underlying257 rfl rfl ⟨1,by decide,by kernel_rfl⟩
theorem nag53 :NAg Tryz.prog 53:=NAg.mk' Tryz.underlying53 rfl (by kernel_rfl)
theorem pl257 :Pl Tryz.prog 257 [(0,1),(1,1)] [.int .i64 0,.slice none 0 0]:=Pl.str Tryz.underlying257 (by kernel_rfl) (by kernel_rfl)
theorem sl258 :Sl Tryz.prog 258 257 2:=Sl.mk' Tryz.underlying258 (by kernel_rfl)
abbrev rE257 :Rep (Int×List Int):=(rP qI (rL qI))
theorem lv257 {y:Int×List Int}:Lv rE257 y [lI y.1,lF qI y.2]:=(.p .k .l)
abbrev lx155 (y:(AutT×(List KeyT))×(AutT×(List KeyT))×(AutT×(List KeyT))×List (List Int)×List Int×List Int):List LV:=[lF qI y.1.1.1,lI y.1.1.2.1,lF qI y.1.1.2.2.1,lF qT y.1.1.2.2.2,lM kvP qI y.1.2,lF qI y.2.1.1.1,lI y.2.1.1.2.1,lF qI y.2.1.1.2.2.1,lF qT y.2.1.1.2.2.2,lM kvP qI y.2.1.2,lF qI y.2.2.1.1.1,lI y.2.2.1.1.2.1,lF qI y.2.2.1.1.2.2.1,lF qT y.2.2.1.1.2.2.2,lM kvP qI y.2.2.1.2,lF (rL qI) y.2.2.2.1,lF qI y.2.2.2.2.1,lF qI y.2.2.2.2.2]
theorem y5t :FA Tryz.prog 141 0 0:=FA.mk Tryz.underlying141 rfl rfl ⟨4,by decide,by kernel_rfl⟩
theorem ycL :FA Tryz.prog 155 1 5:=FA.mk Tryz.underlying155 rfl rfl ⟨5,by decide,by kernel_rfl⟩
theorem cf156 :Cf Tryz.prog 156:=Cf.mk Tryz.func156 (by kernel_rfl) (by kernel_rfl)
theorem cf157 :Cf Tryz.prog 157:=Cf.mk Tryz.func157 (by kernel_rfl) (by kernel_rfl)
theorem cf87 :Cf Tryz.prog 87:=Cf.mk Tryz.func87 (by kernel_rfl) (by kernel_rfl)
theorem cf140 :Cf Tryz.prog 140:=Cf.mk Tryz.func140 (by kernel_rfl) (by kernel_rfl)
theorem cf142 :Cf Tryz.prog 142:=Cf.mk Tryz.func142 (by kernel_rfl) (by kernel_rfl)
theorem cf152 :Cf Tryz.prog 152:=Cf.mk Tryz.func152 (by kernel_rfl) (by kernel_rfl)
theorem ag44 :Ag Tryz.prog 44 3:=Ag.mk' Tryz.underlying44 rfl (by kernel_rfl)
theorem cf109 :Cf Tryz.prog 109:=Cf.mk Tryz.func109 (by kernel_rfl) (by kernel_rfl)
theorem cf81 :Cf Tryz.prog 81:=Cf.mk Tryz.func81 (by kernel_rfl) (by kernel_rfl)
theorem cf85 :Cf Tryz.prog 85:=Cf.mk Tryz.func85 (by kernel_rfl) (by kernel_rfl)
theorem cf93 :Cf Tryz.prog 93:=Cf.mk Tryz.func93 (by kernel_rfl) (by kernel_rfl)
theorem y5J :FA Tryz.prog 155 2 10:=FA.mk Tryz.underlying155 rfl rfl ⟨5,by decide,by kernel_rfl⟩
theorem pl44 :Pl Tryz.prog 44 [(0,1),(1,1),(2,1)] [.int .i64 0,.slice none 0 0,.slice none 0 0]:=Pl.str Tryz.underlying44 (by kernel_rfl) (by kernel_rfl)
theorem zz44 :(Tryz.prog.info? 44).bind (·.zero)=some (.agg #[.int .i64 0,.slice none 0 0,.slice none 0 0]):=by kernel_rfl
theorem lv155 {y:(AutT×(List KeyT))×(AutT×(List KeyT))×(AutT×(List KeyT))×List (List Int)×List Int×List Int}:Lv rE155 y [lF qI y.1.1.1,lI y.1.1.2.1,lF qI y.1.1.2.2.1,lF qT y.1.1.2.2.2,lM kvP qI y.1.2,lF qI y.2.1.1.1,lI y.2.1.1.2.1,lF qI y.2.1.1.2.2.1,lF qT y.2.1.1.2.2.2,lM kvP qI y.2.1.2,lF qI y.2.2.1.1.1,lI y.2.2.1.1.2.1,lF qI y.2.2.1.1.2.2.1,lF qT y.2.2.1.1.2.2.2,lM kvP qI y.2.2.1.2,lF (rL qI) y.2.2.2.1,lF qI y.2.2.2.2.1,lF qI y.2.2.2.2.2]:=(.p (.p (.p .l (.p .k (.p .l .l))) .m) (.p (.p (.p .l (.p .k (.p .l .l))) .m) (.p (.p (.p .l (.p .k (.p .l .l))) .m) (.p .l (.p .l .l)))))
theorem cf148 :Cf Tryz.prog 148:=Cf.mk Tryz.func148 (by kernel_rfl) (by kernel_rfl)
theorem yfU :NAg Tryz.prog 136:=NAg.mk' Tryz.underlying136 rfl (by kernel_rfl)
theorem cf136 :Cf Tryz.prog 136:=Cf.mk Tryz.func136 (by kernel_rfl) (by kernel_rfl)
theorem cf203 :Cf Tryz.prog 203:=Cf.mk Tryz.func203 (by kernel_rfl) (by kernel_rfl)
theorem cf149 :Cf Tryz.prog 149:=Cf.mk Tryz.func149 (by kernel_rfl) (by kernel_rfl)
theorem md229 :Md Tryz.prog 229 3 3 kvI (rK .i64) 0 (.int .i64 0):=Md.mk' Tryz.underlying229 (KE.int Tryz.underlying3) (by kernel_rfl) (fun _=>rfl)
theorem nag4 :NAg Tryz.prog 4:=NAg.mk' Tryz.underlying4 rfl (by kernel_rfl)
theorem sl144 :Sl Tryz.prog 144 4 1:=Sl.mk' Tryz.underlying144 (by kernel_rfl)
theorem zr4 :Zr Tryz.prog rB 4 1 false:=Zr.mk' (v:= .bool false) (by kernel_rfl) (by kernel_rfl) (by kernel_rfl) (fun _=>rfl)
theorem lv4 {y:Bool}:Lv rB y [lB y]:= .b
theorem cf77 :Cf Tryz.prog 77:=Cf.mk Tryz.func77 (by kernel_rfl) (by kernel_rfl)
theorem cf78 :Cf Tryz.prog 78:=Cf.mk Tryz.func78 (by kernel_rfl) (by kernel_rfl)
theorem cf79 :Cf Tryz.prog 79:=Cf.mk Tryz.func79 (by kernel_rfl) (by kernel_rfl)
theorem cf80 :Cf Tryz.prog 80:=Cf.mk Tryz.func80 (by kernel_rfl) (by kernel_rfl)
theorem cf82 :Cf Tryz.prog 82:=Cf.mk Tryz.func82 (by kernel_rfl) (by kernel_rfl)
theorem cf19 :Cf Tryz.prog 19:=Cf.mk Tryz.func19 (by kernel_rfl) (by kernel_rfl)
theorem cf29 :Cf Tryz.prog 29:=Cf.mk Tryz.func29 (by kernel_rfl) (by kernel_rfl)
theorem cf36 :Cf Tryz.prog 36:=Cf.mk Tryz.func36 (by kernel_rfl) (by kernel_rfl)
theorem cf71 :Cf Tryz.prog 71:=Cf.mk Tryz.func71 (by kernel_rfl) (by kernel_rfl)
theorem yaD :FA Tryz.prog 44 0 0:=FA.mk Tryz.underlying44 rfl rfl ⟨1,by decide,by kernel_rfl⟩
theorem y6H :FA Tryz.prog 44 1 1:=FA.mk Tryz.underlying44 rfl rfl ⟨1,by decide,by kernel_rfl⟩
theorem y4G :FA Tryz.prog 44 2 2:=FA.mk Tryz.underlying44 rfl rfl ⟨1,by decide,by kernel_rfl⟩
theorem cf229 :Cf Tryz.prog 229:=Cf.mk Tryz.func229 (by kernel_rfl) (by kernel_rfl)
theorem cf55 :Cf Tryz.prog 55:=Cf.mk Tryz.func55 (by kernel_rfl) (by kernel_rfl)
theorem cf194 :Cf Tryz.prog 194:=Cf.mk Tryz.func194 (by kernel_rfl) (by kernel_rfl)
theorem cf228 :Cf Tryz.prog 228:=Cf.mk Tryz.func228 (by kernel_rfl) (by kernel_rfl)
theorem cf230 :Cf Tryz.prog 230:=Cf.mk Tryz.func230 (by kernel_rfl) (by kernel_rfl)
theorem cf195 :Cf Tryz.prog 195:=Cf.mk Tryz.func195 (by kernel_rfl) (by kernel_rfl)
theorem ydN :FA Tryz.prog 26 0 0:=FA.mk Tryz.underlying26 rfl rfl ⟨1,by decide,by kernel_rfl⟩
theorem yfV :FA Tryz.prog 26 1 1:=FA.mk Tryz.underlying26 rfl rfl ⟨1,by decide,by kernel_rfl⟩
theorem yfW :FA Tryz.prog 26 2 2:=FA.mk Tryz.underlying26 rfl rfl ⟨25,by decide,by kernel_rfl⟩
theorem y5m :FlatR (rP (rK .i64) (rP (rK .i64) (rK .i64))):=fun _ _ _ _ h=>h
theorem ia23 :IA Tryz.prog 23 5 1:=IA.mk Tryz.underlying23 (by kernel_rfl)
theorem ia24 :IA Tryz.prog 24 5 5:=IA.mk Tryz.underlying24 (by kernel_rfl)
theorem nag5 :NAg Tryz.prog 5:=NAg.mk' Tryz.underlying5 rfl (by kernel_rfl)
abbrev lx26 (y:y2B):List LV:=[lV (.int .u8 y.1),lV (.int .u8 y.2.1),lV (.int .u8 y.2.2.1.1),lV (.int .u8 y.2.2.1.2.1),lV (.int .u8 y.2.2.1.2.2.1),lV (.int .u8 y.2.2.1.2.2.2.1),lV (.int .u8 y.2.2.1.2.2.2.2),lV (.int .u8 y.2.2.2.1.1),lV (.int .u8 y.2.2.2.1.2.1),lV (.int .u8 y.2.2.2.1.2.2.1),lV (.int .u8 y.2.2.2.1.2.2.2.1),lV (.int .u8 y.2.2.2.1.2.2.2.2),lV (.int .u8 y.2.2.2.2.1.1),lV (.int .u8 y.2.2.2.2.1.2.1),lV (.int .u8 y.2.2.2.2.1.2.2.1),lV (.int .u8 y.2.2.2.2.1.2.2.2.1),lV (.int .u8 y.2.2.2.2.1.2.2.2.2),lV (.int .u8 y.2.2.2.2.2.1.1),lV (.int .u8 y.2.2.2.2.2.1.2.1),lV (.int .u8 y.2.2.2.2.2.1.2.2.1),lV (.int .u8 y.2.2.2.2.2.1.2.2.2.1),lV (.int .u8 y.2.2.2.2.2.1.2.2.2.2),lV (.int .u8 y.2.2.2.2.2.2.1),lV (.int .u8 y.2.2.2.2.2.2.2.1),lV (.int .u8 y.2.2.2.2.2.2.2.2.1),lV (.int .u8 y.2.2.2.2.2.2.2.2.2.1),lV (.int .u8 y.2.2.2.2.2.2.2.2.2.2)]
theorem ag26 :Ag Tryz.prog 26 27:=Ag.mk' Tryz.underlying26 rfl (by kernel_rfl)
theorem cf143 :Cf Tryz.prog 143:=Cf.mk Tryz.func143 (by kernel_rfl) (by kernel_rfl)
theorem cf144 :Cf Tryz.prog 144:=Cf.mk Tryz.func144 (by kernel_rfl) (by kernel_rfl)
theorem ydO :FA Tryz.prog 28 0 0:=FA.mk Tryz.underlying28 rfl rfl ⟨1,by decide,by kernel_rfl⟩
theorem ydP :FA Tryz.prog 28 1 1:=FA.mk Tryz.underlying28 rfl rfl ⟨27,by decide,by kernel_rfl⟩
theorem ydQ :FA Tryz.prog 30 0 0:=FA.mk Tryz.underlying30 rfl rfl ⟨28,by decide,by kernel_rfl⟩
theorem ydR :FA Tryz.prog 30 1 28:=FA.mk Tryz.underlying30 rfl rfl ⟨28,by decide,by kernel_rfl⟩
theorem yfX :FA Tryz.prog 30 2 56:=FA.mk Tryz.underlying30 rfl rfl ⟨1,by decide,by kernel_rfl⟩
theorem nag22 :NAg Tryz.prog 22:=NAg.mk' Tryz.underlying22 rfl (by kernel_rfl)
abbrev lx30 (y:(Int×y2B)×(Int×y2B)×Int):List LV:=[lV (.int .u8 y.1.1),lV (.int .u8 y.1.2.1),lV (.int .u8 y.1.2.2.1),lV (.int .u8 y.1.2.2.2.1.1),lV (.int .u8 y.1.2.2.2.1.2.1),lV (.int .u8 y.1.2.2.2.1.2.2.1),lV (.int .u8 y.1.2.2.2.1.2.2.2.1),lV (.int .u8 y.1.2.2.2.1.2.2.2.2),lV (.int .u8 y.1.2.2.2.2.1.1),lV (.int .u8 y.1.2.2.2.2.1.2.1),lV (.int .u8 y.1.2.2.2.2.1.2.2.1),lV (.int .u8 y.1.2.2.2.2.1.2.2.2.1),lV (.int .u8 y.1.2.2.2.2.1.2.2.2.2),lV (.int .u8 y.1.2.2.2.2.2.1.1),lV (.int .u8 y.1.2.2.2.2.2.1.2.1),lV (.int .u8 y.1.2.2.2.2.2.1.2.2.1),lV (.int .u8 y.1.2.2.2.2.2.1.2.2.2.1),lV (.int .u8 y.1.2.2.2.2.2.1.2.2.2.2),lV (.int .u8 y.1.2.2.2.2.2.2.1.1),lV (.int .u8 y.1.2.2.2.2.2.2.1.2.1),lV (.int .u8 y.1.2.2.2.2.2.2.1.2.2.1),lV (.int .u8 y.1.2.2.2.2.2.2.1.2.2.2.1),lV (.int .u8 y.1.2.2.2.2.2.2.1.2.2.2.2),lV (.int .u8 y.1.2.2.2.2.2.2.2.1),lV (.int .u8 y.1.2.2.2.2.2.2.2.2.1),lV (.int .u8 y.1.2.2.2.2.2.2.2.2.2.1),lV (.int .u8 y.1.2.2.2.2.2.2.2.2.2.2.1),lV (.int .u8 y.1.2.2.2.2.2.2.2.2.2.2.2),lV (.int .u8 y.2.1.1),lV (.int .u8 y.2.1.2.1),lV (.int .u8 y.2.1.2.2.1),lV (.int .u8 y.2.1.2.2.2.1.1),lV (.int .u8 y.2.1.2.2.2.1.2.1),lV (.int .u8 y.2.1.2.2.2.1.2.2.1),lV (.int .u8 y.2.1.2.2.2.1.2.2.2.1),lV (.int .u8 y.2.1.2.2.2.1.2.2.2.2),lV (.int .u8 y.2.1.2.2.2.2.1.1),lV (.int .u8 y.2.1.2.2.2.2.1.2.1),lV (.int .u8 y.2.1.2.2.2.2.1.2.2.1),lV (.int .u8 y.2.1.2.2.2.2.1.2.2.2.1),lV (.int .u8 y.2.1.2.2.2.2.1.2.2.2.2),lV (.int .u8 y.2.1.2.2.2.2.2.1.1),lV (.int .u8 y.2.1.2.2.2.2.2.1.2.1),lV (.int .u8 y.2.1.2.2.2.2.2.1.2.2.1),lV (.int .u8 y.2.1.2.2.2.2.2.1.2.2.2.1),lV (.int .u8 y.2.1.2.2.2.2.2.1.2.2.2.2),lV (.int .u8 y.2.1.2.2.2.2.2.2.1.1),lV (.int .u8 y.2.1.2.2.2.2.2.2.1.2.1),lV (.int .u8 y.2.1.2.2.2.2.2.2.1.2.2.1),lV (.int .u8 y.2.1.2.2.2.2.2.2.1.2.2.2.1),lV (.int .u8 y.2.1.2.2.2.2.2.2.1.2.2.2.2),lV (.int .u8 y.2.1.2.2.2.2.2.2.2.1),lV (.int .u8 y.2.1.2.2.2.2.2.2.2.2.1),lV (.int .u8 y.2.1.2.2.2.2.2.2.2.2.2.1),lV (.int .u8 y.2.1.2.2.2.2.2.2.2.2.2.2.1),lV (.int .u8 y.2.1.2.2.2.2.2.2.2.2.2.2.2),lV (.int .u8 y.2.2)]
theorem yba :FA Tryz.prog 289 2 5:=FA.mk Tryz.underlying289 rfl rfl ⟨1,by decide,by kernel_rfl⟩
theorem y5u :FA Tryz.prog 289 3 6:=FA.mk Tryz.underlying289 rfl rfl ⟨1,by decide,by kernel_rfl⟩
theorem y5H :NAg Tryz.prog 144:=NAg.mk' Tryz.underlying144 rfl (by kernel_rfl)
theorem yc6 :NAg Tryz.prog 271:=NAg.mk' Tryz.underlying271 rfl (by kernel_rfl)
theorem pl289 :Pl Tryz.prog 289 [(0,4),(4,1),(5,1),(6,1)] [.slice none 0 0,.int .i64 0,.slice none 0 0,.slice none 0 0,.slice none 0 0,.map none,.slice none 0 0]:=Pl.str Tryz.underlying289 (by kernel_rfl) (by kernel_rfl)
theorem ydS :Md Tryz.prog 271 3 32 kvI rVal (.slice none 0 0) (.slice none 0 0):=Md.mk' Tryz.underlying271 (KE.int Tryz.underlying3) (by kernel_rfl) (fun _=>⟨rfl,rfl⟩)
theorem bs127 :Bs Tryz.prog 127 286 4 [.int .i64 0,.int .i64 0,.int .i64 0,.int .i64 0]:=Bs.mk' Tryz.underlying127 (by kernel_rfl) (by kernel_rfl) rfl
theorem el286 :El Tryz.prog 286 4 32:=El.mk' (z:= .agg #[.int .i64 0,.int .i64 0,.int .i64 0,.int .i64 0]) (by kernel_rfl) (by kernel_rfl) (by kernel_rfl) rfl
theorem ycM :FA Tryz.prog 286 0 0:=FA.mk Tryz.underlying286 rfl rfl ⟨1,by decide,by kernel_rfl⟩
theorem y6w :FA Tryz.prog 289 0 0:=FA.mk Tryz.underlying289 rfl rfl ⟨4,by decide,by kernel_rfl⟩
theorem yfv :FA Tryz.prog 289 1 4:=FA.mk Tryz.underlying289 rfl rfl ⟨1,by decide,by kernel_rfl⟩
theorem pl286 :Pl Tryz.prog 286 [(0,1),(1,1),(2,1),(3,1)] [.int .i64 0,.int .i64 0,.int .i64 0,.int .i64 0]:=Pl.str Tryz.underlying286 (by kernel_rfl) (by kernel_rfl)
theorem sl127 :Sl Tryz.prog 127 286 4:=Sl.mk' Tryz.underlying127 (by kernel_rfl)
abbrev rE286 :Rep (Int×Int×Int×Int):=(rP qI (rP qI (rP qI qI)))
theorem lv286 {y:Int×Int×Int×Int}:Lv rE286 y [lI y.1,lI y.2.1,lI y.2.2.1,lI y.2.2.2]:=(.p .k (.p .k (.p .k .k)))
theorem yfY :Md Tryz.prog 271 3 32 kvI (rL qI) [] (.slice none 0 0):=Md.mk' Tryz.underlying271 (KE.int Tryz.underlying3) (by kernel_rfl) (fun _=>⟨none,0,rfl,RdL.nil⟩)
theorem cf201 :Cf Tryz.prog 201:=Cf.mk Tryz.func201 (by kernel_rfl) (by kernel_rfl)
theorem cf231 :Cf Tryz.prog 231:=Cf.mk Tryz.func231 (by kernel_rfl) (by kernel_rfl)
theorem cf232 :Cf Tryz.prog 232:=Cf.mk Tryz.func232 (by kernel_rfl) (by kernel_rfl)
theorem sl314 :Sl Tryz.prog 314 33 1:=Sl.mk' Tryz.underlying314 (by kernel_rfl)
theorem zv33 :Zr Tryz.prog rVal 33 24 (.slice none 0 0):=Zr.mk' (v:= .slice none 0 0) (by kernel_rfl) (by kernel_rfl) (by kernel_rfl) (fun _=>⟨rfl,rfl⟩)
theorem lv33 {y:List (Int×Int×Int)}:Lv (rL qT) y [lF qT y]:= .l
theorem ag131 :Ag Tryz.prog 131 9:=Ag.mk' Tryz.underlying131 rfl (by kernel_rfl)
theorem ag286 :Ag Tryz.prog 286 4:=Ag.mk' Tryz.underlying286 rfl (by kernel_rfl)
theorem cf197 :Cf Tryz.prog 197:=Cf.mk Tryz.func197 (by kernel_rfl) (by kernel_rfl)
theorem cf198 :Cf Tryz.prog 198:=Cf.mk Tryz.func198 (by kernel_rfl) (by kernel_rfl)
theorem cf199 :Cf Tryz.prog 199:=Cf.mk Tryz.func199 (by kernel_rfl) (by kernel_rfl)
theorem cf202 :Cf Tryz.prog 202:=Cf.mk Tryz.func202 (by kernel_rfl) (by kernel_rfl)
theorem ycN :FA Tryz.prog 129 0 0:=FA.mk Tryz.underlying129 rfl rfl ⟨1,by decide,by kernel_rfl⟩
theorem ycO :FA Tryz.prog 129 1 1:=FA.mk Tryz.underlying129 rfl rfl ⟨1,by decide,by kernel_rfl⟩
theorem y8G :FA Tryz.prog 129 2 2:=FA.mk Tryz.underlying129 rfl rfl ⟨1,by decide,by kernel_rfl⟩
theorem y6f :FA Tryz.prog 131 0 0:=FA.mk Tryz.underlying131 rfl rfl ⟨3,by decide,by kernel_rfl⟩
theorem ycP :FA Tryz.prog 131 1 3:=FA.mk Tryz.underlying131 rfl rfl ⟨1,by decide,by kernel_rfl⟩
theorem ycQ :FA Tryz.prog 131 2 4:=FA.mk Tryz.underlying131 rfl rfl ⟨4,by decide,by kernel_rfl⟩
theorem yfw :FA Tryz.prog 131 3 8:=FA.mk Tryz.underlying131 rfl rfl ⟨1,by decide,by kernel_rfl⟩
theorem ydT :FlatR (rP (rK .i64) (rP (rK .i64) (rP (rK .i64) (rK .i64)))):=fun _ _ _ _ h=>h
theorem y9E :NAg Tryz.prog 127:=NAg.mk' Tryz.underlying127 rfl (by kernel_rfl)
theorem zz131 :(Tryz.prog.info? 131).bind (·.zero)=some (.agg #[.slice none 0 0,.slice none 0 0,.slice none 0 0,.int .i64 0,.slice none 0 0,.int .i64 0,.slice none 0 0,.slice none 0 0,.slice none 0 0]):=by kernel_rfl
theorem zz286 :(Tryz.prog.info? 286).bind (·.zero)=some (.agg #[.int .i64 0,.int .i64 0,.int .i64 0,.int .i64 0]):=by kernel_rfl
theorem cf146 :Cf Tryz.prog 146:=Cf.mk Tryz.func146 (by kernel_rfl) (by kernel_rfl)
theorem cf147 :Cf Tryz.prog 147:=Cf.mk Tryz.func147 (by kernel_rfl) (by kernel_rfl)
theorem pl131 :Pl Tryz.prog 131 [(0,3),(3,1),(4,4),(8,1)] [.slice none 0 0,.slice none 0 0,.slice none 0 0,.int .i64 0,.slice none 0 0,.int .i64 0,.slice none 0 0,.slice none 0 0,.slice none 0 0]:=Pl.str Tryz.underlying131 (by kernel_rfl) (by kernel_rfl)
theorem ag30 :Ag Tryz.prog 30 57:=Ag.mk' Tryz.underlying30 rfl (by kernel_rfl)
theorem cf72 :Cf Tryz.prog 72:=Cf.mk Tryz.func72 (by kernel_rfl) (by kernel_rfl)
theorem cf73 :Cf Tryz.prog 73:=Cf.mk Tryz.func73 (by kernel_rfl) (by kernel_rfl)
theorem cf74 :Cf Tryz.prog 74:=Cf.mk Tryz.func74 (by kernel_rfl) (by kernel_rfl)
theorem cf15 :Cf Tryz.prog 15:=Cf.mk Tryz.func15 (by kernel_rfl) (by kernel_rfl)
theorem cf16 :Cf Tryz.prog 16:=Cf.mk Tryz.func16 (by kernel_rfl) (by kernel_rfl)
theorem cf90 :Cf Tryz.prog 90:=Cf.mk Tryz.func90 (by kernel_rfl) (by kernel_rfl)
theorem yfx :FA Tryz.prog 155 5 17:=FA.mk Tryz.underlying155 rfl rfl ⟨1,by decide,by kernel_rfl⟩
theorem cf204 :Cf Tryz.prog 204:=Cf.mk Tryz.func204 (by kernel_rfl) (by kernel_rfl)
theorem cf154 :Cf Tryz.prog 154:=Cf.mk Tryz.func154 (by kernel_rfl) (by kernel_rfl)
theorem cf155 :Cf Tryz.prog 155:=Cf.mk Tryz.func155 (by kernel_rfl) (by kernel_rfl)
theorem cf91 :Cf Tryz.prog 91:=Cf.mk Tryz.func91 (by kernel_rfl) (by kernel_rfl)
theorem cf92 :Cf Tryz.prog 92:=Cf.mk Tryz.func92 (by kernel_rfl) (by kernel_rfl)
theorem cf216 :Cf Tryz.prog 216:=Cf.mk Tryz.func216 (by kernel_rfl) (by kernel_rfl)
theorem cf177 :Cf Tryz.prog 177:=Cf.mk Tryz.func177 (by kernel_rfl) (by kernel_rfl)
theorem cf114 :Cf Tryz.prog 114:=Cf.mk Tryz.func114 (by kernel_rfl) (by kernel_rfl)
theorem cf44 :Cf Tryz.prog 44:=Cf.mk Tryz.func44 (by kernel_rfl) (by kernel_rfl)
theorem cf42 :Cf Tryz.prog 42:=Cf.mk Tryz.func42 (by kernel_rfl) (by kernel_rfl)
theorem cf166 :Cf Tryz.prog 166:=Cf.mk Tryz.func166 (by kernel_rfl) (by kernel_rfl)
theorem cf167 :Cf Tryz.prog 167:=Cf.mk Tryz.func167 (by kernel_rfl) (by kernel_rfl)
theorem cf168 :Cf Tryz.prog 168:=Cf.mk Tryz.func168 (by kernel_rfl) (by kernel_rfl)
theorem cf102 :Cf Tryz.prog 102:=Cf.mk Tryz.func102 (by kernel_rfl) (by kernel_rfl)
theorem cf213 :Cf Tryz.prog 213:=Cf.mk Tryz.func213 (by kernel_rfl) (by kernel_rfl)
theorem cf170 :Cf Tryz.prog 170:=Cf.mk Tryz.func170 (by kernel_rfl) (by kernel_rfl)
theorem cf105 :Cf Tryz.prog 105:=Cf.mk Tryz.func105 (by kernel_rfl) (by kernel_rfl)
theorem cf106 :Cf Tryz.prog 106:=Cf.mk Tryz.func106 (by kernel_rfl) (by kernel_rfl)
theorem cf107 :Cf Tryz.prog 107:=Cf.mk Tryz.func107 (by kernel_rfl) (by kernel_rfl)
theorem cf108 :Cf Tryz.prog 108:=Cf.mk Tryz.func108 (by kernel_rfl) (by kernel_rfl)
theorem cf31 :Cf Tryz.prog 31:=Cf.mk Tryz.func31 (by kernel_rfl) (by kernel_rfl)
theorem cf35 :Cf Tryz.prog 35:=Cf.mk Tryz.func35 (by kernel_rfl) (by kernel_rfl)
theorem cf113 :Cf Tryz.prog 113:=Cf.mk Tryz.func113 (by kernel_rfl) (by kernel_rfl)
theorem cf27 :Cf Tryz.prog 27:=Cf.mk Tryz.func27 (by kernel_rfl) (by kernel_rfl)
theorem cf40 :Cf Tryz.prog 40:=Cf.mk Tryz.func40 (by kernel_rfl) (by kernel_rfl)
theorem cf41 :Cf Tryz.prog 41:=Cf.mk Tryz.func41 (by kernel_rfl) (by kernel_rfl)
theorem cf111 :Cf Tryz.prog 111:=Cf.mk Tryz.func111 (by kernel_rfl) (by kernel_rfl)
theorem cf178 :Cf Tryz.prog 178:=Cf.mk Tryz.func178 (by kernel_rfl) (by kernel_rfl)
theorem cf115 :Cf Tryz.prog 115:=Cf.mk Tryz.func115 (by kernel_rfl) (by kernel_rfl)
theorem cf116 :Cf Tryz.prog 116:=Cf.mk Tryz.func116 (by kernel_rfl) (by kernel_rfl)
theorem ag265 :Ag Tryz.prog 265 5:=Ag.mk' Tryz.underlying265 rfl (by kernel_rfl)
theorem ybb :FA Tryz.prog 265 1 4:=FA.mk Tryz.underlying265 rfl rfl ⟨1,by decide,by kernel_rfl⟩
theorem pl265 :Pl Tryz.prog 265 [(0,4),(4,1)] [.slice none 0 0,.int .i64 0,.slice none 0 0,.slice none 0 0,.slice none 0 0]:=Pl.str Tryz.underlying265 (by kernel_rfl) (by kernel_rfl)
theorem zz265 :(Tryz.prog.info? 265).bind (·.zero)=some (.agg #[.slice none 0 0,.int .i64 0,.slice none 0 0,.slice none 0 0,.slice none 0 0]):=by kernel_rfl
theorem cf179 :Cf Tryz.prog 179:=Cf.mk Tryz.func179 (by kernel_rfl) (by kernel_rfl)
theorem cf180 :Cf Tryz.prog 180:=Cf.mk Tryz.func180 (by kernel_rfl) (by kernel_rfl)
theorem cf117 :Cf Tryz.prog 117:=Cf.mk Tryz.func117 (by kernel_rfl) (by kernel_rfl)
theorem cf38 :Cf Tryz.prog 38:=Cf.mk Tryz.func38 (by kernel_rfl) (by kernel_rfl)
theorem cf43 :Cf Tryz.prog 43:=Cf.mk Tryz.func43 (by kernel_rfl) (by kernel_rfl)
theorem cf45 :Cf Tryz.prog 45:=Cf.mk Tryz.func45 (by kernel_rfl) (by kernel_rfl)
def y5F :Option (AutT×AutT×List Int):=
 some ((([0,1]:List Int),4,([3]:List Int),([(0,0,1),(0,1,2),(1,1,3),(2,0,3)]:List (Int×Int×Int))),(([0,1]:List Int),5,([3,4]:List Int),([(0,0,1),(0,1,2),(1,1,3),(2,0,4)]:List (Int×Int×Int))),([0,1]:List Int))
theorem y8l {r:(AutT×AutT×List Int)} (hm:y5F=some r):
  Fw Tryz.prog 71 ⟨0,[]⟩ [] [] (.g [lF qI r.1.1,lI r.1.2.1,lF qI r.1.2.2.1,lF qT r.1.2.2.2,lF qI r.2.1.1,lI r.2.1.2.1,lF qI r.2.1.2.2.1,lF qT r.2.1.2.2.2,lF qI r.2.2]) []:=by
 unfold y5F at hm
 refine Fw.mk' Tryz.func71 R Tryz.ntmps71 R R (fun C=>?_) R R
 refine .seq (.reg (.op (O.al 0 R zz37 R Z R) R (.nil (.seqN (.seq (.reg (.op (O.bsF (r:=qI) (zs:=([0,1]:List Int)) bs32 R R Z R R R (.c .k (.c .k .n)) R R R) R (.op (O.bsF (r:=qI) (zs:=([3]:List Int)) bs32 R R Z R R R (.c .k .n) R R R) R (.op (O.bu (l:=[lI 0,lI 0,lI 1]) pl124 R Z R R R) R (.op (O.bu (l:=[lI 0,lI 1,lI 2]) pl124 R Z R R R) R (.op (O.bu (l:=[lI 1,lI 1,lI 3]) pl124 R Z R R R) R (.op (O.bu (l:=[lI 2,lI 0,lI 3]) pl124 R Z R R R) R (.op (O.bsF (r:=qT) (zs:=([(0,0,1),(0,1,2),(1,1,3),(2,0,3)]:List (Int×Int×Int))) bs33 R R Z R R R (.c (.p .k (.p .k .k)) (.c (.p .k (.p .k .k)) (.c (.p .k (.p .k .k)) (.c (.p .k (.p .k .k)) .n)))) R R R) R (.op (O.bu (l:=[lF qI ([0,1]:List Int),lI 4,lF qI ([3]:List Int),lF qT ([(0,0,1),(0,1,2),(1,1,3),(2,0,3)]:List (Int×Int×Int))]) pl35 R Z R R R) R (.op (O.al 1 R zz35 R Z R) R (.op (O.st ag35.sz Z R R R R R) R (.nil (.seqN (.seq (.reg (.op (O.bsF (r:=qI) (zs:=([0,1]:List Int)) bs32 R R Z R R R (.c .k (.c .k .n)) R R R) R (.op (O.bsF (r:=qI) (zs:=([3,4]:List Int)) bs32 R R Z R R R (.c .k (.c .k .n)) R R R) R (.op (O.bu (l:=[lI 0,lI 0,lI 1]) pl124 R Z R R R) R (.op (O.bu (l:=[lI 0,lI 1,lI 2]) pl124 R Z R R R) R (.op (O.bu (l:=[lI 1,lI 1,lI 3]) pl124 R Z R R R) R (.op (O.bu (l:=[lI 2,lI 0,lI 4]) pl124 R Z R R R) R (.op (O.bsF (r:=qT) (zs:=([(0,0,1),(0,1,2),(1,1,3),(2,0,4)]:List (Int×Int×Int))) bs33 R R Z R R R (.c (.p .k (.p .k .k)) (.c (.p .k (.p .k .k)) (.c (.p .k (.p .k .k)) (.c (.p .k (.p .k .k)) .n)))) R R R) R (.op (O.bu (l:=[lF qI ([0,1]:List Int),lI 5,lF qI ([3,4]:List Int),lF qT ([(0,0,1),(0,1,2),(1,1,3),(2,0,4)]:List (Int×Int×Int))]) pl35 R Z R R R) R (.op (O.al 2 R zz35 R Z R) R (.op (O.st ag35.sz Z R R R R R) R (.nil (.seqN (.seq (.reg (.op (O.lg (l':=[lF qI ([0,1]:List Int),lI 4,lF qI ([3]:List Int),lF qT ([(0,0,1),(0,1,2),(1,1,3),(2,0,3)]:List (Int×Int×Int))]) ag35 Z R (.B R) R R R) R (.op (O.lg (l':=[lF qI ([0,1]:List Int),lI 5,lF qI ([3,4]:List Int),lF qT ([(0,0,1),(0,1,2),(1,1,3),(2,0,4)]:List (Int×Int×Int))]) ag35 Z R (.B R) R R R) R (.op (O.bsF (r:=qI) (zs:=([0,1]:List Int)) bs32 R R Z R R R (.c .k (.c .k .n)) R R R) R (.op (O.bu (l:=[lF qI ([0,1]:List Int),lI 4,lF qI ([3]:List Int),lF qT ([(0,0,1),(0,1,2),(1,1,3),(2,0,3)]:List (Int×Int×Int)),lF qI ([0,1]:List Int),lI 5,lF qI ([3,4]:List Int),lF qT ([(0,0,1),(0,1,2),(1,1,3),(2,0,4)]:List (Int×Int×Int)),lF qI ([0,1]:List Int)]) pl37 R Z R R R) R (.op (O.st ag37.sz Z R R R R R) R ?_)))))))))))))))))))))))))))))))))))))))
 refine .nil (.seqN (.ret ?_))
 obtain rfl:=oi hm
 exact WX.rt [] (.inl R) Tryz.results71 (.cell R R ag37 R .nil) R (fun _ _ _ h=>h) trivial
def y2s (p0:List Int) (p1:Int) (st10:Int):Option (Int ⊕ (Unit ⊕ Int)):=
 if decide (st10 < (p0.length:Int)) then
  (idx p0 st10).bind fun x16=>
  if((decide (x16 < 0)) || (decide (x16≥p1))) then
   some (.inr (.inr (2)))
  else
   (if decide (st10 > 0) then
    (idx p0 (W (st10 - 1))).bind fun x22=>
    some (decide (x16≤x22))
   else
    some false).bind fun b19=>
   if b19 then
    some (.inr (.inr (5)))
   else
    some (.inl (W (st10 + 1)))
 else
  some (.inr (.inl ()))
def y1y (p0:List Int) (p1:Int):Option Int:=
 (iter (y2s p0 p1) 0).bind fun o10=>
 match o10 with
 | .inl u12=>
  some 0
 | .inr (u14)=>
  some u14
theorem y6m {p0:List Int} {p1:Int} {r:Int} (hm:y1y p0 p1=some r):
  Fw Tryz.prog 164 ⟨0,[]⟩ [.f qI p0,.i p1] [] (.i r) []:=by
 unfold y1y at hm
 refine Fw.mk' Tryz.func164 R Tryz.ntmps164 R R (fun C=>?_) R R
 refine .seq (.reg (.sa R (.nil (.seqN (.seq (.seq (.reg (.mv R (.op (O.len sl32 Z R R) R (.mv R (.nil (.seqN (.block (bS hm fun o10 eo10 hm=>?_))))))))))))))
 refine .cutU (z:= .exit 0) (fun u12=> .inl u12=o10) (fun (u12:Unit)=>⟨[],[],0⟩) ?_ fun K13=>?_
 ·rintro u12 rfl
  dsimp only at hm
  refine .blkE (.seqN (.seq (.reg (.sa R (.nil (.seqN (.ret ?_)))))))
  obtain rfl:=oi hm
  exact WX.rt [] (.inl R) Tryz.results164 (.tmp R .nil) R (fun _ _ _ h=>h) trivial
 refine .cutU (z:= .ret) (fun u14=> .inr (u14)=o10) (fun (u14:Int)=>⟨[(4,.i u14)],[],0⟩) ?_ fun K15=>?_
 ·rintro u14 rfl
  dsimp only at hm
  refine .blkR (.seqR ?_)
  obtain rfl:=oi hm
  exact WX.rt [] (.inl R) Tryz.results164 (.tmp R .nil) R (fun _ _ _ h=>h) trivial
 refine .iter (fun (st10:Int)=>⟨[(9,.i st10),(8,.i (p0.length:Int)),(7,.f qI p0),(0,.f qI p0),(1,.i p1)],[],0⟩) eo10 [] R ?_
 intro st10 res10 hm ih10 ho10
 unfold y2s at hm
 refine .seq (.reg (.bi R (.nil (.seqN (.seq ?_)))))
 rcases ifS hm with ⟨hc,hm⟩ | ⟨hc,hm⟩
 ·refine .cT R hc ?_
  refine .skip (.seqN (.seq (.block (.seq (.reg (.mv R (bS hm fun x16 ex16 hm=> .op (O.ix sl32 Z R R ex16 R) R (.op (O.ld nag3 Z R (.E lv3) R R) R (.sa R (.sa R (.nil (.seqN (.block (.seq (.reg (.mv R (.bi R (.mv R ?_))))))))))))))))))
  refine .cut 4 (fun (v17:Bool)=>((decide (x16 < 0)) || (decide (x16≥p1)))=v17) (fun v17=>⟨[(21,.b v17),(6,.i x16),(5,.i st10),(9,.i st10),(8,.i (p0.length:Int)),(7,.f qI p0),(0,.f qI p0),(1,.i p1)],[],0⟩) ?_ ?_
  ·rintro _ rfl
   refine .sa R (.nil (.seqN ?_))
   rcases ifS hm with ⟨hc,hm⟩ | ⟨hc,hm⟩
   ·refine .cT R hc ?_
    exact .seq (.reg (.sa R (.nil (.seqN (.ret (.blkR (.blkR (.seqR (.seqR ((K15 _ (ho10 _ (oi hm).symm)).sub [] R))))))))))
   ·refine .cF R hc ?_
    refine .seq (.reg (.mv R (.bi R (.mv R (bS hm fun b19 eb19 hm=>?_)))))
    refine .cut 8 (fun (v20:Bool)=>b19=v20) (fun v20=>⟨[(33,.b v20),(9,.i st10),(8,.i (p0.length:Int)),(7,.f qI p0),(0,.f qI p0),(1,.i p1)],[],0⟩) ?_ ?_
    ·rintro _ rfl
     refine .sa R (.nil (.seqN ?_))
     rcases ifS hm with ⟨hc,hm⟩ | ⟨hc,hm⟩
     ·refine .cT R hc ?_
      exact .seq (.reg (.sa R (.nil (.seqN (.ret (.blkR (.blkR (.seqR (.seqR ((K15 _ (ho10 _ (oi hm).symm)).sub [] R))))))))))
     ·refine .cF R hc ?_
      exact .skip (.blkN (.blkN (.seqN (.reg (.bi R (.mv R (.nil ((ih10 _ (oi hm).symm).sub [] R))))))))
    ·intro J21
     rcases ifS eb19 with ⟨hc,hm⟩ | ⟨hc,hm⟩
     ·refine .know (d:=25) R hc ?_
      exact .op (O.mv (Gu.mk R R) R R) R (.op (O.mv (Gu.mk R R) R R) R (.op (O.mv (Gu.mk R R) R R) R (.op (O.bi (Gu.mk R R) R R R R) R (bS hm fun x22 ex22 hm=> .op (O.ix sl32 (Gu.mk R R) R R ex22 R) R (.op (O.ld nag3 (Gu.mk R R) R (.E lv3) R R) R (.op (O.bi (Gu.mk R R) R R R R) R (.op (O.pkT Z R R R R) R ((J21 (decide (x16≤x22)) (oi hm).symm).sub [] R))))))))
     ·refine .know (d:=25) R hc ?_
      exact .sk R (.sk R (.sk R (.sk R (.sk R (.sk R (.sk R (.op (O.pkF Z R R R R) R ((J21 false (oi hm).symm).sub [] R))))))))
  ·intro J18
   rcases Bool.eq_false_or_eq_true (decide (x16 < 0)) with hc | hc
   ·refine .know (d:=17) R hc ?_
    exact .sk R (.sk R (.sk R (.op (O.pkT Z R R R R) R ((J18 true (orT hc).symm).sub [] R))))
   ·refine .know (d:=17) R hc ?_
    exact .op (O.mv (Gu.mk R R) R R) R (.op (O.mv (Gu.mk R R) R R) R (.op (O.bi (Gu.mk R R) R R R R) R (.op (O.pkF Z R R R R) R ((J18 (decide (x16≥p1)) (orF hc).symm).sub [] R))))
 ·refine .cF R hc ?_
  exact .exit (.seqX (.seqX ((K13 _ (ho10 _ (oi hm).symm)).sub [] R)))
def y2X (p0:List Int) (p1:Int) (st4:Int):Option (Int ⊕ (Unit ⊕ Int)):=
 if decide (st4 < (p0.length:Int)) then
  (idx p0 st4).bind fun x10=>
  if(p1 == x10) then
   some (.inr (.inr (st4)))
  else
   some (.inl (W (st4 + 1)))
 else
  some (.inr (.inl ()))
def y5w (p0:List Int) (p1:Int):Option Int:=
 (iter (y2X p0 p1) 0).bind fun o4=>
 match o4 with
 | .inl u6=>
  some (-1)
 | .inr (u8)=>
  some u8
theorem y8X {p0:List Int} {p1:Int} {r:Int} (hm:y5w p0 p1=some r):
  Fw Tryz.prog 169 ⟨0,[]⟩ [.f qI p0,.i p1] [] (.i r) []:=by
 unfold y5w at hm
 refine Fw.mk' Tryz.func169 R Tryz.ntmps169 R R (fun C=>?_) R R
 refine .seq (.reg (.sa R (.nil (.seqN (.seq (.seq (.reg (.mv R (.op (O.len sl32 Z R R) R (.mv R (.nil (.seqN (.block (bS hm fun o4 eo4 hm=>?_))))))))))))))
 refine .cutU (z:= .exit 0) (fun u6=> .inl u6=o4) (fun (u6:Unit)=>⟨[],[],0⟩) ?_ fun K7=>?_
 ·rintro u6 rfl
  dsimp only at hm
  refine .blkE (.seqN (.seq (.reg (.sa R (.nil (.seqN (.ret ?_)))))))
  obtain rfl:=oi hm
  exact WX.rt [] (.inl R) Tryz.results169 (.tmp R .nil) R (fun _ _ _ h=>h) trivial
 refine .cutU (z:= .ret) (fun u8=> .inr (u8)=o4) (fun (u8:Int)=>⟨[(4,.i u8)],[],0⟩) ?_ fun K9=>?_
 ·rintro u8 rfl
  dsimp only at hm
  refine .blkR (.seqR ?_)
  obtain rfl:=oi hm
  exact WX.rt [] (.inl R) Tryz.results169 (.tmp R .nil) R (fun _ _ _ h=>h) trivial
 refine .iter (fun (st4:Int)=>⟨[(8,.i st4),(7,.i (p0.length:Int)),(0,.f qI p0),(1,.i p1)],[],0⟩) eo4 [] R ?_
 intro st4 res4 hm ih4 ho4
 unfold y2X at hm
 refine .seq (.reg (.bi R (.nil (.seqN (.seq ?_)))))
 rcases ifS hm with ⟨hc,hm⟩ | ⟨hc,hm⟩
 ·refine .cT R hc ?_
  refine .skip (.seqN (.seq (.block (.seq (.reg (.mv R (.sa R (.nil (.seqN (.seq (.reg (.mv R (.mv R (.mv R (bS hm fun x10 ex10 hm=> .op (O.ix sl32 Z R R ex10 R) R (.op (O.ld nag3 Z R (.E lv3) R R) R (.bi R (.nil (.seqN ?_)))))))))))))))))))
  rcases ifS hm with ⟨hc,hm⟩ | ⟨hc,hm⟩
  ·refine .cT R hc ?_
   exact .seq (.reg (.mv R (.sa R (.nil (.seqN (.ret (.blkR (.seqR (.seqR ((K9 _ (ho4 _ (oi hm).symm)).sub [] R))))))))))
  ·refine .cF R hc ?_
   exact .skip (.blkN (.seqN (.reg (.bi R (.mv R (.nil ((ih4 _ (oi hm).symm).sub [] R)))))))
 ·refine .cF R hc ?_
  exact .exit (.seqX (.seqX ((K7 _ (ho4 _ (oi hm).symm)).sub [] R)))
def yA (p0:List Int) (p1:Int):Option Bool:=
 (y5w p0 p1).bind fun r1=>
 some (decide (r1≥0))
theorem y2t {p0:List Int} {p1:Int} {r:Bool} (hm:yA p0 p1=some r):
  Fw Tryz.prog 104 ⟨0,[]⟩ [.f qI p0,.i p1] [] (.b r) []:=by
 unfold yA at hm
 refine Fw.mk' Tryz.func104 R Tryz.ntmps104 R R (fun C=>?_) R R
 refine .seq (.reg (.sa R (.nil (.seqN (.seq (.reg (.mv R (.mv R (bS hm fun r1 er1 hm=> .op (O.ca0 (y8X er1) cf169 R R Z R R R) R (.bi R (.sa R (.nil (.seqN (.ret ?_))))))))))))))
 obtain rfl:=oi hm
 exact WX.rt [] (.inl R) Tryz.results104 (.tmp R .nil) R (fun _ _ _ h=>h) trivial
def y1F (st17:Int):Option (Int ⊕ (Unit ⊕ Int)):=
 some (.inl (W (st17 + 1)))
def y1G (p0:AutT) (st17:Int):Option (Int ⊕ (Unit ⊕ Int)):=
 if decide (st17 < (p0.2.2.2.length:Int)) then
  (idx p0.2.2.2 st17).bind fun x24=>
  if((((decide (x24.1 < 0)) || (decide (x24.1≥p0.2.1))) || (decide (x24.2.2 < 0))) || (decide (x24.2.2≥p0.2.1))) then
   some (.inr (.inr (2)))
  else
   (yA p0.1 x24.2.1).bind fun r31=>
   if(!r31) then
    some (.inr (.inr (9)))
   else
    if(st17 == 0) then
     y1F st17
    else
     (idx p0.2.2.2 (W (st17 - 1))).bind fun x32=>
     if((decide (x24.1 < x32.1)) || ((x24.1 == x32.1) && (decide (x24.2.1≤x32.2.1)))) then
      some (.inr (.inr (5)))
     else
      y1F st17
 else
  some (.inr (.inl ()))
def y3M (p0:AutT):Option Int:=
 (iter (y1G p0) 0).bind fun o17=>
 match o17 with
 | .inl u19=>
  some 0
 | .inr (u21)=>
  some u21
theorem y7N {p0:AutT} {r:Int} (hm:y3M p0=some r):
  Fw Tryz.prog 165 ⟨0,[]⟩ [.a [lF qI p0.1,lI p0.2.1,lF qI p0.2.2.1,lF qT p0.2.2.2]] [] (.i r) []:=by
 unfold y3M at hm
 refine Fw.mk' Tryz.func165 R Tryz.ntmps165 R R (fun C=>?_) R R
 refine .seq (.reg (.op (O.box 0 R Z R R R) R (.sa R (.nil (.seqN (.seq (.seq (.reg (.op (O.faP yG Z R R) R (.op (O.ld nag33 Z R (.B R) R R) R (.op (O.len sl33 Z R R) R (.mv R (.nil (.seqN (.block (bS hm fun o17 eo17 hm=>?_))))))))))))))))
 refine .cutU (z:= .exit 0) (fun u19=> .inl u19=o17) (fun (u19:Unit)=>⟨[],[],0⟩) ?_ fun K20=>?_
 ·rintro u19 rfl
  dsimp only at hm
  refine .blkE (.seqN (.seq (.reg (.sa R (.nil (.seqN (.ret ?_)))))))
  obtain rfl:=oi hm
  exact WX.rt [] (.inl R) Tryz.results165 (.tmp R .nil) R (fun _ _ _ h=>h) trivial
 refine .cutU (z:= .ret) (fun u21=> .inr (u21)=o17) (fun (u21:Int)=>⟨[(2,.i u21)],[],0⟩) ?_ fun K22=>?_
 ·rintro u21 rfl
  dsimp only at hm
  refine .blkR (.seqR ?_)
  obtain rfl:=oi hm
  exact WX.rt [] (.inl R) Tryz.results165 (.tmp R .nil) R (fun _ _ _ h=>h) trivial
 refine .iter (fun (st17:Int)=>⟨[(9,.i st17),(8,.i (p0.2.2.2.length:Int)),(7,.f qT p0.2.2.2),(1,.q 0 0)],[(0,.bx 35 [lF qI p0.1,lI p0.2.1,lF qI p0.2.2.1,lF qT p0.2.2.2])],1⟩) eo17 [] R ?_
 intro st17 res17 hm ih17 ho17
 unfold y1G at hm
 refine .seq (.reg (.bi R (.nil (.seqN (.seq ?_)))))
 rcases ifS hm with ⟨hc,hm⟩ | ⟨hc,hm⟩
 ·refine .cT R hc ?_
  refine .skip (.seqN ?_)
  refine .join0 (y1F st17=some res17) (⟨[(9,.i st17),(8,.i (p0.2.2.2.length:Int)),(7,.f qT p0.2.2.2),(1,.q 0 0)],[(0,.bx 35 [lF qI p0.1,lI p0.2.1,lF qI p0.2.2.1,lF qT p0.2.2.2])],1⟩) ?_ ?_
  ·intro hm
   unfold y1F at hm
   exact .reg (.bi R (.mv R (.nil ((ih17 _ (oi hm).symm).sub [] R))))
  ·intro Jj23
   refine .block (.seq (.reg (.mv R (bS hm fun x24 ex24 hm=> .op (O.ix sl33 Z R R ex24 R) R (.op (O.lg (l':=[lI x24.1,lI x24.2.1,lI x24.2.2]) ag124 Z R (.E lv124) R R R) R (.op (O.al 1 R zz124 R Z R) R (.sa R (.op (O.st ag124.sz Z R R R R R) R (.nil (.seqN (.seq (.block (.seq (.reg (.op (O.faP y1W Z R R) R (.op (O.ld nag3 Z R (.B R) R R) R (.bi R (.mv R ?_))))))))))))))))))
   refine .cut 6 (fun (v25:Bool)=>((decide (x24.1 < 0)) || (decide (x24.1≥p0.2.1)))=v25) (fun v25=>⟨[(24,.b v25),(3,.i st17),(4,.q 1 0),(9,.i st17),(8,.i (p0.2.2.2.length:Int)),(7,.f qT p0.2.2.2),(1,.q 0 0)],[(1,.bx 124 [lI x24.1,lI x24.2.1,lI x24.2.2]),(0,.bx 35 [lF qI p0.1,lI p0.2.1,lF qI p0.2.2.1,lF qT p0.2.2.2])],2⟩) ?_ ?_
   ·rintro _ rfl
    refine .mv R ?_
    refine .cut 4 (fun (v27:Bool)=>(((decide (x24.1 < 0)) || (decide (x24.1≥p0.2.1))) || (decide (x24.2.2 < 0)))=v27) (fun v27=>⟨[(29,.b v27),(3,.i st17),(4,.q 1 0),(9,.i st17),(8,.i (p0.2.2.2.length:Int)),(7,.f qT p0.2.2.2),(1,.q 0 0)],[(1,.bx 124 [lI x24.1,lI x24.2.1,lI x24.2.2]),(0,.bx 35 [lF qI p0.1,lI p0.2.1,lF qI p0.2.2.1,lF qT p0.2.2.2])],2⟩) ?_ ?_
    ·rintro _ rfl
     refine .mv R ?_
     refine .cut 6 (fun (v29:Bool)=>((((decide (x24.1 < 0)) || (decide (x24.1≥p0.2.1))) || (decide (x24.2.2 < 0))) || (decide (x24.2.2≥p0.2.1)))=v29) (fun v29=>⟨[(36,.b v29),(3,.i st17),(4,.q 1 0),(9,.i st17),(8,.i (p0.2.2.2.length:Int)),(7,.f qT p0.2.2.2),(1,.q 0 0)],[(1,.bx 124 [lI x24.1,lI x24.2.1,lI x24.2.2]),(0,.bx 35 [lF qI p0.1,lI p0.2.1,lF qI p0.2.2.1,lF qT p0.2.2.2])],2⟩) ?_ ?_
     ·rintro _ rfl
      refine .sa R (.nil (.seqN ?_))
      rcases ifS hm with ⟨hc,hm⟩ | ⟨hc,hm⟩
      ·refine .cT R hc ?_
       exact .seq (.reg (.sa R (.nil (.seqN (.ret (.blkR (.seqR (.blkR (.seqR (.seqR ((K22 _ (ho17 _ (oi hm).symm)).sub [] R)))))))))))
      ·refine .cF R hc ?_
       refine .seq (.reg (.op (O.faP y1R Z R R) R (.op (O.ld nag32 Z R (.B R) R R) R (.op (O.faP y4L Z R R) R (.op (O.ld nag3 Z R (.B R) R R) R (bS hm fun r31 er31 hm=> .op (O.ca0 (y2t er31) cf104 R R Z R R R) R (.op (O.not Z R R) R (.sa R (.nil (.seqN ?_))))))))))
       rcases ifS hm with ⟨hc,hm⟩ | ⟨hc,hm⟩
       ·refine .cT R hc ?_
        exact .seq (.reg (.sa R (.nil (.seqN (.ret (.blkR (.seqR (.blkR (.seqR (.seqR ((K22 _ (ho17 _ (oi hm).symm)).sub [] R)))))))))))
       ·refine .cF R hc ?_
        refine .skip (.blkN (.seqN (.seq (.seq (.reg (.mv R (.bi R (.nil (.seqN ?_)))))))))
        rcases ifS hm with ⟨hc,hm⟩ | ⟨hc,hm⟩
        ·refine .cT R hc ?_
         exact .exit (.seqX (.blkE ((Jj23 hm).sub [] R)))
        ·refine .cF R hc ?_
         refine .skip (.seqN (.seq (.reg (.op (O.faP yG Z R R) R (.op (O.ld nag33 Z R (.B R) R R) R (.mv R (.bi R (bS hm fun x32 ex32 hm=> .op (O.ix sl33 Z R R ex32 R) R (.op (O.lg (l':=[lI x32.1,lI x32.2.1,lI x32.2.2]) ag124 Z R (.E lv124) R R R) R (.op (O.al 2 R zz124 R Z R) R (.op (O.st ag124.sz Z R R R R R) R (.nil (.seqN (.seq (.reg (.op (O.faP y1W Z R R) R (.op (O.ld nag3 Z R (.B R) R R) R (.op (O.faP y1W Z R R) R (.op (O.ld nag3 Z R (.B R) R R) R (.bi R (.mv R ?_)))))))))))))))))))))
         refine .cut 13 (fun (v33:Bool)=>((decide (x24.1 < x32.1)) || ((x24.1 == x32.1) && (decide (x24.2.1≤x32.2.1))))=v33) (fun v33=>⟨[(70,.b v33),(9,.i st17),(8,.i (p0.2.2.2.length:Int)),(7,.f qT p0.2.2.2),(1,.q 0 0)],[(0,.bx 35 [lF qI p0.1,lI p0.2.1,lF qI p0.2.2.1,lF qT p0.2.2.2])],3⟩) ?_ ?_
         ·rintro _ rfl
          refine .nil (.seqN ?_)
          rcases ifS hm with ⟨hc,hm⟩ | ⟨hc,hm⟩
          ·refine .cT R hc ?_
           exact .seq (.reg (.sa R (.nil (.seqN (.ret (.blkR (.seqR (.seqR ((K22 _ (ho17 _ (oi hm).symm)).sub [] R)))))))))
          ·refine .cF R hc ?_
           exact .skip (.blkN ((Jj23 hm).sub [] R))
         ·intro J34
          rcases Bool.eq_false_or_eq_true (decide (x24.1 < x32.1)) with hc | hc
          ·refine .know (d:=57) R hc ?_
           exact .sk R (.sk R (.sk R (.sk R (.sk R (.sk R (.op (O.skipU R R R) R (.op (O.skipU R R R) R (.op (O.skipU R R R) R (.op (O.skipU R R R) R (.op (O.skipU R R R) R (.sk R (.op (O.pkT Z R R R R) R ((J34 true (orT hc).symm).sub [] R)))))))))))))
          ·refine .know (d:=57) R hc ?_
           refine .op (O.faP y1W (Gu.mk R R) R R) R (.op (O.ld nag3 (Gu.mk R R) R (.B R) R R) R (.op (O.faP y1W (Gu.mk R R) R R) R (.op (O.ld nag3 (Gu.mk R R) R (.B R) R R) R (.op (O.bi (Gu.mk R R) R R R R) R (.op (O.mv (Gu.mk R R) R R) R ?_)))))
           refine .cut 6 (fun (v35:Bool)=>((x24.1 == x32.1) && (decide (x24.2.1≤x32.2.1)))=v35) (fun v35=>⟨[(69,.b v35),(57,.b false),(9,.i st17),(8,.i (p0.2.2.2.length:Int)),(7,.f qT p0.2.2.2),(1,.q 0 0)],[(0,.bx 35 [lF qI p0.1,lI p0.2.1,lF qI p0.2.2.1,lF qT p0.2.2.2])],3⟩) ?_ ?_
           ·rintro _ rfl
            exact .op (O.pkF Z R R R R) R ((J34 ((x24.1 == x32.1) && (decide (x24.2.1≤x32.2.1))) (orF hc).symm).sub [] R)
           ·intro J36
            rcases Bool.eq_false_or_eq_true (x24.1 == x32.1) with hc | hc
            ·refine .know (d:=63) R hc ?_
             exact .op (O.faP y4L (Gu.mk R R) R R) R (.op (O.ld nag3 (Gu.mk R R) R (.B R) R R) R (.op (O.faP y4L (Gu.mk R R) R R) R (.op (O.ld nag3 (Gu.mk R R) R (.B R) R R) R (.op (O.bi (Gu.mk R R) R R R R) R (.op (O.pkT (Gu.mk R R) R R R R) R ((J36 (decide (x24.2.1≤x32.2.1)) (andT hc).symm).sub [] R))))))
            ·refine .know (d:=63) R hc ?_
             exact .sk R (.sk R (.sk R (.sk R (.sk R (.op (O.pkF (Gu.mk R R) R R R R) R ((J36 false (andF hc).symm).sub [] R))))))
     ·intro J30
      rcases Bool.eq_false_or_eq_true (((decide (x24.1 < 0)) || (decide (x24.1≥p0.2.1))) || (decide (x24.2.2 < 0))) with hc | hc
      ·refine .know (d:=30) R hc ?_
       exact .sk R (.sk R (.sk R (.sk R (.sk R (.op (O.pkT Z R R R R) R ((J30 true (orT hc).symm).sub [] R))))))
      ·refine .know (d:=30) R hc ?_
       exact .op (O.faP y2W (Gu.mk R R) R R) R (.op (O.ld nag3 (Gu.mk R R) R (.B R) R R) R (.op (O.faP y1g (Gu.mk R R) R R) R (.op (O.ld nag3 (Gu.mk R R) R (.B R) R R) R (.op (O.bi (Gu.mk R R) R R R R) R (.op (O.pkF Z R R R R) R ((J30 (decide (x24.2.2≥p0.2.1)) (orF hc).symm).sub [] R))))))
    ·intro J28
     rcases Bool.eq_false_or_eq_true ((decide (x24.1 < 0)) || (decide (x24.1≥p0.2.1))) with hc | hc
     ·refine .know (d:=25) R hc ?_
      exact .sk R (.sk R (.sk R (.op (O.pkT Z R R R R) R ((J28 true (orT hc).symm).sub [] R))))
     ·refine .know (d:=25) R hc ?_
      exact .op (O.faP y2W (Gu.mk R R) R R) R (.op (O.ld nag3 (Gu.mk R R) R (.B R) R R) R (.op (O.bi (Gu.mk R R) R R R R) R (.op (O.pkF Z R R R R) R ((J28 (decide (x24.2.2 < 0)) (orF hc).symm).sub [] R))))
   ·intro J26
    rcases Bool.eq_false_or_eq_true (decide (x24.1 < 0)) with hc | hc
    ·refine .know (d:=18) R hc ?_
     exact .sk R (.sk R (.sk R (.sk R (.sk R (.op (O.pkT Z R R R R) R ((J26 true (orT hc).symm).sub [] R))))))
    ·refine .know (d:=18) R hc ?_
     exact .op (O.faP y1W (Gu.mk R R) R R) R (.op (O.ld nag3 (Gu.mk R R) R (.B R) R R) R (.op (O.faP y1g (Gu.mk R R) R R) R (.op (O.ld nag3 (Gu.mk R R) R (.B R) R R) R (.op (O.bi (Gu.mk R R) R R R R) R (.op (O.pkF Z R R R R) R ((J26 (decide (x24.1≥p0.2.1)) (orF hc).symm).sub [] R))))))
 ·refine .cF R hc ?_
  exact .exit (.seqX (.seqX ((K20 _ (ho17 _ (oi hm).symm)).sub [] R)))
def yF (p0:AutT):Option Int:=
 (y1y p0.1 32).bind fun r1=>
 if(r1 != 0) then
  some r1
 else
  if decide (p0.2.1 < 0) then
   some 2
  else
   if decide (p0.2.1 > 4096) then
    some 3
   else
    (y1y p0.2.2.1 p0.2.1).bind fun r2=>
    if(r2 != 0) then
     some r2
    else
     (y3M p0).bind fun r3=>
     some r3
theorem y2O {p0:AutT} {r:Int} (hm:yF p0=some r):
  Fw Tryz.prog 101 ⟨0,[]⟩ [.a [lF qI p0.1,lI p0.2.1,lF qI p0.2.2.1,lF qT p0.2.2.2]] [] (.i r) []:=by
 unfold yF at hm
 refine Fw.mk' Tryz.func101 R Tryz.ntmps101 R R (fun C=>?_) R R
 refine .seq (.reg (.op (O.box 0 R Z R R R) R (.sa R (.nil (.seqN (.seq (.seq (.reg (.op (O.faP y1R Z R R) R (.op (O.ld nag32 Z R (.B R) R R) R (bS hm fun r1 er1 hm=> .op (O.ca0 (y6m er1) cf164 R R Z R R R) R (.sa R (.nil (.seqN (.seq (.reg (.mv R (.bi R (.nil (.seqN ?_))))))))))))))))))))
 rcases ifS hm with ⟨hc,hm⟩ | ⟨hc,hm⟩
 ·refine .cT R hc ?_
  refine .seq (.reg (.mv R (.sa R (.nil (.seqN (.ret (.seqR ?_)))))))
  obtain rfl:=oi hm
  exact WX.rt [] (.inl R) Tryz.results101 (.tmp R .nil) R (fun _ _ _ h=>h) trivial
 ·refine .cF R hc ?_
  refine .skip (.seqN (.seq (.block (.seq (.reg (.op (O.faP y1g Z R R) R (.op (O.ld nag3 Z R (.B R) R R) R (.bi R (.sa R (.nil (.seqN ?_)))))))))))
  rcases ifS hm with ⟨hc,hm⟩ | ⟨hc,hm⟩
  ·refine .cT R hc ?_
   refine .seq (.reg (.sa R (.nil (.seqN (.ret (.blkR (.seqR ?_)))))))
   obtain rfl:=oi hm
   exact WX.rt [] (.inl R) Tryz.results101 (.tmp R .nil) R (fun _ _ _ h=>h) trivial
  ·refine .cF R hc ?_
   refine .seq (.reg (.op (O.faP y1g Z R R) R (.op (O.ld nag3 Z R (.B R) R R) R (.bi R (.sa R (.nil (.seqN ?_)))))))
   rcases ifS hm with ⟨hc,hm⟩ | ⟨hc,hm⟩
   ·refine .cT R hc ?_
    refine .seq (.reg (.sa R (.nil (.seqN (.ret (.blkR (.seqR ?_)))))))
    obtain rfl:=oi hm
    exact WX.rt [] (.inl R) Tryz.results101 (.tmp R .nil) R (fun _ _ _ h=>h) trivial
   ·refine .cF R hc ?_
    refine .skip (.blkN (.seqN (.seq (.seq (.reg (.op (O.faP y3y Z R R) R (.op (O.ld nag32 Z R (.B R) R R) R (.op (O.faP y1g Z R R) R (.op (O.ld nag3 Z R (.B R) R R) R (bS hm fun r2 er2 hm=> .op (O.ca0 (y6m er2) cf164 R R Z R R R) R (.sa R (.nil (.seqN (.seq (.reg (.mv R (.bi R (.nil (.seqN ?_)))))))))))))))))))
    rcases ifS hm with ⟨hc,hm⟩ | ⟨hc,hm⟩
    ·refine .cT R hc ?_
     refine .seq (.reg (.mv R (.sa R (.nil (.seqN (.ret (.seqR ?_)))))))
     obtain rfl:=oi hm
     exact WX.rt [] (.inl R) Tryz.results101 (.tmp R .nil) R (fun _ _ _ h=>h) trivial
    ·refine .cF R hc ?_
     refine .skip (.seqN (.seq (.reg (.op (O.lg (l':=[lF qI p0.1,lI p0.2.1,lF qI p0.2.2.1,lF qT p0.2.2.2]) ag35 Z R (.B R) R R R) R (bS hm fun r3 er3 hm=> .op (O.ca0 (y7N er3) cf165 R R Z R R R) R (.sa R (.nil (.seqN (.ret ?_)))))))))
     obtain rfl:=oi hm
     exact WX.rt [] (.inl R) Tryz.results101 (.tmp R .nil) R (fun _ _ _ h=>h) trivial
def yR (p2:Bool→Bool→Option Bool) (st37:List Int×List Int×List Int) (b42:Bool) (b44:Bool) (l46:List Int) (l49:List Int) (n50:Int):Option ((List Int×List Int×List Int) ⊕ (List Int)):=
 (p2 b42 b44).bind fun r52=>
 if r52 then
  (app st37.1 ([n50]:List Int)).bind fun x53=>
  some (.inl (x53,l46,l49))
 else
  some (.inl (st37.1,l46,l49))
def yq (p2:Bool→Bool→Option Bool) (st37:List Int×List Int×List Int) (b42:Bool) (b44:Bool) (l46:List Int) (n47:Int):Option ((List Int×List Int×List Int) ⊕ (List Int)):=
 if b44 then
  (idx st37.2.2 0).bind fun x54=>
  (slc st37.2.2 1 (st37.2.2.length:Int)).bind fun x55=>
  yR p2 st37 b42 b44 l46 x55 x54
 else
  yR p2 st37 b42 b44 l46 st37.2.2 n47
def yx (p2:Bool→Bool→Option Bool) (st37:List Int×List Int×List Int) (b42:Bool) (b44:Bool):Option ((List Int×List Int×List Int) ⊕ (List Int)):=
 if b42 then
  (idx st37.2.1 0).bind fun x56=>
  (slc st37.2.1 1 (st37.2.1.length:Int)).bind fun x57=>
  yq p2 st37 b42 b44 x57 x56
 else
  yq p2 st37 b42 b44 st37.2.1 0
def yS (p2:Bool→Bool→Option Bool) (st37:List Int×List Int×List Int) (b42:Bool):Option ((List Int×List Int×List Int) ⊕ (List Int)):=
 if decide ((st37.2.2.length:Int) > 0) then
  if((st37.2.1.length:Int) == 0) then
   yx p2 st37 b42 true
  else
   (idx st37.2.2 0).bind fun x62=>
   (idx st37.2.1 0).bind fun x63=>
   yx p2 st37 b42 (decide (x62≤x63))
 else
  yx p2 st37 b42 false
def yr (p2:Bool→Bool→Option Bool) (st37:List Int×List Int×List Int):Option ((List Int×List Int×List Int) ⊕ (List Int)):=
 if((decide ((st37.2.1.length:Int) > 0)) || (decide ((st37.2.2.length:Int) > 0))) then
  if decide ((st37.2.1.length:Int) > 0) then
   if((st37.2.2.length:Int) == 0) then
    yS p2 st37 true
   else
    (idx st37.2.1 0).bind fun x68=>
    (idx st37.2.2 0).bind fun x69=>
    yS p2 st37 (decide (x68≤x69))
  else
   yS p2 st37 false
 else
  some (.inr st37.1)
def y3j (p0:List Int) (p1:List Int) (p2:Bool→Bool→Option Bool):Option (List Int):=
 (iter (yr p2) (([]:List Int),p0,p1)).bind fun o37=>
 some o37
theorem y5V {p0:List Int} {p1:List Int} {p2:Bool→Bool→Option Bool} {r:List Int} (hm:y3j p0 p1 p2=some r):
  Fw Tryz.prog 75 ⟨0,[]⟩ [.f qI p0,.f qI p1,.o (lW Tryz.prog (fun (x:Bool×Bool)=> [.b x.1,.b x.2]) (fun (r:Bool)=> .b r) (fun x=>p2 x.1 x.2))] [] (.h 0) [ROW qI 3 r]:=by
 unfold y3j at hm
 refine Fw.mk' Tryz.func75 R Tryz.ntmps75 R R (fun C=>?_) R R
 refine .seq (.reg (.sa R (.nil (.seqN (.seq (.reg (.sa R (.nil (.seqN (.seq (.block (bS hm fun o37 eo37 hm=>?_))))))))))))
 refine .cut1 (z:= .exit 0) o37 (fun (o37:List Int)=>⟨[(7,.h 0)],[(0,ROW qI 3 o37)],1⟩) ?_ fun K39=>?_
 ·skip
  refine .blkE (.seqN (.seq (.reg (.mv R (.sa R (.nil (.seqN (.ret ?_))))))))
  obtain rfl:=oi hm
  exact WX.rt [0] (.inl R) Tryz.results75 (.tmp R .nil) R (fun _ _ _ h=>h) ⟨⟨_,R,fun _ _ _ _ h=>h⟩,trivial⟩
 refine .nlg qI 3 7 0 R R (.iter (fun (st37:List Int×List Int×List Int)=>⟨[(7,.h 0),(0,.f qI st37.2.1),(1,.f qI st37.2.2),(2,.o (lW Tryz.prog (fun (x:Bool×Bool)=> [.b x.1,.b x.2]) (fun (r:Bool)=> .b r) (fun x=>p2 x.1 x.2)))],[(0,ROW qI 3 st37.1)],1⟩) eo37 [] R ?_)
 intro st37 res37 hm ih37 ho37
 unfold yr at hm
 refine .seq (.seq (.reg (.mv R (.op (O.len sl32 Z R R) R (.bi R (.mv R ?_))))))
 refine .cut 4 (fun (v40:Bool)=>((decide ((st37.2.1.length:Int) > 0)) || (decide ((st37.2.2.length:Int) > 0)))=v40) (fun v40=>⟨[(18,.b v40),(7,.h 0),(0,.f qI st37.2.1),(1,.f qI st37.2.2),(2,.o (lW Tryz.prog (fun (x:Bool×Bool)=> [.b x.1,.b x.2]) (fun (r:Bool)=> .b r) (fun x=>p2 x.1 x.2)))],[(0,ROW qI 3 st37.1)],1⟩) ?_ ?_
 ·rintro _ rfl
  refine .nil (.seqN ?_)
  rcases ifS hm with ⟨hc,hm⟩ | ⟨hc,hm⟩
  ·refine .cT R hc ?_
   refine .skip (.seqN (.block ?_))
   refine .join1 (fun (b42:Bool)=>yS p2 st37 b42=some res37) (fun b42=>⟨[(8,.b b42),(7,.h 0),(0,.f qI st37.2.1),(1,.f qI st37.2.2),(2,.o (lW Tryz.prog (fun (x:Bool×Bool)=> [.b x.1,.b x.2]) (fun (r:Bool)=> .b r) (fun x=>p2 x.1 x.2)))],[(0,ROW qI 3 st37.1)],1⟩) ?_ ?_
   ·intro b42 hm
    unfold yS at hm
    refine .join1 (fun (b44:Bool)=>yx p2 st37 b42 b44=some res37) (fun b44=>⟨[(9,.b b44),(8,.b b42),(7,.h 0),(0,.f qI st37.2.1),(1,.f qI st37.2.2),(2,.o (lW Tryz.prog (fun (x:Bool×Bool)=> [.b x.1,.b x.2]) (fun (r:Bool)=> .b r) (fun x=>p2 x.1 x.2)))],[(0,ROW qI 3 st37.1)],1⟩) ?_ ?_
    ·intro b44 hm
     unfold yx at hm
     refine .seq (.reg (.sa R (.nil (.seqN ?_))))
     refine .join2 (fun (l46:List Int) (n47:Int)=>yq p2 st37 b42 b44 l46 n47=some res37) (fun l46 n47=>⟨[(0,.f qI l46),(10,.i n47),(9,.b b44),(8,.b b42),(7,.h 0),(1,.f qI st37.2.2),(2,.o (lW Tryz.prog (fun (x:Bool×Bool)=> [.b x.1,.b x.2]) (fun (r:Bool)=> .b r) (fun x=>p2 x.1 x.2)))],[(0,ROW qI 3 st37.1)],1⟩) ?_ ?_
     ·intro l46 n47 hm
      unfold yq at hm
      refine .join2 (fun (l49:List Int) (n50:Int)=>yR p2 st37 b42 b44 l46 l49 n50=some res37) (fun l49 n50=>⟨[(1,.f qI l49),(10,.i n50),(0,.f qI l46),(9,.b b44),(8,.b b42),(7,.h 0),(2,.o (lW Tryz.prog (fun (x:Bool×Bool)=> [.b x.1,.b x.2]) (fun (r:Bool)=> .b r) (fun x=>p2 x.1 x.2)))],[(0,ROW qI 3 st37.1)],1⟩) ?_ ?_
      ·intro l49 n50 hm
       unfold yR at hm
       refine .seq (.reg (.mv R (.mv R (.mv R (bS hm fun r52 er52 hm=>?_)))))
       refine .op (O.fv (y:=(b42,b44)) R R R Z R er52 R R) R ?_
       refine .nil (.seqN ?_)
       rcases ifS hm with ⟨hc,hm⟩ | ⟨hc,hm⟩
       ·refine .cT R hc ?_
        exact .reg (.mv R (.mv R (.op (O.bsF (r:=qI) (zs:=([n50]:List Int)) bs32 R R Z R R R (.c .k .n) R R R) R (bS hm fun x53 ex53 hm=> .op (O.ap 1 Tryz.underlying32 el3 R R Z R R (.fr R) ex53 R) R (.sa R (.nil (.blkN ((ih37 _ (oi hm).symm).sub [(0,1)] R))))))))
       ·refine .cF R hc ?_
        exact .skip (.blkN ((ih37 _ (oi hm).symm).sub [] R))
      ·intro Jj51
       refine .seq (.reg (.mv R (.nil (.seqN ?_))))
       rcases ifS hm with ⟨hc,hm⟩ | ⟨hc,hm⟩
       ·refine .cT R hc ?_
        refine .sub (τ:=⟨[(0,.f qI l46),(9,.b b44),(8,.b b42),(7,.h 0),(1,.f qI st37.2.2),(2,.o (lW Tryz.prog (fun (x:Bool×Bool)=> [.b x.1,.b x.2]) (fun (r:Bool)=> .b r) (fun x=>p2 x.1 x.2)))],[(0,ROW qI 3 st37.1)],1⟩) ?_ [] R
        refine bS hm fun x54 ex54 hm=>bS hm fun x55 ex55 hm=>?_
        refine .drg 1 [(1,[]),(1,[oT]),(1,[oT,oT]),(1,[]),(1,[oF,oF,oF,oT]),(1,tT 3),(1,tT 6)] [_,_,_,_,_,_,_] ⟨[(1,.f qI x55),(10,.i x54),(0,.f qI l46),(9,.b b44),(8,.b b42),(7,.h 0),(2,.o (lW Tryz.prog (fun (x:Bool×Bool)=> [.b x.1,.b x.2]) (fun (r:Bool)=> .b r) (fun x=>p2 x.1 x.2)))],[(0,ROW qI 3 st37.1)],1⟩ ⟨O.mv Z R R,O.ix sl32 Z R R ex54 R,O.ld nag3 Z R (.E lv3) R R,O.mv Z R R,O.sf sl32 Z R R ex55 R,O.as Z R R,O.as Z R R,trivial⟩ (by kernel_rfl) R ?_
        exact(Jj51 _ _ hm).sub [] R
       ·refine .cF R hc ?_
        exact .skip ((Jj51 _ _ hm).sub [] R)
     ·intro Jj48
      refine .seq (.reg (.mv R (.nil (.seqN ?_))))
      rcases ifS hm with ⟨hc,hm⟩ | ⟨hc,hm⟩
      ·refine .cT R hc ?_
       refine .sub (τ:=⟨[(9,.b b44),(8,.b b42),(7,.h 0),(0,.f qI st37.2.1),(1,.f qI st37.2.2),(2,.o (lW Tryz.prog (fun (x:Bool×Bool)=> [.b x.1,.b x.2]) (fun (r:Bool)=> .b r) (fun x=>p2 x.1 x.2)))],[(0,ROW qI 3 st37.1)],1⟩) ?_ [] R
       refine bS hm fun x56 ex56 hm=>bS hm fun x57 ex57 hm=>?_
       refine .drg 1 [(1,[]),(1,[oT]),(1,[oT,oT]),(1,[]),(1,[oF,oF,oF,oT]),(1,tT 3),(1,tT 6)] [_,_,_,_,_,_,_] ⟨[(0,.f qI x57),(10,.i x56),(9,.b b44),(8,.b b42),(7,.h 0),(1,.f qI st37.2.2),(2,.o (lW Tryz.prog (fun (x:Bool×Bool)=> [.b x.1,.b x.2]) (fun (r:Bool)=> .b r) (fun x=>p2 x.1 x.2)))],[(0,ROW qI 3 st37.1)],1⟩ ⟨O.mv Z R R,O.ix sl32 Z R R ex56 R,O.ld nag3 Z R (.E lv3) R R,O.mv Z R R,O.sf sl32 Z R R ex57 R,O.as Z R R,O.as Z R R,trivial⟩ (by kernel_rfl) R ?_
       exact(Jj48 _ _ hm).sub [] R
      ·refine .cF R hc ?_
       exact .skip ((Jj48 _ _ hm).sub [] R)
    ·intro Jj45
     refine .sub (τ:=⟨[(8,.b b42),(7,.h 0),(0,.f qI st37.2.1),(1,.f qI st37.2.2),(2,.o (lW Tryz.prog (fun (x:Bool×Bool)=> [.b x.1,.b x.2]) (fun (r:Bool)=> .b r) (fun x=>p2 x.1 x.2)))],[(0,ROW qI 3 st37.1)],1⟩) ?_ [] R
     refine .drP 3 [(1,[]),(1,[oT]),(1,[oT,oT])] [_,_,_] ⟨O.mv Z R R,O.len sl32 Z R R,O.bi Z R R R R,trivial⟩ fun hp58=>?_
     rcases ifS hm with ⟨hc59,hm⟩ | ⟨hc59,hm⟩
     ·skip
      refine .drX hp58 7 [(1,tT 3),(1,tT 4),(1,tT 5),(1,tT 6)] [_,_,_,_] ⟨O.kn (O.mv Z R R) hc59,O.mv (Gu.mk R R) R R,O.len sl32 (Gu.mk R R) R R,O.bi (Gu.mk R R) R R R R,trivial⟩ (by kernel_rfl) fun hp60=>?_
      rcases ifS hm with ⟨hc61,hm⟩ | ⟨hc61,hm⟩
      ·skip
       exact .drF hp60 [(1,tT 7),(1,tT 8),(1,tT 9),(1,tT 10),(1,tT 8),(1,tA 8 (fA 3 (tT 1))),(1,tA 8 (fA 3 (tT 2))),(1,tT 14),(1,tT 15),(1,tT 16),(1,tT 17)] [_,_,_,_,_,_,_,_,_,_,_] ⟨[(9,.b true),(8,.b b42),(7,.h 0),(0,.f qI st37.2.1),(1,.f qI st37.2.2),(2,.o (lW Tryz.prog (fun (x:Bool×Bool)=> [.b x.1,.b x.2]) (fun (r:Bool)=> .b r) (fun x=>p2 x.1 x.2)))],[(0,ROW qI 3 st37.1)],1⟩ ⟨O.kn (O.mv (Gu.mk R R) R R) hc61,O.skip R R R R,O.skip R R R R,O.skip R R R R,O.skip R R R R,O.skip R R R R,O.skip R R R R,O.skip R R R R,O.pkT (Gu.mk R R) R R R R,O.pkT Z R R R R,O.as Z R R,trivial⟩ (by kernel_rfl) R ((Jj45 _ hm).sub [] R)
      ·skip
       exact bS hm fun x62 ex62 hm=>bS hm fun x63 ex63 hm=> .drF hp60 [(1,tT 7),(1,tT 8),(1,tT 9),(1,tT 10),(1,tT 8),(1,tA 8 (fA 3 (tT 1))),(1,tA 8 (fA 3 (tT 2))),(1,tT 14),(1,tT 15),(1,tT 16),(1,tT 17)] [_,_,_,_,_,_,_,_,_,_,_] ⟨[(9,.b (decide (x62≤x63))),(8,.b b42),(7,.h 0),(0,.f qI st37.2.1),(1,.f qI st37.2.2),(2,.o (lW Tryz.prog (fun (x:Bool×Bool)=> [.b x.1,.b x.2]) (fun (r:Bool)=> .b r) (fun x=>p2 x.1 x.2)))],[(0,ROW qI 3 st37.1)],1⟩ ⟨O.kn (O.mv (Gu.mk R R) R R) hc61,O.mv (Gu.mk R R) R R,O.ix sl32 (Gu.mk R R) R R ex62 R,O.ld nag3 (Gu.mk R R) R (.E lv3) R R,O.mv (Gu.mk R R) R R,O.ix sl32 (Gu.mk R R) R R ex63 R,O.ld nag3 (Gu.mk R R) R (.E lv3) R R,O.bi (Gu.mk R R) R R R R,O.pkF (Gu.mk R R) R R R R,O.pkT Z R R R R,O.as Z R R,trivial⟩ (by kernel_rfl) R ((Jj45 _ hm).sub [] R)
     ·skip
      exact .drF hp58 [(1,tT 3),(1,tT 4),(1,tT 5),(1,tT 6),(1,tT 7),(1,tT 8),(1,tT 9),(1,tT 10),(1,tT 8),(1,tA 8 (fA 3 (tT 1))),(1,tA 8 (fA 3 (tT 2))),(1,tT 14),(1,tT 15),(1,tT 16),(1,tT 17)] [_,_,_,_,_,_,_,_,_,_,_,_,_,_,_] ⟨[(9,.b false),(8,.b b42),(7,.h 0),(0,.f qI st37.2.1),(1,.f qI st37.2.2),(2,.o (lW Tryz.prog (fun (x:Bool×Bool)=> [.b x.1,.b x.2]) (fun (r:Bool)=> .b r) (fun x=>p2 x.1 x.2)))],[(0,ROW qI 3 st37.1)],1⟩ ⟨O.kn (O.mv Z R R) hc59,O.skip R R R R,O.skip R R R R,O.skip R R R R,O.skip R R R R,O.skipU R R R,O.skipU R R R,O.skipU R R R,O.skipU R R R,O.skipU R R R,O.skipU R R R,O.skipU R R R,O.skip R R R R,O.pkF Z R R R R,O.as Z R R,trivial⟩ (by kernel_rfl) R ((Jj45 _ hm).sub [] R)
   ·intro Jj43
    refine .sub (τ:=⟨[(7,.h 0),(0,.f qI st37.2.1),(1,.f qI st37.2.2),(2,.o (lW Tryz.prog (fun (x:Bool×Bool)=> [.b x.1,.b x.2]) (fun (r:Bool)=> .b r) (fun x=>p2 x.1 x.2)))],[(0,ROW qI 3 st37.1)],1⟩) ?_ [] R
    refine .drP 3 [(1,[]),(1,[oT]),(1,[oT,oT])] [_,_,_] ⟨O.mv Z R R,O.len sl32 Z R R,O.bi Z R R R R,trivial⟩ fun hp64=>?_
    rcases ifS hm with ⟨hc65,hm⟩ | ⟨hc65,hm⟩
    ·skip
     refine .drX hp64 7 [(1,tT 3),(1,tT 4),(1,tT 5),(1,tT 6)] [_,_,_,_] ⟨O.kn (O.mv Z R R) hc65,O.mv (Gu.mk R R) R R,O.len sl32 (Gu.mk R R) R R,O.bi (Gu.mk R R) R R R R,trivial⟩ (by kernel_rfl) fun hp66=>?_
     rcases ifS hm with ⟨hc67,hm⟩ | ⟨hc67,hm⟩
     ·skip
      exact .drF hp66 [(1,tT 7),(1,tT 8),(1,tT 9),(1,tT 10),(1,tT 8),(1,tA 8 (fA 3 (tT 1))),(1,tA 8 (fA 3 (tT 2))),(1,tT 14),(1,tT 15),(1,tT 16),(1,tT 17)] [_,_,_,_,_,_,_,_,_,_,_] ⟨[(8,.b true),(7,.h 0),(0,.f qI st37.2.1),(1,.f qI st37.2.2),(2,.o (lW Tryz.prog (fun (x:Bool×Bool)=> [.b x.1,.b x.2]) (fun (r:Bool)=> .b r) (fun x=>p2 x.1 x.2)))],[(0,ROW qI 3 st37.1)],1⟩ ⟨O.kn (O.mv (Gu.mk R R) R R) hc67,O.skip R R R R,O.skip R R R R,O.skip R R R R,O.skip R R R R,O.skip R R R R,O.skip R R R R,O.skip R R R R,O.pkT (Gu.mk R R) R R R R,O.pkT Z R R R R,O.as Z R R,trivial⟩ (by kernel_rfl) R ((Jj43 _ hm).sub [] R)
     ·skip
      exact bS hm fun x68 ex68 hm=>bS hm fun x69 ex69 hm=> .drF hp66 [(1,tT 7),(1,tT 8),(1,tT 9),(1,tT 10),(1,tT 8),(1,tA 8 (fA 3 (tT 1))),(1,tA 8 (fA 3 (tT 2))),(1,tT 14),(1,tT 15),(1,tT 16),(1,tT 17)] [_,_,_,_,_,_,_,_,_,_,_] ⟨[(8,.b (decide (x68≤x69))),(7,.h 0),(0,.f qI st37.2.1),(1,.f qI st37.2.2),(2,.o (lW Tryz.prog (fun (x:Bool×Bool)=> [.b x.1,.b x.2]) (fun (r:Bool)=> .b r) (fun x=>p2 x.1 x.2)))],[(0,ROW qI 3 st37.1)],1⟩ ⟨O.kn (O.mv (Gu.mk R R) R R) hc67,O.mv (Gu.mk R R) R R,O.ix sl32 (Gu.mk R R) R R ex68 R,O.ld nag3 (Gu.mk R R) R (.E lv3) R R,O.mv (Gu.mk R R) R R,O.ix sl32 (Gu.mk R R) R R ex69 R,O.ld nag3 (Gu.mk R R) R (.E lv3) R R,O.bi (Gu.mk R R) R R R R,O.pkF (Gu.mk R R) R R R R,O.pkT Z R R R R,O.as Z R R,trivial⟩ (by kernel_rfl) R ((Jj43 _ hm).sub [] R)
    ·skip
     exact .drF hp64 [(1,tT 3),(1,tT 4),(1,tT 5),(1,tT 6),(1,tT 7),(1,tT 8),(1,tT 9),(1,tT 10),(1,tT 8),(1,tA 8 (fA 3 (tT 1))),(1,tA 8 (fA 3 (tT 2))),(1,tT 14),(1,tT 15),(1,tT 16),(1,tT 17)] [_,_,_,_,_,_,_,_,_,_,_,_,_,_,_] ⟨[(8,.b false),(7,.h 0),(0,.f qI st37.2.1),(1,.f qI st37.2.2),(2,.o (lW Tryz.prog (fun (x:Bool×Bool)=> [.b x.1,.b x.2]) (fun (r:Bool)=> .b r) (fun x=>p2 x.1 x.2)))],[(0,ROW qI 3 st37.1)],1⟩ ⟨O.kn (O.mv Z R R) hc65,O.skip R R R R,O.skip R R R R,O.skip R R R R,O.skip R R R R,O.skipU R R R,O.skipU R R R,O.skipU R R R,O.skipU R R R,O.skipU R R R,O.skipU R R R,O.skipU R R R,O.skip R R R R,O.pkF Z R R R R,O.as Z R R,trivial⟩ (by kernel_rfl) R ((Jj43 _ hm).sub [] R)
  ·refine .cF R hc ?_
   exact .exit (.seqX (.seqX ((K39 _ (ho37 _ (oi hm).symm)).sub [] R)))
 ·intro J41
  rcases Bool.eq_false_or_eq_true (decide ((st37.2.1.length:Int) > 0)) with hc | hc
  ·refine .know (d:=14) R hc ?_
   exact .sk R (.sk R (.sk R (.op (O.pkT Z R R R R) R ((J41 true (orT hc).symm).sub [] R))))
  ·refine .know (d:=14) R hc ?_
   exact .op (O.mv (Gu.mk R R) R R) R (.op (O.len sl32 (Gu.mk R R) R R) R (.op (O.bi (Gu.mk R R) R R R R) R (.op (O.pkF Z R R R R) R ((J41 (decide ((st37.2.2.length:Int) > 0)) (orF hc).symm).sub [] R))))
def y5x (p0:Bool) (p1:Bool):Option Bool:=
 some (p0 && (!p1))
theorem y8Y {p0:Bool} {p1:Bool} {r:Bool} (hm:y5x p0 p1=some r):
  Fw Tryz.prog 76 ⟨0,[]⟩ [.b p0,.b p1] [] (.b r) []:=by
 unfold y5x at hm
 refine Fw.mk' Tryz.func76 R Tryz.ntmps76 R R (fun C=>?_) R R
 refine .seq (.reg (.sa R (.nil (.seqN (.seq (.reg (.mv R (.mv R ?_))))))))
 refine .cut 3 (fun (v1:Bool)=>(p0 && (!p1))=v1) (fun v1=>⟨[(9,.b v1)],[],0⟩) ?_ ?_
 ·rintro _ rfl
  refine .sa R (.nil (.seqN (.ret ?_)))
  obtain rfl:=oi hm
  exact WX.rt [] (.inl R) Tryz.results76 (.tmp R .nil) R (fun _ _ _ h=>h) trivial
 ·intro J2
  rcases Bool.eq_false_or_eq_true p0 with hc | hc
  ·refine .know (d:=6) R hc ?_
   exact .op (O.mv (Gu.mk R R) R R) R (.op (O.not (Gu.mk R R) R R) R (.op (O.pkT Z R R R R) R ((J2 (!p1) (andT hc).symm).sub [] R)))
  ·refine .know (d:=6) R hc ?_
   exact .sk R (.sk R (.op (O.pkF Z R R R R) R ((J2 false (andF hc).symm).sub [] R)))
def y3U (p0:List Int) (p1:List Int):Option (List Int):=
 (y3j p0 p1 y5x).bind fun r1=>
 some r1
theorem y5W {p0:List Int} {p1:List Int} {r:List Int} (hm:y3U p0 p1=some r):
  Fw Tryz.prog 17 ⟨0,[]⟩ [.f qI p0,.f qI p1] [] (.h 0) [ROW qI 3 r]:=by
 unfold y3U at hm
 refine Fw.mk' Tryz.func17 R Tryz.ntmps17 R R (fun C=>?_) R R
 refine .seq (.reg (.sa R (.nil (.seqN (.seq (.reg (.mv R (.mv R (bS hm fun r1 er1 hm=> .op (O.cac (r':= .h 0) [0] [(0,ROW qI 3 r1)] (some 1) (y5V er1) cf75 R R Z R R ⟨⟨R,.rf⟩,⟨R,.rf⟩,⟨R,(.c (.fn cf76 (fun x r h=>y8Y h) (fun _=>R)) .n)⟩,trivial⟩ R ⟨⟨_,R,fun _ _ _ _ h=>h⟩,trivial⟩ (fun _ _ _ h=>h) R) R (.sa R (.nil (.seqN (.ret ?_)))))))))))))
 obtain rfl:=oi hm
 exact WX.rt [0] (.inl R) Tryz.results17 (.tmp R .nil) R (fun _ _ _ h=>h) ⟨⟨_,R,fun _ _ _ _ h=>h⟩,trivial⟩
def y5b (p0:List Int) (p1:List Int):Option Bool:=
 (y3U p0 p1).bind fun r1=>
 some ((r1.length:Int) == 0)
theorem y9o {p0:List Int} {p1:List Int} {r:Bool} (hm:y5b p0 p1=some r):
  Fw Tryz.prog 26 ⟨0,[]⟩ [.f qI p0,.f qI p1] [] (.b r) []:=by
 unfold y5b at hm
 refine Fw.mk' Tryz.func26 R Tryz.ntmps26 R R (fun C=>?_) R R
 refine .seq (.reg (.sa R (.nil (.seqN (.seq (.reg (.mv R (.mv R (bS hm fun r1 er1 hm=> .op (O.ca (r':= .h 0) [0] [(0,ROW qI 3 r1)] (some 1) (y5W er1) cf17 R R Z R R R R ⟨⟨_,R,fun _ _ _ _ h=>h⟩,trivial⟩ (fun _ _ _ h=>h) R) R (.op (O.lenH sl32 Z R R R) R (.bi R (.sa R (.nil (.seqN (.ret ?_)))))))))))))))
 obtain rfl:=oi hm
 exact WX.rt [] (.inl R) Tryz.results26 (.tmp R .nil) R (fun _ _ _ h=>h) trivial
def y6n (p0:List Int) (p1:Int) (st10:Int):Option (Int ⊕ (Unit ⊕ Int)):=
 if decide (st10 < (p0.length:Int)) then
  (idx p0 st10).bind fun x16=>
  if((decide (x16 < 0)) || (decide (x16≥p1))) then
   some (.inr (.inr (2)))
  else
   (if decide (st10 > 0) then
    (idx p0 (W (st10 - 1))).bind fun x22=>
    some (decide (x16≤x22))
   else
    some false).bind fun b19=>
   if b19 then
    some (.inr (.inr (5)))
   else
    some (.inl (W (st10 + 1)))
 else
  some (.inr (.inl ()))
def y3I (p0:List Int) (p1:Int):Option Int:=
 (iter (y6n p0 p1) 0).bind fun o10=>
 match o10 with
 | .inl u12=>
  some 0
 | .inr (u14)=>
  some u14
theorem y5C {p0:List Int} {p1:Int} {r:Int} (hm:y3I p0 p1=some r):
  Fw Tryz.prog 25 ⟨0,[]⟩ [.f qI p0,.i p1] [] (.i r) []:=by
 unfold y3I at hm
 refine Fw.mk' Tryz.func25 R Tryz.ntmps25 R R (fun C=>?_) R R
 refine .seq (.reg (.sa R (.nil (.seqN (.seq (.seq (.reg (.mv R (.op (O.len sl32 Z R R) R (.mv R (.nil (.seqN (.block (bS hm fun o10 eo10 hm=>?_))))))))))))))
 refine .cutU (z:= .exit 0) (fun u12=> .inl u12=o10) (fun (u12:Unit)=>⟨[],[],0⟩) ?_ fun K13=>?_
 ·rintro u12 rfl
  dsimp only at hm
  refine .blkE (.seqN (.seq (.reg (.sa R (.nil (.seqN (.ret ?_)))))))
  obtain rfl:=oi hm
  exact WX.rt [] (.inl R) Tryz.results25 (.tmp R .nil) R (fun _ _ _ h=>h) trivial
 refine .cutU (z:= .ret) (fun u14=> .inr (u14)=o10) (fun (u14:Int)=>⟨[(4,.i u14)],[],0⟩) ?_ fun K15=>?_
 ·rintro u14 rfl
  dsimp only at hm
  refine .blkR (.seqR ?_)
  obtain rfl:=oi hm
  exact WX.rt [] (.inl R) Tryz.results25 (.tmp R .nil) R (fun _ _ _ h=>h) trivial
 refine .iter (fun (st10:Int)=>⟨[(9,.i st10),(8,.i (p0.length:Int)),(7,.f qI p0),(0,.f qI p0),(1,.i p1)],[],0⟩) eo10 [] R ?_
 intro st10 res10 hm ih10 ho10
 unfold y6n at hm
 refine .seq (.reg (.bi R (.nil (.seqN (.seq ?_)))))
 rcases ifS hm with ⟨hc,hm⟩ | ⟨hc,hm⟩
 ·refine .cT R hc ?_
  refine .skip (.seqN (.seq (.block (.seq (.reg (.mv R (bS hm fun x16 ex16 hm=> .op (O.ix sl32 Z R R ex16 R) R (.op (O.ld nag3 Z R (.E lv3) R R) R (.sa R (.sa R (.nil (.seqN (.seq (.seq (.reg (.mv R (.bi R (.mv R ?_))))))))))))))))))
  refine .cut 4 (fun (v17:Bool)=>((decide (x16 < 0)) || (decide (x16≥p1)))=v17) (fun v17=>⟨[(20,.b v17),(6,.i x16),(5,.i st10),(9,.i st10),(8,.i (p0.length:Int)),(7,.f qI p0),(0,.f qI p0),(1,.i p1)],[],0⟩) ?_ ?_
  ·rintro _ rfl
   refine .nil (.seqN ?_)
   rcases ifS hm with ⟨hc,hm⟩ | ⟨hc,hm⟩
   ·refine .cT R hc ?_
    exact .seq (.reg (.sa R (.nil (.seqN (.ret (.seqR (.blkR (.seqR (.seqR ((K15 _ (ho10 _ (oi hm).symm)).sub [] R))))))))))
   ·refine .cF R hc ?_
    refine .skip (.seqN (.seq (.reg (.mv R (.bi R (.mv R (bS hm fun b19 eb19 hm=>?_)))))))
    refine .cut 8 (fun (v20:Bool)=>b19=v20) (fun v20=>⟨[(31,.b v20),(9,.i st10),(8,.i (p0.length:Int)),(7,.f qI p0),(0,.f qI p0),(1,.i p1)],[],0⟩) ?_ ?_
    ·rintro _ rfl
     refine .nil (.seqN ?_)
     rcases ifS hm with ⟨hc,hm⟩ | ⟨hc,hm⟩
     ·refine .cT R hc ?_
      exact .seq (.reg (.sa R (.nil (.seqN (.ret (.blkR (.seqR (.seqR ((K15 _ (ho10 _ (oi hm).symm)).sub [] R)))))))))
     ·refine .cF R hc ?_
      exact .skip (.blkN (.seqN (.reg (.bi R (.mv R (.nil ((ih10 _ (oi hm).symm).sub [] R)))))))
    ·intro J21
     rcases ifS eb19 with ⟨hc,hm⟩ | ⟨hc,hm⟩
     ·refine .know (d:=23) R hc ?_
      exact .op (O.mv (Gu.mk R R) R R) R (.op (O.mv (Gu.mk R R) R R) R (.op (O.mv (Gu.mk R R) R R) R (.op (O.bi (Gu.mk R R) R R R R) R (bS hm fun x22 ex22 hm=> .op (O.ix sl32 (Gu.mk R R) R R ex22 R) R (.op (O.ld nag3 (Gu.mk R R) R (.E lv3) R R) R (.op (O.bi (Gu.mk R R) R R R R) R (.op (O.pkT Z R R R R) R ((J21 (decide (x16≤x22)) (oi hm).symm).sub [] R))))))))
     ·refine .know (d:=23) R hc ?_
      exact .sk R (.sk R (.sk R (.sk R (.sk R (.sk R (.sk R (.op (O.pkF Z R R R R) R ((J21 false (oi hm).symm).sub [] R))))))))
  ·intro J18
   rcases Bool.eq_false_or_eq_true (decide (x16 < 0)) with hc | hc
   ·refine .know (d:=16) R hc ?_
    exact .sk R (.sk R (.sk R (.op (O.pkT Z R R R R) R ((J18 true (orT hc).symm).sub [] R))))
   ·refine .know (d:=16) R hc ?_
    exact .op (O.mv (Gu.mk R R) R R) R (.op (O.mv (Gu.mk R R) R R) R (.op (O.bi (Gu.mk R R) R R R R) R (.op (O.pkF Z R R R R) R ((J18 (decide (x16≥p1)) (orF hc).symm).sub [] R))))
 ·refine .cF R hc ?_
  exact .exit (.seqX (.seqX ((K13 _ (ho10 _ (oi hm).symm)).sub [] R)))
def y1z (p0:List AutT) (st5:Int):Option (Int ⊕ (Unit ⊕ Int)):=
 if decide (st5 < (p0.length:Int)) then
  (idx p0 st5).bind fun x11=>
  (yF x11).bind fun r12=>
  if(r12 != 0) then
   some (.inr (.inr (r12)))
  else
   some (.inl (W (st5 + 1)))
 else
  some (.inr (.inl ()))
def y3G (p0:List AutT):Option Int:=
 if decide ((p0.length:Int) > 12) then
  some 3
 else
  (iter (y1z p0) 0).bind fun o5=>
  match o5 with
  | .inl u7=>
   some 0
  | .inr (u9)=>
   some u9
theorem y7v {p0:List AutT} {r:Int} (hm:y3G p0=some r):
  Fw Tryz.prog 95 ⟨0,[]⟩ [.f rE35 p0] [] (.i r) []:=by
 unfold y3G at hm
 refine Fw.mk' Tryz.func95 R Tryz.ntmps95 R R (fun C=>?_) R R
 refine .seq (.reg (.sa R (.nil (.seqN (.seq (.seq (.reg (.mv R (.op (O.len sl66 Z R R) R (.bi R (.nil (.seqN ?_))))))))))))
 rcases ifS hm with ⟨hc,hm⟩ | ⟨hc,hm⟩
 ·refine .cT R hc ?_
  refine .seq (.reg (.sa R (.nil (.seqN (.ret (.seqR ?_))))))
  obtain rfl:=oi hm
  exact WX.rt [] (.inl R) Tryz.results95 (.tmp R .nil) R (fun _ _ _ h=>h) trivial
 ·refine .cF R hc ?_
  refine .skip (.seqN (.seq (.seq (.reg (.mv R (.op (O.len sl66 Z R R) R (.mv R (.nil (.seqN (.block (bS hm fun o5 eo5 hm=>?_)))))))))))
  refine .cutU (z:= .exit 0) (fun u7=> .inl u7=o5) (fun (u7:Unit)=>⟨[],[],0⟩) ?_ fun K8=>?_
  ·rintro u7 rfl
   dsimp only at hm
   refine .blkE (.seqN (.seq (.reg (.sa R (.nil (.seqN (.ret ?_)))))))
   obtain rfl:=oi hm
   exact WX.rt [] (.inl R) Tryz.results95 (.tmp R .nil) R (fun _ _ _ h=>h) trivial
  refine .cutU (z:= .ret) (fun u9=> .inr (u9)=o5) (fun (u9:Int)=>⟨[(2,.i u9)],[],0⟩) ?_ fun K10=>?_
  ·rintro u9 rfl
   dsimp only at hm
   refine .blkR (.seqR ?_)
   obtain rfl:=oi hm
   exact WX.rt [] (.inl R) Tryz.results95 (.tmp R .nil) R (fun _ _ _ h=>h) trivial
  refine .iter (fun (st5:Int)=>⟨[(11,.i st5),(10,.i (p0.length:Int)),(9,.f rE35 p0)],[],0⟩) eo5 [] R ?_
  intro st5 res5 hm ih5 ho5
  unfold y1z at hm
  refine .seq (.reg (.bi R (.nil (.seqN (.seq ?_)))))
  rcases ifS hm with ⟨hc,hm⟩ | ⟨hc,hm⟩
  ·refine .cT R hc ?_
   refine .skip (.seqN (.seq (.block (.seq (.reg (bS hm fun x11 ex11 hm=> .op (O.ix sl66 Z R R ex11 R) R (.op (O.lg (l':=[lF qI x11.1,lI x11.2.1,lF qI x11.2.2.1,lF qT x11.2.2.2]) ag35 Z R (.E lv35) R R R) R (.op (O.al 0 R zz35 R Z R) R (.op (O.st ag35.sz Z R R R R R) R (.nil (.seqN (.seq (.reg (.op (O.lg (l':=[lF qI x11.1,lI x11.2.1,lF qI x11.2.2.1,lF qT x11.2.2.2]) ag35 Z R (.B R) R R R) R (bS hm fun r12 er12 hm=> .op (O.ca0 (y2O er12) cf101 R R Z R R R) R (.sa R (.nil (.seqN (.seq (.reg (.mv R (.bi R (.nil (.seqN ?_))))))))))))))))))))))))
   rcases ifS hm with ⟨hc,hm⟩ | ⟨hc,hm⟩
   ·refine .cT R hc ?_
    exact .seq (.reg (.mv R (.sa R (.nil (.seqN (.ret (.blkR (.seqR (.seqR ((K10 _ (ho5 _ (oi hm).symm)).sub [] R))))))))))
   ·refine .cF R hc ?_
    exact .skip (.blkN (.seqN (.reg (.bi R (.mv R (.nil ((ih5 _ (oi hm).symm).sub [] R)))))))
  ·refine .cF R hc ?_
   exact .exit (.seqX (.seqX ((K8 _ (ho5 _ (oi hm).symm)).sub [] R)))
def yB (p0:Bool) (p1:Bool):Option Bool:=
 some (p0 || p1)
theorem y8Z {p0:Bool} {p1:Bool} {r:Bool} (hm:yB p0 p1=some r):
  Fw Tryz.prog 237 ⟨0,[]⟩ [.b p0,.b p1] [] (.b r) []:=by
 unfold yB at hm
 refine Fw.mk' Tryz.func237 R Tryz.ntmps237 R R (fun C=>?_) R R
 refine .seq (.reg (.sa R (.nil (.seqN (.seq (.reg (.mv R (.mv R ?_))))))))
 refine .cut 2 (fun (v1:Bool)=>(p0 || p1)=v1) (fun v1=>⟨[(8,.b v1)],[],0⟩) ?_ ?_
 ·rintro _ rfl
  refine .sa R (.nil (.seqN (.ret ?_)))
  obtain rfl:=oi hm
  exact WX.rt [] (.inl R) Tryz.results237 (.tmp R .nil) R (fun _ _ _ h=>h) trivial
 ·intro J2
  rcases Bool.eq_false_or_eq_true p0 with hc | hc
  ·refine .know (d:=6) R hc ?_
   exact .sk R (.op (O.pkT Z R R R R) R ((J2 true (orT hc).symm).sub [] R))
  ·refine .know (d:=6) R hc ?_
   exact .op (O.mv (Gu.mk R R) R R) R (.op (O.pkF Z R R R R) R ((J2 p1 (orF hc).symm).sub [] R))
def y3V (p0:List Int) (p1:List Int):Option (List Int):=
 (y3j p0 p1 yB).bind fun r1=>
 some r1
theorem y9F {p0:List Int} {p1:List Int} {r:List Int} (hm:y3V p0 p1=some r):
  Fw Tryz.prog 210 ⟨0,[]⟩ [.f qI p0,.f qI p1] [] (.h 0) [ROW qI 3 r]:=by
 unfold y3V at hm
 refine Fw.mk' Tryz.func210 R Tryz.ntmps210 R R (fun C=>?_) R R
 refine .seq (.reg (.sa R (.nil (.seqN (.seq (.reg (.mv R (.mv R (bS hm fun r1 er1 hm=> .op (O.cac (r':= .h 0) [0] [(0,ROW qI 3 r1)] (some 1) (y5V er1) cf75 R R Z R R ⟨⟨R,.rf⟩,⟨R,.rf⟩,⟨R,(.c (.fn cf237 (fun x r h=>y8Z h) (fun _=>R)) .n)⟩,trivial⟩ R ⟨⟨_,R,fun _ _ _ _ h=>h⟩,trivial⟩ (fun _ _ _ h=>h) R) R (.sa R (.nil (.seqN (.ret ?_)))))))))))))
 obtain rfl:=oi hm
 exact WX.rt [0] (.inl R) Tryz.results210 (.tmp R .nil) R (fun _ _ _ h=>h) ⟨⟨_,R,fun _ _ _ _ h=>h⟩,trivial⟩
def y1r (p0:List AutT) (st7:Int×List Int):Option ((Int×List Int) ⊕ (List Int)):=
 if decide (st7.1 < (p0.length:Int)) then
  (idx p0 st7.1).bind fun x10=>
  (y3V st7.2 x10.1).bind fun r11=>
  some (.inl (W (st7.1 + 1),r11))
 else
  some (.inr st7.2)
def y3k (p0:List AutT):Option (List Int):=
 (iter (y1r p0) (0,([]:List Int))).bind fun o7=>
 some o7
theorem y7h {p0:List AutT} {r:List Int} (hm:y3k p0=some r):
  Fw Tryz.prog 159 ⟨0,[]⟩ [.f rE35 p0] [] (.h 0) [ROW qI 3 r]:=by
 unfold y3k at hm
 refine Fw.mk' Tryz.func159 R Tryz.ntmps159 R R (fun C=>?_) R R
 refine .seq (.reg (.sa R (.nil (.seqN (.seq (.reg (.sa R (.nil (.seqN (.seq (.seq (.reg (.mv R (.op (O.len sl66 Z R R) R (.mv R (.nil (.seqN (.block (bS hm fun o7 eo7 hm=>?_)))))))))))))))))))
 refine .cut1 (z:= .exit 0) o7 (fun (o7:List Int)=>⟨[(3,.h 0)],[(0,ROW qI 3 o7)],1⟩) ?_ fun K9=>?_
 ·skip
  refine .blkE (.seqN (.seq (.reg (.mv R (.sa R (.nil (.seqN (.ret ?_))))))))
  obtain rfl:=oi hm
  exact WX.rt [0] (.inl R) Tryz.results159 (.tmp R .nil) R (fun _ _ _ h=>h) ⟨⟨_,R,fun _ _ _ _ h=>h⟩,trivial⟩
 refine .nlg qI 3 3 0 R R (.iter (fun (st7:Int×List Int)=>⟨[(8,.i st7.1),(7,.i (p0.length:Int)),(6,.f rE35 p0),(3,.h 0)],[(0,ROW qI 3 st7.2)],1⟩) eo7 [] R ?_)
 intro st7 res7 hm ih7 ho7
 unfold y1r at hm
 refine .seq (.reg (.bi R (.nil (.seqN (.seq ?_)))))
 rcases ifS hm with ⟨hc,hm⟩ | ⟨hc,hm⟩
 ·refine .cT R hc ?_
  exact .skip (.seqN (.seq (.block (.seq (.reg (bS hm fun x10 ex10 hm=> .op (O.ix sl66 Z R R ex10 R) R (.op (O.lg (l':=[lF qI x10.1,lI x10.2.1,lF qI x10.2.2.1,lF qT x10.2.2.2]) ag35 Z R (.E lv35) R R R) R (.op (O.al 1 R zz35 R Z R) R (.op (O.st ag35.sz Z R R R R R) R (.nil (.seqN (.reg (.mv R (.op (O.faP y1R Z R R) R (.op (O.ld nag32 Z R (.B R) R R) R (bS hm fun r11 er11 hm=> .op (O.caY (r':= .h 2) [2] [(0,ROW qI 3 r11)] (some 3) (y9F er11) cf210 R R Z R R ⟨⟨R,.hr R,trivial⟩,⟨R,LnL.rf⟩,trivial⟩ R ⟨.row flr3,trivial⟩ (fun _ _ _ _ h=>h) ⟨⟨_,R,fun _ _ _ _ h=>h⟩,trivial⟩ (fun _ _ _ h=>h) R) R (.sa R (.nil (.blkN (.seqN (.reg (.bi R (.mv R (.nil ((ih7 _ (oi hm).symm).sub [(0,2)] R)))))))))))))))))))))))))
 ·refine .cF R hc ?_
  exact .exit (.seqX (.seqX ((K9 _ (ho7 _ (oi hm).symm)).sub [] R)))
def y1t (x20:AutT) (st26:Int×(List KeyT)):Option ((Int×(List KeyT)) ⊕ (List KeyT)):=
 if decide (st26.1 < (x20.2.2.2.length:Int)) then
  (idx x20.2.2.2 st26.1).bind fun x30=>
  some (.inl (W (st26.1 + 1),(kput st26.2 (x30.1,x30.2.1) x30.2.2)))
 else
  some (.inr st26.2)
def y1T (p0:List AutT) (st17:Int×(List (List KeyT))):Option ((Int×(List (List KeyT))) ⊕ (List (List KeyT))):=
 if decide (st17.1 < (p0.length:Int)) then
  (idx p0 st17.1).bind fun x20=>
  (iter (y1t x20) (0,([]:List KeyT))).bind fun o26=>
  (app st17.2 ([o26]:List (List KeyT))).bind fun x29=>
  some (.inl (W (st17.1 + 1),x29))
 else
  some (.inr st17.2)
def y3q (p0:List AutT):Option ((List AutT)×List Int×(List (List KeyT))):=
 (y3k p0).bind fun r1=>
 (iter (y1T p0) (0,([]:List (List KeyT)))).bind fun o17=>
 some (p0,r1,o17)
theorem y7O {p0:List AutT} {r:((List AutT)×List Int×(List (List KeyT)))} (hm:y3q p0=some r):
  Fw Tryz.prog 96 ⟨0,[]⟩ [.f rE35 p0] [] (.g [lF rE35 r.1,lH 0,lH 1]) [ROW qI 3 r.2.1,ROW (rM kvP qI) 139 r.2.2]:=by
 unfold y3q at hm
 refine Fw.mk' Tryz.func96 R Tryz.ntmps96 R R (fun C=>?_) R R
 refine .seq (.reg (.op (O.al 0 R zz162 R Z R) R (.nil (.seqN (.seq (.reg (.mv R (.mv R (bS hm fun r1 er1 hm=> .op (O.ca (r':= .h 1) [1] [(0,ROW qI 3 r1)] (some 2) (y7h er1) cf159 R R Z R R R R ⟨⟨_,R,fun _ _ _ _ h=>h⟩,trivial⟩ (fun _ _ _ h=>h) R) R (.op (O.bu (l:=[lF rE35 p0,lH 1,lN]) pl162 R Z R R R) R (.op (O.al 2 R zz162 R Z R) R (.op (O.st ag162.sz Z R R R R R) R (.nil (.seqN (.seq (.seq (.reg (.mv R (.op (O.len sl66 Z R R) R (.mv R (.nil (.seqN (.block (bS hm fun o17 eo17 hm=>?_))))))))))))))))))))))))
 refine .cut1 (z:= .exit 0) o17 (fun (o17:(List (List KeyT)))=>⟨[(3,.q 0 0),(2,.q 3 0)],[(0,.bx 162 [lF rE35 p0,lH 1,lH 2]),(1,ROW qI 3 r1),(2,ROW (rM kvP qI) 139 o17),(3,.bx 162 [lN,lN,lN])],4⟩) ?_ fun K19=>?_
 ·skip
  refine .blkE (.seqN (.seq (.reg (.op (O.lg (l':=[lF rE35 p0,lH 1,lH 2]) ag162 Z R (.B R) R R R) R (.op (O.st ag162.sz Z R R R R R) R (.nil (.seqN (.ret ?_))))))))
  obtain rfl:=oi hm
  exact WX.rt [1,2] (.inl R) Tryz.results96 (.cell R R ag162 R .nil) R (fun _ _ _ h=>h) ⟨⟨_,R,fun _ _ _ _ h=>h⟩,⟨_,R,fun _ _ _ _ h=>h⟩,trivial⟩
 refine .nlb (rM kvP qI) 139 2 2 R R (.iter (fun (st17:Int×(List (List KeyT)))=>⟨[(15,.i st17.1),(14,.i (p0.length:Int)),(13,.f rE35 p0),(3,.q 0 0),(2,.q 3 0)],[(0,.bx 162 [lF rE35 p0,lH 1,lH 2]),(1,ROW qI 3 r1),(2,ROW (rM kvP qI) 139 st17.2),(3,.bx 162 [lN,lN,lN])],4⟩) eo17 [(0,2),(2,3),(3,0)] R ?_)
 intro st17 res17 hm ih17 ho17
 unfold y1T at hm
 refine .seq (.reg (.bi R (.nil (.seqN (.seq ?_)))))
 rcases ifS hm with ⟨hc,hm⟩ | ⟨hc,hm⟩
 ·refine .cT R hc ?_
  refine .skip (.seqN (.seq (.block (.seq (.reg (bS hm fun x20 ex20 hm=> .op (O.ix sl66 Z R R ex20 R) R (.op (O.lg (l':=[lF qI x20.1,lI x20.2.1,lF qI x20.2.2.1,lF qT x20.2.2.2]) ag35 Z R (.E lv35) R R R) R (.op (O.al 4 R zz35 R Z R) R (.op (O.st ag35.sz Z R R R R R) R (.nil (.seqN (.seq (.reg (.op (O.mk2 (kv:=kvP) (r:=qI) 5 R Z R) R (.sa R (.nil (.seqN (.seq (.seq (.reg (.op (O.faP yG Z R R) R (.op (O.ld nag33 Z R (.B R) R R) R (.op (O.len sl33 Z R R) R (.mv R (.nil (.seqN (.block (bS hm fun o26 eo26 hm=>?_))))))))))))))))))))))))))))
  refine .cut1 (z:= .exit 2) o26 (fun (o26:(List KeyT))=>⟨[(6,.h 0),(15,.i st17.1),(14,.i (p0.length:Int)),(13,.f rE35 p0),(3,.q 1 0),(2,.q 4 0)],[(0,MAP kvP qI 139 o26),(1,.bx 162 [lF rE35 p0,lH 2,lH 3]),(2,ROW qI 3 r1),(3,ROW (rM kvP qI) 139 st17.2),(4,.bx 162 [lN,lN,lN])],5⟩) ?_ fun K28=>?_
  ·skip
   exact .blkE (.seqN (.reg (.op (O.faP yb8 Z R R) R (.op (O.ld yc4 Z R (.B R) R R) R (.mv R (.fz 0 [38] [] R R fM R R (.op (O.bsF (r:=(rM kvP qI)) (zs:=([o26]:List (List KeyT))) bs160 R R Z R R R (.c .m .n) R R R) R (bS hm fun x29 ex29 hm=> .op (O.ap 5 Tryz.underlying160 el139 R R Z R R (.fr R) ex29 R) R (.op (O.faP yb8 Z R R) R (.op (O.st yc4.sz Z R R R R R) R (.nil (.blkN (.seqN (.reg (.bi R (.mv R (.nil ((ih17 _ (oi hm).symm).sub [(0,1),(1,2),(2,5),(3,4)] R))))))))))))))))))
  refine .iter (fun (st26:Int×(List KeyT))=>⟨[(23,.i st26.1),(22,.i (x20.2.2.2.length:Int)),(21,.f qT x20.2.2.2),(6,.h 0),(15,.i st17.1),(14,.i (p0.length:Int)),(13,.f rE35 p0),(3,.q 1 0),(2,.q 4 0)],[(0,MAP kvP qI 139 st26.2),(1,.bx 162 [lF rE35 p0,lH 2,lH 3]),(2,ROW qI 3 r1),(3,ROW (rM kvP qI) 139 st17.2),(4,.bx 162 [lN,lN,lN])],5⟩) eo26 [(0,5),(1,0),(2,1),(3,2),(4,3)] R ?_
  intro st26 res26 hm ih26 ho26
  unfold y1t at hm
  refine .seq (.reg (.bi R (.nil (.seqN (.seq ?_)))))
  rcases ifS hm with ⟨hc,hm⟩ | ⟨hc,hm⟩
  ·refine .cT R hc ?_
   exact .skip (.seqN (.seq (.block (.seq (.reg (bS hm fun x30 ex30 hm=> .op (O.ix sl33 Z R R ex30 R) R (.op (O.lg (l':=[lI x30.1,lI x30.2.1,lI x30.2.2]) ag124 Z R (.E lv124) R R R) R (.op (O.al 5 R zz124 R Z R) R (.op (O.st ag124.sz Z R R R R R) R (.nil (.seqN (.reg (.mv R (.op (O.faP y1W Z R R) R (.op (O.ld nag3 Z R (.B R) R R) R (.op (O.faP y4L Z R R) R (.op (O.ld nag3 Z R (.B R) R R) R (.op (O.bu (l:=[lI x30.1,lI x30.2.1]) pl241 R Z R R R) R (.op (O.faP y2W Z R R) R (.op (O.ld nag3 Z R (.B R) R R) R (.op (O.mu (k:=(x30.1,x30.2.1)) (v:=x30.2.2) md139 (fun _ _=>eqP) Z R R (.a R R) R .k) R (.nil (.blkN (.seqN (.reg (.bi R (.mv R (.nil ((ih26 _ (oi hm).symm).sub [] R)))))))))))))))))))))))))))))
  ·refine .cF R hc ?_
   exact .exit (.seqX (.seqX ((K28 _ (ho26 _ (oi hm).symm)).sub [] R)))
 ·refine .cF R hc ?_
  exact .exit (.seqX (.seqX ((K19 _ (ho17 _ (oi hm).symm)).sub [] R)))
def yj (p0:(List AutT)×List Int×(List (List KeyT))) (st4:Int):Option (Int ⊕ (Unit ⊕ Unit)):=
 if decide (st4 < (p0.1.length:Int)) then
  (idx p0.1 st4).bind fun x10=>
  if(x10.2.1 == 0) then
   some (.inr (.inr (())))
  else
   some (.inl (W (st4 + 1)))
 else
  some (.inr (.inl ()))
def yv (p0:(List AutT)×List Int×(List (List KeyT))):Option (List Int×Bool):=
 (iter (yj p0) 0).bind fun o4=>
 match o4 with
 | .inl u5=>
  (mkL (p0.1.length:Int) (0:Int)).bind fun x7=>
  some (x7,true)
 | .inr (u8)=>
  some (([]:List Int),false)
theorem y7i {p0:(List AutT)×List Int×(List (List KeyT))} {r:List Int×Bool} (hm:yv p0=some r):
  Fw Tryz.prog 97 ⟨0,[]⟩ [.a [lF rE35 p0.1,lF qI p0.2.1,lF (rM kvP qI) p0.2.2]] [] (.tp [.h 0,.b r.2]) [ROW qI 3 r.1]:=by
 unfold yv at hm
 refine Fw.mk' Tryz.func97 R Tryz.ntmps97 R R (fun C=>?_) R R
 refine .seq (.reg (.op (O.box 0 R Z R R R) R (.sa R (.sa R (.nil (.seqN (.seq (.seq (.reg (.op (O.faP y9U Z R R) R (.op (O.ld nag66 Z R (.B R) R R) R (.op (O.len sl66 Z R R) R (.mv R (.nil (.seqN (.block (bS hm fun o4 eo4 hm=>?_)))))))))))))))))
 refine .cutU (z:= .exit 0) (fun u5=> .inl u5=o4) (fun (u5:Unit)=>⟨[(1,.q 0 0)],[(0,.bx 162 [lF rE35 p0.1,lF qI p0.2.1,lF (rM kvP qI) p0.2.2])],1⟩) ?_ fun K6=>?_
 ·rintro u5 rfl
  dsimp only at hm
  refine .blkE (.seqN (.seq (.reg (.op (O.faP y9U Z R R) R (.op (O.ld nag66 Z R (.B R) R R) R (.op (O.len sl66 Z R R) R (bS hm fun x7 ex7 hm=> .op (O.mk (z:=(0:Int)) 1 Tryz.underlying32 zr3 R R Z R R ex7 R) R (.sa R (.sa R (.nil (.seqN (.ret ?_))))))))))))
  obtain rfl:=oi hm
  exact WX.rt [1] (.inl R) Tryz.results97 (.tmp R (.tmp R .nil)) R (fun _ _ _ h=>h) ⟨⟨_,R,fun _ _ _ _ h=>h⟩,trivial⟩
 refine .cutU (z:= .ret) (fun u8=> .inr (u8)=o4) (fun (u8:Unit)=>⟨[(3,.b false),(2,.o (lN))],[],0⟩) ?_ fun K9=>?_
 ·rintro u8 rfl
  dsimp only at hm
  refine .blkR (.seqR (.nlg qI 3 2 0 R R ?_))
  obtain rfl:=oi hm
  exact WX.rt [0] (.inl R) Tryz.results97 (.tmp R (.tmp R .nil)) R (fun _ _ _ h=>h) ⟨⟨_,R,fun _ _ _ _ h=>h⟩,trivial⟩
 refine .iter (fun (st4:Int)=>⟨[(9,.i st4),(8,.i (p0.1.length:Int)),(7,.f rE35 p0.1),(1,.q 0 0)],[(0,.bx 162 [lF rE35 p0.1,lF qI p0.2.1,lF (rM kvP qI) p0.2.2])],1⟩) eo4 [] R ?_
 intro st4 res4 hm ih4 ho4
 unfold yj at hm
 refine .seq (.reg (.bi R (.nil (.seqN (.seq ?_)))))
 rcases ifS hm with ⟨hc,hm⟩ | ⟨hc,hm⟩
 ·refine .cT R hc ?_
  refine .skip (.seqN (.seq (.block (.seq (.reg (bS hm fun x10 ex10 hm=> .op (O.ix sl66 Z R R ex10 R) R (.op (O.lg (l':=[lF qI x10.1,lI x10.2.1,lF qI x10.2.2.1,lF qT x10.2.2.2]) ag35 Z R (.E lv35) R R R) R (.op (O.al 1 R zz35 R Z R) R (.op (O.st ag35.sz Z R R R R R) R (.nil (.seqN (.seq (.reg (.op (O.faP y1g Z R R) R (.op (O.ld nag3 Z R (.B R) R R) R (.bi R (.nil (.seqN ?_))))))))))))))))))
  rcases ifS hm with ⟨hc,hm⟩ | ⟨hc,hm⟩
  ·refine .cT R hc ?_
   exact .seq (.reg (.sa R (.sa R (.nil (.seqN (.ret (.blkR (.seqR (.seqR ((K9 _ (ho4 _ (oi hm).symm)).sub [] R))))))))))
  ·refine .cF R hc ?_
   exact .skip (.blkN (.seqN (.reg (.bi R (.mv R (.nil ((ih4 _ (oi hm).symm).sub [] R)))))))
 ·refine .cF R hc ?_
  exact .exit (.seqX (.seqX ((K6 _ (ho4 _ (oi hm).symm)).sub [] R)))
def y4X (p0:Int):Option Bool:=
 some (p0 != p0)
theorem y7w {p0:Int} {r:Bool} (hm:y4X p0=some r):
  Fw Tryz.prog 214 ⟨0,[]⟩ [.i p0] [] (.b r) []:=by
 unfold y4X at hm
 refine Fw.mk' Tryz.func214 R Tryz.ntmps214 R R (fun C=>?_) R R
 refine .seq (.reg (.sa R (.nil (.seqN (.seq (.reg (.mv R (.mv R (.bi R (.sa R (.nil (.seqN (.ret ?_)))))))))))))
 obtain rfl:=oi hm
 exact WX.rt [] (.inl R) Tryz.results214 (.tmp R .nil) R (fun _ _ _ h=>h) trivial
def y5D (p0:Int) (p1:Int):Option Bool:=
 (y4X p0).bind fun r1=>
 (if r1 then
  (y4X p1).bind fun r7=>
  some (!r7)
 else
  some false).bind fun b2=>
 some (b2 || (decide (p0 < p1)))
theorem yak {p0:Int} {p1:Int} {r:Bool} (hm:y5D p0 p1=some r):
  Fw Tryz.prog 208 ⟨0,[]⟩ [.i p0,.i p1] [] (.b r) []:=by
 unfold y5D at hm
 refine Fw.mk' Tryz.func208 R Tryz.ntmps208 R R (fun C=>?_) R R
 refine .seq (.reg (.sa R (.nil (.seqN (.seq (.reg (.mv R (bS hm fun r1 er1 hm=> .op (O.ca0 (y7w er1) cf214 R R Z R R R) R (.mv R (bS hm fun b2 eb2 hm=>?_))))))))))
 refine .cut 4 (fun (v3:Bool)=>b2=v3) (fun v3=>⟨[(11,.b v3),(0,.i p0),(1,.i p1)],[],0⟩) ?_ ?_
 ·rintro _ rfl
  refine .mv R ?_
  refine .cut 4 (fun (v5:Bool)=>(b2 || (decide (p0 < p1)))=v5) (fun v5=>⟨[(16,.b v5)],[],0⟩) ?_ ?_
  ·rintro _ rfl
   refine .sa R (.nil (.seqN (.ret ?_)))
   obtain rfl:=oi hm
   exact WX.rt [] (.inl R) Tryz.results208 (.tmp R .nil) R (fun _ _ _ h=>h) trivial
  ·intro J6
   rcases Bool.eq_false_or_eq_true b2 with hc | hc
   ·refine .know (d:=12) R hc ?_
    exact .sk R (.sk R (.sk R (.op (O.pkT Z R R R R) R ((J6 true (orT hc).symm).sub [] R))))
   ·refine .know (d:=12) R hc ?_
    exact .op (O.mv (Gu.mk R R) R R) R (.op (O.mv (Gu.mk R R) R R) R (.op (O.bi (Gu.mk R R) R R R R) R (.op (O.pkF Z R R R R) R ((J6 (decide (p0 < p1)) (orF hc).symm).sub [] R))))
 ·intro J4
  rcases ifS eb2 with ⟨hc,hm⟩ | ⟨hc,hm⟩
  ·refine .know (d:=7) R hc ?_
   exact .op (O.mv (Gu.mk R R) R R) R (bS hm fun r7 er7 hm=> .op (O.ca0 (y7w er7) cf214 R R (Gu.mk R R) R R R) R (.op (O.not (Gu.mk R R) R R) R (.op (O.pkT Z R R R R) R ((J4 (!r7) (oi hm).symm).sub [] R))))
  ·refine .know (d:=7) R hc ?_
   exact .sk R (.sk R (.sk R (.op (O.pkF Z R R R R) R ((J4 false (oi hm).symm).sub [] R))))
def y3W (p0:Int):Option Bool:=
 some (p0 != p0)
theorem y6I {p0:Int} {r:Bool} (hm:y3W p0=some r):
  Fw Tryz.prog 209 ⟨0,[]⟩ [.i p0] [] (.b r) []:=by
 unfold y3W at hm
 refine Fw.mk' Tryz.func209 R Tryz.ntmps209 R R (fun C=>?_) R R
 refine .seq (.reg (.sa R (.nil (.seqN (.seq (.reg (.mv R (.mv R (.bi R (.sa R (.nil (.seqN (.ret ?_)))))))))))))
 obtain rfl:=oi hm
 exact WX.rt [] (.inl R) Tryz.results209 (.tmp R .nil) R (fun _ _ _ h=>h) trivial
def y1n (p0:List Int) (p1:Int) (st7:Int×Int):Option ((Int×Int) ⊕ Int):=
 if decide (st7.2 < st7.1) then
  (idx p0 (W ((IntKind.u64.wrap (W (st7.2 + st7.1))).fdiv (2 ^ (min (1:Int).toNat 64))))).bind fun x23=>
  (y5D x23 p1).bind fun r24=>
  if r24 then
   some (.inl (st7.1,W ((W ((IntKind.u64.wrap (W (st7.2 + st7.1))).fdiv (2 ^ (min (1:Int).toNat 64)))) + 1)))
  else
   some (.inl (W ((IntKind.u64.wrap (W (st7.2 + st7.1))).fdiv (2 ^ (min (1:Int).toNat 64))),st7.2))
 else
  some (.inr st7.2)
def y1H (p0:List Int) (p1:Int):Option (Int×Bool):=
 (iter (y1n p0 p1) ((p0.length:Int),0)).bind fun o7=>
 (if decide (o7 < (p0.length:Int)) then
  (idx p0 o7).bind fun x13=>
  (if (x13 == p1) then
   some true
  else
   (idx p0 o7).bind fun x17=>
   (y3W x17).bind fun r18=>
   (if r18 then
    (y3W p1).bind fun r22=>
    some r22
   else
    some false).bind fun b19=>
   some b19).bind fun b14=>
  some b14
 else
  some false).bind fun b10=>
 some (o7,b10)
theorem y5E {p0:List Int} {p1:Int} {r:Int×Bool} (hm:y1H p0 p1=some r):
  Fw Tryz.prog 158 ⟨0,[]⟩ [.f qI p0,.i p1] [] (.tp [.i r.1,.b r.2]) []:=by
 unfold y1H at hm
 refine Fw.mk' Tryz.func158 R Tryz.ntmps158 R R (fun C=>?_) R R
 refine .seq (.reg (.sa R (.sa R (.nil (.seqN (.seq (.reg (.mv R (.op (O.len sl32 Z R R) R (.sa R (.nil (.seqN (.seq (.reg (.mv R (.sa R (.sa R (.nil (.seqN (.seq (.block (bS hm fun o7 eo7 hm=>?_))))))))))))))))))))))
 refine .cut1 (z:= .exit 0) o7 (fun (o7:Int)=>⟨[(7,.i o7),(6,.i (p0.length:Int)),(0,.f qI p0),(1,.i p1)],[],0⟩) ?_ fun K9=>?_
 ·skip
  refine .blkE (.seqN (.seq (.reg (.mv R (.mv R (.mv R (.bi R (.mv R (bS hm fun b10 eb10 hm=>?_)))))))))
  refine .cut 18 (fun (v11:Bool)=>b10=v11) (fun v11=>⟨[(53,.b v11),(31,.i o7)],[],0⟩) ?_ ?_
  ·rintro _ rfl
   refine .sa R (.sa R (.nil (.seqN (.ret ?_))))
   obtain rfl:=oi hm
   exact WX.rt [] (.inl R) Tryz.results158 (.tmp R (.tmp R .nil)) R (fun _ _ _ h=>h) trivial
  ·intro J12
   rcases ifS eb10 with ⟨hc,hm⟩ | ⟨hc,hm⟩
   ·refine .know (d:=35) R hc ?_
    refine .op (O.mv (Gu.mk R R) R R) R (.op (O.mv (Gu.mk R R) R R) R (bS hm fun x13 ex13 hm=> .op (O.ix sl32 (Gu.mk R R) R R ex13 R) R (.op (O.ld nag3 (Gu.mk R R) R (.E lv3) R R) R (.op (O.mv (Gu.mk R R) R R) R (.op (O.bi (Gu.mk R R) R R R R) R (.op (O.mv (Gu.mk R R) R R) R (bS hm fun b14 eb14 hm=>?_)))))))
    refine .cut 10 (fun (v15:Bool)=>b14=v15) (fun v15=>⟨[(52,.b v15),(35,.b true),(31,.i o7)],[],0⟩) ?_ ?_
    ·rintro _ rfl
     exact .op (O.pkT Z R R R R) R ((J12 b14 (oi hm).symm).sub [] R)
    ·intro J16
     rcases ifS eb14 with ⟨hc,hm⟩ | ⟨hc,hm⟩
     ·refine .know (d:=42) R hc ?_
      exact .sk R (.sk R (.sk R (.sk R (.sk R (.sk R (.op (O.skipU R R R) R (.op (O.skipU R R R) R (.sk R (.op (O.pkT (Gu.mk R R) R R R R) R ((J16 true (oi hm).symm).sub [] R))))))))))
     ·refine .know (d:=42) R hc ?_
      refine .op (O.mv (Gu.mk R R) R R) R (.op (O.mv (Gu.mk R R) R R) R (bS hm fun x17 ex17 hm=> .op (O.ix sl32 (Gu.mk R R) R R ex17 R) R (.op (O.ld nag3 (Gu.mk R R) R (.E lv3) R R) R (bS hm fun r18 er18 hm=> .op (O.ca0 (y6I er18) cf209 R R (Gu.mk R R) R R R) R (.op (O.mv (Gu.mk R R) R R) R (bS hm fun b19 eb19 hm=>?_))))))
      refine .cut 3 (fun (v20:Bool)=>b19=v20) (fun v20=>⟨[(51,.b v20),(42,.b false),(35,.b true),(31,.i o7)],[],0⟩) ?_ ?_
      ·rintro _ rfl
       exact .op (O.pkF (Gu.mk R R) R R R R) R ((J16 b19 (oi hm).symm).sub [] R)
      ·intro J21
       rcases ifS eb19 with ⟨hc,hm⟩ | ⟨hc,hm⟩
       ·refine .know (d:=48) R hc ?_
        exact .op (O.mv (Gu.mk R R) R R) R (bS hm fun r22 er22 hm=> .op (O.ca0 (y6I er22) cf209 R R (Gu.mk R R) R R R) R (.op (O.pkT (Gu.mk R R) R R R R) R ((J21 r22 (oi hm).symm).sub [] R)))
       ·refine .know (d:=48) R hc ?_
        exact .sk R (.sk R (.op (O.pkF (Gu.mk R R) R R R R) R ((J21 false (oi hm).symm).sub [] R)))
   ·refine .know (d:=35) R hc ?_
    exact .sk R (.sk R (.sk R (.sk R (.sk R (.sk R (.sk R (.op (O.skipU R R R) R (.op (O.skipU R R R) R (.op (O.skipU R R R) R (.op (O.skipU R R R) R (.op (O.skipU R R R) R (.op (O.skipU R R R) R (.op (O.skipU R R R) R (.op (O.skipU R R R) R (.op (O.skipU R R R) R (.sk R (.op (O.pkF Z R R R R) R ((J12 false (oi hm).symm).sub [] R))))))))))))))))))
 refine .iter (fun (st7:Int×Int)=>⟨[(8,.i st7.1),(7,.i st7.2),(6,.i (p0.length:Int)),(0,.f qI p0),(1,.i p1)],[],0⟩) eo7 [] R ?_
 intro st7 res7 hm ih7 ho7
 unfold y1n at hm
 refine .seq (.seq (.reg (.mv R (.mv R (.bi R (.nil (.seqN ?_)))))))
 rcases ifS hm with ⟨hc,hm⟩ | ⟨hc,hm⟩
 ·refine .cT R hc ?_
  refine .skip (.seqN (.block (.seq (.reg (.mv R (.mv R (.bi R (.op (O.cv Tryz.underlying3 Tryz.underlying295 Z R R) R (.op (O.shr Z R R (by decide) R) R (.op (O.cv Tryz.underlying295 Tryz.underlying3 Z R R) R (.sa R (.nil (.seqN (.seq (.reg (.mv R (.mv R (bS hm fun x23 ex23 hm=> .op (O.ix sl32 Z R R ex23 R) R (.op (O.ld nag3 Z R (.E lv3) R R) R (.mv R (bS hm fun r24 er24 hm=> .op (O.ca0 (yak er24) cf208 R R Z R R R) R (.nil (.seqN ?_)))))))))))))))))))))))
  rcases ifS hm with ⟨hc,hm⟩ | ⟨hc,hm⟩
  ·refine .cT R hc ?_
   exact .reg (.mv R (.bi R (.sa R (.nil (.blkN ((ih7 _ (oi hm).symm).sub [] R))))))
  ·refine .cF R hc ?_
   exact .reg (.mv R (.sa R (.nil (.blkN ((ih7 _ (oi hm).symm).sub [] R)))))
 ·refine .cF R hc ?_
  exact .exit (.seqX (.seqX ((K9 _ (ho7 _ (oi hm).symm)).sub [] R)))
def yk (p0:List Int) (p1:Int):Option Bool:=
 (y1H p0 p1).bind fun r1=>
 some r1.2
theorem yH {p0:List Int} {p1:Int} {r:Bool} (hm:yk p0 p1=some r):
  Fw Tryz.prog 94 ⟨0,[]⟩ [.f qI p0,.i p1] [] (.b r) []:=by
 unfold yk at hm
 refine Fw.mk' Tryz.func94 R Tryz.ntmps94 R R (fun C=>?_) R R
 refine .seq (.reg (.sa R (.nil (.seqN (.seq (.reg (.mv R (.mv R (bS hm fun r1 er1 hm=> .op (O.ca0 (y5E er1) cf158 R R Z R R R) R (.mv R (.op (O.ex Z R R R) R (.op (O.ex Z R R R) R (.sa R (.sa R (.nil (.seqN (.seq (.reg (.mv R (.sa R (.nil (.seqN (.ret ?_)))))))))))))))))))))))
 obtain rfl:=oi hm
 exact WX.rt [] (.inl R) Tryz.results94 (.tmp R .nil) R (fun _ _ _ h=>h) trivial
def y2o (p0:(List AutT)×List Int×(List (List KeyT))) (p1:List Int) (st6:Int):Option (Int ⊕ (Unit ⊕ Unit)):=
 if decide (st6 < (p0.1.length:Int)) then
  (idx p0.1 st6).bind fun x11=>
  (idx p1 st6).bind fun x12=>
  (yk x11.2.2.1 x12).bind fun r13=>
  if(!r13) then
   some (.inr (.inr (())))
  else
   some (.inl (W (st6 + 1)))
 else
  some (.inr (.inl ()))
def yE (p0:(List AutT)×List Int×(List (List KeyT))) (p1:List Int):Option Bool:=
 (iter (y2o p0 p1) 0).bind fun o6=>
 match o6 with
 | .inl u7=>
  some true
 | .inr (u9)=>
  some false
theorem y7r {p0:(List AutT)×List Int×(List (List KeyT))} {p1:List Int} {r:Bool} (hm:yE p0 p1=some r):
  Fw Tryz.prog 99 ⟨0,[]⟩ [.a [lF rE35 p0.1,lF qI p0.2.1,lF (rM kvP qI) p0.2.2],.f qI p1] [] (.b r) []:=by
 unfold yE at hm
 refine Fw.mk' Tryz.func99 R Tryz.ntmps99 R R (fun C=>?_) R R
 refine .seq (.reg (.op (O.box 0 R Z R R R) R (.sa R (.nil (.seqN (.seq (.seq (.reg (.op (O.faP y9U Z R R) R (.op (O.ld nag66 Z R (.B R) R R) R (.op (O.len sl66 Z R R) R (.mv R (.nil (.seqN (.block (bS hm fun o6 eo6 hm=>?_))))))))))))))))
 refine .cutU (z:= .exit 0) (fun u7=> .inl u7=o6) (fun (u7:Unit)=>⟨[],[],0⟩) ?_ fun K8=>?_
 ·rintro u7 rfl
  dsimp only at hm
  refine .blkE (.seqN (.seq (.reg (.sa R (.nil (.seqN (.ret ?_)))))))
  obtain rfl:=oi hm
  exact WX.rt [] (.inl R) Tryz.results99 (.tmp R .nil) R (fun _ _ _ h=>h) trivial
 refine .cutU (z:= .ret) (fun u9=> .inr (u9)=o6) (fun (u9:Unit)=>⟨[(4,.b false)],[],0⟩) ?_ fun K10=>?_
 ·rintro u9 rfl
  dsimp only at hm
  refine .blkR (.seqR ?_)
  obtain rfl:=oi hm
  exact WX.rt [] (.inl R) Tryz.results99 (.tmp R .nil) R (fun _ _ _ h=>h) trivial
 refine .iter (fun (st6:Int)=>⟨[(10,.i st6),(9,.i (p0.1.length:Int)),(8,.f rE35 p0.1),(1,.f qI p1)],[],0⟩) eo6 [] R ?_
 intro st6 res6 hm ih6 ho6
 unfold y2o at hm
 refine .seq (.reg (.bi R (.nil (.seqN (.seq ?_)))))
 rcases ifS hm with ⟨hc,hm⟩ | ⟨hc,hm⟩
 ·refine .cT R hc ?_
  refine .skip (.seqN (.seq (.block (.seq (.reg (.mv R (bS hm fun x11 ex11 hm=> .op (O.ix sl66 Z R R ex11 R) R (.op (O.lg (l':=[lF qI x11.1,lI x11.2.1,lF qI x11.2.2.1,lF qT x11.2.2.2]) ag35 Z R (.E lv35) R R R) R (.op (O.al 0 R zz35 R Z R) R (.sa R (.op (O.st ag35.sz Z R R R R R) R (.nil (.seqN (.seq ?_))))))))))))))
  refine .sub (τ:=⟨[(5,.i st6),(6,.q 0 0),(10,.i st6),(9,.i (p0.1.length:Int)),(8,.f rE35 p0.1),(1,.f qI p1)],[(0,.bx 35 [lF qI x11.1,lI x11.2.1,lF qI x11.2.2.1,lF qT x11.2.2.2])],1⟩) ?_ [] R
  refine bS hm fun x12 ex12 hm=>bS hm fun r13 er13 hm=>?_
  refine .drw [(1,[]),(1,[oT]),(1,[]),(1,[]),(1,[oF,oF,oT,oT]),(1,fA 2 (tT 3)),(1,tT 6),(1,tT 7)] [_,_,_,_,_,_,_,_] ⟨[(22,.b (!r13)),(10,.i st6),(9,.i (p0.1.length:Int)),(8,.f rE35 p0.1),(1,.f qI p1)],[],1⟩ ⟨O.faP y3y Z R R,O.ld nag32 Z R (.B R) R R,O.mv Z R R,O.mv Z R R,O.ix sl32 Z R R ex12 R,O.ld nag3 Z R (.E lv3) R R,O.ca0 (yH er13) cf94 R R Z R R R,O.not Z R R,trivial⟩ (by kernel_rfl) R ?_
  refine .seqN ?_
  rcases ifS hm with ⟨hc,hm⟩ | ⟨hc,hm⟩
  ·refine .cT R hc ?_
   exact .seq (.reg (.sa R (.nil (.seqN (.ret (.blkR (.seqR (.seqR ((K10 _ (ho6 _ (oi hm).symm)).sub [] R)))))))))
  ·refine .cF R hc ?_
   exact .skip (.blkN (.seqN (.reg (.bi R (.mv R (.nil ((ih6 _ (oi hm).symm).sub [] R)))))))
 ·refine .cF R hc ?_
  exact .exit (.seqX (.seqX ((K8 _ (ho6 _ (oi hm).symm)).sub [] R)))
def y1a (p0:List Int):Option (List Int):=
 (app ([]:List Int) p0).bind fun x1=>
 some x1
theorem y4p {p0:List Int} {r:List Int} (hm:y1a p0=some r):
  Fw Tryz.prog 103 ⟨0,[]⟩ [.f qI p0] [] (.h 0) [ROW qI 3 r]:=by
 unfold y1a at hm
 refine Fw.mk' Tryz.func103 R Tryz.ntmps103 R R (fun C=>?_) R R
 refine .seq (.reg (.sa R (.nil (.seqN (.seq (.seq (.reg (.mv R (.op (O.nil? Tryz.underlying32 Z R R R) R (.nil (.seqN ?_)))))))))))
 refine .cN R (fun hz=>?_) ?_
 ·subst hz
  replace hm:some ([]:List Int)=some r:=by simpa [app,slc,slc3] using hm
  refine .seq (.reg (.sa R (.nil (.seqN (.ret (.seqR (.nlg qI 3 2 0 R R ?_)))))))
  obtain rfl:=oi hm
  exact WX.rt [0] (.inl R) Tryz.results103 (.tmp R .nil) R (fun _ _ _ h=>h) ⟨⟨_,R,fun _ _ _ _ h=>h⟩,trivial⟩
 ·skip
  refine .skip (.seqN (.seq (.reg (.op (O.b0O (r:=qI) 0 R bs32 R Z R) R (.mv R (bS hm fun x1 ex1 hm=> .op (O.ap 1 Tryz.underlying32 el3 R R Z R R (.fr R) ex1 R) R (.sa R (.nil (.seqN (.ret ?_))))))))))
  obtain rfl:=oi hm
  exact WX.rt [1] (.inl R) Tryz.results103 (.tmp R .nil) R (fun _ _ _ h=>h) ⟨⟨_,R,fun _ _ _ _ h=>h⟩,trivial⟩
def yw (st14:Int×List Int) (l20:List Int):Option ((Int×List Int) ⊕ ((List Int) ⊕ Unit)):=
 some (.inl (W (st14.1 + 1),l20))
def yn (p0:(List AutT)×List Int×(List (List KeyT))) (p1:List Int) (p2:Int) (st14:Int×List Int):Option ((Int×List Int) ⊕ ((List Int) ⊕ Unit)):=
 if decide (st14.1 < (p0.1.length:Int)) then
  (idx p0.1 st14.1).bind fun x22=>
  (yk x22.1 p2).bind fun r23=>
  if(!r23) then
   yw st14 st14.2
  else
   (idx p0.2.2 st14.1).bind fun x24=>
   (idx p1 st14.1).bind fun x25=>
   if(!((kget x24 (x25,p2)).isSome)) then
    some (.inr (.inr (())))
   else
    (idx st14.2 st14.1).bind fun x26=>
    (upd st14.2 st14.1 ((kget x24 (x25,p2)).getD 0)).bind fun x27=>
    yw st14 x27
 else
  some (.inr (.inl st14.2))
def yD (p0:(List AutT)×List Int×(List (List KeyT))) (p1:List Int) (p2:Int):Option (List Int×Bool):=
 (y1a p1).bind fun r1=>
 (iter (yn p0 p1 p2) (0,r1)).bind fun o14=>
 match o14 with
 | .inl u16=>
  some (u16,true)
 | .inr (u18)=>
  some (([]:List Int),false)
theorem y5X {p0:(List AutT)×List Int×(List (List KeyT))} {p1:List Int} {p2:Int} {r:List Int×Bool} (hm:yD p0 p1 p2=some r):
  Fw Tryz.prog 100 ⟨0,[]⟩ [.a [lF rE35 p0.1,lF qI p0.2.1,lF (rM kvP qI) p0.2.2],.f qI p1,.i p2] [] (.tp [.h 0,.b r.2]) [ROW qI 3 r.1]:=by
 unfold yD at hm
 refine Fw.mk' Tryz.func100 R Tryz.ntmps100 R R (fun C=>?_) R R
 refine .seq (.reg (.op (O.box 0 R Z R R R) R (.sa R (.sa R (.nil (.seqN (.seq (.reg (.mv R (bS hm fun r1 er1 hm=> .op (O.ca (r':= .h 1) [1] [(0,ROW qI 3 r1)] (some 2) (y4p er1) cf103 R R Z R R R R ⟨⟨_,R,fun _ _ _ _ h=>h⟩,trivial⟩ (fun _ _ _ h=>h) R) R (.sa R (.nil (.seqN (.seq (.seq (.reg (.op (O.faP y9U Z R R) R (.op (O.ld nag66 Z R (.B R) R R) R (.op (O.len sl66 Z R R) R (.mv R (.nil (.seqN (.block (bS hm fun o14 eo14 hm=>?_))))))))))))))))))))))))
 refine .cutU (z:= .exit 0) (fun u16=> .inl u16=o14) (fun (u16:List Int)=>⟨[(8,.h 0)],[(0,ROW qI 3 u16)],1⟩) ?_ fun K17=>?_
 ·rintro u16 rfl
  dsimp only at hm
  refine .blkE (.seqN (.seq (.reg (.mv R (.sa R (.sa R (.nil (.seqN (.ret ?_)))))))))
  obtain rfl:=oi hm
  exact WX.rt [0] (.inl R) Tryz.results100 (.tmp R (.tmp R .nil)) R (fun _ _ _ h=>h) ⟨⟨_,R,fun _ _ _ _ h=>h⟩,trivial⟩
 refine .cutU (z:= .ret) (fun u18=> .inr (u18)=o14) (fun (u18:Unit)=>⟨[(7,.b false),(6,.o (lN))],[],0⟩) ?_ fun K19=>?_
 ·rintro u18 rfl
  dsimp only at hm
  refine .blkR (.seqR (.nlg qI 3 6 0 R R ?_))
  obtain rfl:=oi hm
  exact WX.rt [0] (.inl R) Tryz.results100 (.tmp R (.tmp R .nil)) R (fun _ _ _ h=>h) ⟨⟨_,R,fun _ _ _ _ h=>h⟩,trivial⟩
 refine .iter (fun (st14:Int×List Int)=>⟨[(18,.i st14.1),(17,.i (p0.1.length:Int)),(16,.f rE35 p0.1),(8,.h 0),(3,.q 1 0),(1,.f qI p1),(2,.i p2)],[(0,ROW qI 3 st14.2),(1,.bx 162 [lF rE35 p0.1,lF qI p0.2.1,lF (rM kvP qI) p0.2.2])],2⟩) eo14 [(0,1),(1,0)] R ?_
 intro st14 res14 hm ih14 ho14
 unfold yn at hm
 refine .seq (.reg (.bi R (.nil (.seqN (.seq ?_)))))
 rcases ifS hm with ⟨hc,hm⟩ | ⟨hc,hm⟩
 ·refine .cT R hc ?_
  refine .skip (.seqN ?_)
  refine .join1 (fun (l20:List Int)=>yw st14 l20=some res14) (fun l20=>⟨[(18,.i st14.1),(17,.i (p0.1.length:Int)),(16,.f rE35 p0.1),(8,.h 0),(3,.q 1 0),(1,.f qI p1),(2,.i p2)],[(0,ROW qI 3 l20),(1,.bx 162 [lF rE35 p0.1,lF qI p0.2.1,lF (rM kvP qI) p0.2.2])],2⟩) ?_ ?_
  ·intro l20 hm
   unfold yw at hm
   exact .reg (.bi R (.mv R (.nil ((ih14 _ (oi hm).symm).sub [] R))))
  ·intro Jj21
   refine .block (.seq (.reg (.mv R (bS hm fun x22 ex22 hm=> .op (O.ix sl66 Z R R ex22 R) R (.op (O.lg (l':=[lF qI x22.1,lI x22.2.1,lF qI x22.2.2.1,lF qT x22.2.2.2]) ag35 Z R (.E lv35) R R R) R (.op (O.al 2 R zz35 R Z R) R (.sa R (.op (O.st ag35.sz Z R R R R R) R (.nil (.seqN (.seq (.seq (.reg (.op (O.faP y1R Z R R) R (.op (O.ld nag32 Z R (.B R) R R) R (.mv R (bS hm fun r23 er23 hm=> .op (O.ca0 (yH er23) cf94 R R Z R R R) R (.op (O.not Z R R) R (.nil (.seqN ?_))))))))))))))))))))
   rcases ifS hm with ⟨hc,hm⟩ | ⟨hc,hm⟩
   ·refine .cT R hc ?_
    exact .exit (.seqX (.blkE ((Jj21 _ hm).sub [] R)))
   ·refine .cF R hc ?_
    refine .skip (.seqN (.seq ?_))
    refine .sub (τ:=⟨[(9,.i st14.1),(18,.i st14.1),(17,.i (p0.1.length:Int)),(16,.f rE35 p0.1),(8,.h 0),(3,.q 1 0),(1,.f qI p1),(2,.i p2)],[(0,ROW qI 3 st14.2),(1,.bx 162 [lF rE35 p0.1,lF qI p0.2.1,lF (rM kvP qI) p0.2.2])],3⟩) ?_ [] R
    refine bS hm fun x24 ex24 hm=>bS hm fun x25 ex25 hm=>?_
    refine .drw [(3,[]),(3,[oT]),(3,[]),(3,tT 3),(3,tT 4),(3,[]),(3,[]),(3,[oF,oF,oF,oF,oF,oT,oT]),(3,fA 5 (tT 3)),(3,[]),(3,fA 5 (tT 5)),(3,tT 11),(3,tT 12),(3,tT 13),(3,tT 13),(3,tT 14),(3,tT 16)] [_,_,_,_,_,_,_,_,_,_,_,_,_,_,_,_,_] ⟨[(12,.b ((kget x24 (x25,p2)).isSome)),(11,.i ((kget x24 (x25,p2)).getD 0)),(9,.i st14.1),(18,.i st14.1),(17,.i (p0.1.length:Int)),(16,.f rE35 p0.1),(8,.h 0),(3,.q 1 0),(1,.f qI p1),(2,.i p2)],[(0,ROW qI 3 st14.2),(1,.bx 162 [lF rE35 p0.1,lF qI p0.2.1,lF (rM kvP qI) p0.2.2])],3⟩ ⟨O.faP yb8 Z R R,O.ld yc4 Z R (.B R) R R,O.mv Z R R,O.ix sl160 Z R R ex24 R,O.ld yc5 Z R (.E lv139) R R,O.mv Z R R,O.mv Z R R,O.ix sl32 Z R R ex25 R,O.ld nag3 Z R (.E lv3) R R,O.mv Z R R,O.bu (l:=[lI x25,lI p2]) pl241 R Z R R R,O.mi2 (k:=(x25,p2)) md139 Z (.fr R) (.a R R) R,O.mv Z R R,O.ex Z R R R,O.ex Z R R R,O.as Z R R,O.as Z R R,trivial⟩ (by kernel_rfl) R ?_
    refine .seqN (.seq (.seq (.reg (.mv R (.op (O.not Z R R) R (.nil (.seqN ?_)))))))
    rcases ifS hm with ⟨hc,hm⟩ | ⟨hc,hm⟩
    ·refine .cT R hc ?_
     exact .seq (.reg (.sa R (.sa R (.nil (.seqN (.ret (.seqR (.blkR (.seqR (.seqR ((K19 _ (ho14 _ (oi hm).symm)).sub [] R)))))))))))
    ·refine .cF R hc ?_
     exact .skip (.seqN (.reg (.mv R (.mv R (.mv R (bS hm fun x26 ex26 hm=> .op (O.ir sl32 Z R R R ex26 R) R (bS hm fun x27 ex27 hm=> .op (O.su (z:=((kget x24 (x25,p2)).getD 0)) nag3.sz Z R R ex26 ex27 R R R lv3 R .k) R (.nil (.blkN ((Jj21 _ hm).sub [] R))))))))))
 ·refine .cF R hc ?_
  exact .exit (.seqX (.seqX ((K17 _ (ho14 _ (oi hm).symm)).sub [] R)))
def y1X (st99:Int×(List (ByteArray×Int))×List (List Int)×EdgL) (l107:List (ByteArray×Int)) (l108:List (List Int)) (l109:List (Int×Int×Int)):Option ((Int×(List (ByteArray×Int))×List (List Int)×EdgL) ⊕ (((List (ByteArray×Int))×List (List Int)×EdgL) ⊕ Unit)):=
 some (.inl (W (st99.1 + 1),l107,l108,l109))
def y1Y (st66:Int×(List (ByteArray×Int))×List (List Int)×List Int×EdgL) (st99:Int×(List (ByteArray×Int))×List (List Int)×EdgL) (x111:Int) (l115:List (List Int)) (n116:Int) (l117:List (ByteArray×Int)):Option ((Int×(List (ByteArray×Int))×List (List Int)×EdgL) ⊕ (((List (ByteArray×Int))×List (List Int)×EdgL) ⊕ Unit)):=
 (app st99.2.2.2 ([(st66.1,x111,n116)]:List (Int×Int×Int))).bind fun x119=>
 y1X st99 l117 l115 x119
def y1Z (r2:((List AutT)×List Int×(List (List KeyT)))) (st66:Int×(List (ByteArray×Int))×List (List Int)×List Int×EdgL) (st99:Int×(List (ByteArray×Int))×List (List Int)×EdgL):Option ((Int×(List (ByteArray×Int))×List (List Int)×EdgL) ⊕ (((List (ByteArray×Int))×List (List Int)×EdgL) ⊕ Unit)):=
 if decide (st99.1 < (r2.2.1.length:Int)) then
  (idx r2.2.1 st99.1).bind fun x111=>
  (idx st99.2.2.1 st66.1).bind fun x112=>
  (yD r2 x112 x111).bind fun r113=>
  if(!r113.2) then
   y1X st99 st99.2.1 st99.2.2.1 st99.2.2.2
  else
   (y4C r113.1).bind fun r114=>
   if(!((kget st99.2.1 r114).isSome)) then
    if((st99.2.2.1.length:Int) == 4096) then
     some (.inr (.inr (())))
    else
     (y4C r113.1).bind fun r120=>
     (app st99.2.2.1 ([r113.1]:List (List Int))).bind fun x121=>
     y1Y st66 st99 x111 x121 (st99.2.2.1.length:Int) (kput st99.2.1 r120 (st99.2.2.1.length:Int))
   else
    y1Y st66 st99 x111 st99.2.2.1 ((kget st99.2.1 r114).getD 0) st99.2.1
 else
  some (.inr (.inl st99.2))
def y2a (r2:((List AutT)×List Int×(List (List KeyT)))) (st66:Int×(List (ByteArray×Int))×List (List Int)×List Int×EdgL) (l74:List Int):Option ((Int×(List (ByteArray×Int))×List (List Int)×List Int×EdgL) ⊕ ((List (List Int)×List Int×EdgL) ⊕ Unit)):=
 (iter (y1Z r2 st66) (0,st66.2.1,st66.2.2.1,st66.2.2.2.2)).bind fun o99=>
 match o99 with
 | .inl u103=>
  some (.inl (W (st66.1 + 1),u103.1,u103.2.1,l74,u103.2.2))
 | .inr (u105)=>
  some (.inr (.inr (())))
def y2b (r2:((List AutT)×List Int×(List (List KeyT)))) (st66:Int×(List (ByteArray×Int))×List (List Int)×List Int×EdgL):Option ((Int×(List (ByteArray×Int))×List (List Int)×List Int×EdgL) ⊕ ((List (List Int)×List Int×EdgL) ⊕ Unit)):=
 if decide (st66.1 < (st66.2.2.1.length:Int)) then
  (idx st66.2.2.1 st66.1).bind fun x122=>
  (yE r2 x122).bind fun r123=>
  if r123 then
   (app st66.2.2.2.1 ([st66.1]:List Int)).bind fun x124=>
   y2a r2 st66 x124
  else
   y2a r2 st66 st66.2.2.2.1
 else
  some (.inr (.inl st66.2.2))
def ym (p0:List AutT):Option (AutT×List (List Int)×Int):=
 (y3G p0).bind fun r1=>
 if(r1 != 0) then
  some ((([]:List Int),0,([]:List Int),([]:List (Int×Int×Int))),([]:List (List Int)),r1)
 else
  (y3q p0).bind fun r2=>
  (yv r2).bind fun r3=>
  if(!r3.2) then
   some ((r2.2.1,0,([]:List Int),([]:List (Int×Int×Int))),([]:List (List Int)),0)
  else
   (y4C r3.1).bind fun r4=>
   (iter (y2b r2) (0,(kput ([]:List (ByteArray×Int)) r4 0),([r3.1]:List (List Int)),([]:List Int),([]:List (Int×Int×Int)))).bind fun o66=>
   match o66 with
   | .inl u70=>
    some ((r2.2.1,(u70.1.length:Int),u70.2),u70.1,0)
   | .inr (u72)=>
    some ((([]:List Int),0,([]:List Int),([]:List (Int×Int×Int))),([]:List (List Int)),3)
theorem y4E {p0:List AutT} {r:AutT×List (List Int)×Int} (hm:ym p0=some r):
  Fw Tryz.prog 32 ⟨0,[]⟩ [.f rE35 p0] [] (.tp [.a [lH 0,lI r.1.2.1,lH 1,lH 2],.h 3,.i r.2.2]) [ROW qI 3 r.1.1,ROW qI 3 r.1.2.2.1,ROW qT 124 r.1.2.2.2,ROW (rL qI) 32 r.2.1]:=by
 unfold ym at hm
 refine Fw.mk' Tryz.func32 R Tryz.ntmps32 R R (fun C=>?_) R R
 refine .seq (.reg (.op (O.al 0 R zz35 R Z R) R (.sa R (.sa R (.nil (.seqN (.seq (.seq (.reg (.mv R (bS hm fun r1 er1 hm=> .op (O.ca0 (y7v er1) cf95 R R Z R R R) R (.sa R (.nil (.seqN (.seq (.reg (.mv R (.bi R (.nil (.seqN ?_))))))))))))))))))))
 rcases ifS hm with ⟨hc,hm⟩ | ⟨hc,hm⟩
 ·refine .cT R hc ?_
  refine .seq (.reg (.op (O.bu (l:=[lN,lI 0,lN,lN]) pl35 R Z R R R) R (.mv R (.op (O.st ag35.sz Z R R R R R) R (.sa R (.sa R (.nil (.seqN (.ret (.seqR (.nlb qI 3 0 0 R R (.nlb qI 3 0 2 R R (.nlb qT 124 0 3 R R (.nlg (rL qI) 32 3 0 R R ?_))))))))))))))
  obtain rfl:=oi hm
  exact WX.rt [1,2,3,4] (.inl R) Tryz.results32 (.cell R R ag35 R (.tmp R (.tmp R .nil))) R (fun _ _ _ h=>h) ⟨⟨_,R,fun _ _ _ _ h=>h⟩,⟨_,R,fun _ _ _ _ h=>h⟩,⟨_,R,fun _ _ _ _ h=>h⟩,⟨_,R,fun _ _ _ _ h=>h⟩,trivial⟩
 ·refine .cF R hc ?_
  refine .skip (.seqN (.seq (.reg (.mv R (bS hm fun r2 er2 hm=> .op (O.ca (r':= .g [lF rE35 r2.1,lH 1,lH 2]) [1,2] [(0,ROW qI 3 r2.2.1),(1,ROW (rM kvP qI) 139 r2.2.2)] (some 3) (y7O er2) cf96 R R Z R R R R ⟨⟨_,R,fun _ _ _ _ h=>h⟩,⟨_,R,fun _ _ _ _ h=>h⟩,trivial⟩ (fun _ _ _ h=>h) R) R (.op (O.al 3 R zz162 R Z R) R (.op (O.st ag162.sz Z R R R R R) R (.nil (.seqN (.seq (.reg (.op (O.faP ycJ Z R R) R (.op (O.ld nag32 Z R (.B R) R R) R (.op (O.faP y1R Z R R) R (.op (O.st nag32.sz Z R R R R R) R (.nil (.seqN (.seq (.reg (.op (O.lg (l':=[lF rE35 r2.1,lH 1,lH 2]) ag162 Z R (.B R) R R R) R (bS hm fun r3 er3 hm=> .op (O.caY (r':= .tp [.h 4,.b r3.2]) [4] [(0,ROW qI 3 r3.1)] (some 5) (y7i er3) cf97 R R Z R R ⟨⟨R,.rf,.hr R,.hr R,trivial⟩,trivial⟩ R ⟨.row flr3,trivial⟩ (fun _ _ _ _ h=>h) ⟨⟨_,R,fun _ _ _ _ h=>h⟩,trivial⟩ (fun _ _ _ h=>h) R) R (.mv R (.op (O.ex Z R R R) R (.op (O.ex Z R R R) R (.sa R (.sa R (.nil (.seqN (.seq (.seq (.reg (.mv R (.op (O.not Z R R) R (.nil (.seqN ?_)))))))))))))))))))))))))))))))))))
  rcases ifS hm with ⟨hc,hm⟩ | ⟨hc,hm⟩
  ·refine .cT R hc ?_
   refine .seq (.reg (.op (O.lg (l':=[lH 1,lI 0,lN,lN]) ag35 Z R (.B R) R R R) R (.op (O.st ag35.sz Z R R R R R) R (.sa R (.sa R (.nil (.seqN (.ret (.seqR (.nlb qI 3 0 2 R R (.nlb qT 124 0 3 R R (.nlg (rL qI) 32 3 0 R R ?_))))))))))))
   obtain rfl:=oi hm
   exact WX.rt [1,5,6,7] (.inl R) Tryz.results32 (.cell R R ag35 R (.tmp R (.tmp R .nil))) R (fun _ _ _ h=>h) ⟨⟨_,R,fun _ _ _ _ h=>h⟩,⟨_,R,fun _ _ _ _ h=>h⟩,⟨_,R,fun _ _ _ _ h=>h⟩,⟨_,R,fun _ _ _ _ h=>h⟩,trivial⟩
  ·refine .cF R hc ?_
   refine .skip (.seqN (.seq (.reg (.mv R (.fz 4 [36,7] [] R R fR R R (.op (O.bsO (r:=(rL qI)) (zs:=([r3.1]:List (List Int))) 5 R bs53 R R Z R R R (.c .l .n) R R R) R (.sa R (.nil (.seqN (.seq (.reg (.op (O.mk2 (kv:=kvS) (r:=qI) 6 R Z R) R (.mv R (bS hm fun r4 er4 hm=> .op (O.ca0 (y6G er4) cf98 R R Z R R R) R (.op (O.ins (k:=r4) (v:=0) md167 (fun _ _=>eqS) Z R R (.o R) R .k) R (.mv R (.sa R (.nil (.seqN (.seq (.seq (.reg (.sa R (.nil (.seqN (.block (bS hm fun o66 eo66 hm=>?_)))))))))))))))))))))))))))
   refine .cutU (z:= .exit 0) (fun u70=> .inl u70=o66) (fun (u70:List (List Int)×List Int×EdgL)=>⟨[(3,.h 0),(2,.q 1 0)],[(0,ROW (rL qI) 32 u70.1),(1,.bx 35 [lH 2,lI 0,lH 3,lH 4]),(2,ROW qI 3 r2.2.1),(3,ROW qI 3 u70.2.1),(4,ROW qT 124 u70.2.2)],5⟩) ?_ fun K71=>?_
   ·rintro u70 rfl
    dsimp only at hm
    refine .blkE (.seqN (.seq (.reg (.mv R (.op (O.lenH sl53 Z R R R) R (.op (O.faP y1g Z R R) R (.op (O.st nag3.sz Z R R R R R) R (.nil (.seqN (.seq (.reg (.op (O.lg (l':=[lH 2,lI (u70.1.length:Int),lH 3,lH 4]) ag35 Z R (.B R) R R R) R (.mv R (.op (O.st ag35.sz Z R R R R R) R (.sa R (.sa R (.nil (.seqN (.ret ?_)))))))))))))))))))
    obtain rfl:=oi hm
    exact WX.rt [2,3,4,0] (.inl R) Tryz.results32 (.cell R R ag35 R (.tmp R (.tmp R .nil))) R (fun _ _ _ h=>h) ⟨⟨_,R,fun _ _ _ _ h=>h⟩,⟨_,R,fun _ _ _ _ h=>h⟩,⟨_,R,fun _ _ _ _ h=>h⟩,⟨_,R,fun _ _ _ _ h=>h⟩,trivial⟩
   refine .cutU (z:= .ret) (fun u72=> .inr (u72)=o66) (fun (u72:Unit)=>⟨[(4,.i 3),(3,.o (lN)),(2,.q 0 0)],[(0,.bx 35 [lN,lI 0,lN,lN])],1⟩) ?_ fun K73=>?_
   ·rintro u72 rfl
    dsimp only at hm
    refine .blkR (.seqR (.nlb qI 3 0 0 R R (.nlb qI 3 0 2 R R (.nlb qT 124 0 3 R R (.nlg (rL qI) 32 3 0 R R ?_)))))
    obtain rfl:=oi hm
    exact WX.rt [1,2,3,4] (.inl R) Tryz.results32 (.cell R R ag35 R (.tmp R (.tmp R .nil))) R (fun _ _ _ h=>h) ⟨⟨_,R,fun _ _ _ _ h=>h⟩,⟨_,R,fun _ _ _ _ h=>h⟩,⟨_,R,fun _ _ _ _ h=>h⟩,⟨_,R,fun _ _ _ _ h=>h⟩,trivial⟩
   refine .nlb qI 3 0 2 R R (.nlb qT 124 0 3 R R (.iter (fun (st66:Int×(List (ByteArray×Int))×List (List Int)×List Int×EdgL)=>⟨[(10,.i st66.1),(9,.h 0),(3,.h 1),(6,.q 2 0),(2,.q 5 0)],[(0,MAP kvS qI 167 st66.2.1),(1,ROW (rL qI) 32 st66.2.2.1),(2,.bx 162 [lF rE35 r2.1,lH 3,lH 4]),(3,ROW qI 3 r2.2.1),(4,ROW (rM kvP qI) 139 r2.2.2),(5,.bx 35 [lH 3,lI 0,lH 6,lH 7]),(6,ROW qI 3 st66.2.2.2.1),(7,ROW qT 124 st66.2.2.2.2)],8⟩) eo66 [(0,6),(1,5),(2,3),(3,1),(4,2),(5,0),(6,7),(7,8)] R ?_))
   intro st66 res66 hm ih66 ho66
   unfold y2b at hm
   refine .seq (.seq (.reg (.mv R (.mv R (.op (O.lenH sl53 Z R R R) R (.bi R (.nil (.seqN ?_))))))))
   rcases ifS hm with ⟨hc,hm⟩ | ⟨hc,hm⟩
   ·refine .cT R hc ?_
    refine .skip (.seqN (.seq (.block ?_)))
    refine .join1 (fun (l74:List Int)=>y2a r2 st66 l74=some res66) (fun l74=>⟨[(10,.i st66.1),(9,.h 0),(3,.h 1),(6,.q 2 0),(2,.q 5 0)],[(0,MAP kvS qI 167 st66.2.1),(1,ROW (rL qI) 32 st66.2.2.1),(2,.bx 162 [lF rE35 r2.1,lH 3,lH 4]),(3,ROW qI 3 r2.2.1),(4,ROW (rM kvP qI) 139 r2.2.2),(5,.bx 35 [lH 3,lI 0,lH 6,lH 7]),(6,ROW qI 3 l74),(7,ROW qT 124 st66.2.2.2.2)],8⟩) ?_ ?_
    ·intro l74 hm
     unfold y2a at hm
     refine .seq (.reg (.op (O.faP ycJ Z R R) R (.op (O.ld nag32 Z R (.B R) R R) R (.op (O.lenH sl32 Z R R R) R (.mv R (.nil (.seqN (.block (bS hm fun o99 eo99 hm=>?_)))))))))
     refine .cutU (z:= .exit 2) (fun u103=> .inl u103=o99) (fun (u103:(List (ByteArray×Int))×List (List Int)×EdgL)=>⟨[(10,.i st66.1),(9,.h 0),(3,.h 1),(6,.q 2 0),(2,.q 5 0)],[(0,MAP kvS qI 167 u103.1),(1,ROW (rL qI) 32 u103.2.1),(2,.bx 162 [lF rE35 r2.1,lH 3,lH 4]),(3,ROW qI 3 r2.2.1),(4,ROW (rM kvP qI) 139 r2.2.2),(5,.bx 35 [lH 3,lI 0,lH 6,lH 7]),(6,ROW qI 3 l74),(7,ROW qT 124 u103.2.2)],8⟩) ?_ fun K104=>?_
     ·rintro u103 rfl
      dsimp only at hm
      exact .blkE (.blkN (.seqN (.reg (.mv R (.bi R (.sa R (.nil ((ih66 _ (oi hm).symm).sub [] R))))))))
     refine .cutU (z:= .ret) (fun u105=> .inr (u105)=o99) (fun (u105:Unit)=>⟨[(4,.i 3),(3,.o (lN)),(2,.q 0 0)],[(0,.bx 35 [lN,lI 0,lN,lN])],1⟩) ?_ fun K106=>?_
     ·rintro u105 rfl
      dsimp only at hm
      exact .blkR (.blkR (.seqR (.seqR ((K73 _ (ho66 _ (oi hm).symm)).sub [] R))))
     refine .iter (fun (st99:Int×(List (ByteArray×Int))×List (List Int)×EdgL)=>⟨[(63,.i st99.1),(62,.i (r2.2.1.length:Int)),(61,.h 0),(10,.i st66.1),(9,.h 1),(3,.h 2),(6,.q 3 0),(2,.q 5 0)],[(0,ROW qI 3 r2.2.1),(1,MAP kvS qI 167 st99.2.1),(2,ROW (rL qI) 32 st99.2.2.1),(3,.bx 162 [lF rE35 r2.1,lH 0,lH 4]),(4,ROW (rM kvP qI) 139 r2.2.2),(5,.bx 35 [lH 0,lI 0,lH 6,lH 7]),(6,ROW qI 3 l74),(7,ROW qT 124 st99.2.2.2)],8⟩) eo99 [(0,3),(1,0),(2,1),(3,2)] R ?_
     intro st99 res99 hm ih99 ho99
     unfold y1Z at hm
     refine .seq (.reg (.bi R (.nil (.seqN (.seq ?_)))))
     rcases ifS hm with ⟨hc,hm⟩ | ⟨hc,hm⟩
     ·refine .cT R hc ?_
      refine .skip (.seqN ?_)
      refine .join3 (fun (l107:List (ByteArray×Int)) (l108:List (List Int)) (l109:List (Int×Int×Int))=>y1X st99 l107 l108 l109=some res99) (fun l107 l108 l109=>⟨[(63,.i st99.1),(62,.i (r2.2.1.length:Int)),(61,.h 0),(10,.i st66.1),(9,.h 1),(3,.h 2),(6,.q 3 0),(2,.q 5 0)],[(0,ROW qI 3 r2.2.1),(1,MAP kvS qI 167 l107),(2,ROW (rL qI) 32 l108),(3,.bx 162 [lF rE35 r2.1,lH 0,lH 4]),(4,ROW (rM kvP qI) 139 r2.2.2),(5,.bx 35 [lH 0,lI 0,lH 6,lH 7]),(6,ROW qI 3 l74),(7,ROW qT 124 l109)],8⟩) ?_ ?_
      ·intro l107 l108 l109 hm
       unfold y1X at hm
       exact .reg (.bi R (.mv R (.nil ((ih99 _ (oi hm).symm).sub [] R))))
      ·intro Jj110
       refine .block (.seq (.reg (bS hm fun x111 ex111 hm=> .op (O.ir sl32 Z R R R ex111 R) R (.op (O.ld nag3 Z R (.R R ex111 lv3) R R) R (.sa R (.nil (.seqN (.seq ?_))))))))
       refine .sub (τ:=⟨[(12,.i x111),(63,.i st99.1),(62,.i (r2.2.1.length:Int)),(61,.h 0),(10,.i st66.1),(9,.h 1),(3,.h 2),(6,.q 3 0),(2,.q 5 0)],[(0,ROW qI 3 r2.2.1),(1,MAP kvS qI 167 st99.2.1),(2,ROW (rL qI) 32 st99.2.2.1),(3,.bx 162 [lF rE35 r2.1,lH 0,lH 4]),(4,ROW (rM kvP qI) 139 r2.2.2),(5,.bx 35 [lH 0,lI 0,lH 6,lH 7]),(6,ROW qI 3 l74),(7,ROW qT 124 st99.2.2.2)],8⟩) ?_ [] R
       refine bS hm fun x112 ex112 hm=>bS hm fun r113 er113 hm=>?_
       refine .drw [(8,[]),(8,[]),(8,[]),(8,[oF,oT,oT]),(8,fA 1 (tT 3)),(8,[]),(8,tT 6),(9,tT 7),(9,tT 8),(9,tT 8),(9,tT 9),(9,tT 11)] [_,_,_,_,_,_,_,_,_,_,_,_] ⟨[(14,.b r113.2),(13,.h 8),(12,.i x111),(63,.i st99.1),(62,.i (r2.2.1.length:Int)),(61,.h 0),(10,.i st66.1),(9,.h 1),(3,.h 2),(6,.q 3 0),(2,.q 5 0)],[(8,ROW qI 3 r113.1),(0,ROW qI 3 r2.2.1),(1,MAP kvS qI 167 st99.2.1),(2,ROW (rL qI) 32 st99.2.2.1),(3,.bx 162 [lF rE35 r2.1,lH 0,lH 4]),(4,ROW (rM kvP qI) 139 r2.2.2),(5,.bx 35 [lH 0,lI 0,lH 6,lH 7]),(6,ROW qI 3 l74),(7,ROW qT 124 st99.2.2.2)],9⟩ ⟨O.lg (l':=[lF rE35 r2.1,lH 0,lH 4]) ag162 Z R (.B R) R R R,O.mv Z R R,O.mv Z R R,O.ir sl53 Z R R R ex112 R,O.ld nag32 Z R (.R R ex112 lv32) R R,O.mv Z R R,O.caY (r':= .tp [.h 8,.b r113.2]) [8] [(0,ROW qI 3 r113.1)] (some 9) (y5X er113) cf100 R R Z R R ⟨⟨R,.rf,.hr R,.hr R,trivial⟩,⟨R,LnL.rf⟩,⟨R,LnL.rf⟩,trivial⟩ R ⟨.row flr3,trivial⟩ (fun _ _ _ _ h=>h) ⟨⟨_,R,fun _ _ _ _ h=>h⟩,trivial⟩ (fun _ _ _ h=>h) R,O.mv Z R R,O.ex Z R R R,O.ex Z R R R,O.as Z R R,O.as Z R R,trivial⟩ (by kernel_rfl) R ?_
       refine .seqN (.seq (.seq (.reg (.mv R (.op (O.not Z R R) R (.nil (.seqN ?_)))))))
       rcases ifS hm with ⟨hc,hm⟩ | ⟨hc,hm⟩
       ·refine .cT R hc ?_
        exact .exit (.seqX (.blkE ((Jj110 _ _ _ hm).sub [] R)))
       ·refine .cF R hc ?_
        refine .skip (.seqN (.seq (.reg (.mv R (.mv R (bS hm fun r114 er114 hm=> .op (O.caZ (y6G er114) cf98 R R Z R ⟨⟨R,.hr R,trivial⟩,trivial⟩ (fun _ _ _ _ _ h=>h) R) R (.op (O.mi2 (k:=r114) md167 Z (.ow R R) (.o R) R) R (.mv R (.op (O.ex Z R R R) R (.op (O.ex Z R R R) R (.sa R (.sa R (.nil (.seqN ?_))))))))))))))
        refine .join3 (fun (l115:List (List Int)) (n116:Int) (l117:List (ByteArray×Int))=>y1Y st66 st99 x111 l115 n116 l117=some res99) (fun l115 n116 l117=>⟨[(3,.h 0),(15,.i n116),(12,.i x111),(63,.i st99.1),(62,.i (r2.2.1.length:Int)),(61,.h 1),(10,.i st66.1),(9,.h 2),(6,.q 3 0),(2,.q 5 0)],[(0,ROW (rL qI) 32 l115),(1,ROW qI 3 r2.2.1),(2,MAP kvS qI 167 l117),(3,.bx 162 [lF rE35 r2.1,lH 1,lH 4]),(4,ROW (rM kvP qI) 139 r2.2.2),(5,.bx 35 [lH 1,lI 0,lH 6,lH 7]),(6,ROW qI 3 l74),(7,ROW qT 124 st99.2.2.2)],8⟩) ?_ ?_
        ·intro l115 n116 l117 hm
         unfold y1Y at hm
         exact .reg (.op (O.faP yG Z R R) R (.op (O.ld nag33 Z R (.B R) R R) R (.mv R (.mv R (.mv R (.op (O.bu (l:=[lI st66.1,lI x111,lI n116]) pl124 R Z R R R) R (.op (O.bsF (r:=qT) (zs:=([(st66.1,x111,n116)]:List (Int×Int×Int))) bs33 R R Z R R R (.c (.p .k (.p .k .k)) .n) R R R) R (bS hm fun x119 ex119 hm=> .op (O.ap 8 Tryz.underlying33 el124 R R Z R R (.fr R) ex119 R) R (.op (O.faP yG Z R R) R (.op (O.st nag33.sz Z R R R R R) R (.nil (.blkN ((Jj110 _ _ _ hm).sub [(0,1),(1,2),(2,0),(7,8)] R)))))))))))))
        ·intro Jj118
         refine .seq (.reg (.mv R (.op (O.not Z R R) R (.nil (.seqN ?_)))))
         rcases ifS hm with ⟨hc,hm⟩ | ⟨hc,hm⟩
         ·refine .cT R hc ?_
          refine .seq (.seq (.reg (.mv R (.op (O.lenH sl53 Z R R R) R (.bi R (.nil (.seqN ?_)))))))
          rcases ifS hm with ⟨hc,hm⟩ | ⟨hc,hm⟩
          ·refine .cT R hc ?_
           exact .seq (.reg (.op (O.bu (l:=[lN,lI 0,lN,lN]) pl35 R Z R R R) R (.op (O.st ag35.sz Z R R R R R) R (.sa R (.sa R (.nil (.seqN (.ret (.seqR (.seqR (.blkR (.seqR (.seqR ((K106 _ (ho99 _ (oi hm).symm)).sub [(0,5)] R))))))))))))))
          ·refine .cF R hc ?_
           exact .skip (.seqN (.seq (.reg (.mv R (.op (O.lenH sl53 Z R R R) R (.sa R (.nil (.seqN (.seq (.reg (.mv R (.mv R (bS hm fun r120 er120 hm=> .op (O.caZ (y6G er120) cf98 R R Z R ⟨⟨R,.hr R,trivial⟩,trivial⟩ (fun _ _ _ _ _ h=>h) R) R (.mv R (.op (O.mu (k:=r120) (v:=(st99.2.2.1.length:Int)) md167 (fun _ _=>eqS) Z R R (.o R) R .k) R (.nil (.seqN (.reg (.mv R (.mv R (.fz 8 [99] [] R R fR R R (.op (O.bsF (r:=(rL qI)) (zs:=([r113.1]:List (List Int))) bs53 R R Z R R R (.c .l .n) R R R) R (bS hm fun x121 ex121 hm=> .op (O.ap 9 Tryz.underlying53 el32 R R Z R R (.fr R) ex121 R) R (.sa R (.nil ((Jj118 _ _ _ hm).sub [(0,9),(1,0),(2,1)] R))))))))))))))))))))))))))
         ·refine .cF R hc ?_
          exact .skip ((Jj118 _ _ _ hm).sub [(0,2),(1,0),(2,1)] R)
     ·refine .cF R hc ?_
      exact .exit (.seqX (.seqX ((K104 _ (ho99 _ (oi hm).symm)).sub [(0,1),(1,2),(2,3),(3,0)] R)))
    ·intro Jj75
     refine .seq ?_
     refine .sub (τ:=⟨[(10,.i st66.1),(9,.h 0),(3,.h 1),(6,.q 2 0),(2,.q 5 0)],[(0,MAP kvS qI 167 st66.2.1),(1,ROW (rL qI) 32 st66.2.2.1),(2,.bx 162 [lF rE35 r2.1,lH 3,lH 4]),(3,ROW qI 3 r2.2.1),(4,ROW (rM kvP qI) 139 r2.2.2),(5,.bx 35 [lH 3,lI 0,lH 6,lH 7]),(6,ROW qI 3 st66.2.2.2.1),(7,ROW qT 124 st66.2.2.2.2)],8⟩) ?_ [] R
     refine bS hm fun x122 ex122 hm=>bS hm fun r123 er123 hm=>?_
     refine .drw [(8,[]),(8,[]),(8,[]),(8,[oF,oT,oT]),(8,fA 1 (tT 3)),(8,tT 5)] [_,_,_,_,_,_] ⟨[(53,.b r123),(10,.i st66.1),(9,.h 0),(3,.h 1),(6,.q 2 0),(2,.q 5 0)],[(0,MAP kvS qI 167 st66.2.1),(1,ROW (rL qI) 32 st66.2.2.1),(2,.bx 162 [lF rE35 r2.1,lH 3,lH 4]),(3,ROW qI 3 r2.2.1),(4,ROW (rM kvP qI) 139 r2.2.2),(5,.bx 35 [lH 3,lI 0,lH 6,lH 7]),(6,ROW qI 3 st66.2.2.2.1),(7,ROW qT 124 st66.2.2.2.2)],8⟩ ⟨O.lg (l':=[lF rE35 r2.1,lH 3,lH 4]) ag162 Z R (.B R) R R R,O.mv Z R R,O.mv Z R R,O.ir sl53 Z R R R ex122 R,O.ld nag32 Z R (.R R ex122 lv32) R R,O.caZ (y7r er123) cf99 R R Z R ⟨⟨R,.rf,.hr R,.hr R,trivial⟩,⟨R,LnL.rf⟩,trivial⟩ (fun _ _ _ _ _ h=>h) R,trivial⟩ (by kernel_rfl) R ?_
     refine .seqN ?_
     rcases ifS hm with ⟨hc,hm⟩ | ⟨hc,hm⟩
     ·refine .cT R hc ?_
      exact .reg (.op (O.faP y3y Z R R) R (.op (O.ld nag32 Z R (.B R) R R) R (.mv R (.op (O.bsF (r:=qI) (zs:=([st66.1]:List Int)) bs32 R R Z R R R (.c .k .n) R R R) R (bS hm fun x124 ex124 hm=> .op (O.ap 8 Tryz.underlying32 el3 R R Z R R (.fr R) ex124 R) R (.op (O.faP y3y Z R R) R (.op (O.st nag32.sz Z R R R R R) R (.nil ((Jj75 _ hm).sub [(6,8)] R)))))))))
     ·refine .cF R hc ?_
      exact .skip ((Jj75 _ hm).sub [] R)
   ·refine .cF R hc ?_
    exact .exit (.seqX (.seqX ((K71 _ (ho66 _ (oi hm).symm)).sub [(0,1),(1,5),(2,3),(3,6),(4,7)] R)))
def y4Q (p0:Bool) (p1:Bool):Option Bool:=
 some (p0 && p1)
theorem y7P {p0:Bool} {p1:Bool} {r:Bool} (hm:y4Q p0 p1=some r):
  Fw Tryz.prog 196 ⟨0,[]⟩ [.b p0,.b p1] [] (.b r) []:=by
 unfold y4Q at hm
 refine Fw.mk' Tryz.func196 R Tryz.ntmps196 R R (fun C=>?_) R R
 refine .seq (.reg (.sa R (.nil (.seqN (.seq (.reg (.mv R (.mv R ?_))))))))
 refine .cut 2 (fun (v1:Bool)=>(p0 && p1)=v1) (fun v1=>⟨[(8,.b v1)],[],0⟩) ?_ ?_
 ·rintro _ rfl
  refine .sa R (.nil (.seqN (.ret ?_)))
  obtain rfl:=oi hm
  exact WX.rt [] (.inl R) Tryz.results196 (.tmp R .nil) R (fun _ _ _ h=>h) trivial
 ·intro J2
  rcases Bool.eq_false_or_eq_true p0 with hc | hc
  ·refine .know (d:=6) R hc ?_
   exact .op (O.mv (Gu.mk R R) R R) R (.op (O.pkT Z R R R R) R ((J2 p1 (andT hc).symm).sub [] R))
  ·refine .know (d:=6) R hc ?_
   exact .sk R (.op (O.pkF Z R R R R) R ((J2 false (andF hc).symm).sub [] R))
def y3r (p0:List Int) (p1:List Int):Option (List Int):=
 (y3j p0 p1 y4Q).bind fun r1=>
 some r1
theorem y6o {p0:List Int} {p1:List Int} {r:List Int} (hm:y3r p0 p1=some r):
  Fw Tryz.prog 145 ⟨0,[]⟩ [.f qI p0,.f qI p1] [] (.h 0) [ROW qI 3 r]:=by
 unfold y3r at hm
 refine Fw.mk' Tryz.func145 R Tryz.ntmps145 R R (fun C=>?_) R R
 refine .seq (.reg (.sa R (.nil (.seqN (.seq (.reg (.mv R (.mv R (bS hm fun r1 er1 hm=> .op (O.cac (r':= .h 0) [0] [(0,ROW qI 3 r1)] (some 1) (y5V er1) cf75 R R Z R R ⟨⟨R,.rf⟩,⟨R,.rf⟩,⟨R,(.c (.fn cf196 (fun x r h=>y7P h) (fun _=>R)) .n)⟩,trivial⟩ R ⟨⟨_,R,fun _ _ _ _ h=>h⟩,trivial⟩ (fun _ _ _ h=>h) R) R (.sa R (.nil (.seqN (.ret ?_)))))))))))))
 obtain rfl:=oi hm
 exact WX.rt [0] (.inl R) Tryz.results145 (.tmp R .nil) R (fun _ _ _ h=>h) ⟨⟨_,R,fun _ _ _ _ h=>h⟩,trivial⟩
def y5y (p0:AutT) (st6:Int×(List KeyT)):Option ((Int×(List KeyT)) ⊕ (List KeyT)):=
 if decide (st6.1 < (p0.2.2.2.length:Int)) then
  (idx p0.2.2.2 st6.1).bind fun x9=>
  some (.inl (W (st6.1 + 1),(kput st6.2 (x9.1,x9.2.1) x9.2.2)))
 else
  some (.inr st6.2)
def y4S (p0:AutT):Option (AutT×(List KeyT)):=
 (iter (y5y p0) (0,([]:List KeyT))).bind fun o6=>
 some (p0,o6)
theorem y6g {p0:AutT} {r:(AutT×(List KeyT))} (hm:y4S p0=some r):
  Fw Tryz.prog 151 ⟨0,[]⟩ [.a [lF qI p0.1,lI p0.2.1,lF qI p0.2.2.1,lF qT p0.2.2.2]] [] (.g [lF qI r.1.1,lI r.1.2.1,lF qI r.1.2.2.1,lF qT r.1.2.2.2,lM kvP qI r.2]) []:=by
 unfold y4S at hm
 refine Fw.mk' Tryz.func151 R Tryz.ntmps151 R R (fun C=>?_) R R
 refine .seq (.reg (.op (O.box 0 R Z R R R) R (.op (O.al 1 R zz141 R Z R) R (.nil (.seqN (.seq (.reg (.op (O.lg (l':=[lF qI p0.1,lI p0.2.1,lF qI p0.2.2.1,lF qT p0.2.2.2]) ag35 Z R (.B R) R R R) R (.op (O.mk2 (kv:=kvP) (r:=qI) 2 R Z R) R (.op (O.bu (l:=[lF qI p0.1,lI p0.2.1,lF qI p0.2.2.1,lF qT p0.2.2.2,lH 2]) pl141 R Z R R R) R (.op (O.al 3 R zz141 R Z R) R (.op (O.st ag141.sz Z R R R R R) R (.nil (.seqN (.seq (.seq (.reg (.op (O.faP yG Z R R) R (.op (O.ld nag33 Z R (.B R) R R) R (.op (O.len sl33 Z R R) R (.mv R (.nil (.seqN (.block (bS hm fun o6 eo6 hm=>?_)))))))))))))))))))))))))
 refine .cut1 (z:= .exit 0) o6 (fun (o6:(List KeyT))=>⟨[(3,.q 0 0),(2,.q 2 0)],[(0,.bx 141 [lF qI p0.1,lI p0.2.1,lF qI p0.2.2.1,lF qT p0.2.2.2,lH 1]),(1,MAP kvP qI 139 o6),(2,.bx 141 [lN,lI 0,lN,lN,lV (.map none)])],3⟩) ?_ fun K8=>?_
 ·skip
  refine .blkE (.seqN (.seq (.reg (.op (O.lg (l':=[lF qI p0.1,lI p0.2.1,lF qI p0.2.2.1,lF qT p0.2.2.2,lH 1]) ag141 Z R (.B R) R R R) R (.op (O.st ag141.sz Z R R R R R) R (.nil (.seqN (.ret (.fz 1 [] [0,2] R R fM R R ?_)))))))))
  obtain rfl:=oi hm
  exact WX.rt [] (.inl R) Tryz.results151 (.cell R R ag141 R .nil) R (fun _ _ _ h=>h) trivial
 refine .iter (fun (st6:Int×(List KeyT))=>⟨[(12,.i st6.1),(11,.i (p0.2.2.2.length:Int)),(10,.f qT p0.2.2.2),(3,.q 0 0),(2,.q 2 0)],[(0,.bx 141 [lF qI p0.1,lI p0.2.1,lF qI p0.2.2.1,lF qT p0.2.2.2,lH 1]),(1,MAP kvP qI 139 st6.2),(2,.bx 141 [lN,lI 0,lN,lN,lV (.map none)])],3⟩) eo6 [(0,3),(1,2),(2,1)] R ?_
 intro st6 res6 hm ih6 ho6
 unfold y5y at hm
 refine .seq (.reg (.bi R (.nil (.seqN (.seq ?_)))))
 rcases ifS hm with ⟨hc,hm⟩ | ⟨hc,hm⟩
 ·refine .cT R hc ?_
  exact .skip (.seqN (.seq (.block (.seq (.reg (bS hm fun x9 ex9 hm=> .op (O.ix sl33 Z R R ex9 R) R (.op (O.lg (l':=[lI x9.1,lI x9.2.1,lI x9.2.2]) ag124 Z R (.E lv124) R R R) R (.op (O.al 3 R zz124 R Z R) R (.op (O.st ag124.sz Z R R R R R) R (.nil (.seqN (.reg (.op (O.faP ycK Z R R) R (.op (O.ld yc5 Z R (.B R) R R) R (.op (O.faP y1W Z R R) R (.op (O.ld nag3 Z R (.B R) R R) R (.op (O.faP y4L Z R R) R (.op (O.ld nag3 Z R (.B R) R R) R (.op (O.bu (l:=[lI x9.1,lI x9.2.1]) pl241 R Z R R R) R (.op (O.faP y2W Z R R) R (.op (O.ld nag3 Z R (.B R) R R) R (.op (O.mu (k:=(x9.1,x9.2.1)) (v:=x9.2.2) md139 (fun _ _=>eqP) Z R R (.a R R) R .k) R (.nil (.blkN (.seqN (.reg (.bi R (.mv R (.nil ((ih6 _ (oi hm).symm).sub [] R))))))))))))))))))))))))))))))
 ·refine .cF R hc ?_
  exact .exit (.seqX (.seqX ((K8 _ (ho6 _ (oi hm).symm)).sub [] R)))
def y5k (p0:AutT×AutT×List Int) (st5:Int):Option (Int ⊕ (Unit ⊕ Int)):=
 if decide (st5 < (([p0.1,p0.2.1]:List AutT).length:Int)) then
  (idx ([p0.1,p0.2.1]:List AutT) st5).bind fun x19=>
  (yF x19).bind fun r20=>
  if(r20 != 0) then
   some (.inr (.inr (r20)))
  else
   some (.inl (W (st5 + 1)))
 else
  some (.inr (.inl ()))
def y5j (p0:AutT×AutT×List Int):Option ((Option ((AutT×(List KeyT))×(AutT×(List KeyT))×(AutT×(List KeyT))×List (List Int)×List Int×List Int))×Int):=
 (iter (y5k p0) 0).bind fun o5=>
 match o5 with
 | .inl u7=>
  (y5b p0.2.1.1 p0.1.1).bind fun r9=>
  if(!r9) then
   some (none,9)
  else
   (y3I p0.2.2 32).bind fun r10=>
   if(r10 != 0) then
    some (none,r10)
   else
    (ym ([p0.1,p0.2.1]:List AutT)).bind fun r11=>
    if(r11.2.2 != 0) then
     some (none,r11.2.2)
    else
     (y3r p0.1.1 p0.2.2).bind fun r12=>
     (y4S p0.1).bind fun r13=>
     (y4S p0.2.1).bind fun r14=>
     (y4S r11.1).bind fun r15=>
     (y3U p0.1.1 r12).bind fun r16=>
     some ((some (r13,r14,r15,r11.2.1,r12,r16)),0)
 | .inr (u17)=>
  some (none,u17)
theorem y9k {p0:AutT×AutT×List Int} {r:(Option ((AutT×(List KeyT))×(AutT×(List KeyT))×(AutT×(List KeyT))×List (List Int)×List Int×List Int))×Int} (hm:y5j p0=some r):
  Fw Tryz.prog 85 ⟨0,[]⟩ [.a [lF qI p0.1.1,lI p0.1.2.1,lF qI p0.1.2.2.1,lF qT p0.1.2.2.2,lF qI p0.2.1.1,lI p0.2.1.2.1,lF qI p0.2.1.2.2.1,lF qT p0.2.1.2.2.2,lF qI p0.2.2]] [] (.tp [.o (lK rE155 155 r.1),.i r.2]) []:=by
 unfold y5j at hm
 refine Fw.mk' Tryz.func85 R Tryz.ntmps85 R R (fun C=>?_) R R
 refine .seq (.reg (.op (O.box 0 R Z R R R) R (.sa R (.sa R (.nil (.seqN (.seq (.seq (.reg (.op (O.faP y5l Z R R) R (.op (O.lg (l':=[lF qI p0.1.1,lI p0.1.2.1,lF qI p0.1.2.2.1,lF qT p0.1.2.2.2]) ag35 Z R (.B R) R R R) R (.op (O.faP y5U Z R R) R (.op (O.lg (l':=[lF qI p0.2.1.1,lI p0.2.1.2.1,lF qI p0.2.1.2.2.1,lF qT p0.2.1.2.2.2]) ag35 Z R (.B R) R R R) R (.op (O.bsF (r:=rE35) (zs:=([p0.1,p0.2.1]:List AutT)) bs66 R R Z R R R (.c (.p .l (.p .k (.p .l .l))) (.c (.p .l (.p .k (.p .l .l))) .n)) R R R) R (.op (O.len sl66 Z R R) R (.mv R (.nil (.seqN (.block (bS hm fun o5 eo5 hm=>?_))))))))))))))))))))
 refine .cutU (z:= .exit 0) (fun u7=> .inl u7=o5) (fun (u7:Unit)=>⟨[(1,.q 0 0)],[(0,.bx 37 [lF qI p0.1.1,lI p0.1.2.1,lF qI p0.1.2.2.1,lF qT p0.1.2.2.2,lF qI p0.2.1.1,lI p0.2.1.2.1,lF qI p0.2.1.2.2.1,lF qT p0.2.1.2.2.2,lF qI p0.2.2])],1⟩) ?_ fun K8=>?_
 ·rintro u7 rfl
  dsimp only at hm
  refine .blkE (.seqN (.seq (.seq (.reg (.op (O.faP y5U Z R R) R (.op (O.faP y1R Z R R) R (.op (O.ld nag32 Z R (.B R) R R) R (.op (O.faP y5l Z R R) R (.op (O.faP y1R Z R R) R (.op (O.ld nag32 Z R (.B R) R R) R (bS hm fun r9 er9 hm=> .op (O.ca0 (y9o er9) cf26 R R Z R R R) R (.op (O.not Z R R) R (.nil (.seqN ?_))))))))))))))
  rcases ifS hm with ⟨hc,hm⟩ | ⟨hc,hm⟩
  ·refine .cT R hc ?_
   refine .seq (.reg (.sa R (.sa R (.nil (.seqN (.ret (.seqR (.cnt 2 R (.c (.pn (r:=rE155) (T:=155)) .n) R ?_))))))))
   obtain rfl:=oi hm
   exact WX.rt [] (.inl R) Tryz.results85 (.tmp R (.tmp R .nil)) R (fun _ _ _ h=>h) trivial
  ·refine .cF R hc ?_
   refine .skip (.seqN (.seq (.seq (.reg (.op (O.faP y7M Z R R) R (.op (O.ld nag32 Z R (.B R) R R) R (bS hm fun r10 er10 hm=> .op (O.ca0 (y5C er10) cf25 R R Z R R R) R (.sa R (.nil (.seqN (.seq (.reg (.mv R (.bi R (.nil (.seqN ?_))))))))))))))))
   rcases ifS hm with ⟨hc,hm⟩ | ⟨hc,hm⟩
   ·refine .cT R hc ?_
    refine .seq (.reg (.mv R (.sa R (.sa R (.nil (.seqN (.ret (.seqR (.cnt 2 R (.c (.pn (r:=rE155) (T:=155)) .n) R ?_)))))))))
    obtain rfl:=oi hm
    exact WX.rt [] (.inl R) Tryz.results85 (.tmp R (.tmp R .nil)) R (fun _ _ _ h=>h) trivial
   ·refine .cF R hc ?_
    refine .skip (.seqN (.seq (.reg (.op (O.faP y5l Z R R) R (.op (O.lg (l':=[lF qI p0.1.1,lI p0.1.2.1,lF qI p0.1.2.2.1,lF qT p0.1.2.2.2]) ag35 Z R (.B R) R R R) R (.op (O.faP y5U Z R R) R (.op (O.lg (l':=[lF qI p0.2.1.1,lI p0.2.1.2.1,lF qI p0.2.1.2.2.1,lF qT p0.2.1.2.2.2]) ag35 Z R (.B R) R R R) R (.op (O.bsF (r:=rE35) (zs:=([p0.1,p0.2.1]:List AutT)) bs66 R R Z R R R (.c (.p .l (.p .k (.p .l .l))) (.c (.p .l (.p .k (.p .l .l))) .n)) R R R) R (bS hm fun r11 er11 hm=> .op (O.ca (r':= .tp [.a [lH 1,lI r11.1.2.1,lH 2,lH 3],.h 4,.i r11.2.2]) [1,2,3,4] [(0,ROW qI 3 r11.1.1),(1,ROW qI 3 r11.1.2.2.1),(2,ROW qT 124 r11.1.2.2.2),(3,ROW (rL qI) 32 r11.2.1)] (some 5) (y4E er11) cf32 R R Z R R R R ⟨⟨_,R,fun _ _ _ _ h=>h⟩,⟨_,R,fun _ _ _ _ h=>h⟩,⟨_,R,fun _ _ _ _ h=>h⟩,⟨_,R,fun _ _ _ _ h=>h⟩,trivial⟩ (fun _ _ _ h=>h) R) R (.mv R (.op (O.ex Z R R R) R (.op (O.ex Z R R R) R (.op (O.ex Z R R R) R (.op (O.al 5 R zz35 R Z R) R (.op (O.st ag35.sz Z R R R R R) R (.sa R (.sa R (.nil (.seqN (.seq (.seq (.reg (.mv R (.bi R (.nil (.seqN ?_))))))))))))))))))))))))))
    rcases ifS hm with ⟨hc,hm⟩ | ⟨hc,hm⟩
    ·refine .cT R hc ?_
     refine .seq (.reg (.mv R (.sa R (.sa R (.nil (.seqN (.ret (.seqR (.cnt 2 R (.c (.pn (r:=rE155) (T:=155)) .n) R ?_)))))))))
     obtain rfl:=oi hm
     exact WX.rt [] (.inl R) Tryz.results85 (.tmp R (.tmp R .nil)) R (fun _ _ _ h=>h) trivial
    ·refine .cF R hc ?_
     refine .skip (.seqN (.seq (.reg (.op (O.faP y5l Z R R) R (.op (O.faP y1R Z R R) R (.op (O.ld nag32 Z R (.B R) R R) R (.op (O.faP y7M Z R R) R (.op (O.ld nag32 Z R (.B R) R R) R (bS hm fun r12 er12 hm=> .op (O.ca (r':= .h 6) [6] [(0,ROW qI 3 r12)] (some 7) (y6o er12) cf145 R R Z R R R R ⟨⟨_,R,fun _ _ _ _ h=>h⟩,trivial⟩ (fun _ _ _ h=>h) R) R (.sa R (.nil (.seqN (.seq (.fz 1 [49,42,48] [5] R R fR R R (.fz 2 [49,42,48] [5] R R fR R R (.fz 3 [49,42,48] [5] R R fR R R ?_))))))))))))))))
     refine .sub (τ:=⟨[(11,.h 6),(9,.h 4),(8,.q 5 0),(1,.q 0 0)],[(6,ROW qI 3 r12),(4,ROW (rL qI) 32 r11.2.1),(5,.bx 35 [lF qI r11.1.1,lI r11.1.2.1,lF qI r11.1.2.2.1,lF qT r11.1.2.2.2]),(0,.bx 37 [lF qI p0.1.1,lI p0.1.2.1,lF qI p0.1.2.2.1,lF qT p0.1.2.2.2,lF qI p0.2.1.1,lI p0.2.1.2.1,lF qI p0.2.1.2.2.1,lF qT p0.2.1.2.2.2,lF qI p0.2.2])],7⟩) ?_ [] R
     refine bS hm fun r13 er13 hm=>bS hm fun r14 er14 hm=>bS hm fun r15 er15 hm=>bS hm fun r16 er16 hm=>?_
     refine .drw [(7,[]),(7,[oT]),(7,[oT,oT]),(7,[]),(7,[oF,oF,oF,oT]),(7,tT 5),(7,[]),(7,tT 7),(7,[]),(7,[]),(7,[]),(7,[oF,oF,oF,oF,oF,oF,oF,oF,oF,oF,oT]),(7,[oF,oF,oF,oF,oF,oF,oF,oF,oF,oF,oT,oT]),(7,[]),(7,tA 8 (fA 2 (tT 4))),(8,tT 15),(8,tT 16),(9,tT 17),(9,tT 18)] [_,_,_,_,_,_,_,_,_,_,_,_,_,_,_,_,_,_,_] ⟨[(3,.i 0),(2,.q 8 0)],[(8,.bx 155 [lF qI r13.1.1,lI r13.1.2.1,lF qI r13.1.2.2.1,lF qT r13.1.2.2.2,lM kvP qI r13.2,lF qI r14.1.1,lI r14.1.2.1,lF qI r14.1.2.2.1,lF qT r14.1.2.2.2,lM kvP qI r14.2,lF qI r15.1.1,lI r15.1.2.1,lF qI r15.1.2.2.1,lF qT r15.1.2.2.2,lM kvP qI r15.2,lH 4,lH 6,lH 7]),(4,ROW (rL qI) 32 r11.2.1),(6,ROW qI 3 r12),(7,ROW qI 3 r16)],9⟩ ⟨O.faP y5l Z R R,O.lg (l':=[lF qI p0.1.1,lI p0.1.2.1,lF qI p0.1.2.2.1,lF qT p0.1.2.2.2]) ag35 Z R (.B R) R R R,O.ca0 (y6g er13) cf151 R R Z R R R,O.faP y5U Z R R,O.lg (l':=[lF qI p0.2.1.1,lI p0.2.1.2.1,lF qI p0.2.1.2.2.1,lF qT p0.2.1.2.2.2]) ag35 Z R (.B R) R R R,O.ca0 (y6g er14) cf151 R R Z R R R,O.lg (l':=[lF qI r11.1.1,lI r11.1.2.1,lF qI r11.1.2.2.1,lF qT r11.1.2.2.2]) ag35 Z R (.B R) R R R,O.ca0 (y6g er15) cf151 R R Z R R R,O.mv Z R R,O.mv Z R R,O.faP y5l Z R R,O.faP y1R Z R R,O.ld nag32 Z R (.B R) R R,O.mv Z R R,O.caY (r':= .h 7) [7] [(0,ROW qI 3 r16)] (some 8) (y5W er16) cf17 R R Z R R ⟨⟨R,LnL.rf⟩,⟨R,.hr R,trivial⟩,trivial⟩ R ⟨.row flr3,trivial⟩ (fun _ _ _ _ h=>h) ⟨⟨_,R,fun _ _ _ _ h=>h⟩,trivial⟩ (fun _ _ _ h=>h) R,O.bu (l:=[lF qI r13.1.1,lI r13.1.2.1,lF qI r13.1.2.2.1,lF qT r13.1.2.2.2,lM kvP qI r13.2,lF qI r14.1.1,lI r14.1.2.1,lF qI r14.1.2.2.1,lF qT r14.1.2.2.2,lM kvP qI r14.2,lF qI r15.1.1,lI r15.1.2.1,lF qI r15.1.2.2.1,lF qT r15.1.2.2.2,lM kvP qI r15.2,lH 4,lH 6,lH 7]) pl155 R Z R R R,O.box 8 R Z R R R,O.as Z R R,O.as Z R R,trivial⟩ (by kernel_rfl) R ?_
     refine .seqN (.ret (.fz 4 [] [8] R R fR R R (.fz 6 [] [8] R R fR R R (.fz 7 [] [8] R R fR R R (.fz 8 [2] [] R R fB R R (.cnt 2 R (.c (.pk (r:=rE155) (.p (.p (.p .l (.p .k (.p .l .l))) .m) (.p (.p (.p .l (.p .k (.p .l .l))) .m) (.p (.p (.p .l (.p .k (.p .l .l))) .m) (.p .l (.p .l .l)))))) .n) R ?_))))))
     obtain rfl:=oi hm
     exact WX.rt [] (.inl R) Tryz.results85 (.tmp R (.tmp R .nil)) R (fun _ _ _ h=>h) trivial
 refine .cutU (z:= .ret) (fun u17=> .inr (u17)=o5) (fun (u17:Int)=>⟨[(3,.i u17),(2,.o (lV (.pointer none)))],[],0⟩) ?_ fun K18=>?_
 ·rintro u17 rfl
  dsimp only at hm
  refine .blkR (.seqR (.cnt 2 R (.c (.pn (r:=rE155) (T:=155)) .n) R ?_))
  obtain rfl:=oi hm
  exact WX.rt [] (.inl R) Tryz.results85 (.tmp R (.tmp R .nil)) R (fun _ _ _ h=>h) trivial
 refine .iter (fun (st5:Int)=>⟨[(18,.i st5),(17,.i (([p0.1,p0.2.1]:List AutT).length:Int)),(16,.f rE35 ([p0.1,p0.2.1]:List AutT)),(1,.q 0 0)],[(0,.bx 37 [lF qI p0.1.1,lI p0.1.2.1,lF qI p0.1.2.2.1,lF qT p0.1.2.2.2,lF qI p0.2.1.1,lI p0.2.1.2.1,lF qI p0.2.1.2.2.1,lF qT p0.2.1.2.2.2,lF qI p0.2.2])],1⟩) eo5 [] R ?_
 intro st5 res5 hm ih5 ho5
 unfold y5k at hm
 refine .seq (.reg (.bi R (.nil (.seqN (.seq ?_)))))
 rcases ifS hm with ⟨hc,hm⟩ | ⟨hc,hm⟩
 ·refine .cT R hc ?_
  refine .skip (.seqN (.seq (.block (.seq (.reg (bS hm fun x19 ex19 hm=> .op (O.ix sl66 Z R R ex19 R) R (.op (O.lg (l':=[lF qI x19.1,lI x19.2.1,lF qI x19.2.2.1,lF qT x19.2.2.2]) ag35 Z R (.E lv35) R R R) R (.op (O.al 1 R zz35 R Z R) R (.op (O.st ag35.sz Z R R R R R) R (.nil (.seqN (.seq (.reg (.op (O.lg (l':=[lF qI x19.1,lI x19.2.1,lF qI x19.2.2.1,lF qT x19.2.2.2]) ag35 Z R (.B R) R R R) R (bS hm fun r20 er20 hm=> .op (O.ca0 (y2O er20) cf101 R R Z R R R) R (.sa R (.nil (.seqN (.seq (.reg (.mv R (.bi R (.nil (.seqN ?_))))))))))))))))))))))))
  rcases ifS hm with ⟨hc,hm⟩ | ⟨hc,hm⟩
  ·refine .cT R hc ?_
   exact .seq (.reg (.mv R (.sa R (.sa R (.nil (.seqN (.ret (.blkR (.seqR (.seqR ((K18 _ (ho5 _ (oi hm).symm)).sub [] R)))))))))))
  ·refine .cF R hc ?_
   exact .skip (.blkN (.seqN (.reg (.bi R (.mv R (.nil ((ih5 _ (oi hm).symm).sub [] R)))))))
 ·refine .cF R hc ?_
  exact .exit (.seqX (.seqX ((K8 _ (ho5 _ (oi hm).symm)).sub [] R)))
def y1d (p0:AutT×(List KeyT)) (p1:Int) (p2:Int):Option Int:=
 if(kget p0.2 (p1,p2)).isSome then
  some ((kget p0.2 (p1,p2)).getD 0)
 else
  some (-1)
theorem y1U {p0:AutT×(List KeyT)} {p1:Int} {p2:Int} {r:Int} (hm:y1d p0 p1 p2=some r):
  Fw Tryz.prog 150 ⟨0,[]⟩ [.a [lF qI p0.1.1,lI p0.1.2.1,lF qI p0.1.2.2.1,lF qT p0.1.2.2.2,lM kvP qI p0.2],.i p1,.i p2] [] (.i r) []:=by
 unfold y1d at hm
 refine Fw.mk' Tryz.func150 R Tryz.ntmps150 R R (fun C=>?_) R R
 refine .seq (.reg (.op (O.box 0 R Z R R R) R (.sa R (.nil (.seqN (.seq (.seq (.reg (.op (O.faP ycK Z R R) R (.op (O.ld yc5 Z R (.B R) R R) R (.mv R (.mv R (.op (O.bu (l:=[lI p1,lI p2]) pl241 R Z R R R) R (.op (O.mi2 (k:=(p1,p2)) md139 Z (.fr R) (.a R R) R) R (.mv R (.op (O.ex Z R R R) R (.op (O.ex Z R R R) R (.sa R (.sa R (.nil (.seqN (.seq (.reg (.mv R (.nil (.seqN ?_))))))))))))))))))))))))))
 rcases ifS hm with ⟨hc,hm⟩ | ⟨hc,hm⟩
 ·refine .cT R hc ?_
  refine .seq (.reg (.mv R (.sa R (.nil (.seqN (.ret (.seqR ?_)))))))
  obtain rfl:=oi hm
  exact WX.rt [] (.inl R) Tryz.results150 (.tmp R .nil) R (fun _ _ _ h=>h) trivial
 ·refine .cF R hc ?_
  refine .skip (.seqN (.seq (.reg (.sa R (.nil (.seqN (.ret ?_)))))))
  obtain rfl:=oi hm
  exact WX.rt [] (.inl R) Tryz.results150 (.tmp R .nil) R (fun _ _ _ h=>h) trivial
end
end Go.Proofs.YtecmobjeeonmaaaGreatDoor
