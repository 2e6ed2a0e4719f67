/- Parts of the proof, without what nothing here names. -/
import Derived.Test.YtfdeiphkmjdifaaGreatDoorChecked
import Derived.Deep.DeepCutAuto
import Derived.RangeFuncNested
import Derived.RangeFuncBound
import Derived.RangeFuncCalls
import Derived.RangeFuncLeaves
import Derived.Shelf.Abstract
import Derived.Shelf.RegionOpen
import Derived.OwnWalkIn
import Derived.TacticsInMore
import Derived.LoopNIn
import Derived.LoopIn
import Derived.Test.YtfdeiphkmjdifaaGreatDoorKt1
set_option maxRecDepth 100000
namespace Go.Proofs.YtfdeiphkmjdifaaGreatDoor
section
open Go.Proofs.Tryz Go Go.RowKit
variable{α:Type}{U:TypeId}{c:Call}{ys:List α}{y:Operand}{zs:List α}{by_:Nat}{z:List Value}{k':IntKind}{T':TypeId}{us:List Value}{ps:List (Nat×List LV)}{d:Nat}{P:Program}{av:List TV}{ob':List Ob}{K':Kx}{A:List (List Nat)}{B:Type}{ops:Array Oper}{Φ:Fr}{Q:Exit→Act→World→Prop}{l':List LV}{x' y':Code}{kt et:TypeId}{zv:Value}{N:Nat}{xss:List (List α)}{hs:List Value}
def upB(β:Nat→Value)(i:Nat)(h:Value):Nat→Value:=fun j=>if j=i then h else β j
theorem y6V{β:Nat→Value}{i:Nat}{h:Value}:upB β i h i=h:=iP rfl
theorem y6i{β:Nat→Value}{i j:Nat}{h:Value}(e:j≠i):upB β i h j=β j:=iN e
abbrev FN(d i:Nat)(x:LV)(o:Ob):Eff:=⟨some (d,sL x),[(i,o)],some (i+1)⟩
abbrev FS(d j i:Nat)(x:LV)(o:Ob):Eff:=⟨some (d,sL x),[(i,o),(j,.u)],some (i+1)⟩
abbrev FO(i:Nat)(o:Ob):Eff:=⟨none,[(i,o)],none⟩
section
variable{K:Kx}{C:Cx}{P:Program}{n:Nat}{ops:Array Oper}{σ:Sx}{d i:Nat}{ty:TypeId}{pos:String}{af:Array Edge}{g:Option (Nat×Bool)}{β:Nat→Value}{s s':Sig}{e:List (Nat×Value)}
theorem Env.get_put{d d':Nat}{v:Value}(h:d≠d'):Env.get ((d,v)::e) d'=Env.get e d':=by
 simp only [Env.get];have:Nat.beq d d'=false:=by cases h0:Nat.beq d d' with | false=>rfl|true=>exact absurd (yNb h0) h
 rw [this];rfl
theorem Aft.new{k:Nat}{x:LV}{o:Ob}{v h:Value}(hi:Nat.ble k i=true)(m:Mv (One (C.tg i)) s s')(hx:x.p (upB β i h) s' v)(ho:o.p (upB β i h) s' (C.tg i) h):Aft C (FN d i x o) k β (upB β i h) s s' e ((d,v)::e) where
 hd j hj:=y6i (by have:=yNl hi;omega)
 hn j hj:=y6i fun e=>hj o (by rw [e];exact .head _)
 mv:=m.weak fun t ht=>⟨i,o,.head _,ht⟩
 sl d' hn:=Env.get_put fun e=>hn (sL x) (by rw [e])
 dst d' x' e:=by cases e;exact⟨v,by simp [Env.get],hx⟩
 ob j o' hm:=by
  rcases yMo.1 hm with e|hm
  ·cases e;rw [y6V];exact ho
  ·cases hm
theorem Aft.suc{k j:Nat}{x:LV}{o:Ob}{v h:Value}(hi:Nat.ble k i=true)(m:Mv (fun t=>t=C.tg i∨t=C.tg j) s s')(hx:x.p (upB β i h) s' v)(ho:o.p (upB β i h) s' (C.tg i) h):Aft C (FS d j i x o) k β (upB β i h) s s' e ((d,v)::e) where
 hd j hj:=y6i (by have:=yNl hi;omega)
 hn j hj:=y6i fun e=>hj o (by rw [e];exact .head _)
 mv:=m.weak fun t ht=>ht.elim (fun ht=>⟨i,o,.head _,ht⟩) (fun ht=>⟨j,.u,.tail _ (.head _),ht⟩)
 sl d' hn:=Env.get_put fun e=>hn (sL x) (by rw [e])
 dst d' x' e:=by cases e;exact⟨v,by simp [Env.get],hx⟩
 ob j o' hm:=by
  rcases yMo.1 hm with e|hm
  ·cases e;rw [y6V];exact ho
  ·rcases yMo.1 hm with e|hm
   ·cases e;trivial
   ·cases hm
theorem Aft.old{k:Nat}{o:Ob}(m:Mv (One (C.tg i)) s s')(ho:o.p β s' (C.tg i) (β i)):Aft C (FO i o) k β β s s' e e where
 hd j hj:=rfl
 hn j hj:=rfl
 mv:=m.weak fun t ht=>⟨i,o,.head _,ht⟩
 sl d' hn:=rfl
 dst d' x' e:=by cases e
 ob j o' hm:=by
  rcases yMo.1 hm with e|hm
  ·cases e;exact ho
  ·cases hm
theorem lH_at{v:Value}(h:v.oneCell'=true):(lH i).p (upB β i v) s v:=⟨y6V.symm,h⟩
def Sig.re(t t':Nat)(s:Sig):Sig:=s.mapT fun x=>if x=t then t' else x
theorem Sig.re_mv{t t':Nat}(s:Sig):Mv (One t) s (s.re t t'):=⟨rfl,rfl,rfl,yNr _,fun b _ hb=>⟨rfl,iN hb⟩⟩
theorem RowT.re{r:Rep α}{a:Option Addr}{c:Nat}{xs:List α}{t t':Nat}(h:RowT r s t U a c xs)(ht:0<t):RowT r (s.re t t') t' U a c xs:=
 h.as ((Sig.re_mv s).le fun e=>by have:0=t:=e;omega) rfl fun b e=>by show(if s.tag b=t then t' else s.tag b)=t';rw [iP e]
def Ry{α:Type}(K:Kx)(C:Cx)(σ:Sx)(y:Operand)(r:Rep α)(ys:List α):Prop:=∀β s e,Den K C σ β s e→∃a c,Env.ev e y=some (.slice a ys.length c)∧RdW r s a c ys
theorem Ry.fr{r:Rep α}(hy:σ.ev y=some (sL (lF r ys))):Ry K C σ y r ys:=fun _ _ _ hd=>by
 obtain⟨v,h1,a,c,rfl,h2⟩:=hd.evv hy;exact⟨a,c,h1,h2.wk⟩
theorem Ry.ow{r:Rep α}(hy:σ.ev y=some (sL (lH i)))(ho:aget σ.ob i=some (ROW r U ys)):Ry K C σ y r ys:=fun _ _ _ hd=>by
 obtain⟨a,c,_,h1,h2⟩:=hd.row hy ho;exact⟨a,c,h1,h2.wk⟩
theorem O.ap{r:Rep α}{xs:List α}{x:Operand}{T:TypeId}{j:Nat}(i:Nat)(hU:P.underlying T=some (.slice U))(hE:El P U r.sz by_)(hby:Nat.ble by_ 32768=true)(hi:Nat.ble σ.n i=true)(hg:Gu ops σ g)(hx:σ.ev x=some (sL (lH j)))(ho:aget σ.ob j=some (ROW r U xs))(hy:Ry K C σ y r ys)(hl:app xs ys=some zs)(hb:Nat.blt d n=true):
  Ox K C P n ops ⟨some d,.call { callee:= .builtin .append,args:= #[x,y],argTypes:= #[T,T] },ty,pos,af,g⟩ σ (FS d j i (lH i) (ROW r U zs)):=fun Φ Q os β s e hd k=>by
 obtain⟨a,c,_,h1,h2⟩:=hd.row hx ho;obtain⟨a2,c2,h3,h4⟩:=hy β s e hd;exact L.ap hU hE hby (by simpa using hd.ok.tpos j) h2 h4 (hd.gd hg) h1 h3 hl hb fun a' c' s' m h5=>k _ (s'.re (C.tg j) (C.tg i)) _ (Aft.suc hi ((m.trans (Sig.re_mv s')).weak fun _ e=> .inr e) (lH_at rfl) ⟨a',c',rfl,h5.re (hd.ok.tpos j)⟩)
theorem O.apN{r:Rep α}{x:Operand}{T:TypeId}(i:Nat)(hU:P.underlying T=some (.slice U))(hE:El P U r.sz by_)(hby:Nat.ble by_ 32768=true)(hi:Nat.ble σ.n i=true)(hg:Gu ops σ g)(hx:σ.ev x=some (VL (.slice none 0 0)))(hy:Ry K C σ y r ys)(hl:app ([]:List α) ys=some zs)(hb:Nat.blt d n=true):
  Ox K C P n ops ⟨some d,.call { callee:= .builtin .append,args:= #[x,y],argTypes:= #[T,T] },ty,pos,af,g⟩ σ (FN d i (lH i) (ROW r U zs)):=fun Φ Q os β s e hd k=>by
 obtain⟨a2,c2,h3,h4⟩:=hy β s e hd;exact L.ap (xs:=[]) hU hE hby (by simpa using hd.ok.tpos i) RowT.nil h4 (hd.gd hg) (hd.evl hx) h3 hl hb fun a' c' s' m h5=>k _ s' _ (Aft.new hi m (lH_at rfl) ⟨a',c',rfl,h5⟩)
theorem O.mk{r:Rep α}{z:α}{x:Operand}{T:TypeId}{k:IntKind}{j:Int}(i:Nat)(hU:P.underlying T=some (.slice U))(hZ:Zr P r U by_ z)(hby:Nat.ble by_ 32768=true)(hi:Nat.ble σ.n i=true)(hg:Gu ops σ g)(hx:σ.ev x=some (VL (.int k j)))(hy:σ.ev y=some (VL (.int k' j)))(hl:mkL j z=some zs)(hb:Nat.blt d n=true):
  Ox K C P n ops ⟨some d,.makeSlice T x y,ty,pos,af,g⟩ σ (FN d i (lH i) (ROW r U zs)):=fun Φ Q os β s e hd k=>
 L.mk (C.tg i) hU hZ hby (hd.gd hg) (hd.evl hx) (hd.evl hy) hl hb fun b s' m h5=>k _ s' _ (Aft.new hi m.no (lH_at rfl) ⟨_,_,rfl,h5⟩)
theorem O.sho{r:Rep α}{xs:List α}{x lo:Operand}{T:TypeId}{q:Nat}{j:Int}(i:Nat)(hS:Sl P T U r.sz)(hi:Nat.ble σ.n i=true)(hg:Gu ops σ g)(hx:σ.ev x=some (sL (lH q)))(ho:aget σ.ob q=some (ROW r T' xs))(hj:σ.ev lo=some (VL (.int k' j)))(hz:slc xs 0 j=some zs)(hb:Nat.blt d n=true):
  Ox K C P n ops ⟨some d,.slice T x none (some lo) none,ty,pos,af,g⟩ σ (FS d q i (lH i) (ROW r T' zs)):=fun Φ Q os β s e hd k=>by
 obtain⟨a,c,_,h1,h2⟩:=hd.row hx ho;exact L.sho hS h2 (hd.gd hg) h1 (hd.evl hj) hz hb fun a' c' h5=>k _ (s.re (C.tg q) (C.tg i)) _ (Aft.suc hi ((Sig.re_mv s).weak fun _ e=> .inr e) (lH_at rfl) ⟨a',c',rfl,h5.re (hd.ok.tpos q)⟩)
/-! Boxes. -/
theorem O.box{T:TypeId}{x:Operand}{y:TV}(i:Nat)(hi:Nat.ble σ.n i=true)(hg:Gu ops σ g)(hx:σ.ev x=some (.v y))(hr:ltA σ.n (refsL y.l)=true)(hb:Nat.blt d n=true):Ox K C P n ops ⟨some d,.box T x,ty,pos,af,g⟩ σ (FN d i (lP i 0) (.bx T y.l)):=fun Φ Q os β s e hd k=>by
 obtain⟨v,h1,h2⟩:=hd.ev hx;refine L.box (C.tg i) (hd.gd hg) h1 rfl hb fun b s' m h5=>k _ s' _ (Aft.new (h:= .pointer (some ⟨b,0,none⟩)) hi m.no ⟨b,y6V,rfl⟩ ⟨b,_,rfl,by simpa using h5,(TV.cells h2).mono m.z fun j hj=>y6i (by have:=y4s hr hj;have:=yNl hi;omega)⟩)
theorem O.al{T:TypeId}{z:Value}(i:Nat)(hi:Nat.ble σ.n i=true)(hz:(P.info? T).bind (·.zero)=some z)(ho:z.cells.toList.all Value.oneCell'=true)(hg:Gu ops σ g)(hb:Nat.blt d n=true):Ox K C P n ops ⟨some d,.alloc T,ty,pos,af,g⟩ σ (FN d i (lP i 0) (.bx T (z.cells.toList.map lV))):=fun Φ Q os β s e hd k=>
 L.al (C.tg i) hz rfl (hd.gd hg) hb fun b s' m h5=>k _ s' _ (Aft.new (h:= .pointer (some ⟨b,0,none⟩)) hi m.no ⟨b,y6V,rfl⟩ ⟨b,_,rfl,by simpa using h5,y9z ho⟩)
theorem All2.splice{l c:List LV}{vs:List Value}(o:Nat)(h:All2 β s l vs)(h2:All2 β s c us):All2 β s (l.take o++c++l.drop (o+c.length)) (vs.take o++us++vs.drop (o+us.length)):=by
 rw [h2.len];exact((h.take o).append h2).append (h.drop _)
def stL :List LV→Nat→List LV→List LV
 | [],_,_=> []
 | x::l,0,[]=>x::l
 | _::l,0,v::vs=>v::stL l 0 vs
 | x::l,o+1,vs=>x::stL l o vs
theorem yaH :∀{l:List LV} {o:Nat} {vs:List LV},o+vs.length≤l.length→stL l o vs=l.take o++vs++l.drop (o+vs.length)
 | [],o,vs,h=>by
  simp only [List.length_nil] at h;have:vs= []:=yLz (by omega);subst this;simp [stL]
 | x::l,0,[],_=>by simp [stL]
 | _::l,0,v::vs,h=>by
  simp only [yLc] at h;have:=yaH (l:=l) (o:=0) (vs:=vs) (by omega);simp only [stL,this];simp
 | x::l,o+1,vs,h=>by
  simp only [yLc] at h;have:=yaH (l:=l) (o:=o) (vs:=vs) (by omega);simp only [stL,this];rw [show o+1+vs.length=(o+vs.length)+1 by omega];simp
theorem O.st{T:TypeId}{x:Operand}{o m:Nat}{l:List LV}{v:TV}(hT:∀w,(sizeOf T).run P w= .ok m w)(hg:Gu ops σ g)(hx:σ.ev x=some (sL (lP i o)))(ho:aget σ.ob i=some (.bx T' l))(hy:σ.ev y=some (.v v))(hm:v.l.length=m)(hf:Nat.ble (o+m) l.length=true):
  Ox K C P n ops ⟨none,.store T x y,ty,pos,af,g⟩ σ (FO i (.bx T' (stL l o v.l))):=fun Φ Q os β s e hd k=>by
 obtain⟨u,h1,b,h2,rfl⟩:=hd.evv hx;obtain⟨w,h3,h4⟩:=hd.ev hy;obtain⟨b',vs,h5,h6,h7⟩:=hd.ob i _ ho;rw [h2] at h5;simp only [Value.pointer.injEq,yIj,Addr.mk.injEq,and_true] at h5;subst h5;have hc:=TV.cells h4;have hf':o+m≤l.length:=yNl hf;refine L.st h6 hT (hd.gd hg) h1 h3 rfl (hc.len.trans hm) hc.one (by rw [hc.len,hm];simpa [h7.len] using hf') rfl fun s' m h8=>k _ s' _ (Aft.old m ⟨b,_,h2,h8,?_⟩);rw [yaH (by rw [hm];exact hf')];have hn:¬One (C.tg i) 0:=fun e=>by have:=hd.ok.tpos i;have:0=C.tg i:=e;omega
 exact(h7.splice o hc).mono (m.le hn) fun _ _=>rfl
theorem O.su{r:Rep α}{xs:List α}{y0 z:α}{T:TypeId}{x:Operand}{o m:Nat}{J:Int}{l:List LV}{v:TV}(hT:∀w,(sizeOf T).run P w= .ok m w)(hg:Gu ops σ g)(hx:σ.ev x=some (sL (lR i r.sz J.toNat o)))(ho:aget σ.ob i=some (ROW r T' xs))(hi:idx xs J=some y0)(hu:upd xs J z=some zs)(hy:σ.ev y=some (.v v))(hm:v.l.length=m)(hf:Nat.ble (o+m) r.sz=true)
  (hL:Lv r y0 l) (hll:Nat.ble (o+m) l.length=true) (hR:Rv r (stL l o v.l) z):Ox K C P n ops ⟨none,.store T x y,ty,pos,af,g⟩ σ (FO i (ROW r T' zs)):=fun Φ Q os β s e hd k=>by
 obtain⟨u,h1,b,q,a,kk,c,h2,h9,rfl⟩:=hd.evv hx;obtain⟨w,h3,h4⟩:=hd.ev hy;obtain⟨a',c',h5,h6⟩:=hd.ob i _ ho;rw [h2] at h5;simp only [Value.slice.injEq] at h5;obtain⟨rfl,rfl,rfl⟩:=h5;have hc:=TV.cells h4;refine L.su h6 h9 hi hu (by simpa using hd.ok.tpos i) hT (hd.gd hg) h1 h3 rfl (hc.len.trans hm) (by simpa using hf) hc.one (fun c0 h0=>hR β s _ (by rw [yaH (by rw [hm];exact yNl hll)];exact(hL β s c0 h0).splice o hc)) fun s' m h8=>k _ s' _ (Aft.old m ⟨a,c,?_,h8⟩);rw [h2,yjk hu]
/-! What is built. -/
def Sx.evp(σ:Sx):List (Nat×Operand)→Option (List (Nat×List LV))
 | []=>some []
 | (i,x)::xs=>match σ.ev x,σ.evp xs with
  | some (.v v),some vs=>some ((i,v.l)::vs)
  | _,_=>none
def fillS(pl:List (Nat×Nat)):List LV→List (Nat×List LV)→Option (List LV)
 | cs,[]=>some cs
 | cs,(i,v)::rest=>match pl[i]? with
  | none=>none
  | some (off,sz)=>cond (Nat.beq v.length sz&&Nat.ble (off+sz) cs.length) (fillS pl (stL cs off v) rest) none
theorem Den.evp(h:Den K C σ β s e):∀{xs:List (Nat×Operand)} {ps:List (Nat×List LV)},σ.evp xs=some ps→∃vs,Env.evp e xs=some vs∧∀{pl:List (Nat×Nat)} {cs l:List LV} {us:List Value},All2 β s cs us→fillS pl cs ps=some l→∃ws,fillL pl us vs=some ws∧All2 β s l ws
 | [],ps,hx=>by simp only [Sx.evp,yIj] at hx;subst hx;exact⟨[],rfl,fun h1 h2=>by cases h2;exact⟨_,rfl,h1⟩⟩
 | (i,x)::xs,ps,hx=>by
  simp only [Sx.evp] at hx;split at hx
  ·rename_i y zs h1 h2;simp only [yIj] at hx;subst hx;obtain⟨v,g1,g2⟩:=h.ev h1;obtain⟨vs,g3,g4⟩:=h.evp h2;refine⟨(i,v)::vs,by simp [Env.evp,g1,g3],fun {pl cs l us} h5 h6=>?_⟩;have hc:=TV.cells g2;simp only [fillS] at h6;simp only [fillL];split at h6
   ·cases h6
   ·rename_i off sz hp
    try rw [hp]
    try dsimp only
    cases hq:(Nat.beq y.l.length sz&&Nat.ble (off+sz) cs.length) with
    | false=>rw [hq] at h6;cases h6
    | true=>
     rw [hq,cond_true] at h6;obtain⟨q1,q2⟩:=Bool.and_eq_true_iff.1 hq;rw [hc.len,h5.len,iP hq];have hsz:y.l.length=sz:=yNb q1;rw [yaH (by rw [hsz];exact yNl q2),hsz] at h6;refine g4 ?_ h6;have:=h5.splice off hc;rw [hc.len,hsz] at this;exact this
  ·cases hx
theorem O.bu{T:TypeId}{pl:List (Nat×Nat)}{xs:List (Nat×Operand)}{l:List LV}(hP:Pl P T pl z)(hz:z.all Value.oneCell'=true)(hg:Gu ops σ g)(hx:σ.evp xs=some ps)(hf:fillS pl (z.map lV) ps=some l)(hb:Nat.blt d n=true):Ox K C P n ops ⟨some d,.build T xs.toArray,ty,pos,af,g⟩ σ (F1 d (AG l)):=
 Ox.pure fun _ _ _ _ _ _ hd k=>by
  obtain⟨vs,h1,h2⟩:=hd.evp hx;obtain⟨ws,h3,h4⟩:=h2 (y9z hz) hf;exact L.bu hP (hd.gd hg) h1 h3 hb (k _ ⟨ws,h4,rfl⟩)
theorem ycG(hz:z.all Value.oneCell'=true):∀k,All2 β s (List.replicate k (z.map lV)).flatten (List.replicate k z).flatten
 | 0=>rfl
 | k+1=>by
  rw [List.replicate_succ,List.flatten_cons,List.replicate_succ,List.flatten_cons];exact(y9z hz).append (ycG hz k)
theorem O.bsF{r:Rep α}{T E m k:Nat}{xs:List (Nat×Operand)}{l:List LV}(hB:Bs P T E m z)(hz:z.all Value.oneCell'=true)(hk:Nat.ble (k*m) 16777216=true)(hg:Gu ops σ g)(hx:σ.evp xs=some ps)(h0:Nat.blt 0 (k*m)=true)(hf:fillS (plK m k 0) (List.replicate k (z.map lV)).flatten ps=some l)(hc:Cv r l zs)(hl:zs.length=k)(hm:Nat.ble k 4294967296=true)(hb:Nat.blt d n=true):
  Ox K C P n ops ⟨some d,.buildSlice T k xs.toArray,ty,pos,af,g⟩ σ (F1 d (sL (lF r zs))):=fun Φ Q os β s e hd q=>by
 obtain⟨vs,h1,h2⟩:=hd.evp hx;obtain⟨ws,h3,h4⟩:=h2 (ycG hz k) hf;have hk':k*m≤2 ^ 24:=yNl hk;have hm':k≤4294967296:=yNl hm;refine L.bsE 0 hB hk' (hd.gd hg) h1 h0 h3 hb fun b s' m h5=>q β s' _ (Aft.one m ⟨_,_,?_,Bx.rdL h5 (by simpa using (hc β s _ h4).mono m.z) (by rw [hl];simp [maxLen];omega)⟩);rw [hl]
theorem O.bsO{r:Rep α}{T E m k:Nat}{xs:List (Nat×Operand)}{l:List LV}(i:Nat)(hi:Nat.ble σ.n i=true)(hB:Bs P T E m z)(hz:z.all Value.oneCell'=true)(hk:Nat.ble (k*m) 16777216=true)(hg:Gu ops σ g)(hx:σ.evp xs=some ps)(h0:Nat.blt 0 (k*m)=true)(hf:fillS (plK m k 0) (List.replicate k (z.map lV)).flatten ps=some l)(hc:Cv r l zs)(hl:zs.length=k)(hm:Nat.ble k 4294967296=true)(hb:Nat.blt d n=true):
  Ox K C P n ops ⟨some d,.buildSlice T k xs.toArray,ty,pos,af,g⟩ σ (FN d i (lH i) (ROW r E zs)):=fun Φ Q os β s e hd q=>by
 obtain⟨vs,h1,h2⟩:=hd.evp hx;obtain⟨ws,h3,h4⟩:=h2 (ycG hz k) hf;have hk':k*m≤2 ^ 24:=yNl hk;have hm':k≤4294967296:=yNl hm;refine L.bsE (C.tg i) hB hk' (hd.gd hg) h1 h0 h3 hb fun b s' m h5=>q _ s' _ (Aft.new (h:= .slice (some ⟨b,0,none⟩) k k) hi m.no (lH_at rfl) ⟨_,_,?_,Bx.row h5 (by simpa using (hc β s _ h4).mono m.z) (by rw [hl];simp [maxLen];omega)⟩);rw [hl]
end
def fzV(i:Nat)(o:Ob)(x:LV):LV:=match o with
 | .hp h=>match x.hd with
  | some j=>cond (Nat.beq j i) h.fz x
  | none=>x
 | .bx T l=>match x.pt with
  | some (j,off)=>cond (Nat.beq j i) (lQ T l off) x
  | none=>x
 | .u=>x
def fzT(i:Nat)(o:Ob)(x:TV):TV:=⟨x.g,x.l.map (fzV i o)⟩
def fzS(i:Nat)(o:Ob):SV→SV
 | .v x=> .v (fzT i o x)
 | .tp l=> .tp (l.map (fzT i o))
 | .u=> .u
def fzB(i:Nat)(o:Ob):Ob→Ob
 | .hp h=> .hp h
 | .bx T l=> .bx T (l.map (fzV i o))
 | .u=> .u
def fzL(i:Nat)(o:Ob)(sl:List (Nat×SV)):List Nat→List (Nat×SV)
 | []=> []
 | d::ds=>(d,match aget sl d with
  | some x=>fzS i o x
  | none=> .u)::fzL i o sl ds
def fzO(i:Nat)(o:Ob)(ob:List (Nat×Ob)):List Nat→List (Nat×Ob)
 | []=> [(i,.u)]
 | b::bs=>(b,match aget ob b with
  | some x=>cond (Nat.beq b i) .u (fzB i o x)
  | none=> .u)::fzO i o ob bs
def Sx.fz(σ:Sx)(i:Nat)(o:Ob)(ds bs:List Nat):Sx:=⟨fzL i o σ.sl ds++σ.sl,fzO i o σ.ob bs++σ.ob,σ.n⟩
theorem ybz{x:SV}:∀{f l:List (Nat×SV)},aget (f++l) d=some x→(d,x)∈f∨aget l d=some x
 | [],l,h=> .inr h
 | (i,o)::f,l,h=>by
  rcases yf (show aget ((i,o)::(f++l)) d=some x from h) with ⟨rfl,rfl⟩|⟨_,h2⟩
  ·exact .inl (.head _)
  ·exact (ybz h2).imp (.tail _) id
theorem ycH{i:Nat}{o:Ob}{sl:List (Nat×SV)}{x:SV}:∀{ds:List Nat},(d,x)∈fzL i o sl ds→d∈ds∧(x= .u∨∃y,aget sl d=some y∧x=fzS i o y)
 | [],h=>by cases h
 | d'::ds,h=>by
  rcases yMo.1 h with e|h
  ·injection e with e1 e2;subst e1;subst e2;refine⟨.head _,?_⟩;cases hy:aget sl d with
   | none=>exact .inl rfl
   | some y=>exact .inr ⟨y,rfl,rfl⟩
  ·obtain ⟨g1,g2⟩:=ycH h;exact⟨.tail _ g1,g2⟩
theorem ycI{i:Nat}{o:Ob}{ob:List (Nat×Ob)}{x:Ob}:∀{ds:List Nat},(d,x)∈fzO i o ob ds→(x= .u∧(d=i∨d∈ds))∨(d≠i∧∃y,aget ob d=some y∧x=fzB i o y)
 | [],h=>by
  rcases yMo.1 h with e|h
  ·cases e;exact .inl ⟨rfl,.inl rfl⟩
  ·cases h
 | d'::ds,h=>by
  rcases yMo.1 h with e|h
  ·injection e with e1 e2;subst e1;subst e2;cases hy:aget ob d with
   | none=>exact .inl ⟨rfl,.inr (.head _)⟩
   | some y=>
    cases hb:Nat.beq d i with
    | true=>exact .inl ⟨rfl,.inl (yNb hb)⟩
    | false=>exact .inr ⟨fun e=>(by rw [e,Nat.beq_refl] at hb;cases hb),y,rfl,rfl⟩
  ·rcases ycI h with ⟨g1,g2⟩|g
   ·exact .inl ⟨g1,g2.imp id (.tail _)⟩
   ·exact .inr g
theorem yfm{i:Nat}{o:Ob}{ob:List (Nat×Ob)}:∀{ds:List Nat},(i,Ob.u)∈fzO i o ob ds
 | []=> .head _
 | _::_=> .tail _ yfm
def hasS(sl:List (Nat×SV))(ds:List Nat):Bool:=ds.all fun d=>(aget sl d).isSome
section
variable{K:Kx}{C:Cx}{P:Program}{σ:Sx}{β β':Nat→Value}{s s':Sig}{e:List (Nat×Value)}{i:Nat}{o:Ob}{v:Value}
theorem fzV_p(hl:Le s s')(ho:o.p β s' 0 (β i)){x:LV}(h:x.p β s v):(fzV i o x).p β s' v:=by
 have hk:x.p β s' v:=x.mono (fun _ _=>rfl) hl h;cases o with
 | hp q=>
  unfold fzV;dsimp only;split
  ·rename_i j hj;cases hb:Nat.beq j i with
   | false=>exact hk
   | true=>
    have hji:j=i:=yNb hb;subst hji;rw [x.hdp hj h];exact q.fzp ho β
  ·exact hk
 | bx T l=>
  unfold fzV;dsimp only;split
  ·rename_i j off hj;cases hb:Nat.beq j i with
   | false=>exact hk
   | true=>
    have hji:j=i:=yNb hb;subst hji;obtain⟨b,h1,h2⟩:=x.ptp hj h;obtain⟨b',vs,h3,h4,h5⟩:=ho;rw [h1] at h3;simp only [Value.pointer.injEq,yIj,Addr.mk.injEq,and_true] at h3;subst h3;exact⟨b,vs,h4,h5,h2⟩
  ·exact hk
 | u=>exact hk
theorem ybA{n:Nat}(hq:∀j,j∈o.refs→j<n)(hz:∀q,o= .hp q→q.fz.refs= []){x:LV}(h:∀j,j∈x.refs→j<n):∀j,j∈(fzV i o x).refs→j<n:=by
 unfold fzV;split
 ·rename_i q;split
  ·rename_i j hj;cases Nat.beq j i with
   | true=>intro j hj;rw [show (cond true q.fz x)=q.fz from rfl,hz q rfl] at hj;cases hj
   | false=>exact h
  ·exact h
 ·split
  ·rename_i j off hj;cases Nat.beq j i with
   | true=>exact hq
   | false=>exact h
  ·exact h
 ·exact h
theorem y9e{n:Nat}{f:LV→LV}(hf:∀x:LV,(∀j,j∈x.refs→j<n)→∀j,j∈(f x).refs→j<n):∀{l:List LV},(∀j,j∈refsL l→j<n)→∀j,j∈refsL (l.map f)→j<n
 | [],h=>h
 | x::l,h=>fun j hj=>by
  rcases yMa.1 (show j∈(f x).refs++refsL (l.map f) from hj) with hj|hj
  ·exact hf x (fun j hj=>h j (yMl _ hj)) j hj
  ·exact y9e hf (fun j hj=>h j (yMr _ hj)) j hj
theorem ydf{n:Nat}{f:LV→LV}(hf:∀x:LV,(∀j,j∈x.refs→j<n)→∀j,j∈(f x).refs→j<n):∀{l:List TV},(∀j,j∈refsT l→j<n)→∀j,j∈refsT (l.map fun x=>⟨x.g,x.l.map f⟩)→j<n
 | [],h=>h
 | x::l,h=>fun j hj=>by
  rcases yMa.1 (show j∈refsL (x.l.map f)++refsT (l.map fun x=>⟨x.g,x.l.map f⟩) from hj) with hj|hj
  ·exact y9e hf (fun j hj=>h j (yMl _ hj)) j hj
  ·exact ydf hf (fun j hj=>h j (yMr _ hj)) j hj
theorem yi3{n:Nat}(hq:∀j,j∈o.refs→j<n)(hz:∀q,o= .hp q→q.fz.refs= []):∀{x:SV},(∀j,j∈x.refs→j<n)→∀j,j∈(fzS i o x).refs→j<n
 | .v _,h=>y9e (fun _ h=>ybA hq hz h) h
 | .tp _,h=>ydf (fun _ h=>ybA hq hz h) h
 | .u,h=>h
theorem ye5{f:LV→LV}(hf:∀x v,x.p β s v→(f x).p β' s' v):∀{l:List LV} {vs:List Value},All2 β s l vs→All2 β' s' (l.map f) vs
 | [],_,h=>h
 | _::_,_,⟨v,us,h1,h2,e⟩=>⟨v,us,hf _ _ h1,ye5 hf h2,e⟩
theorem ygA{f:LV→LV}(hf:∀x v,x.p β s v→(f x).p β' s' v):∀{x:TV},x.p β s v→TV.p β' s' v ⟨x.g,x.l.map f⟩
 | ⟨false,[x]⟩,h=>hf x v h
 | ⟨false,[]⟩,h=>h.elim
 | ⟨false,_::_::_⟩,h=>h.elim
 | ⟨true,_⟩,⟨vs,h,e⟩=>⟨vs,ye5 hf h,e⟩
theorem ygB{f:LV→LV}(hf:∀x v,x.p β s v→(f x).p β' s' v):∀{l:List TV} {vs:List Value},All3 β s l vs→All3 β' s' (l.map fun x=>⟨x.g,x.l.map f⟩) vs
 | [],_,h=>h
 | _::_,_,⟨v,us,h1,h2,e⟩=>⟨v,us,ygA hf h1,ygB hf h2,e⟩
theorem fzS_p(hl:Le s s')(ho:o.p β s' 0 (β i)):∀{x:SV},x.p β s v→(fzS i o x).p β s' v
 | .v _,h=>ygA (fun _ _ h=>fzV_p hl ho h) h
 | .tp _,⟨vs,h,e⟩=>⟨vs,ygB (fun _ _ h=>fzV_p hl ho h) h,e⟩
 | .u,_=>trivial
theorem Den.fz{ds bs:List Nat}(h:Den K C σ β s e)(hk:K.may i=true)(ho:aget σ.ob i=some o)(hz:∀q,o= .hp q→q.fz.refs= [])(hds:hasS σ.sl ds=true)(hbs:(bs.all fun b=>(aget σ.ob b).isSome)=true):Den K C (σ.fz i o ds bs) β (s.fz (C.tg i)) e:=by
 have hm:=Sig.fz_mv (C.tg i) s;have ht:=h.ok.tpos i;have hl:Le s (s.fz (C.tg i)):=hm.le fun e=>by have:0=C.tg i:=e;omega
 have ho':o.p β (s.fz (C.tg i)) 0 (β i):=Ob.as hl rfl (fun b hb=>by simp [Sig.fz,hb]) (fun _ _=>rfl) (h.ob i o ho);have hor:=(h.fo i o ho).2;refine⟨h.ok,h.mv.trans (hm.one (h.ok.up hk)),h.b0,h.m,fun d x hx=>?_,fun j q hq=>?_,fun d x hx=>?_,fun j q hq=>?_⟩
 ·rcases ybz hx with g|g
  ·obtain ⟨g0,g1|⟨y,g1,rfl⟩⟩:=ycH g
   ·subst g1;obtain⟨y,hy⟩:=Option.isSome_iff_exists.1 (yAt.1 hds d g0);obtain⟨v,g2,_⟩:=h.sl d y hy;exact⟨v,g2,trivial⟩
   ·obtain ⟨v,g2,g3⟩:=h.sl d y g1;exact⟨v,g2,fzS_p hl ho' g3⟩
  ·obtain ⟨v,g2,g3⟩:=h.sl d x g;exact⟨v,g2,SV.mono hl (fun _ _=>rfl) g3⟩
 ·have h0:¬One (C.tg i) 0:=fun e=>by have:0=C.tg i:=e;omega
  rcases y9y hq with g|⟨g1,g2⟩
  ·rcases ycI g with ⟨rfl,_⟩|⟨hne,y,g2,rfl⟩
   ·trivial
   ·have hz:=h.ob j y g2;have hn:¬One (C.tg i) (C.tg j):=fun e=>hne (h.ok.inj e);cases y with
    | hp z=>exact z.mv hm hn h0 hz
    | bx T l=>
     obtain⟨b,vs,e1,e2,e3⟩:=hz;exact⟨b,vs,e1,e2.mv hm hn,ye5 (fun _ _ h=>fzV_p hl ho' h) e3⟩
    | u=>trivial
  ·have hne:j≠i:=fun e=>g1 .u (e▸yfm);exact Ob.mv hm (fun e=>hne (h.ok.inj e)) h0 (fun _ _=>rfl) (h.ob j q g2)
 ·rcases ybz hx with g|g
  ·obtain ⟨_,g1|⟨y,g1,rfl⟩⟩:=ycH g
   ·subst g1;intro i hi;cases hi
   ·exact yi3 hor hz (h.fs d y g1)
  ·exact h.fs d x g
 ·rcases y9y hq with g|⟨g1,g2⟩
  ·rcases ycI g with ⟨rfl,g2⟩|⟨hne,y,g2,rfl⟩
   ·refine ⟨?_,fun j hj=>by cases hj⟩;rcases g2 with rfl|g2
    ·exact (h.fo j o ho).1
    ·obtain ⟨y,hy⟩:=Option.isSome_iff_exists.1 (yAt.1 hbs j g2);exact(h.fo j y hy).1
   ·refine ⟨(h.fo j y g2).1,?_⟩;have:=(h.fo j y g2).2;cases y with
    | hp z=>exact this
    | bx T l=>exact y9e (fun _ h=>ybA hor hz h) this
    | u=>exact this
  ·exact h.fo j q g2
end
section
variable{K:Kx}{C:Cx}{Φ:Fr}{P:Program}{Q:Exit→Act→World→Prop}{n:Nat}{ops:Array Oper}{os:List Oper}{σ:Sx}{o:Ob}
theorem V.fz(i:Nat)(ds bs:List Nat)(hk:K.may i=true)(ho:aget σ.ob i=some o)(hz:∀q,o= .hp q→q.fz.refs= [])(hds:hasS σ.sl ds=true)(hbs:(bs.all fun b=>(aget σ.ob b).isSome)=true)(h:V K C Φ P Q n ops os (σ.fz i o ds bs)):V K C Φ P Q n ops os σ:=fun β s e hd=>h β (s.fz (C.tg i)) e (hd.fz hk ho hz hds hbs)
theorem WE.fz{c:Code}(i:Nat)(ds bs:List Nat)(hk:K.may i=true)(ho:aget σ.ob i=some o)(hz:∀q,o= .hp q→q.fz.refs= [])(hds:hasS σ.sl ds=true)(hbs:(bs.all fun b=>(aget σ.ob b).isSome)=true)(h:WE K C Φ P Q n c (σ.fz i o ds bs)):WE K C Φ P Q n c σ:=fun β s e hd=>h β (s.fz (C.tg i)) e (hd.fz hk ho hz hds hbs)
theorem WX.fz{x:Exit}(i:Nat)(ds bs:List Nat)(hk:K.may i=true)(ho:aget σ.ob i=some o)(hz:∀q,o= .hp q→q.fz.refs= [])(hds:hasS σ.sl ds=true)(hbs:(bs.all fun b=>(aget σ.ob b).isSome)=true)(h:WX K C Φ Q n x (σ.fz i o ds bs)):WX K C Φ Q n x σ:=fun β s e hd=>h β (s.fz (C.tg i)) e (hd.fz hk ho hz hds hbs)
end
/-! What a function does: objects 0, 1, .. are the parameters', in order, then those that it makes. -/
def Lft(K:Kx)(ts:List Nat)(β:Nat→Value)(s:Sig)(r:SV)(ob':List Ob):Ending→World→Prop:=RetS (fun t=>∃i,i∈K.S∧ts[i]? =some t) s fun v s'=>∃β',(∀i,i<K.m→β' i=β i)∧r.p β' s' v∧∀(i:Nat) (o:Ob),ob'[i]? =some o→o.p β' s' (ts.getD i 0) (β' i)
structure Fw (P:Program) (f:FuncId) (K:Kx) (av:List TV) (ob:List Ob) (r:SV) (ob':List Ob):Prop where
 is:∀(ts:List Nat) (β:Nat→Value) (s:Sig) (vs:List Value),ts.length=ob'.length→K.m≤ts.length→(ts.take K.m).Nodup→(∀t,t∈ts.take K.m→0<t)→All3 β s av vs→(∀(i:Nat) (o:Ob),ob[i]? =some o→o.p β s (ts.getD i 0) (β i))→Calls P f vs.toArray s.w (Lft K ts β s r ob')
theorem All3.len{β:Nat→Value}{s:Sig}:∀{l:List TV} {vs:List Value},All3 β s l vs→vs.length=l.length
 | [],_,h=>by rw [show _= [] from h];rfl
 | _::_,_,⟨v,us,_,h2,e⟩=>by rw [e,yLc,h2.len,yLc]
def Env.of3 :Nat→List TV→List (Nat×SV)
 | _,[]=> []
 | i,v::vs=>(i,.v v)::Env.of3 (i+1) vs
def Env.ofO :Nat→List Ob→List (Nat×Ob)
 | _,[]=> []
 | i,v::vs=>(i,v)::Env.ofO (i+1) vs
theorem Env.of3_get{β:Nat→Value}{s:Sig}{x:SV}:∀{i:Nat} {l:List TV} {vs:List Value},All3 β s l vs→aget (Env.of3 i l) d=some x→∃v,Env.get (Env.ofArgs i vs) d=some v∧x.p β s v
 | _,[],_,_,h=>by cases h
 | i,y::l,_,⟨v,us,h1,h2,rfl⟩,h=>by
  rcases yf h with ⟨rfl,rfl⟩|⟨hne,h3⟩
  ·exact ⟨v,by simp [Env.ofArgs,Env.get],h1⟩
  ·obtain ⟨u,g1,g2⟩:=Env.of3_get h2 h3;refine⟨u,?_,g2⟩;show Env.get ((i,v)::Env.ofArgs (i+1) us) d=_;rw [Env.get_put hne];exact g1
theorem Env.of3_refs{x:SV}:∀{i:Nat} {l:List TV},aget (Env.of3 i l) d=some x→∀j,j∈x.refs→j∈refsT l
 | _,[],h=>by cases h
 | i,y::l,h=>fun j hj=>by
  rcases yf h with ⟨rfl,rfl⟩|⟨_,h3⟩
  ·exact yMl _ hj
  ·exact yMr _ (Env.of3_refs h3 j hj)
theorem Env.ofO_get{x:Ob}:∀{i:Nat} {l:List Ob},aget (Env.ofO i l) d=some x→i≤d∧l[d-i]? =some x
 | _,[],h=>by cases h
 | i,y::l,h=>by
  rcases yf h with ⟨rfl,rfl⟩|⟨hne,h3⟩
  ·exact ⟨yNr _,by simp⟩
  ·obtain ⟨g1,g2⟩:=Env.ofO_get h3;refine⟨by omega,?_⟩;rw [show d-i=(d-(i+1))+1 by omega,List.getElem?_cons_succ];exact g2
def Fin(K:Kx)(C:Cx)(P:Program)(r:SV)(ob':List Ob):Ending→World→Prop:=fun en w=>∃(ρ:Nat→Nat) (v:Value) (β:Nat→Value) (s:Sig),w=s.w∧en= .returned v∧Mv (C.Up K) C.s0 s∧(∀i,i<K.m→β i=C.b0 i)∧(∀i,i<K.m→ρ i=i)∧(∀i,K.m≤i→i<ob'.length→K.m≤ρ i)∧(∀i j,i<ob'.length→j<ob'.length→ρ i=ρ j→i=j)∧r.p (fun i=>β (ρ i)) s v∧∀(i:Nat) (o:Ob),ob'[i]? =some o→o.p (fun i=>β (ρ i)) s (C.tg (ρ i)) (β (ρ i))
theorem ye6{ρ:Nat→Nat}(k:Nat):∀n:Nat,(∀i j,i<n→j<n→ρ i=ρ j→i=j)→∃f:Nat→Nat,∀i,i<n→f (ρ i)=i
 | 0,_=>⟨fun _=>0,fun _ h=>by omega⟩
 | n+1,hi=>by
  obtain⟨f,hf⟩:=ye6 k n fun i j h1 h2=>hi i j (by omega) (by omega);refine⟨fun x=>if x=ρ n then n else f x,fun i h=>?_⟩;show(if ρ i=ρ n then n else f (ρ i))=i;by_cases e:ρ i=ρ n
  ·rw [iP e];exact(hi i n h (by omega) e).symm
  ·rw [iN e];refine hf i ?_;rcases Nat.lt_or_ge i n with h|h
   ·exact h
   ·have:i=n:=by omega
    subst this;exact absurd rfl e
theorem Fw.mk'{f:FuncId}{K:Kx}{ob:List Ob}{r:SV}{fn:Func}{c:Code}{n:Nat}(hf:P.funcs[f]? =some fn)(hb:fn.body=some c)(hn:fn.ntmps=n)(hv:Nat.ble av.length n=true)(hm:ob.length=K.m)
  (h:∀C:Cx,WE K C Fr.o P (bodyPost P fn (Fin K C P r ob')) n c ⟨Env.of3 0 av,Env.ofO 0 ob,K.m⟩) (hra:ltA K.m (refsT av)=true) (hro:ob.all (fun o=>ltA K.m o.refs)=true):Fw P f K av ob r ob':=by
 refine⟨fun ts β s vs h1 h2 h3 h4 h5 h6=>?_⟩;obtain⟨N0,hN0,hold⟩:=s.fresh;obtain⟨N1,hN1,hlt⟩:=y9W (fun i=>ts.getD i 0) ts.length;have hlen:vs.length=av.length:=h5.len
 let C:Cx:=⟨s,max N0 N1,ts.take K.m,β⟩
 have hts:C.ts.length=K.m:=by simp [C];omega
 have ok:C.Ok K:=⟨hts,by show 0<max N0 N1;omega,fun b hb=>by have:=hold b hb;show s.tag b<max N0 N1;omega,h4,fun t ht=>by
  have ht:t∈ts.take K.m:=ht;obtain⟨i,hi,e⟩:=yGo ht;rw [yLt] at hi;have:=hlt i (by omega);rw [List.getElem_take] at e;rw [yGd,yGe (by omega),Option.getD_some,e] at this;show t<max N0 N1;omega,h3⟩
 have htg:∀i,i<K.m→C.tg i=ts.getD i 0:=fun i hi=>by
  rw [Cx.tg_lt (by omega)];show(ts.take K.m)[i]'_=_;rw [List.getElem_take,yGd,yGe (by omega)];rfl
 refine Calls.mono (w:=s.w) (E.entry hf hb hn (by rw [hlen];exact hv) rfl (h C β s _ ⟨ok,Mv.refl _ _,fun _ _=>rfl,yNr _,fun d x hx=>Env.of3_get h5 hx,fun i o ho=>?_,fun d x hx i hi=>y4s hra (Env.of3_refs hx i hi),fun i o ho=>?_⟩)) fun en w' hh=>?_
 ·obtain ⟨_,g⟩:=Env.ofO_get ho;rw [Nat.sub_zero] at g;have hi:i<K.m:=by rw [←hm];exact(yGs.1 g).1
  rw [htg i hi];exact h6 i o g
 ·obtain ⟨_,g⟩:=Env.ofO_get ho;rw [Nat.sub_zero] at g;obtain⟨g1,g2⟩:=yGs.1 g;exact⟨by show i<K.m;omega,fun j hj=>y4s (yAt.1 hro o (g2▸yGm g1)) hj⟩
 ·obtain ⟨ρ,v,β',s',rfl,rfl,g1,g2,g3,g4,g5,g6,g7⟩:=hh;obtain⟨q,hq⟩:=ye6 0 ob'.length g5
  -- the tags of what was made
  let F:Nat→Nat:=fun k=>ts.getD (q k) 0
  have hup:Mv (fun t=>C.N≤t∨∃i,i∈K.S∧ts[i]? =some t) s s':=g1.weak fun t ht=>ht.imp id fun⟨i,hi,e⟩=>⟨i,hi,by
   have e:(ts.take K.m)[i]? =some t:=e;rw [List.getElem?_take] at e;split at e
   ·exact e
   ·cases e⟩
  have hmv:=Mv.ren (f:=F) hup ok.old;have hl:Le s' (s'.ren C.N F):=Sig.ren_le ok.N0;refine⟨v,s'.ren C.N F,rfl,rfl,hmv,fun i=>β' (ρ i),fun i hi=>by show β' (ρ i)=β i;rw [g3 i hi];exact g2 i hi,SV.mono hl (fun _ _=>rfl) g6,fun i o ho=>Ob.as hl rfl (fun b hb=>?_) (fun _ _=>rfl) (g7 i o ho)⟩;have hi:i<ob'.length:=(yGs.1 ho).1;show(if C.N≤s'.tag b then F (s'.tag b-C.N) else s'.tag b)=_;rw [hb];rcases Nat.lt_or_ge i K.m with hk|hk
  ·rw [g3 i hk,htg i hk];have h9:=hlt i (by omega);rw [iN (by show ¬max N0 N1≤_;omega)]
  ·have h8:=g4 i hk hi;rw [Cx.tg_ge (by rw [hts];exact h8),iP (Nat.le_add_right _ _),Nat.add_sub_cancel_left];show ts.getD (q (ρ i)) 0=_;rw [hq i hi]
section
variable{K:Kx}{C:Cx}{P:Program}{n:Nat}{ops:Array Oper}{σ:Sx}{d i:Nat}{ty:TypeId}{pos:String}{af:Array Edge}{g:Option (Nat×Bool)}{β:Nat→Value}{s s':Sig}{e:List (Nat×Value)}
theorem O.ca0{f:FuncId}{xs:List Operand}{r:SV}(hF:Fw P f ⟨0,[]⟩ av [] r [])(hcf:Cf P f)(hc:c.callee= .value (.func f))(hca:c.args=xs.toArray)(hg:Gu ops σ g)(hx:σ.evs xs=some av)(hr:r.refs= [])(hb:Nat.blt d n=true):Ox K C P n ops ⟨some d,.call c,ty,pos,af,g⟩ σ (F1 d r):=fun Φ Q os β s e hd k=>by
 obtain⟨vs,h1,h2⟩:=hd.evs hx;have hcall:=hF.is [] β s vs rfl (yNr _) (by simp) (by simp) h2 (fun i o h=>by simp at h);refine L.ca hcf hc hca (hd.gd hg) h1 hcall hb fun v s' m hp=>?_;obtain⟨β',_,g1,_⟩:=hp;have m':Mv No s s':=m.weak fun t ⟨i,hi,_⟩=>by cases hi
 exact k β s' _ (Aft.one m' (SV.mono (Le.refl _) (fun i hi=>by rw [hr] at hi;cases hi) g1))
def InL(σ:Sx)(ν:Nat→Nat):Nat→List Ob→Prop
 | _,[]=>True
 | i,o::l=>(∃q,aget σ.ob (ν i)=some q∧∀β s t h,q.p β s t h→o.p (fun i=>β (ν i)) s t h)∧InL σ ν (i+1) l
theorem InL.at{ν:Nat→Nat}{o:Ob}:∀{k:Nat} {l:List Ob} {i:Nat},InL σ ν k l→l[i]? =some o→∃q,aget σ.ob (ν (k+i))=some q∧∀β s t h,q.p β s t h→o.p (fun i=>β (ν i)) s t h
 | _,[],_,_,h=>by cases h
 | k,_::_,0,⟨h1,_⟩,h=>by cases h;exact h1
 | k,_::_,i+1,⟨_,h2⟩,h=>by
  have:=h2.at (i:=i) (by simpa using h);rwa [show k+1+i=k+(i+1) by omega] at this
def OutL(ν:Nat→Nat)(ob':List Ob):List (Nat×Ob)→Prop
 | []=>True
 | (i,o)::l=>(∃q,ob'[i]? =some q∧∀β s t h,q.p (fun i=>β (ν i)) s t h→o.p β s t h)∧OutL ν ob' l
theorem OutL.at{ν:Nat→Nat}{i:Nat}{o:Ob}:∀{l:List (Nat×Ob)},OutL ν ob' l→(i,o)∈l→∃q,ob'[i]? =some q∧∀β s t h,q.p (fun i=>β (ν i)) s t h→o.p β s t h
 | [],_,h=>by cases h
 | _::_,⟨h1,h2⟩,h=>by
  rcases yMo.1 h with e|h
  ·cases e;exact h1
  ·exact h2.at h
theorem bltF{i m:Nat}(h:m≤i):Nat.blt i m=false:=by cases hb:Nat.blt i m with | false=>rfl|true=>simp at hb;omega
def callE(dst:Option (Nat×SV))(ν:List Nat)(l:List (Nat×Ob))(nx:Option Nat):Eff:=⟨dst,l.map fun p=>(ν.getD p.1 0,p.2),nx⟩
def y7q(K':Kx)(n:Nat)(ν:List Nat)(l:List (Nat×Ob))(ob':List Ob)(r:SV):Bool:=
 (yaG ν&&(Nat.beq ν.length ob'.length&&(Nat.ble K'.m ob'.length&&(ltA ob'.length K'.S&&(ltA ob'.length r.refs&&ob'.all fun o=>ltA ob'.length o.refs))))) &&
 (List.range ob'.length).all fun i=>cond (Nat.blt i K'.m) (!K'.S.contains i||l.any fun p=>Nat.beq p.1 i) ((l.any fun p=>Nat.beq p.1 i)&&Nat.ble n (ν.getD i 0))
theorem y9Z{k:Nat}{ν:List Nat}{l:List (Nat×Ob)}{nx:Option Nat}{r:SV}{v:Value}(k0:C.Ok K)(hok:y7q K' k ν l ob' r=true)(hO:OutL (fun i=>ν.getD i 0) ob' l)
  (m:Mv (fun t=>∃i,i∈K'.S∧((List.range ob'.length).map fun i=>C.tg (ν.getD i 0))[i]? =some t) s s')
  (hp:∃β',(∀i,i<K'.m→β' i=β (ν.getD i 0))∧r.p β' s' v∧∀(i:Nat) (o:Ob),ob'[i]? =some o→o.p β' s' (((List.range ob'.length).map fun i=>C.tg (ν.getD i 0)).getD i 0) (β' i)):
  ∃β'',(r.p (fun i=>β'' (ν.getD i 0)) s' v)∧(∀i,i<k→β'' i=β i)∧(∀i,(∀o,(i,o)∉(callE none ν l nx).ob)→β'' i=β i)∧Mv ((callE none ν l nx).T C) s s'∧∀i o,(i,o)∈(callE none ν l nx).ob→o.p β'' s' (C.tg i) (β'' i):=by
 obtain⟨β',g1,g2,g3⟩:=hp;simp only [y7q,yAe] at hok;obtain⟨⟨h1,h2,h3,hS,h4,h5⟩,h6⟩:=hok;have hnd:=y7p h1;have hlen:ν.length=ob'.length:=yNb h2;have inj:∀i j,i<ob'.length→j<ob'.length→ν.getD i 0=ν.getD j 0→i=j:=fun i j hi hj e=>by
  rw [yGd,yGd,yGe (by omega),yGe (by omega)] at e;exact(List.getElem_inj hnd).1 e
 obtain⟨q,hq⟩:=ye6 0 ob'.length inj;have hany:∀i,(l.any fun p=>Nat.beq p.1 i)=true→∃o,(i,o)∈l:=fun i hh=>by
  obtain⟨⟨j,o⟩,hm,hb⟩:=List.any_eq_true.1 hh;have:j=i:=yNb hb;exact⟨o,this▸hm⟩
 have hnew:∀i,i<ob'.length→K'.m≤i→(∃o,(i,o)∈l)∧k≤ν.getD i 0:=fun i hi hm=>by
  have:=yAt.1 h6 i (List.mem_range.2 hi);rw [bltF hm,cond_false] at this;obtain⟨a1,a2⟩:=Bool.and_eq_true_iff.1 this;exact⟨hany i a1,yNl a2⟩
 let nw:Nat→Prop:=fun j=>∃i,i<ob'.length∧K'.m≤i∧ν.getD i 0=j
 have:∀j,Decidable (nw j):=fun j=>Classical.propDecidable _
 let β'':Nat→Value:=fun j=>if nw j then β' (q j) else β j
 have hβ:∀i,i<ob'.length→β'' (ν.getD i 0)=β' i:=fun i hi=>by
  show(if nw (ν.getD i 0) then β' (q (ν.getD i 0)) else β (ν.getD i 0))=β' i;rcases Nat.lt_or_ge i K'.m with hk|hk
  ·rw [iN,g1 i hk];rintro⟨j,hj,hjm,e⟩;have:=inj j i hj hi e;omega
  ·rw [iP ⟨i,hi,hk,rfl⟩,hq i hi]
 have htg:∀i,i<ob'.length→((List.range ob'.length).map fun i=>C.tg (ν.getD i 0)).getD i 0=C.tg (ν.getD i 0):=fun i hi=>by
  simp [yGd,hi]
 refine⟨β'',SV.mono (Le.refl _) (fun i hi=>hβ i (y4s h4 hi)) g2,fun i hi=>iN ?_,fun i hi=>iN ?_,m.weak ?_,fun i o hm=>?_⟩
 ·rintro ⟨j,hj,hjm,e⟩;have:=(hnew j hj hjm).2;omega
 ·rintro ⟨j,hj,hjm,e⟩;obtain⟨o,hm⟩:=(hnew j hj hjm).1;exact hi o (yMp.2 ⟨(j,o),hm,by rw [←e]⟩)
 ·rintro t ⟨i,hi,e⟩;have hl:=y4s hS hi;simp only [List.getElem?_map,List.getElem?_range hl,Option.map_some,yIj] at e;have hcov:∃o,(i,o)∈l:=by
   rcases Nat.lt_or_ge i K'.m with hk|hk
   ·have:=yAt.1 h6 i (List.mem_range.2 hl);rw [show Nat.blt i K'.m=true by simpa using hk,cond_true,List.contains_iff_mem.2 hi] at this;exact hany i (by simpa using this)
   ·exact (hnew i hl hk).1
  obtain⟨o,hm⟩:=hcov;exact⟨ν.getD i 0,o,yMp.2 ⟨(i,o),hm,rfl⟩,e.symm⟩
 ·obtain ⟨⟨j,oo⟩,hj,e⟩:=yMp.1 hm;simp only [Prod.mk.injEq] at e;obtain⟨rfl,rfl⟩:=e;obtain⟨q0,e1,e2⟩:=hO.at hj;have hjl:j<ob'.length:=(yGs.1 e1).1;have h9:=g3 j q0 e1;rw [htg j hjl] at h9;rw [hβ j hjl];refine e2 _ _ _ _ ?_;have hrf:=yAt.1 h5 _ (List.mem_of_getElem? e1);cases q0 with
  | hp z=>exact h9
  | bx T c=>
   obtain⟨b,vs,e3,e4,e5⟩:=h9;exact⟨b,vs,e3,e4,e5.mono (Le.refl _) fun i hi=>hβ i (y4s hrf hi)⟩
  | u=>trivial
theorem ybB{k:Nat}{ys:List TV}{ob:List Ob}{ν:List Nat}{l:List (Nat×Ob)}{r:SV}{f:FuncId}{vs:List Value}(hd:Den K C σ β s e)(hF:Fw P f K' av ob r ob')(hok:y7q K' k ν l ob' r=true)
  (hA:∀β s vs,All3 β s ys vs→All3 (fun i=>β (ν.getD i 0)) s av vs) (hI:InL σ (fun i=>ν.getD i 0) 0 ob) (hol:ob.length=K'.m) (h:All3 β s ys vs):
  Calls P f vs.toArray s.w (Lft K' ((List.range ob'.length).map fun i=>C.tg (ν.getD i 0)) (fun i=>β (ν.getD i 0)) s r ob'):=by
 simp only [y7q,yAe] at hok;obtain⟨⟨h1,h2,h3,hS,h4,h5⟩,h6⟩:=hok;have hnd:=y7p h1;have hlen:ν.length=ob'.length:=yNb h2;have hm:K'.m≤ob'.length:=yNl h3;have hts:((List.range ob'.length).map fun i=>C.tg (ν.getD i 0)).Nodup:=by
  refine List.pairwise_map.2 ((List.nodup_range (n:=ob'.length)).imp_of_mem ?_);intro i j hi hj hne ee;have:=hd.ok.inj ee;rw [yGd,yGd,yGe (by have:=List.mem_range.1 hi;omega),yGe (by have:=List.mem_range.1 hj;omega)] at this;exact hne ((List.getElem_inj hnd).1 this)
 refine hF.is _ _ s vs (by simp) (by simpa using hm) (hts.sublist (List.take_sublist _ _)) (fun t ht=>?_) (hA β s vs h) fun i o ho=>?_
 ·obtain ⟨i,_,rfl⟩:=yMp.1 (List.mem_of_mem_take ht);exact hd.ok.tpos _
 ·obtain ⟨q,e1,e2⟩:=hI.at ho;rw [yNz] at e1;have hi:i<ob'.length:=by have:=(yGs.1 ho).1;omega
  have:((List.range ob'.length).map fun i=>C.tg (ν.getD i 0)).getD i 0=C.tg (ν.getD i 0):=by simp [yGd,hi]
  rw [this];exact e2 β s _ _ (hd.ob _ _ e1)
theorem All3.ren'{μ:Nat→Nat}:∀{l:List TV} {vs:List Value},All3 β s (l.map (TV.ren μ)) vs→All3 (fun i=>β (μ i)) s l vs
 | [],_,h=>h
 | _::_,_,⟨v,us,h1,h2,e⟩=>⟨v,us,TV.ren_p h1,h2.ren',e⟩
def inG(ob:List (Nat×Ob))(μ:Nat→Nat):Nat→List Ob→List (Option Ob)
 | _,[]=> []
 | i,_::l=>aget ob (μ i)::inG ob μ (i+1) l
def inS(μ:Nat→Nat):List Ob→List (Option Ob)
 | []=> []
 | o::l=>some (o.ren μ)::inS μ l
theorem InL.of{μ:Nat→Nat}:∀{i:Nat} {l:List Ob},inG σ.ob μ i l=inS μ l→InL σ μ i l
 | _,[],_=>trivial
 | _,_::_,h=>⟨⟨_,(List.cons.inj h).1,fun _ _ _ _ h=>Ob.ren_p h⟩,InL.of (List.cons.inj h).2⟩
theorem O.ca{f:FuncId}{xs:List Operand}{ob:List Ob}{r r':SV}(ν:List Nat)(l:List (Nat×Ob))(nx:Option Nat)(hF:Fw P f K' av ob r ob')(hcf:Cf P f)(hc:c.callee= .value (.func f))(hca:c.args=xs.toArray)(hg:Gu ops σ g)(hx:σ.evs xs=some (av.map (TV.ren fun i=>ν.getD i 0)))
  (hok:y7q K' σ.n ν l ob' r=true) (hol:ob.length=K'.m) (hI:inG σ.ob (fun i=>ν.getD i 0) 0 ob=inS (fun i=>ν.getD i 0) ob) (hO:OutL (fun i=>ν.getD i 0) ob' l) (hr:∀β s v,r.p (fun i=>β (ν.getD i 0)) s v→r'.p β s v) (hb:Nat.blt d n=true):
  Ox K C P n ops ⟨some d,.call c,ty,pos,af,g⟩ σ (callE (some (d,r')) ν l nx):=fun Φ Q os β s e hd k=>by
 obtain⟨vs,h1,h2⟩:=hd.evs hx;refine L.ca hcf hc hca (hd.gd hg) h1 (ybB hd hF hok (fun _ _ _ h=>h.ren') (InL.of hI) hol h2) hb fun v s' m hp=>?_;obtain⟨β'',g1,g2,g2',g3,g4⟩:=y9Z (nx:=nx) hd.ok hok hO m hp;exact k β'' s' _ ⟨g2,g2',g3,fun d' hn=>Env.get_put fun e=>hn r' (by rw [e];rfl),fun d' x' ee=>(by cases ee;exact⟨v,by simp [Env.get],hr _ _ _ g1⟩),g4⟩
/-! Rows and boxes of one's own, lent to a call. -/
def flatS(r:SV):Prop:=∀β s β' s' v,r.p β s v→r.p β' s' v
end
section
variable{K:Kx}{C:Cx}{Φ:Fr}{P:Program}{Q:Exit→Act→World→Prop}{n:Nat}{ops:Array Oper}{os:List Oper}{σ:Sx}
theorem WE.cT{c:Operand}{x y:Code}{t:Bool}(hx:σ.ev c=some (VL (.bool t)))(ht:t=true)(h:WE K C Φ P Q n x σ):WE K C Φ P Q n (.cond c x y) σ:=fun β s e hd=>E.cT (hd.evl hx) ht (h β s e hd)
theorem WE.cF{c:Operand}{x y:Code}{t:Bool}(hx:σ.ev c=some (VL (.bool t)))(ht:t=false)(h:WE K C Φ P Q n y σ):WE K C Φ P Q n (.cond c x y) σ:=fun β s e hd=>E.cF (hd.evl hx) ht (h β s e hd)
theorem WE.iter{S O:Type}{f:S→Option (S⊕O)}{o:O}{st0:S}{c:Code}(F:S→Sx)(hi:iter f st0=some o)(l:List (Nat×Nat))(h0:(F st0).is K σ l)
  (round:∀st res,f st=some res→(∀st',res= .inl st'→WX K C Φ (Exit.then (LW Φ P Q c) Q) n .normal (F st'))→(∀o',res= .inr o'→o'=o)→WE K C Φ P (Exit.then (LW Φ P Q c) Q) n c (F st)):WE K C Φ P Q n (.loop c) σ:=fun β s e hd=>
 E.iter (fun st e w=>∃β s,Den K C (F st) β s e∧w=s.w) hi (let ⟨β',s',hw,hd'⟩:=hd.sub (Prod.mk.inj h0).1 (Prod.mk.inj h0).2;⟨β',s',hd',hw.symm⟩) (fun _ _ h=>h) fun st res h1 h2 h3 e w ⟨β,s,hd,hw⟩=>by
  subst hw;exact round st res h1 (fun st' e' β s e hd=>h2 st' e' e _ ⟨β,s,hd,rfl⟩) h3 β s e hd
theorem V.know{c b:Bool}(h:aget σ.sl d=some (VL (.bool c)))(hc:c=b)(h2:V K C Φ P Q n ops os ⟨(d,VL (.bool b))::σ.sl,σ.ob,σ.n⟩):V K C Φ P Q n ops os σ:=fun β s e hd=>h2 β s e ⟨hd.ok,hd.mv,hd.b0,hd.m,fun d' x hx=>by
 rcases yf hx with ⟨rfl,rfl⟩|⟨_,hx⟩
 ·exact hc▸hd.sl _ _ h
 ·exact hd.sl _ _ hx,hd.ob,fun d' x hx=>by
 rcases yf hx with ⟨rfl,rfl⟩|⟨_,hx⟩
 ·intro i hi;cases hi
 ·exact hd.fs _ _ hx,hd.fo⟩
theorem V.cut(k:Nat){A:Type}(J:A→Prop)(F:A→Sx)(hj:∀a,J a→V K C Φ P Q n ops (os.drop k) (F a))(h:(∀a,J a→V K C Φ P Q n ops (os.drop k) (F a))→V K C Φ P Q n ops os σ):V K C Φ P Q n ops os σ:=h hj
inductive Rw (P:Program) (σ:Sx):List ResultVar→List TV→Prop
 | nil:Rw P σ [] []
 | tmp {t:Nat} {x:TV} {rs:List ResultVar} {l:List TV}:aget σ.sl t=some (.v x)→Rw P σ rs l→Rw P σ (.tmp t::rs) (x::l)
 | cell {a i m:Nat} {c:List LV} {T T':TypeId} {rs:List ResultVar} {l:List TV}:aget σ.sl a=some (sL (lP i 0))→aget σ.ob i=some (.bx T' c)→Ag P T m→c.length=m→Rw P σ rs l→Rw P σ (.cell a T::rs) (⟨true,c⟩::l)
 | one {a i:Nat} {x:LV} {T T':TypeId} {rs:List ResultVar} {l:List TV}:aget σ.sl a=some (sL (lP i 0))→aget σ.ob i=some (.bx T' [x])→NAg P T→Rw P σ rs l→Rw P σ (.cell a T::rs) (⟨false,[x]⟩::l)
theorem Rw.rs{β:Nat→Value}{s:Sig}{e:List (Nat×Value)}(hd:Den K C σ β s e):∀{rs:List ResultVar} {l:List TV},Rw P σ rs l→∃vs,Rs P e s rs vs∧All3 β s l vs:=by
 intro rs l h
 induction h with
 | nil=>exact⟨[],.nil,rfl⟩
 | tmp h1 _ ih=>
  obtain⟨vs,g1,g2⟩:=ih;obtain⟨v,g3,g4⟩:=hd.sl _ _ h1;exact⟨v::vs,.tmp g3 g1,v,vs,g4,g2,rfl⟩
 | cell h1 h2 h3 h4 _ ih=>
  obtain⟨vs,g1,g2⟩:=ih;obtain⟨v,g3,b,g4,rfl⟩:=hd.sl _ _ h1;obtain⟨b',us,g5,g6,g7⟩:=hd.ob _ _ h2;rw [g4] at g5;simp only [Value.pointer.injEq,yIj,Addr.mk.injEq,and_true] at g5;subst g5;exact⟨.agg us.toArray::vs,.cell g3 g6 h3 (by simpa [g7.len] using h4) g1,_,vs,⟨us,g7,rfl⟩,g2,rfl⟩
 | one h1 h2 h3 _ ih=>
  obtain⟨vs,g1,g2⟩:=ih;obtain⟨v,g3,b,g4,rfl⟩:=hd.sl _ _ h1;obtain⟨b',us,g5,g6,u,us',g7,g8,rfl⟩:=hd.ob _ _ h2;rw [g4] at g5;simp only [Value.pointer.injEq,yIj,Addr.mk.injEq,and_true] at g5;subst g5;have:us'= []:=g8;subst this;exact⟨u::vs,.one g3 (by simpa using g6) h3 g1,u,vs,g7,g2,rfl⟩
def retS :List TV→SV
 | [x]=> .v x
 | l=> .tp l
theorem ykk{β:Nat→Value}{s:Sig}:∀{l:List TV} {vs:List Value},All3 β s l vs→(retS l).p β s (if h:vs.toArray.size=1 then vs.toArray[0] else .tuple vs.toArray)
 | [],vs,h=>⟨vs,h,by rw [show vs= [] from h];rfl⟩
 | [x],_,⟨v,us,h1,h2,e⟩=>by
  have:us= []:=h2;subst this;subst e;exact h1
 | x::y::l,vs,h=>⟨vs,h,by
  obtain⟨v,us,_,⟨u,ws,_,_,rfl⟩,rfl⟩:=h;simp⟩
def EndL(σ:Sx)(ρ:Nat→Nat):Nat→List Ob→Prop
 | _,[]=>True
 | i,o::l=>(∃q,aget σ.ob (ρ i)=some q∧∀β s t h,q.p β s t h→o.p (fun i=>β (ρ i)) s t h)∧EndL σ ρ (i+1) l
theorem EndL.at{ρ:Nat→Nat}{o:Ob}:∀{k:Nat} {l:List Ob} {i:Nat},EndL σ ρ k l→l[i]? =some o→∃q,aget σ.ob (ρ (k+i))=some q∧∀β s t h,q.p β s t h→o.p (fun i=>β (ρ i)) s t h
 | _,[],_,_,h=>by cases h
 | k,_::_,0,⟨h1,_⟩,h=>by cases h;exact h1
 | k,_::_,i+1,⟨_,h2⟩,h=>by
  have:=h2.at (i:=i) (by simpa using h);rwa [show k+1+i=k+(i+1) by omega] at this
def endOk(K:Kx)(N:Nat)(ρ:List Nat):Bool:=yaG ρ&&Nat.beq ρ.length N&&Nat.ble K.m N&&(List.range N).all fun i=>cond (Nat.blt i K.m) (Nat.beq (ρ.getD i 0) i) (Nat.ble K.m (ρ.getD i 0))
theorem WX.rt{fn:Func}{rs:List ResultVar}{l:List TV}{x:Exit}{r:SV}(ρ:List Nat)(hx:x= .ret∨x= .normal)(hr:fn.results=rs.toArray)(hv:Rw P σ rs l)(hok:endOk K ob'.length ρ=true)(hc:∀β s v,(retS l).p β s v→r.p (fun i=>β (ρ.getD i i)) s v)(hE:EndL σ (fun i=>ρ.getD i i) 0 ob'):
  WX K C Fr.o (bodyPost P fn (Fin K C P r ob')) n x σ:=fun β s e hd=>by
 obtain⟨vs,h1,h2⟩:=hv.rs hd;simp only [endOk,yAe] at hok;obtain⟨⟨⟨g1,g2⟩,g3⟩,g4⟩:=hok;have hlen:ρ.length=ob'.length:=yNb g2;have hm:K.m≤ob'.length:=yNl g3;have hnd:=y7p g1;have hgd:∀i,i<ob'.length→ρ.getD i i=ρ.getD i 0:=fun i hi=>by
  rw [yGd,yGd,yGe (by omega)];rfl
 refine X.rt hx hr h1 rfl ⟨fun i=>ρ.getD i i,_,β,s,rfl,rfl,hd.mv,hd.b0,fun i hi=>?_,fun i hi hi2=>?_,fun i j hi hj e=>?_,hc β s _ (ykk h2),fun i o ho=>?_⟩
 ·have:=yAt.1 g4 i (List.mem_range.2 (by omega));rw [show Nat.blt i K.m=true by simpa using hi,cond_true] at this;show ρ.getD i i=i;rw [hgd i (by omega)];exact yNb this
 ·have:=yAt.1 g4 i (List.mem_range.2 hi2);rw [bltF hi,cond_false] at this;show K.m≤ρ.getD i i;rw [hgd i hi2];exact yNl this
 ·have e:ρ.getD i i=ρ.getD j j:=e;rw [yGd,yGd,yGe (by omega),yGe (by omega)] at e;exact(List.getElem_inj hnd).1 e
 ·obtain ⟨q,e1,e2⟩:=hE.at ho;rw [yNz] at e1;exact e2 β s _ _ (hd.ob _ _ e1)
end
def noE :Eff:=⟨none,[],none⟩
def dstIs(f:Eff)(d:Nat):Bool:=match f.dst with
 | some (d',_)=>Nat.beq d' d
 | none=>false
def y4J(f:Eff)(i:Nat):Bool:=f.ob.any fun p=>Nat.beq p.1 i
def pd(A:List (List Nat))(k m:Nat):Bool:=!(Nat.beq m k||(A.getD m []).contains k)
def okD(A:List (List Nat))(fs:List Eff)(N k d:Nat):Bool:=(List.range N).all fun m=>!(dstIs (fs.getD m noE) d&&pd A k m)
def okO(A:List (List Nat))(fs:List Eff)(N k i:Nat):Bool:=(List.range N).all fun m=>!(y4J (fs.getD m noE) i&&pd A k m)
def okJ(A:List (List Nat))(fs:List Eff)(N k j i:Nat):Bool:=(List.range N).all fun m=>Nat.beq m j || !(y4J (fs.getD m noE) i&&(A.getD m []).contains j&&pd A k m)
def muA(fs:List Eff):List Nat→List (Nat×SV)→List (Nat×SV)
 | [],l=>l
 | j::js,l=>match (fs.getD j noE).dst with
  | some p=>p::muA fs js l
  | none=>muA fs js l
def muB(A:List (List Nat))(fs:List Eff)(N k:Nat):List (Nat×SV)→List (Nat×SV)
 | []=> []
 | (d,x)::l=>(d,cond (okD A fs N k d) x .u)::muB A fs N k l
def muC(A:List (List Nat))(fs:List Eff)(N k j:Nat):List (Nat×Ob)→List (Nat×Ob)→List (Nat×Ob)
 | [],l=>l
 | (i,o)::q,l=>cond (okJ A fs N k j i) ((i,o)::muC A fs N k j q l) (muC A fs N k j q l)
def muE(A:List (List Nat))(fs:List Eff)(N k:Nat):List Nat→List (Nat×Ob)→List (Nat×Ob)
 | [],l=>l
 | j::js,l=>muC A fs N k j (fs.getD j noE).ob (muE A fs N k js l)
def muF(A:List (List Nat))(fs:List Eff)(N k:Nat):List (Nat×Ob)→List (Nat×Ob)
 | []=> []
 | (i,o)::l=>(i,cond (okO A fs N k i) o .u)::muF A fs N k l
def muN(fs:List Eff)(n:Nat):List Nat→Nat
 | []=>n
 | j::js=>Nat.max ((fs.getD j noE).n n) (muN fs n js)
def mu(A:List (List Nat))(fs:List Eff)(N:Nat)(σ:Sx)(k:Nat)(B:List Nat):Sx:=⟨muA fs B (muB A fs N k σ.sl),muE A fs N k B (muF A fs N k σ.ob),muN fs σ.n B⟩
def Eff.refs(f:Eff):List Nat:=match f.dst with
 | some (_,x)=>x.refs++refsB f.ob
 | none=>refsB f.ob
def memN(x:Nat):List Nat→Bool
 | []=>false
 | a::l=>cond (Nat.beq a x) true (memN x l)
theorem y8x{x:Nat}:∀{l:List Nat},memN x l=l.contains x
 | []=>rfl
 | a::l=>by
  rw [List.contains_cons,←y8x (l:=l)];simp only [memN];by_cases h:a=x
  ·subst h;rw [Nat.beq_refl];simp
  ·have:Nat.beq a x=false:=by cases h0:Nat.beq a x with | false=>rfl|true=>exact absurd (yNb h0) h
   rw [this];simp [Ne.symm h]
def dsts :List Eff→List Nat
 | []=> []
 | f::fs=>match f.dst with
  | some (d,_)=>d::dsts fs
  | none=>dsts fs
def y8y :List Nat→Bool
 | []=>true
 | x::l=>cond (memN x l) false (y8y l)
theorem ybC{x:SV}:∀{fs:List Eff} {k:Nat},(fs.getD k noE).dst=some (d,x)→memN d (dsts fs)=true
 | [],k,h=>by simp [noE] at h
 | f::fs,0,h=>by
  have h:f.dst=some (d,x):=h;simp only [dsts,h,memN,Nat.beq_refl,cond_true]
 | f::fs,k+1,h=>by
  have:=ybC (fs:=fs) (k:=k) (by simpa using h);simp only [dsts];split
  ·simp only [memN];rw [this];cases Nat.beq _ d <;> rfl
  ·exact this
theorem yfn{x y:SV}:∀{fs:List Eff} {k m:Nat},y8y (dsts fs)=true→(fs.getD k noE).dst=some (d,x)→(fs.getD m noE).dst=some (d,y)→k=m
 | [],k,_,_,h,_=>by simp [noE] at h
 | f::fs,0,0,_,_,_=>rfl
 | f::fs,0,m+1,hn,h1,h2=>by
  have h1:f.dst=some (d,x):=h1;have:=ybC (fs:=fs) (k:=m) (by simpa using h2);simp only [dsts,h1,y8y,this,cond_true] at hn;cases hn
 | f::fs,k+1,0,hn,h1,h2=>by
  have h2:f.dst=some (d,y):=h2;have:=ybC (fs:=fs) (k:=k) (by simpa using h1);simp only [dsts,h2,y8y,this,cond_true] at hn;cases hn
 | f::fs,k+1,m+1,hn,h1,h2=>by
  have hn':y8y (dsts fs)=true:=by
   simp only [dsts] at hn;split at hn
   ·simp only [y8y] at hn;revert hn;cases memN _ (dsts fs) <;> simp
   ·exact hn
  rw [yfn (fs:=fs) hn' (k:=k) (m:=m) (by simpa using h1) (by simpa using h2)]
def ygC(A:List (List Nat))(fs:List Eff)(N n k:Nat)(ob:List (Nat×Ob)):Bool:=(List.range N).all fun j=>Nat.beq j k ||
  ((memN j (A.getD k [])||(memN k (A.getD j [])||ob.all fun p=>!y4J (fs.getD j noE) p.1)) &&
   (memN k (A.getD j [])||(fs.getD j noE).refs.all fun i=>Nat.blt i n || !ob.any fun p=>Nat.beq p.1 i))
def confl(A:List (List Nat))(fs:List Eff)(N n:Nat)(K:Kx):Bool:=y8y (dsts fs)&&(List.range N).all fun k=>(fs.getD k noE).ok K (muN fs n (A.getD k []))&&match (fs.getD k noE).ob with
 | []=>true
 | ob=>ygC A fs N (muN fs n (A.getD k [])) k ob
def y7r(K:Kx)(C:Cx)(P:Program)(n:Nat)(ops:Array Oper)(A:List (List Nat))(fs:List Eff)(N:Nat)(σ:Sx):Nat→List Oper→Prop
 | _,[]=>True
 | k,o::os=>Ox K C P n ops o (mu A fs N σ k (A.getD k [])) (fs.getD k noE)∧y7r K C P n ops A fs N σ (k+1) os
structure Inv (K:Kx) (C:Cx) (A:List (List Nat)) (fs:List Eff) (N:Nat) (σ:Sx) (D:Nat→Bool) (β:Nat→Value) (s:Sig) (e:List (Nat×Value)):Prop where
 ok:C.Ok K
 mv:Mv (C.Up K) C.s0 s
 b0:∀i,i<K.m→β i=C.b0 i
 m:K.m≤σ.n
 s0:∀d x,aget σ.sl d=some x→∃v,Env.get e d=some v
 s1:∀d x,aget σ.sl d=some x→(∀m,m<N→D m=true→dstIs (fs.getD m noE) d=false)→∀v,Env.get e d=some v→x.p β s v
 s2:∀k d x,k<N→D k=true→(fs.getD k noE).dst=some (d,x)→∃v,Env.get e d=some v∧x.p β s v
 o1:∀i o,aget σ.ob i=some o→(∀m,m<N→D m=true→y4J (fs.getD m noE) i=false)→o.p β s (C.tg i) (β i)
 o2:∀k i o,k<N→D k=true→(i,o)∈(fs.getD k noE).ob→(∀m,m<N→D m=true→m≠k→(A.getD m []).contains k=true→y4J (fs.getD m noE) i=false)→o.p β s (C.tg i) (β i)
 fs:∀d x,aget σ.sl d=some x→∀i,i∈x.refs→i<σ.n
 fo:∀i o,aget σ.ob i=some o→i<σ.n∧∀j,j∈o.refs→j<σ.n
theorem nbeq{i j:Nat}(h:i≠j):Nat.beq i j=false:=by cases h0:Nat.beq i j with | false=>rfl|true=>exact absurd (yNb h0) h
section
variable{K:Kx}{C:Cx}{A:List (List Nat)}{fs:List Eff}{N k:Nat}{σ:Sx}{D:Nat→Bool}{β:Nat→Value}{s:Sig}{e:List (Nat×Value)}
theorem yaY{x:SV}:∀{B:List Nat} {l:List (Nat×SV)},aget (muA fs B l) d=some x→(∃j,j∈B∧(fs.getD j noE).dst=some (d,x))∨((∀j,j∈B→dstIs (fs.getD j noE) d=false)∧aget l d=some x)
 | [],l,h=> .inr ⟨fun _ h=>(by cases h),h⟩
 | j::B,l,h=>by
  simp only [muA] at h;cases hd:(fs.getD j noE).dst with
  | none=>
   rw [hd] at h;rcases yaY h with ⟨j',h1,h2⟩|⟨h1,h2⟩
   ·exact .inl ⟨j',.tail _ h1,h2⟩
   ·refine .inr ⟨fun j' hj=>?_,h2⟩;rcases yMo.1 hj with rfl|hj
    ·unfold dstIs;rw [hd]
    ·exact h1 _ hj
  | some p=>
   obtain⟨d',y⟩:=p;rw [hd] at h;rcases yf h with ⟨rfl,rfl⟩|⟨hne,h2⟩
   ·exact .inl ⟨j,.head _,hd⟩
   ·rcases yaY h2 with ⟨j',h1,h2⟩|⟨h1,h2⟩
    ·exact .inl ⟨j',.tail _ h1,h2⟩
    ·refine .inr ⟨fun j' hj=>?_,h2⟩;rcases yMo.1 hj with rfl|hj
     ·unfold dstIs;rw [hd];exact nbeq hne
     ·exact h1 _ hj
theorem ycJ{x:SV}:∀{l:List (Nat×SV)},aget (muB A fs N k l) d=some x→∃y,aget l d=some y∧(x= .u∨(x=y∧okD A fs N k d=true))
 | [],h=>by cases h
 | (i,y)::l,h=>by
  rcases yf (show aget ((i,cond (okD A fs N k i) y .u)::muB A fs N k l) d=some x from h) with ⟨rfl,rfl⟩|⟨hne,h2⟩
  ·refine ⟨y,by simp [aget],?_⟩;cases hc:okD A fs N k i
   ·exact .inl rfl
   ·exact .inr ⟨rfl,rfl⟩
  ·obtain ⟨z,g1,g2⟩:=ycJ h2;refine⟨z,?_,g2⟩;simp only [aget];rw [nbeq hne];exact g1
theorem ycK{j i:Nat}{o:Ob}:∀{q:List (Nat×Ob)} {l:List (Nat×Ob)},aget (muC A fs N k j q l) i=some o→((i,o)∈q∧okJ A fs N k j i=true)∨aget l i=some o
 | [],l,h=> .inr h
 | (i',o')::q,l,h=>by
  simp only [muC] at h;cases hc:okJ A fs N k j i' with
  | false=>
   rw [hc] at h;rcases ycK h with ⟨h1,h2⟩|h2
   ·exact .inl ⟨.tail _ h1,h2⟩
   ·exact .inr h2
  | true=>
   rw [hc,cond_true] at h;rcases yf h with ⟨rfl,rfl⟩|⟨_,h2⟩
   ·exact .inl ⟨.head _,hc⟩
   ·rcases ycK h2 with ⟨h1,h2⟩|h2
    ·exact .inl ⟨.tail _ h1,h2⟩
    ·exact .inr h2
theorem ycL{i:Nat}{o:Ob}:∀{B:List Nat} {l:List (Nat×Ob)},aget (muE A fs N k B l) i=some o→(∃j,j∈B∧(i,o)∈(fs.getD j noE).ob∧okJ A fs N k j i=true)∨aget l i=some o
 | [],l,h=> .inr h
 | j::B,l,h=>by
  rcases ycK (show aget (muC A fs N k j (fs.getD j noE).ob (muE A fs N k B l)) i=some o from h) with ⟨h1,h2⟩|h2
  ·exact .inl ⟨j,.head _,h1,h2⟩
  ·rcases ycL h2 with ⟨j',g1,g2⟩|g
   ·exact .inl ⟨j',.tail _ g1,g2⟩
   ·exact .inr g
theorem ycM{i:Nat}{o:Ob}:∀{l:List (Nat×Ob)},aget (muF A fs N k l) i=some o→(o= .u∧∃y,aget l i=some y)∨(aget l i=some o∧okO A fs N k i=true)
 | [],h=>by cases h
 | (i',y)::l,h=>by
  rcases yf (show aget ((i',cond (okO A fs N k i') y .u)::muF A fs N k l) i=some o from h) with ⟨rfl,rfl⟩|⟨hne,h2⟩
  ·cases hc:okO A fs N k i' with
   | false=>exact .inl ⟨rfl,y,by simp [aget]⟩
   | true=>exact .inr ⟨by simp [aget],rfl⟩
  ·have hb:aget ((i',y)::l) i=aget l i:=by simp only [aget];rw [nbeq hne];rfl
   rw [hb];exact ycM h2
theorem yaI{n:Nat}:∀{B:List Nat},n≤muN fs n B
 | []=>yNr _
 | _::_=>Nat.le_trans yaI (Nat.le_max_right _ _)
theorem ycN{n j:Nat}:∀{B:List Nat},j∈B→(fs.getD j noE).n n≤muN fs n B
 | _::_,.head _=>Nat.le_max_left _ _
 | _::_,.tail _ h=>Nat.le_trans (ycN h) (Nat.le_max_right _ _)
theorem Eff.n_mono{f:Eff}{n n':Nat}(h:n≤n')(h2:n'≤f.n n'):f.n n'≤Nat.max (f.n n) n':=by
 unfold Eff.n at h2 ⊢;cases f.nx with
 | none=>exact Nat.le_max_right _ _
 | some k=>exact Nat.le_max_left _ _
theorem ya0{f:Eff}{n:Nat}(h:f.ok K n=true):(∀d x,f.dst=some (d,x)→∀i,i∈x.refs→i<f.n n)∧(∀i o,(i,o)∈f.ob→K.may i=true∧i<f.n n∧∀j,j∈o.refs→j<f.n n)∧n≤f.n n:=by
 simp only [Eff.ok,yAe] at h;obtain⟨⟨h0,h1⟩,h2⟩:=h;refine⟨fun d x hd i hi=>?_,fun i o hm=>?_,yNl h0⟩
 ·rw [hd] at h2;exact y4s h2 hi
 ·have:=yAt.1 h1 _ hm;simp only [yAe] at this;exact⟨this.1,by simpa using this.2.1,fun j hj=>y4s this.2.2 hj⟩
theorem Inv.mu{B:List Nat}(h:Inv K C A fs N σ D β s e)(hc:confl A fs N σ.n K=true)(hcl:∀j,j∈B→∀i,i∈A.getD j []→i∈B)(hB:∀j,j∈B→j<N∧D j=true)(hD:∀m,m<N→D m=true→pd A k m=true):Den K C (mu A fs N σ k B) β s e:=by
 have hn:σ.n≤muN fs σ.n B:=yaI;have hj:∀j,j∈B→(fs.getD j noE).ok K (muN fs σ.n (A.getD j []))=true∧(fs.getD j noE).n (muN fs σ.n (A.getD j []))≤muN fs σ.n B:=fun j hj=>by
  have hrow:=yAt.1 (Bool.and_eq_true_iff.1 hc).2 j (List.mem_range.2 (hB j hj).1);obtain⟨hmay,_⟩:=Bool.and_eq_true_iff.1 hrow;refine⟨hmay,?_⟩;have h2:=(ya0 hmay).2.2;refine Nat.le_trans (Eff.n_mono yaI h2) (Nat.max_le.2 ⟨ycN hj,?_⟩);have:∀(q:List Nat),(∀i,i∈q→i∈B)→muN fs σ.n q≤muN fs σ.n B:=by
   intro q
   induction q with
   | nil=>intro _;exact yaI
   | cons a q ih=>intro hq;exact Nat.max_le.2 ⟨ycN (hq a (.head _)),ih fun i hi=>hq i (.tail _ hi)⟩
  exact this _ (hcl j hj)
 refine⟨h.ok,h.mv,h.b0,Nat.le_trans h.m hn,fun d x hx=>?_,fun i o ho=>?_,fun d x hx i hi=>?_,fun i o ho=>?_⟩
 ·rcases yaY hx with ⟨j,hj,hd⟩|⟨_,hx⟩
  ·exact h.s2 j d x (hB j hj).1 (hB j hj).2 hd
  ·obtain ⟨y,g1,hxy⟩:=ycJ hx;obtain⟨v,g2⟩:=h.s0 d y g1;refine⟨v,g2,?_⟩;rcases hxy with rfl|⟨rfl,hc⟩
   ·trivial
   ·refine h.s1 d x g1 (fun m hm hDm=>?_) v g2;have:=yAt.1 hc m (List.mem_range.2 hm);rw [hD m hm hDm,Bool.and_true] at this;simpa using this
 ·rcases ycL ho with ⟨j,hj,hm,hc⟩|ho
  ·refine h.o2 j i o (hB j hj).1 (hB j hj).2 hm fun m hm hDm hmj hA=>?_;have:=yAt.1 hc m (List.mem_range.2 hm);rw [nbeq hmj,hA,hD m hm hDm] at this;simpa using this
  ·rcases ycM ho with ⟨rfl,_⟩|⟨g1,hc⟩
   ·trivial
   ·refine h.o1 i o g1 fun m hm hDm=>?_;have:=yAt.1 hc m (List.mem_range.2 hm);rw [hD m hm hDm,Bool.and_true] at this;simpa using this
 ·rcases yaY hx with ⟨j,hjB,hd⟩|⟨_,hx⟩
  ·exact Nat.lt_of_lt_of_le ((ya0 (hj j hjB).1).1 d x hd i hi) (hj j hjB).2
  ·obtain ⟨y,g1,hxy⟩:=ycJ hx;rcases hxy with rfl|⟨rfl,_⟩
   ·cases hi
   ·exact Nat.lt_of_lt_of_le (h.fs d x g1 i hi) hn
 ·rcases ycL ho with ⟨j,hjB,hm,_⟩|ho
  ·obtain ⟨_,g1,g2⟩:=(ya0 (hj j hjB).1).2.1 i o hm;exact⟨Nat.lt_of_lt_of_le g1 (hj j hjB).2,fun q hq=>Nat.lt_of_lt_of_le (g2 q hq) (hj j hjB).2⟩
  ·rcases ycM ho with ⟨rfl,y,g⟩|⟨g,_⟩
   ·exact ⟨Nat.lt_of_lt_of_le (h.fo i y g).1 hn,fun q hq=>by cases hq⟩
   ·exact ⟨Nat.lt_of_lt_of_le (h.fo i o g).1 hn,fun q hq=>Nat.lt_of_lt_of_le ((h.fo i o g).2 q hq) hn⟩
theorem y8g{f:Eff}{i:Nat}{o:Ob}(h:(i,o)∈f.ob):y4J f i=true:=List.any_eq_true.2 ⟨_,h,Nat.beq_refl _⟩
theorem yc8{f:Eff}{i:Nat}(h:y4J f i=false):∀o,(i,o)∉f.ob:=fun o hm=>by rw [y8g hm] at h;cases h
theorem yi4{f:Eff}{i:Nat}{x:SV}(h:f.dst=some (d,x))(hi:i∈x.refs):i∈f.refs:=by unfold Eff.refs;rw [h];exact yMl _ hi
theorem ydg{x:Ob}:∀{l:List (Nat×Ob)},(d,x)∈l→d∈refsB l∧∀i,i∈x.refs→i∈refsB l
 | (j,y)::l,h=>by
  rcases yMo.1 h with e|h2
  ·cases e;exact⟨.head _,fun i hi=> .tail _ (yMl _ hi)⟩
  ·obtain ⟨g1,g2⟩:=ydg h2;exact⟨.tail _ (yMr _ g1),fun i hi=> .tail _ (yMr _ (g2 i hi))⟩
theorem yjm{f:Eff}{i:Nat}{o:Ob}(h:(i,o)∈f.ob):i∈f.refs∧∀j,j∈o.refs→j∈f.refs:=by
 have key:∀j,j∈refsB f.ob→j∈f.refs:=fun j hj=>by unfold Eff.refs;split <;> first | exact hj|exact yMr _ hj
 obtain⟨g1,g2⟩:=ydg h;exact⟨key _ g1,fun j hj=>key _ (g2 j hj)⟩
theorem Inv.step{β':Nat→Value}{s':Sig}{e':List (Nat×Value)}(h:Inv K C A fs N σ D β s e)(hk:k<N)(hDk:D k=false)(hc:confl A fs N σ.n K=true)(hf:∀j,j<N→(A.getD j []).contains k=true→D j=false)(a:Aft C (fs.getD k noE) (muN fs σ.n (A.getD k [])) β β' s s' e e'):Inv K C A fs N σ (upD D k) β' s' e':=by
 obtain⟨hdd,hc⟩:=Bool.and_eq_true_iff.1 hc;have hrow:=yAt.1 hc k (List.mem_range.2 hk);obtain⟨hmay,hrow⟩:=Bool.and_eq_true_iff.1 hrow;obtain⟨hr1,hr2,_⟩:=ya0 hmay;have hn:σ.n≤muN fs σ.n (A.getD k []):=yaI;have hl:Le s s':=a.mv.le (Eff.T0 h.ok);have hup:∀m,D m=true→upD D k m=true:=fun m hm=>yby hm;have hself:upD D k k=true:=by simp [upD]
 have hdn:∀m,upD D k m=true→m≠k→D m=true:=fun m hm hne=>by simpa [upD,nbeq hne] using hm
 have keepE:∀d,dstIs (fs.getD k noE) d=false→Env.get e' d=Env.get e d:=fun d hd=>a.sl d fun x hx=>by
  unfold dstIs at hd;rw [hx] at hd;simp at hd
 have hpair:∀m,m<N→m≠k→D m=true→((A.getD k []).contains m=true∨∀i o,(i,o)∈(fs.getD k noE).ob→y4J (fs.getD m noE) i=false)∧∀i,i∈(fs.getD m noE).refs→β' i=β i:=fun m hm hmk hDm=>by
  by_cases hob:(fs.getD k noE).ob= []
  ·exact ⟨.inr fun i o hio=>(by rw [hob] at hio;cases hio),fun i _=>a.hn i fun o hm'=>(by rw [hob] at hm';cases hm')⟩
  have hrow':ygC A fs N (muN fs σ.n (A.getD k [])) k (fs.getD k noE).ob=true:=by
   revert hrow hob;cases (fs.getD k noE).ob <;> simp
  have hp:=yAt.1 hrow' m (List.mem_range.2 hm);rw [nbeq hmk,Bool.false_or] at hp;obtain⟨hp2,hp3⟩:=Bool.and_eq_true_iff.1 hp;rw [y8x,y8x] at hp2;rw [y8x] at hp3;refine⟨?_,fun i hi=>?_⟩
  ·rcases Bool.or_eq_true_iff.1 hp2 with hp2|hp2
   ·exact .inl hp2
   ·rcases Bool.or_eq_true_iff.1 hp2 with hp2|hp2
    ·rw [hf m hm hp2] at hDm;cases hDm
    ·exact .inr fun i o hio=>by
      have:=yAt.1 hp2 _ hio;simpa using this
  ·rcases Bool.or_eq_true_iff.1 hp3 with hp3|hp3
   ·rw [hf m hm hp3] at hDm;cases hDm
   ·rcases Bool.or_eq_true_iff.1 (yAt.1 hp3 i hi) with g|g
    ·exact a.hd i (by simpa using g)
    ·refine a.hn i fun o hm'=>?_;have:=y8g hm';unfold y4J at this;rw [this] at g;cases g
 have hob:∀(i:Nat) (o:Ob),(∀o',(i,o')∉(fs.getD k noE).ob)→(∀j,j∈o.refs→β' j=β j)→o.p β s (C.tg i) (β i)→o.p β' s' (C.tg i) (β' i):=fun i o hno hdj hp=>by
  rw [a.hn i hno];exact Ob.mv a.mv (Eff.Tn h.ok hno) (Eff.T0 h.ok) hdj hp
 have hm:=h.m;refine⟨h.ok,h.mv.trans (a.mv.weak fun t ⟨i,o,hm,e⟩=>e▸h.ok.up (hr2 i o hm).1),fun i hi=>(a.hd i (by omega)).trans (h.b0 i hi),h.m,fun d x hx=>?_,fun d x hx h1 v hv=>?_,fun m d x hm hDm hd=>?_,fun i o ho h1=>?_,fun m i o hm hDm ho h1=>?_,h.fs,h.fo⟩
 ·cases hd:dstIs (fs.getD k noE) d with
  | false=>rw [keepE d hd];exact h.s0 d x hx
  | true=>
   unfold dstIs at hd;split at hd
   ·rename_i d' y hy;have:d'=d:=yNb hd;subst this;obtain⟨v,g,_⟩:=a.dst d' y hy;exact⟨v,g⟩
   ·cases hd
 ·rw [keepE d (h1 k hk hself)] at hv;exact SV.mono hl (fun i hi=>a.hd i (Nat.lt_of_lt_of_le (h.fs d x hx i hi) hn)) (h.s1 d x hx (fun m hm hDm=>h1 m hm (hup m hDm)) v hv)
 ·by_cases hmk:m=k
  ·subst hmk;exact a.dst d x hd
  ·have hDm':=hdn m hDm hmk;obtain⟨v,g1,g2⟩:=h.s2 m d x hm hDm' hd;obtain⟨_,hp3⟩:=hpair m hm hmk hDm';have hds:dstIs (fs.getD k noE) d=false:=by
    unfold dstIs;split
    ·rename_i d' y hy;by_cases e:d'=d
     ·subst e;exact absurd (yfn hdd hd hy) hmk
     ·exact nbeq e
    ·rfl
   exact⟨v,by rw [keepE d hds];exact g1,SV.mono hl (fun i hi=>hp3 i (yi4 hd hi)) g2⟩
 ·exact hob i o (yc8 (h1 k hk hself)) (fun j hj=>a.hd j (Nat.lt_of_lt_of_le ((h.fo i o ho).2 j hj) hn)) (h.o1 i o ho (fun m hm hDm=>h1 m hm (hup m hDm)))
 ·by_cases hmk:m=k
  ·subst hmk;exact a.ob i o ho
  ·have hDm':=hdn m hDm hmk;obtain⟨hp2,hp3⟩:=hpair m hm hmk hDm';have hnt:∀o',(i,o')∉(fs.getD k noE).ob:=fun o' hm'=>by
    rcases hp2 with g|g
    ·exact yc8 (h1 k hk hself (Ne.symm hmk) g) o' hm'
    ·have:=g i o' hm';rw [y8g ho] at this;cases this
   exact hob i o hnt (fun j hj=>hp3 j ((yjm ho).2 j hj)) (h.o2 m i o hm hDm' ho (fun m' hm' hDm' hne'=>h1 m' hm' (hup m' hDm') hne'))
theorem y7r.at{n:Nat}:∀{l:List Oper} {k:Nat},y7r K C P n ops A fs N σ k l→∀j o,l[j]? =some o→Ox K C P n ops o (mu A fs N σ (k+j) (A.getD (k+j) [])) (fs.getD (k+j) noE)
 | [],_,_,_,_,h=>by cases h
 | _::_,_,h,0,_,ho=>by cases ho;exact h.1
 | _::_,k,h,j+1,o,ho=>by
  have:=h.2.at j o (by simpa using ho);rwa [show k+1+j=k+(j+1) by omega] at this
def y7M(P:Program)(K:Kx)(A:List (List Nat))(fs:List Eff)(n:Nat)(ops:Array Oper):Bool:=decide (P.follows .mixedOrders=true)&&(yc7 ops&&(chkA ops A&&(confl A fs ops.size n K&&(List.range ops.size).all fun k=>(A.getD k []).all fun j=>Nat.blt j ops.size&&(A.getD j []).all fun i=>memN i (A.getD k []))))
theorem ygD{n:Nat}{I:(Nat→Bool)→List (Nat×Value)→Sig→Prop}:∀{l:List Oper} {k:Nat},(∀j o,l[j]? =some o→DStep Φ P Q n ops A I (k+j) o)→yaF Φ P Q n ops A I k l
 | [],_,_=>trivial
 | o::l,k,h=>⟨h 0 o rfl,ygD fun j o' ho=>by
   have:=h (j+1) o' (by simpa using ho);rwa [show k+(j+1)=k+1+j by omega] at this⟩
theorem WE.draw'{n id:Nat}{l:List Oper}(A:List (List Nat))(fs:List Eff)(hs:y7r K C P n l.toArray A fs l.length σ 0 l)(hok:y7M P K A fs σ.n l.toArray=true)(h:WX K C Φ Q n .normal (mu A fs l.length σ l.length (List.range l.length))):WE K C Φ P Q n (.region id l.toArray true) σ:=fun β s e hd=>by
 simp only [y7M,yAe,decide_eq_true_eq,List.size_toArray] at hok;obtain⟨hm,hB,hA,hc,hR⟩:=hok;have hR':∀k,k<l.length→∀j,j∈A.getD k []→j<l.length∧∀i,i∈A.getD j []→i∈A.getD k []:=fun k hk j hj=>by
  have:=yAt.1 (yAt.1 hR k (List.mem_range.2 hk)) j hj;obtain⟨a1,a2⟩:=Bool.and_eq_true_iff.1 this;exact⟨by simpa using a1,fun i hi=>List.contains_iff_mem.1 (y8x▸yAt.1 a2 i hi)⟩
 refine E.draw A (fun D e s=>∃β,Inv K C A fs l.length σ D β s e) hm hB hA ?_ ?_ ?_
 ·intro s0 m;refine⟨β,hd.ok,hd.mv.trans m.no,hd.b0,hd.m,fun d x hx=>?_,fun d x hx _ v hv=>?_,fun k d x _ hD=>(by cases hD),fun i o ho _=>?_,fun k i o _ hD=>(by cases hD),hd.fs,hd.fo⟩
  ·obtain ⟨v,g,_⟩:=hd.sl d x hx;exact⟨v,g⟩
  ·obtain ⟨v',g,g2⟩:=hd.sl d x hx;rw [g] at hv;cases hv;exact SV.mono m.z (fun _ _=>rfl) g2
  ·exact Ob.mv m no_No no_No (fun _ _=>rfl) (hd.ob i o ho)
 ·refine ygD fun k o ho=>?_;rw [yNz];rintro D e' s' ⟨β',hI⟩ hDk hf hAl;have hk:k<l.length:=(yGs.1 ho).1;have hop:=hs.at k o ho;rw [yNz] at hop;have hf':∀j,j<l.length→(A.getD j []).contains k=true→D j=false:=fun j hj=>hf j (by simpa using hj);refine hop Φ _ [] β' s' e' (hI.mu hc (fun j hj=>(hR' k hk j hj).2) (fun j hj=>⟨(hR' k hk j hj).1,hAl.mem j hj⟩) fun m hm hDm=>?_) fun β2 s2 e2 a=>L.nil fun ac ha=>⟨e2,s2,ha,rfl,β2,hI.step hk hDk hc hf' a⟩;unfold pd;have hb:Nat.beq m k=false:=nbeq fun e=>by rw [e,hDk] at hDm;cases hDm
  have hn:(A.getD m []).contains k=false:=by
   cases h0:(A.getD m []).contains k with
   | false=>rfl
   | true=>rw [hf' m hm h0] at hDm;cases hDm
  rw [hb,hn];rfl
 ·rintro D e' s' hD ⟨β',hI⟩;refine h β' s' e' (hI.mu hc (fun j hj i hi=>List.mem_range.2 (hR' j (List.mem_range.1 hj) i hi).1) (fun j hj=>⟨List.mem_range.1 hj,hD j (by simpa using List.mem_range.1 hj)⟩) fun m hm _=>?_);unfold pd;have hn:(A.getD m []).contains l.length=false:=by
   cases h0:(A.getD m []).contains l.length with
   | false=>rfl
   | true=>
    have:=(hR' m hm _ (List.contains_iff_mem.1 h0)).1;omega
  rw [nbeq (by omega),hn];rfl
theorem WE.draw{n id:Nat}{l:List Oper}(A:List (List Nat))(fs:List Eff)(τ:Sx)(hs:y7r K C P n l.toArray A fs l.length σ 0 l)(hok:y7M P K A fs σ.n l.toArray=true)(hτ:τ.is K (mu A fs l.length σ l.length (List.range l.length)) [])(h0:WX K C Φ Q n .normal τ):WE K C Φ P Q n (.region id l.toArray true) σ:= .draw' A fs hs hok (h0.sub [] hτ)
end
theorem Z{σ:Sx}:Gu ops σ none:=trivial
theorem bS{β:Type}{o:Option α}{f:α→Option β}{r:β}{q:Prop}(h:o.bind f=some r)(k:∀x,o=some x→f x=some r→q):q:=by
 obtain⟨x,h1,h2⟩:=Option.bind_eq_some_iff.1 h;exact k x h1 h2
/-! Statements on slots and arguments. -/
@[reducible] def SV.f{α:Type}(r:Rep α)(xs:List α):SV:=sL (lF r xs)
@[reducible] def SV.h(i:Nat):SV:=sL (lH i)
@[reducible] def SV.i(n:Int):SV:=sL (lV (.int .i64 n))
@[reducible] def SV.b(b:Bool):SV:=sL (lV (.bool b))
@[reducible] def SV.q(i o:Nat):SV:=sL (lP i o)
@[reducible] def SV.o(x:LV):SV:=sL x
@[reducible] def SV.g(l:List LV):SV:=AG l
@[reducible] def TV.f{α:Type}(r:Rep α)(xs:List α):TV:=⟨false,[lF r xs]⟩
@[reducible] def TV.h(i:Nat):TV:=⟨false,[lH i]⟩
@[reducible] def TV.i(n:Int):TV:=⟨false,[lV (.int .i64 n)]⟩
@[reducible] def TV.b(b:Bool):TV:=⟨false,[lV (.bool b)]⟩
@[reducible] def TV.o(x:LV):TV:=⟨false,[x]⟩
@[reducible] def TV.a(l:List LV):TV:=⟨true,l⟩
/-! Function values. -/
def FVw{A B:Type}(P:Program)(s:Sig)(v:Value)(args:A→List TV)(res:B→TV)(m:A→Option B):Prop:=
 ∃f fst cap,v= .func (.func f) fst cap∧Cf P f∧∀x r,m x=some r→∀s',Le s s'→∀β vs,All3 β s' (args x) vs→Calls P f (fst++vs.toArray++cap) s'.w (RetS No s' fun v' s''=>∀β',(res r).p β' s'' v')
theorem FVw.mono{A:Type}{s s':Sig}{v:Value}{args:A→List TV}{res:B→TV}{m:A→Option B}(h:FVw P s v args res m)(hl:Le s s'):FVw P s' v args res m:=by
 obtain⟨f,fst,cap,h1,h2,h3⟩:=h;exact⟨f,fst,cap,h1,h2,fun x r hm s'' hl'=>h3 x r hm s'' (hl.trans hl')⟩
def lW{A B:Type}(P:Program)(args:A→List TV)(res:B→TV)(m:A→Option B):LV:=⟨fun _ s v=>FVw P s v args res m,[],none,none,fun _ hl h=>h.mono hl,nofun,nofun,fun⟨_,_,_,e,_⟩=>by rw [e];rfl⟩
section
variable{K:Kx}{C:Cx}{P:Program}{n:Nat}{ops:Array Oper}{σ:Sx}{d i:Nat}{ty:TypeId}{pos:String}{af:Array Edge}{g:Option (Nat×Bool)}{β:Nat→Value}{s s':Sig}{e:List (Nat×Value)}{A B:Type}{args:A→List TV}{res:B→TV}{m:A→Option B}
theorem O.fv{x:Operand}{xs:List Operand}{y:A}{r:B}(hx:σ.ev x=some (sL (lW P args res m)))(hc:c.callee= .value x)(hca:c.args=xs.toArray)(hg:Gu ops σ g)(hxs:σ.evs xs=some (args y))(hm:m y=some r)(hr:refsL (res r).l= [])(hb:Nat.blt d n=true):Ox K C P n ops ⟨some d,.call c,ty,pos,af,g⟩ σ (F1 d (.v (res r))):=fun Φ Q os β s e hd k=>by
 obtain⟨v,h1,f,fst,cap,rfl,hcf,h2⟩:=hd.evv hx;obtain⟨vs,h3,h4⟩:=hd.evs hxs;exact L.fvc hcf hc hca (hd.gd hg) h1 h3 (h2 y r hm s (Le.refl _) β vs h4) hb fun v' s' m' hp=>k β s' _ (Aft.one m' (hp β))
theorem FVw.of{f:FuncId}{caps:List TV}{cs:List Value}(hcf:Cf P f)(hF:∀x r,m x=some r→Fw P f ⟨0,[]⟩ (args x++caps) [] (.v (res r)) [])(hr:∀r,refsL (res r).l= [])(hc:refsT caps= [])(h:All3 β s caps cs):FVw P s (.func (.func f) #[] cs.toArray) args res m:=by
 refine⟨f,#[],cs.toArray,rfl,hcf,fun x r hm s' hl β' vs h2=>?_⟩;have app3:∀{l l':List TV} {vs us:List Value},All3 β' s' l vs→All3 β' s' l' us→All3 β' s' (l++l') (vs++us):=by
  intro l
  induction l with
  | nil=>intro l' vs us h h2;rw [show vs= [] from h];exact h2
  | cons a l ih=>
   intro l' vs us h h2;obtain⟨v,ws,a1,a2,rfl⟩:=h;exact⟨v,ws++us,a1,ih a2 h2,rfl⟩
 have hcall:=(hF x r hm).is [] β' s' (vs++cs) rfl (yNr _) (by simp) (by simp) (app3 h2 (h.mono hl fun i hi=>by rw [hc] at hi;cases hi)) (fun i o h=>by simp at h);have e:(#[]++vs.toArray++cs.toArray:Array Value)=(vs++cs).toArray:=by simp
 rw [e];refine Calls.mono hcall fun en w' ⟨v,s'',a1,a2,a3,β2,_,a4,_⟩=>⟨v,s'',a1,a2,a3.weak fun t ⟨i,hi,_⟩=>(by cases hi),fun β3=>?_⟩;exact TV.mono (Le.refl _) (fun i hi=>by rw [hr r] at hi;cases hi) a4
theorem O.mf{f:FuncId}{ys:List Operand}{caps:List TV}(hcf:Cf P f)(hF:∀x r,m x=some r→Fw P f ⟨0,[]⟩ (args x++caps) [] (.v (res r)) [])(hr:∀r,refsL (res r).l= [])(hc:refsT caps= [])(hg:Gu ops σ g)(hy:σ.evs ys=some caps)(hb:Nat.blt d n=true):Ox K C P n ops ⟨some d,.makeFunc (.func f) #[] ys.toArray,ty,pos,af,g⟩ σ (F1 d (sL (lW P args res m))):=
 Ox.pure fun _ _ _ β s e hd k=>by
  obtain⟨vs,h1,h2⟩:=hd.evs hy;exact L.mf (xs:=[]) (hd.gd hg) rfl h1 hb (k _ (FVw.of hcf hF hr hc h2))
def Cnv(x y:LV):Prop:=∀β s v,x.p β s v→y.p β s v
theorem Cnv.rf{x:LV}:Cnv x x:=fun _ _ _ h=>h
theorem Cnv.fn{f:FuncId}(hcf:Cf P f)(hF:∀x r,m x=some r→Fw P f ⟨0,[]⟩ (args x) [] (.v (res r)) [])(hr:∀r,refsL (res r).l= []):Cnv (lV (.func (.func f) #[] #[])) (lW P args res m):=fun β s v h=>by
 rw [h.1];exact FVw.of (β:=β) (caps:=[]) (cs:=[]) hcf (fun x r hm=>by rw [List.append_nil];exact hF x r hm) hr rfl rfl
theorem Cnv.nf{r:Rep α}:Cnv (lV (.slice none 0 0)) (lF r []):=fun _ _ _ h=>⟨none,0,h.1,RdL.nil⟩
inductive CnvL :List LV→List LV→Prop
 | n:CnvL [] []
 | c {x y:LV} {xs ys:List LV}:Cnv x y→CnvL xs ys→CnvL (x::xs) (y::ys)
theorem CnvL.p{l:List LV}(hc:CnvL l l'):∀{vs:List Value},All2 β s l vs→All2 β s l' vs:=by
 induction hc with
 | n=>exact fun h=>h
 | c h1 _ ih=>intro vs ⟨v,us,g1,g2,e⟩;exact⟨v,us,h1 _ _ _ g1,ih g2,e⟩
theorem CnvL.t{x:Bool}{l:List LV}{v:Value}(hc:CnvL l l')(h:TV.p β s v ⟨x,l⟩):TV.p β s v ⟨x,l'⟩:=by
 cases x with
 | true=>obtain⟨vs,h,e⟩:=h;exact⟨vs,hc.p h,e⟩
 | false=>
  cases hc with
  | n=>exact h
  | c h1 h2=>
   cases h2 with
   | n=>exact h1 _ _ _ h
   | c=>exact h.elim
theorem Den.cnt{x:Bool}{l:List LV}(d:Nat)(h:aget σ.sl d=some (.v ⟨x,l⟩))(hc:CnvL l l')(hr:ltA σ.n (refsL l')=true)(hd:Den K C σ β s e):Den K C ⟨(d,.v ⟨x,l'⟩)::σ.sl,σ.ob,σ.n⟩ β s e:=⟨hd.ok,hd.mv,hd.b0,hd.m,fun d' y hx=>by
 rcases yf hx with ⟨rfl,rfl⟩|⟨_,hx⟩
 ·obtain ⟨v,g1,g2⟩:=hd.sl _ _ h;exact⟨v,g1,hc.t g2⟩
 ·exact hd.sl _ _ hx,hd.ob,fun d' y hx=>by
 rcases yf hx with ⟨rfl,rfl⟩|⟨_,hx⟩
 ·intro i hi;exact y4s hr hi
 ·exact hd.fs _ _ hx,hd.fo⟩
theorem Den.cno{T:TypeId}{l:List LV}(i:Nat)(l':List LV)(h:aget σ.ob i=some (.bx T l))(hc:CnvL l l')(hr:ltA σ.n (refsL l')=true)(hd:Den K C σ β s e):Den K C ⟨σ.sl,(i,.bx T l')::σ.ob,σ.n⟩ β s e:=⟨hd.ok,hd.mv,hd.b0,hd.m,hd.sl,fun j o ho=>by
 rcases yf ho with ⟨rfl,rfl⟩|⟨_,ho⟩
 ·obtain ⟨b,vs,g1,g2,g3⟩:=hd.ob _ _ h;exact⟨b,vs,g1,g2,hc.p g3⟩
 ·exact hd.ob _ _ ho,hd.fs,fun j o ho=>by
 rcases yf ho with ⟨rfl,rfl⟩|⟨_,ho⟩
 ·exact ⟨(hd.fo _ _ h).1,fun j hj=>y4s hr hj⟩
 ·exact hd.fo _ _ ho⟩
theorem All2.nl{r:Rep α}{T:TypeId}{m:Nat}(hb:∀i,i<m→(upB β m (.slice none 0 0)) i=β i):∀{l:List LV} {vs:List Value} (k:Nat),l[k]? =some (lV (.slice none 0 0))→(∀i,i∈refsL l→i<m)→All2 β s l vs→All2 (upB β m (.slice none 0 0)) s (l.set k (lH m)) vs
 | [],_,_,h,_,_=>by cases h
 | x::l,_,0,h,hr,⟨v,us,h1,h2,e⟩=>by
  cases h;exact⟨v,us,by rw [h1.1];exact lH_at rfl,h2.mono (Le.refl _) fun i hi=>hb i (hr i (yMr _ hi)),e⟩
 | x::l,_,k+1,h,hr,⟨v,us,h1,h2,e⟩=>⟨v,us,x.mono (fun i hi=>hb i (hr i (yMl _ hi))) (Le.refl _) h1,All2.nl (r:=r) (T:=T) hb k (by simpa using h) (fun i hi=>hr i (yMr _ hi)) h2,e⟩
theorem ya1{m:Nat}:∀{l:List LV} (k:Nat),(∀i,i∈refsL l→i<m)→∀i,i∈refsL (l.set k (lH m))→i<m+1
 | [],_,_,i,hi=>by cases hi
 | x::l,0,h,i,hi=>by
  rcases yMa.1 (show i∈ [m]++refsL l from hi) with hi|hi
  ·have:=yMs.1 hi;omega
  ·have:=h i (yMr _ hi);omega
 | x::l,k+1,h,i,hi=>by
  rcases yMa.1 (show i∈x.refs++refsL (l.set k (lH m)) from hi) with hi|hi
  ·have:=h i (yMl _ hi);omega
  ·exact ya1 k (fun i hi=>h i (yMr _ hi)) i hi
theorem Den.nl(r:Rep α)(T:TypeId){sl:Option (Nat×SV)}{ob:Option (Nat×Ob)}(hd:Den K C σ β s e)
  (h1:∀d x,sl=some (d,x)→(∃v,Env.get e d=some v∧x.p (upB β σ.n (.slice none 0 0)) s v)∧∀i,i∈x.refs→i<σ.n+1)
  (h2:∀i o,ob=some (i,o)→o.p (upB β σ.n (.slice none 0 0)) s (C.tg i) (β i)∧i<σ.n∧∀j,j∈o.refs→j<σ.n+1):
  Den K C ⟨sl.toList++σ.sl,(σ.n,ROW r T [])::(ob.toList++σ.ob),σ.n+1⟩ (upB β σ.n (.slice none 0 0)) s e:=by
 have hm:=hd.m;have hb:∀i,i<σ.n→upB β σ.n (.slice none 0 0) i=β i:=fun i hi=>y6i (by omega);have o1:∀d x,aget σ.sl d=some x→(∃v,Env.get e d=some v∧x.p (upB β σ.n (.slice none 0 0)) s v)∧∀i,i∈x.refs→i<σ.n+1:=fun d x hx=>by
  obtain⟨v,g1,g2⟩:=hd.sl _ _ hx;exact⟨⟨v,g1,SV.mono (Le.refl _) (fun i hi=>hb i (hd.fs _ _ hx i hi)) g2⟩,fun i hi=>by have:=hd.fs _ _ hx i hi;omega⟩
 have o2:∀i o,aget σ.ob i=some o→o.p (upB β σ.n (.slice none 0 0)) s (C.tg i) (β i)∧i<σ.n∧∀j,j∈o.refs→j<σ.n+1:=fun i o ho=>by
  obtain⟨g1,g2⟩:=hd.fo _ _ ho;exact⟨Ob.as (Le.refl _) rfl (fun _ h=>h) (fun j hj=>hb j (g2 j hj)) (hd.ob _ _ ho),g1,fun j hj=>by have:=g2 j hj;omega⟩
 have q1:∀d x,aget (sl.toList++σ.sl) d=some x→(∃v,Env.get e d=some v∧x.p (upB β σ.n (.slice none 0 0)) s v)∧∀i,i∈x.refs→i<σ.n+1:=fun d x hx=>by
  cases sl with
  | none=>exact o1 d x hx
  | some p=>
   obtain⟨d',y⟩:=p;rcases yf hx with ⟨rfl,rfl⟩|⟨_,hx⟩
   ·exact h1 _ _ rfl
   ·exact o1 d x hx
 have q2:∀i o,aget (ob.toList++σ.ob) i=some o→o.p (upB β σ.n (.slice none 0 0)) s (C.tg i) (β i)∧i<σ.n∧∀j,j∈o.refs→j<σ.n+1:=fun i o ho=>by
  cases ob with
  | none=>exact o2 i o ho
  | some p=>
   obtain⟨d',y⟩:=p;rcases yf ho with ⟨rfl,rfl⟩|⟨_,ho⟩
   ·exact h2 _ _ rfl
   ·exact o2 i o ho
 refine⟨hd.ok,hd.mv,fun i hi=>(hb i (by omega)).trans (hd.b0 i hi),by show K.m≤σ.n+1;omega,fun d x hx=>(q1 d x hx).1,fun i o ho=>?_,fun d x hx=>(q1 d x hx).2,fun i o ho=>?_⟩
 ·rcases yf ho with ⟨rfl,rfl⟩|⟨_,ho⟩
  ·exact ⟨none,0,y6V,RowT.nil⟩
  ·obtain ⟨g1,g2,_⟩:=q2 i o ho;rw [hb i g2];exact g1
 ·rcases yf ho with ⟨rfl,rfl⟩|⟨_,ho⟩
  ·exact ⟨by show σ.n<σ.n+1;omega,fun j hj=>by cases hj⟩
  ·obtain ⟨_,g2,g3⟩:=q2 i o ho;exact⟨by show i<σ.n+1;omega,g3⟩
theorem Den.nlg(r:Rep α)(T:TypeId){x:Bool}{l:List LV}(d k:Nat)(h:aget σ.sl d=some (.v ⟨x,l⟩))(hk:l[k]? =some (lV (.slice none 0 0)))(hd:Den K C σ β s e):Den K C ⟨(d,.v ⟨x,l.set k (lH σ.n)⟩)::σ.sl,(σ.n,ROW r T [])::σ.ob,σ.n+1⟩ (upB β σ.n (.slice none 0 0)) s e:=by
 have hb:∀i,i<σ.n→upB β σ.n (.slice none 0 0) i=β i:=fun i hi=>y6i (by omega);refine hd.nl r T (sl:=some (d,.v ⟨x,l.set k (lH σ.n)⟩)) (ob:=none) (fun d' y e=>?_) (fun _ _ e=>by cases e);cases e;have hr:=hd.fs _ _ h;obtain⟨v,g1,g2⟩:=hd.sl _ _ h;refine⟨⟨v,g1,?_⟩,ya1 k hr⟩
 match x,l,g2 with
 | true,l,⟨vs,g,e⟩=>exact⟨vs,All2.nl (r:=r) (T:=T) hb k hk hr g,e⟩
 | false,[y],g=>
  match k,hk with
  | 0,hk=>cases hk;exact⟨y6V.symm▸g.1,by rw [g.1];rfl⟩
  | k+1,hk=>simp at hk
theorem Den.nlb(r:Rep α)(T:TypeId){l:List LV}(i k:Nat)(h:aget σ.ob i=some (.bx T' l))(hk:l[k]? =some (lV (.slice none 0 0)))(hd:Den K C σ β s e):Den K C ⟨σ.sl,(σ.n,ROW r T [])::(i,.bx T' (l.set k (lH σ.n)))::σ.ob,σ.n+1⟩ (upB β σ.n (.slice none 0 0)) s e:=by
 have hb:∀i,i<σ.n→upB β σ.n (.slice none 0 0) i=β i:=fun i hi=>y6i (by omega);refine hd.nl r T (sl:=none) (ob:=some (i,.bx T' (l.set k (lH σ.n)))) (fun _ _ e=>by cases e) (fun i' o e=>?_);cases e;obtain⟨g1,hr⟩:=hd.fo _ _ h;obtain⟨b,vs,g2,g3,g4⟩:=hd.ob _ _ h;exact⟨⟨b,vs,g2,g3,All2.nl (r:=r) (T:=T) hb k hk hr g4⟩,g1,ya1 k hr⟩
end
section
variable{K:Kx}{C:Cx}{Φ:Fr}{P:Program}{Q:Exit→Act→World→Prop}{n:Nat}{ops:Array Oper}{os:List Oper}{σ:Sx}{c:Code}{z:Exit}{x y:LV}
theorem WE.cnt{x:Bool}{l:List LV}(d:Nat)(h:aget σ.sl d=some (.v ⟨x,l⟩))(hc:CnvL l l')(hr:ltA σ.n (refsL l')=true)(h2:WE K C Φ P Q n c ⟨(d,.v ⟨x,l'⟩)::σ.sl,σ.ob,σ.n⟩):WE K C Φ P Q n c σ:=fun β s e hd=>h2 β s e (hd.cnt d h hc hr)
theorem WE.cno{T:TypeId}{l:List LV}(i:Nat)(h:aget σ.ob i=some (.bx T l))(hc:CnvL l l')(hr:ltA σ.n (refsL l')=true)(h2:WE K C Φ P Q n c ⟨σ.sl,(i,.bx T l')::σ.ob,σ.n⟩):WE K C Φ P Q n c σ:=fun β s e hd=>h2 β s e (hd.cno i l' h hc hr)
theorem WE.nlg(r:Rep α)(T:TypeId){x:Bool}{l:List LV}(d k:Nat)(h:aget σ.sl d=some (.v ⟨x,l⟩))(hk:l[k]? =some (lV (.slice none 0 0)))(h2:WE K C Φ P Q n c ⟨(d,.v ⟨x,l.set k (lH σ.n)⟩)::σ.sl,(σ.n,ROW r T [])::σ.ob,σ.n+1⟩):WE K C Φ P Q n c σ:=fun β s e hd=>h2 _ s e (hd.nlg r T d k h hk)
theorem WE.nlb(r:Rep α)(T:TypeId){l:List LV}(i k:Nat)(h:aget σ.ob i=some (.bx T' l))(hk:l[k]? =some (lV (.slice none 0 0)))(h2:WE K C Φ P Q n c ⟨σ.sl,(σ.n,ROW r T [])::(i,.bx T' (l.set k (lH σ.n)))::σ.ob,σ.n+1⟩):WE K C Φ P Q n c σ:=fun β s e hd=>h2 _ s e (hd.nlb r T i k h hk)
theorem WX.cnt{x:Bool}{l:List LV}(d:Nat)(h:aget σ.sl d=some (.v ⟨x,l⟩))(hc:CnvL l l')(hr:ltA σ.n (refsL l')=true)(h2:WX K C Φ Q n z ⟨(d,.v ⟨x,l'⟩)::σ.sl,σ.ob,σ.n⟩):WX K C Φ Q n z σ:=fun β s e hd=>h2 β s e (hd.cnt d h hc hr)
theorem WX.cno{T:TypeId}{l:List LV}(i:Nat)(h:aget σ.ob i=some (.bx T l))(hc:CnvL l l')(hr:ltA σ.n (refsL l')=true)(h2:WX K C Φ Q n z ⟨σ.sl,(i,.bx T l')::σ.ob,σ.n⟩):WX K C Φ Q n z σ:=fun β s e hd=>h2 β s e (hd.cno i l' h hc hr)
theorem WX.nlg(r:Rep α)(T:TypeId){x:Bool}{l:List LV}(d k:Nat)(h:aget σ.sl d=some (.v ⟨x,l⟩))(hk:l[k]? =some (lV (.slice none 0 0)))(h2:WX K C Φ Q n z ⟨(d,.v ⟨x,l.set k (lH σ.n)⟩)::σ.sl,(σ.n,ROW r T [])::σ.ob,σ.n+1⟩):WX K C Φ Q n z σ:=fun β s e hd=>h2 _ s e (hd.nlg r T d k h hk)
theorem WX.nlb(r:Rep α)(T:TypeId){l:List LV}(i k:Nat)(h:aget σ.ob i=some (.bx T' l))(hk:l[k]? =some (lV (.slice none 0 0)))(h2:WX K C Φ Q n z ⟨σ.sl,(σ.n,ROW r T [])::(i,.bx T' (l.set k (lH σ.n)))::σ.ob,σ.n+1⟩):WX K C Φ Q n z σ:=fun β s e hd=>h2 _ s e (hd.nlb r T i k h hk)
theorem fR{r:Rep α}{T:TypeId}{xs:List α}:∀q,ROW r T xs= .hp q→q.fz.refs= []:=fun q e=>by cases e;rfl
theorem fB{T:TypeId}{l:List LV}:∀q,Ob.bx T l= .hp q→q.fz.refs= []:=fun q e=>by cases e
abbrev lN :LV:=lV (.slice none 0 0)
theorem WE.cut1{A:Type}{z:Exit}(o:A)(F:A→Sx)(hj:WX K C Φ Q n z (F o))(h:(∀a,a=o→WX K C Φ Q n z (F a))→WE K C Φ P Q n c σ):WE K C Φ P Q n c σ:=h fun _ e=>e▸hj
theorem WE.cutU{A:Type}{z:Exit}(J:A→Prop)(F:A→Sx)(hj:∀a,J a→WX K C Φ Q n z (F a))(h:(∀a,J a→WX K C Φ Q n z (F a))→WE K C Φ P Q n c σ):WE K C Φ P Q n c σ:=h hj
theorem WE.join0(J:Prop)(F:Sx)(hy:J→WE K C Φ P Q n y' F)(h:(J→WX K C Φ (Exit.then (y'.wpIn Φ.f 2 P Q) Q) n .normal F)→WE K C Φ P (Exit.then (y'.wpIn Φ.f 2 P Q) Q) n x' σ):WE K C Φ P Q n (.seq x' y') σ:=WE.seq (h fun j=>WX.seqN (hy j))
theorem WE.join1{A:Type}(J:A→Prop)(F:A→Sx)(hy:∀a,J a→WE K C Φ P Q n y' (F a))(h:(∀a,J a→WX K C Φ (Exit.then (y'.wpIn Φ.f 2 P Q) Q) n .normal (F a))→WE K C Φ P (Exit.then (y'.wpIn Φ.f 2 P Q) Q) n x' σ):WE K C Φ P Q n (.seq x' y') σ:=WE.seq (h fun a j=>WX.seqN (hy a j))
theorem WE.join2{A:Type}(J:A→B→Prop)(F:A→B→Sx)(hy:∀a b,J a b→WE K C Φ P Q n y' (F a b))(h:(∀a b,J a b→WX K C Φ (Exit.then (y'.wpIn Φ.f 2 P Q) Q) n .normal (F a b))→WE K C Φ P (Exit.then (y'.wpIn Φ.f 2 P Q) Q) n x' σ):WE K C Φ P Q n (.seq x' y') σ:=WE.seq (h fun a b j=>WX.seqN (hy a b j))
theorem WE.join3{A D:Type}(J:A→B→D→Prop)(F:A→B→D→Sx)(hy:∀a b d,J a b d→WE K C Φ P Q n y' (F a b d))(h:(∀a b d,J a b d→WX K C Φ (Exit.then (y'.wpIn Φ.f 2 P Q) Q) n .normal (F a b d))→WE K C Φ P (Exit.then (y'.wpIn Φ.f 2 P Q) Q) n x' σ):WE K C Φ P Q n (.seq x' y') σ:=WE.seq (h fun a b d j=>WX.seqN (hy a b d j))
theorem WE.join5{A D G H:Type}(J:A→B→D→G→H→Prop)(F:A→B→D→G→H→Sx)(hy:∀a b d g h,J a b d g h→WE K C Φ P Q n y' (F a b d g h))(h:(∀a b d g h,J a b d g h→WX K C Φ (Exit.then (y'.wpIn Φ.f 2 P Q) Q) n .normal (F a b d g h))→WE K C Φ P (Exit.then (y'.wpIn Φ.f 2 P Q) Q) n x' σ):WE K C Φ P Q n (.seq x' y') σ:=WE.seq (h fun a b d g h' j=>WX.seqN (hy a b d g h' j))
end
theorem CnvL.rf :∀{l:List LV},CnvL l l
 | []=> .n
 | _::_=> .c Cnv.rf CnvL.rf
def CnvA :List TV→List TV→Prop
 | [],[]=>True
 | x::xs,y::ys=>(x.g=y.g∧CnvL x.l y.l)∧CnvA xs ys
 | _,_=>False
theorem Lv.s{x:ByteArray}:Lv rStr x [lV (.string x)]:=fun _ _ _ h=>⟨_,[],⟨rfl,rfl⟩,rfl,h⟩
theorem Rv.s{x:ByteArray}:Rv rStr [lV (.string x)] x:=fun _ _ _ ⟨_,_,h,h2,e⟩=>by rw [e,h.1,show _= [] from h2];rfl
section
variable{K:Kx}{C:Cx}{P:Program}{n:Nat}{ops:Array Oper}{σ:Sx}{d i:Nat}{ty:TypeId}{pos:String}{af:Array Edge}{g:Option (Nat×Bool)}{β:Nat→Value}{s s':Sig}{e:List (Nat×Value)}
theorem CnvA.p :∀{l l':List TV} {vs:List Value},CnvA l l'→All3 β s l vs→All3 β s l' vs
 | [],[],_,_,h=>h
 | ⟨_,_⟩::_,⟨_,_⟩::_,_,⟨⟨e,h1⟩,h2⟩,⟨v,us,g1,g2,e2⟩=>by
  cases e;exact⟨v,us,h1.t g1,h2.p g2,e2⟩
 | [],_::_,_,h,_=>h.elim
 | _::_,[],_,h,_=>h.elim
theorem O.ca0c{f:FuncId}{xs:List Operand}{ys:List TV}{r:SV}(hF:Fw P f ⟨0,[]⟩ av [] r [])(hcf:Cf P f)(hc:c.callee= .value (.func f))(hca:c.args=xs.toArray)(hg:Gu ops σ g)(hx:σ.evs xs=some ys)(hcv:CnvA ys av)(hr:r.refs= [])(hb:Nat.blt d n=true):Ox K C P n ops ⟨some d,.call c,ty,pos,af,g⟩ σ (F1 d r):=fun Φ Q os β s e hd k=>by
 obtain⟨vs,h1,h2⟩:=hd.evs hx;have hcall:=hF.is [] β s vs rfl (yNr _) (by simp) (by simp) (hcv.p h2) (fun i o h=>by simp at h);refine L.ca hcf hc hca (hd.gd hg) h1 hcall hb fun v s' m hp=>?_;obtain⟨β',_,g1,_⟩:=hp;have m':Mv No s s':=m.weak fun t ⟨i,hi,_⟩=>by cases hi
 exact k β s' _ (Aft.one m' (SV.mono (Le.refl _) (fun i hi=>by rw [hr] at hi;cases hi) g1))
theorem O.eqs{T:TypeId}{x:Operand}{vs:List Value}{l:List LV}{b:Bool}(hE:Eqs P T us vs b)(hq:P.eqGuardType P.depth T=false)(hg:Gu ops σ g)(hx:σ.ev x=some (AG l))(hy:σ.ev y=some (AG l'))(hl:(l,l')=(us.map lV,vs.map lV))(hb:Nat.blt d n=true):Ox K C P n ops ⟨some d,.binOp .eql T x y U,ty,pos,af,g⟩ σ (F1 d (VL (.bool b))):=
 Ox.pure fun _ _ _ β s _ hd k=>by
  have key:∀{us:List Value} {ws:List Value},All2 β s (us.map lV) ws→ws=us:=by
   intro us
   induction us with
   | nil=>intro ws h;exact h
   | cons u us ih=>intro ws h;obtain⟨v,ws',⟨h1,_⟩,h2,e⟩:=h;rw [e,h1,ih h2]
  cases hl;obtain⟨_,h1,ws,h2,rfl⟩:=hd.ev hx;obtain⟨_,h3,ws',h4,rfl⟩:=hd.ev hy;rw [key h2] at h1;rw [key h4] at h3;exact L.eqs hE hq (hd.gd hg) h1 h3 hb (k _ ⟨rfl,rfl⟩)
theorem O.nes{T:TypeId}{x:Operand}{vs:List Value}{l:List LV}{b:Bool}(hE:Eqs P T us vs b)(hq:P.eqGuardType P.depth T=false)(hg:Gu ops σ g)(hx:σ.ev x=some (AG l))(hy:σ.ev y=some (AG l'))(hl:(l,l')=(us.map lV,vs.map lV))(hb:Nat.blt d n=true):Ox K C P n ops ⟨some d,.binOp .neq T x y U,ty,pos,af,g⟩ σ (F1 d (VL (.bool (!b)))):=
 Ox.pure fun _ _ _ β s _ hd k=>by
  have key:∀{us:List Value} {ws:List Value},All2 β s (us.map lV) ws→ws=us:=by
   intro us
   induction us with
   | nil=>intro ws h;exact h
   | cons u us ih=>intro ws h;obtain⟨v,ws',⟨h1,_⟩,h2,e⟩:=h;rw [e,h1,ih h2]
  cases hl;obtain⟨_,h1,ws,h2,rfl⟩:=hd.ev hx;obtain⟨_,h3,ws',h4,rfl⟩:=hd.ev hy;rw [key h2] at h1;rw [key h4] at h3;exact L.nes hE hq (hd.gd hg) h1 h3 hb (k _ ⟨rfl,rfl⟩)
end
section
variable{K:Kx}{C:Cx}{P:Program}{n:Nat}{ops:Array Oper}{σ:Sx}{d i:Nat}{ty:TypeId}{pos:String}{af:Array Edge}{g:Option (Nat×Bool)}{β:Nat→Value}{s s':Sig}{e:List (Nat×Value)}
/-! Operations that are left out. -/
theorem O.skip{op:Op}{j q:Nat}{b b':Bool}(h1:(ops[j]?).bind (·.dst)=some q)(h2:aget σ.sl q=some (VL (.bool b')))(hb:b'=!b)(hd:Nat.blt d n=true):Ox K C P n ops ⟨some d,op,ty,pos,af,some (j,b)⟩ σ (F1 d (.tp [])):=fun Φ Q os β s e hq k=>
 L.skip h1 (hq.evl (x:= .tmp q) h2) hb hd (k β s _ (Aft.one (Mv.refl _ _) ⟨[],rfl,rfl⟩))
theorem O.skipU{op:Op}{j q:Nat}{b:Bool}(h1:(ops[j]?).bind (·.dst)=some q)(h2:aget σ.sl q=some (.tp []))(hd:Nat.blt d n=true):Ox K C P n ops ⟨some d,op,ty,pos,af,some (j,b)⟩ σ (F1 d (.tp [])):=fun Φ Q os β s e hq k=>by
 obtain⟨v,h3,vs,h4,rfl⟩:=hq.sl _ _ h2;have:vs= []:=h4;subst this;exact L.skipU h1 h3 hd (k β s _ (Aft.one (Mv.refl _ _) ⟨[],rfl,rfl⟩))
theorem O.kn{o:Oper}{t b:Bool}(h:Ox K C P n ops o σ (F1 d (VL (.bool t))))(hc:t=b):Ox K C P n ops o σ (F1 d (VL (.bool b))):=hc▸h
/-! Maps. -/
variable{κ γ:Type}{kv:κ→Value}{r:Rep γ}
def lM{κ γ:Type}(kv:κ→Value)(r:Rep γ)(m:List (κ×γ)):LV:=⟨fun _ s v=>∃a c,v= .map a∧MapD kv r s a c m,[],none,none,fun _ hl ⟨a,c,e,h⟩=>⟨a,c,e,h.mono hl⟩,nofun,nofun,fun⟨_,_,e,_⟩=>by rw [e];rfl⟩
def MAP{κ γ:Type}(kv:κ→Value)(r:Rep γ)(T:TypeId)(m:List (κ×γ)):Ob:= .hp ⟨fun s t h=>∃a c,h= .map a∧MapO kv r s t T a c m,lM kv r m,
 fun mv ht h0 ⟨a,c,e,h⟩=>⟨a,c,e,h.mv mv ht h0⟩,fun hl hw ht ⟨a,c,e,h⟩=>⟨a,c,e,h.as hl hw ht⟩,fun⟨a,c,e,h⟩ _=>⟨a,c,e,h.p⟩⟩
theorem fM{κ γ:Type}{kv:κ→Value}{r:Rep γ}{T:TypeId}{m:List (κ×γ)}:∀q,MAP kv r T m= .hp q→q.fz.refs= []:=fun q e=>by cases e;rfl
theorem Lv.m{m:List (κ×γ)}:Lv (rM kv r) m [lM kv r m]:=fun _ _ _ ⟨a,c,e,h⟩=>⟨_,[],⟨a,c,rfl,h⟩,rfl,e⟩
theorem Rv.m{m:List (κ×γ)}:Rv (rM kv r) [lM kv r m] m:=fun _ _ _ ⟨_,_,⟨a,c,e',h⟩,h2,e⟩=>⟨a,c,by rw [e,e',show _= [] from h2],h⟩
theorem O.mk2{T:TypeId}(i:Nat)(hi:Nat.ble σ.n i=true)(hg:Gu ops σ g)(hb:Nat.blt d n=true):Ox K C P n ops ⟨some d,.makeMap T none,ty,pos,af,g⟩ σ (FN d i (lH i) (MAP kv r T [])):=fun Φ Q os β s e hd k=>
 L.mk2 (kv:=kv) (r:=r) (T:=T) (C.tg i) hb (hd.gd hg) fun a c s' m h5=>k _ s' _ (Aft.new hi m.no (lH_at rfl) ⟨a,c,rfl,h5⟩)
def Rm(K:Kx)(C:Cx)(σ:Sx)(x:Operand)(kv:κ→Value)(r:Rep γ)(m:List (κ×γ)):Prop:=∀β s e,Den K C σ β s e→∃a,Env.ev e x=some (.map a)∧MapA kv r s a m
theorem Rm.fr{x:Operand}{m:List (κ×γ)}(hx:σ.ev x=some (sL (lM kv r m))):Rm K C σ x kv r m:=fun _ _ _ hd=>by
 obtain⟨v,h1,a,c,rfl,h2⟩:=hd.evv hx;exact⟨a,h1,h2.any⟩
theorem Rm.ow{x:Operand}{T:TypeId}{m:List (κ×γ)}(hx:σ.ev x=some (sL (lH i)))(ho:aget σ.ob i=some (MAP kv r T m)):Rm K C σ x kv r m:=fun β s e hd=>by
 obtain⟨v,h1,h2,_⟩:=hd.evv hx;obtain⟨a,c,h3,h4⟩:=hd.ob i _ ho;exact⟨a,by rw [h1,h2,h3],h4.any⟩
def Ky(K:Kx)(C:Cx)(σ:Sx)(y:Operand)(v:Value):Prop:=∀β s e,Den K C σ β s e→Env.ev e y=some v
theorem Ky.o{v:Value}(h:σ.ev y=some (VL v)):Ky K C σ y v:=fun _ _ _ hd=>hd.evl h
theorem Ky.a{l:List LV}{vs:List Value}(h:σ.ev y=some (AG l))(hl:l=vs.map lV):Ky K C σ y (.agg vs.toArray):=fun β s e hd=>by
 have key:∀{us:List Value} {ws:List Value},All2 β s (us.map lV) ws→ws=us:=by
  intro us
  induction us with
  | nil=>intro ws h;exact h
  | cons u us ih=>intro ws h;obtain⟨v,ws',⟨h1,_⟩,h2,e⟩:=h;rw [e,h1,ih h2]
 subst hl;obtain⟨_,h1,ws,h2,rfl⟩:=hd.ev h;rw [key h2] at h1;exact h1
variable [BEq κ]
theorem O.mi2{T:TypeId}{x:Operand}{kd:IntKind}{m:List (κ×Int)}{k:κ}{zi:Int}(hT:Md P T kt et kv (rK kd) zi zv)(hg:Gu ops σ g)(hx:Rm K C σ x kv (rK kd) m)(hy:Ky K C σ y (kv k))(hb:Nat.blt d n=true):Ox K C P n ops ⟨some d,.lookup T x y true,ty,pos,af,g⟩ σ (F1 d (.tp [⟨false,[lV (.int kd ((kget m k).getD zi))]⟩,⟨false,[lV (.bool (kget m k).isSome)]⟩])):=
 Ox.pure fun _ _ _ β s e hd q=>by
  obtain⟨a,h1,h2⟩:=hx β s e hd;exact L.mi2 hT h2 (hd.gd hg) h1 (hy β s e hd) hb (q _ ⟨_,⟨_,_,⟨rfl,rfl⟩,⟨_,_,⟨rfl,rfl⟩,rfl,rfl⟩,rfl⟩,rfl⟩)
theorem O.mb{T:TypeId}{x:Operand}{m:List (κ×Bool)}{k:κ}{zi:Bool}(hT:Md P T kt et kv rB zi zv)(hg:Gu ops σ g)(hx:Rm K C σ x kv rB m)(hy:Ky K C σ y (kv k))(hb:Nat.blt d n=true):Ox K C P n ops ⟨some d,.lookup T x y false,ty,pos,af,g⟩ σ (F1 d (VL (.bool ((kget m k).getD zi)))):=
 Ox.pure fun _ _ _ β s e hd q=>by
  obtain⟨a,h1,h2⟩:=hx β s e hd;exact L.mb hT h2 (hd.gd hg) h1 (hy β s e hd) hb (q _ ⟨rfl,rfl⟩)
theorem O.mu{T:TypeId}{x q:Operand}{m:List (κ×γ)}{k:κ}{v z:γ}{lq:LV}(hT:Md P T kt et kv r z zv)(hkk:∀k k':κ,(k==k')=true→k=k')(hg:Gu ops σ g)(hx:σ.ev x=some (sL (lH i)))(ho:aget σ.ob i=some (MAP kv r T' m))(hy:Ky K C σ y (kv k))(hq:σ.ev q=some (sL lq))(hR:Rv r [lq] v):Ox K C P n ops ⟨none,.mapUpdate T x y q,ty,pos,af,g⟩ σ (FO i (MAP kv r T' (kput m k v))):=fun Φ Q os β s e hd k0=>by
 obtain⟨u,h1,h2,_⟩:=hd.evv hx;obtain⟨a,c,h3,h4⟩:=hd.ob i _ ho;obtain⟨w,h5,h6⟩:=hd.evv hq;exact L.mu hT h4 (hR β s _ ⟨w,[],h6,rfl,rfl⟩) (hd.ok.tpos i) hkk (hd.gd hg) (by rw [h1,h2,h3]) (hy β s e hd) h5 fun s' m' h7=>k0 _ s' _ (Aft.old m' ⟨a,c,h3,h7⟩)
theorem O.ins{T:TypeId}{x q:Operand}{m:List (κ×γ)}{k:κ}{v z:γ}{lq:LV}(hT:Md P T kt et kv r z zv)(hkk:∀k k':κ,(k==k')=true→k=k')(hg:Gu ops σ g)(hx:σ.ev x=some (sL (lH i)))(ho:aget σ.ob i=some (MAP kv r T' m))(hy:Ky K C σ y (kv k))(hq:σ.ev q=some (sL lq))(hR:Rv r [lq] v):Ox K C P n ops ⟨none,.insert T x y q,ty,pos,af,g⟩ σ (FO i (MAP kv r T' (kput m k v))):=fun Φ Q os β s e hd k0=>by
 obtain⟨u,h1,h2,_⟩:=hd.evv hx;obtain⟨a,c,h3,h4⟩:=hd.ob i _ ho;obtain⟨w,h5,h6⟩:=hd.evv hq;exact L.ins hT h4 (hR β s _ ⟨w,[],h6,rfl,rfl⟩) (hd.ok.tpos i) hkk (hd.gd hg) (by rw [h1,h2,h3]) (hy β s e hd) h5 fun s' m' h7=>k0 _ s' _ (Aft.old m' ⟨a,c,h3,h7⟩)
/-! nil compared. -/
def lNl{α:Type}(xs:List α):LV:=⟨fun _ _ v=>∃b,v= .bool b∧(b=true→xs= []),[],none,none,fun _ _ h=>h,nofun,nofun,fun⟨_,e,_⟩=>by rw [e];rfl⟩
theorem O.nil?{r:Rep α}{xs:List α}{x:Operand}{T:TypeId}(hu:P.underlying T=some (.slice U))(hg:Gu ops σ g)(hx:σ.ev x=some (sL (lF r xs)))(hy:σ.ev y=some (VL (.slice none 0 0)))(hb:Nat.blt d n=true):Ox K C P n ops ⟨some d,.binOp .eql T x y T',ty,pos,af,g⟩ σ (F1 d (sL (lNl xs))):=
 Ox.pure fun _ _ _ β s e hd q=>by
  obtain⟨v,h1,a,c,rfl,h2⟩:=hd.evv hx;refine L.nil? hu (hd.gd hg) h1 (hd.evl hy) hb (q _ ⟨_,rfl,fun h=>?_⟩);cases a with
  | none=>
   obtain⟨cs,h3,_⟩:=h2;exact yLz (h3.srcs.1 rfl).1
  | some a=>cases h
theorem WE.cN{xs:List α}{c:Operand}{x y:Code}(hx:σ.ev c=some (sL (lNl xs)))(h1:xs= []→WE K C Φ P Q n x σ)(h2:WE K C Φ P Q n y σ):WE K C Φ P Q n (.cond c x y) σ:=fun β s e hd=>by
 obtain⟨v,g1,b,rfl,g2⟩:=hd.evv hx;cases b with
 | true=>exact E.cT g1 rfl (h1 (g2 rfl) β s e hd)
 | false=>exact E.cF g1 rfl (h2 β s e hd)
/-! Pointers as data. -/
/-! A function over what changes; lent to a call. -/
def lZ(f:FuncId)(l:List LV):LV:=⟨fun β s v=>∃vs,All2 β s l vs∧v= .func (.func f) #[] vs.toArray,refsL l,none,none,fun hb hl ⟨vs,h,e⟩=>⟨vs,h.mono hl hb,e⟩,nofun,nofun,fun⟨_,_,e⟩=>by rw [e];rfl⟩
theorem All2.of3{l:List TV}:∀{vs:List Value},All3 β s l vs→∀{l':List LV},l=l'.map (fun x=>⟨false,[x]⟩)→All2 β s l' vs:=by
 induction l with
 | nil=>intro vs h l' e;cases l' with | nil=>exact h | cons=>cases e
 | cons x l ih=>
  intro vs h l' e;cases l' with
  | nil=>cases e
  | cons y l'=>
   cases e;obtain⟨v,us,h1,h2,e2⟩:=h;exact⟨v,us,h1,ih h2 rfl,e2⟩
theorem O.mz{f:FuncId}{ys:List Operand}{l:List LV}(hg:Gu ops σ g)(hy:σ.evs ys=some (l.map fun x=>⟨false,[x]⟩))(hb:Nat.blt d n=true):Ox K C P n ops ⟨some d,.makeFunc (.func f) #[] ys.toArray,ty,pos,af,g⟩ σ (F1 d (sL (lZ f l))):=
 Ox.pure fun _ _ _ β s e hd k=>by
  obtain⟨vs,h1,h2⟩:=hd.evs hy;exact L.mf (xs:=[]) (hd.gd hg) rfl h1 hb (k _ ⟨vs,All2.of3 h2 rfl,rfl⟩)
def Ln(K:Kx)(C:Cx)(σ:Sx)(x y:LV):Prop:=∀β s e,Den K C σ β s e→∀v,x.p β s v→y.p β ⟨s.w,fun _=>0⟩ v
def LnL(K:Kx)(C:Cx)(σ:Sx):List LV→List LV→Prop
 | [],[]=>True
 | x::xs,y::ys=>Ln K C σ x y∧LnL K C σ xs ys
 | _,_=>False
def LnA(K:Kx)(C:Cx)(σ:Sx):List TV→List TV→Prop
 | [],[]=>True
 | x::xs,y::ys=>(x.g=y.g∧LnL K C σ x.l y.l)∧LnA K C σ xs ys
 | _,_=>False
theorem yfo{s:Sig}:Le s ⟨s.w,fun _=>0⟩:=⟨yNr _,fun _ _ _=>⟨rfl,rfl⟩⟩
theorem Ln.rf{x:LV}:Ln K C σ x x:=fun _ _ _ _ _ h=>x.mono (fun _ _=>rfl) yfo h
theorem LnL.rf :∀{l:List LV},LnL K C σ l l
 | []=>trivial
 | _::_=>⟨Ln.rf,LnL.rf⟩
theorem Ln.h{i:Nat}{o:HO}(ho:aget σ.ob i=some (.hp o)):Ln K C σ (lH i) o.fz:=fun β s e hd v h=>by
 have:=Ob.as (o:= .hp o) (t':=0) yfo rfl (fun _ _=>rfl) (fun _ _=>rfl) (hd.ob _ _ ho);rw [h.1];exact o.fzp this β
theorem LnL.p(hd:Den K C σ β s e):∀{l l':List LV} {vs:List Value},LnL K C σ l l'→All2 β s l vs→All2 β ⟨s.w,fun _=>0⟩ l' vs
 | [],[],_,_,h=>h
 | _::_,_::_,_,⟨h1,h2⟩,⟨v,us,g1,g2,e⟩=>⟨v,us,h1 _ _ _ hd _ g1,h2.p hd g2,e⟩
 | [],_::_,_,h,_=>h.elim
 | _::_,[],_,h,_=>h.elim
theorem All3.of2 :∀{l:List LV} {vs:List Value},All2 β s l vs→All3 β s (l.map fun x=>⟨false,[x]⟩) vs
 | [],_,h=>h
 | _::_,_,⟨v,us,h1,h2,e⟩=>⟨v,us,h1,All3.of2 h2,e⟩
theorem LnA.p(hd:Den K C σ β s e):∀{l l':List TV} {vs:List Value},LnA K C σ l l'→All3 β s l vs→All3 β ⟨s.w,fun _=>0⟩ l' vs
 | [],[],_,_,h=>h
 | ⟨false,[_]⟩::_,⟨false,[_]⟩::_,_,⟨⟨_,h1,_⟩,h2⟩,⟨v,us,g1,g2,e2⟩=>⟨v,us,h1 _ _ _ hd _ g1,h2.p hd g2,e2⟩
 | ⟨true,_⟩::_,⟨true,_⟩::_,_,⟨⟨_,h1⟩,h2⟩,⟨v,us,⟨ws,g1,e1⟩,g2,e2⟩=>⟨v,us,⟨ws,h1.p hd g1,e1⟩,h2.p hd g2,e2⟩
 | ⟨true,_⟩::_,⟨false,_⟩::_,_,⟨⟨h,_⟩,_⟩,_=>by cases h
 | ⟨false,_⟩::_,⟨true,_⟩::_,_,⟨⟨h,_⟩,_⟩,_=>by cases h
 | ⟨false,[]⟩::_,_::_,_,_,⟨_,_,g,_⟩=>g.elim
 | ⟨false,_::_::_⟩::_,_::_,_,_,⟨_,_,g,_⟩=>g.elim
 | ⟨false,[_]⟩::_,⟨false,[]⟩::_,_,⟨⟨_,h⟩,_⟩,_=>h.elim
 | ⟨false,[_]⟩::_,⟨false,_::_::_⟩::_,_,⟨⟨_,_,h⟩,_⟩,_=>h.elim
 | [],_::_,_,h,_=>h.elim
 | _::_,[],_,h,_=>h.elim
theorem O.caZ{f:FuncId}{xs:List Operand}{ys:List TV}{r:SV}(hF:Fw P f ⟨0,[]⟩ av [] r [])(hcf:Cf P f)(hc:c.callee= .value (.func f))(hca:c.args=xs.toArray)(hg:Gu ops σ g)(hx:σ.evs xs=some ys)(hcv:LnA K C σ ys av)(hr:flatS r)(hb:Nat.blt d n=true):Ox K C P n ops ⟨some d,.call c,ty,pos,af,g⟩ σ (F1 d r):=fun Φ Q os β s e hd k=>by
 obtain⟨vs,h1,h2⟩:=hd.evs hx;have hcall:=hF.is [] β ⟨s.w,fun _=>0⟩ vs rfl (yNr _) (by simp) (by simp) (hcv.p hd h2) (fun i o h=>by simp at h);have h4:Calls P f vs.toArray s.w (RetS No s fun v _=>∃β s,r.p β s v):=Calls.lendG (s0:=⟨s.w,fun _=>0⟩) rfl (Calls.mono hcall fun en w' ⟨v,s',a1,a2,a3,a4⟩=>⟨v,s',a1,a2,a3.weak fun t ⟨i,hi,_⟩=>(by cases hi),a4⟩) fun v s' ⟨β',_,q,_⟩=>⟨β',s',q⟩;exact L.ca hcf hc hca (hd.gd hg) h1 h4 hb fun v s' m ⟨β',s2,q⟩=>k β s' _ (Aft.one m (hr _ _ _ _ _ q))
theorem O.b0O{r:Rep α}{T E m:Nat}(i:Nat)(hi:Nat.ble σ.n i=true)(hB:Bs P T E m z)(hm:Nat.ble m 16777216=true)(hg:Gu ops σ g)(hb:Nat.blt d n=true):Ox K C P n ops ⟨some d,.buildSlice T 0 #[],ty,pos,af,g⟩ σ (FN d i (lH i) (ROW r E ([]:List α))):=fun Φ Q os β s e hd q=>
 L.bs0 (C.tg i) hB (yNl hm) (hd.gd hg) hb fun b s' m' h5=>q _ s' _ (Aft.new (h:= .slice (some ⟨b,0,none⟩) 0 0) hi m'.no (lH_at rfl) ⟨_,_,rfl,Bx.row (xs:=[]) h5 rfl (by simp)⟩)
theorem O.cac{f:FuncId}{xs:List Operand}{S':List Nat}{ys:List TV}{r r':SV}(ν:List Nat)(l:List (Nat×Ob))(nx:Option Nat)(hF:Fw P f ⟨0,S'⟩ av [] r ob')(hcf:Cf P f)(hc:c.callee= .value (.func f))(hca:c.args=xs.toArray)(hg:Gu ops σ g)(hx:σ.evs xs=some ys)
  (hok:y7q ⟨0,S'⟩ σ.n ν l ob' r=true) (hcv:CnvA ys av) (has:refsT av= []) (hO:OutL (fun i=>ν.getD i 0) ob' l) (hr:∀β s v,r.p (fun i=>β (ν.getD i 0)) s v→r'.p β s v) (hb:Nat.blt d n=true):
  Ox K C P n ops ⟨some d,.call c,ty,pos,af,g⟩ σ (callE (some (d,r')) ν l nx):=fun Φ Q os β s e hd k=>by
 obtain⟨vs,h1,h2⟩:=hd.evs hx;refine L.ca hcf hc hca (hd.gd hg) h1 (ybB hd hF hok (fun _ _ _ h=>(hcv.p h).mono (Le.refl _) fun i hi=>by rw [has] at hi;cases hi) trivial rfl h2) hb fun v s' m hp=>?_;obtain⟨β'',g1,g2,g2',g3,g4⟩:=y9Z (nx:=nx) hd.ok hok hO m hp;exact k β'' s' _ ⟨g2,g2',g3,fun d' hn=>Env.get_put fun e=>hn r' (by rw [e];rfl),fun d' x' ee=>(by cases ee;exact⟨v,by simp [Env.get],hr _ _ _ g1⟩),g4⟩
theorem Ln.hr{i:Nat}{r:Rep α}{T:TypeId}{xs:List α}(ho:aget σ.ob i=some (ROW r T xs)):Ln K C σ (lH i) (lF r xs):=Ln.h (o:=⟨_,lF r xs,_,_,_⟩) ho
end
abbrev oT :Bool:=true
abbrev oF :Bool:=false
def cD(f:Eff)(l:List (Nat×SV)):List (Nat×SV):=match f.dst with
 | some p=>p::l
 | none=>l
def muM :List Bool→List Eff→List (Nat×SV)→List (Nat×SV)
 | [],_,l=>l
 | b::m,fs,l=>match fs with
  | []=>l
  | f::fs=>cond b (cD f (muM m fs l)) (muM m fs l)
def muO :List Bool→List Eff→List (Nat×Ob)→List (Nat×Ob)
 | [],_,l=>l
 | b::m,fs,l=>match fs with
  | []=>l
  | f::fs=>cond b (f.ob++muO m fs l) (muO m fs l)
def muK :List Bool→List Eff→Nat→Nat
 | [],_,n=>n
 | b::m,fs,n=>match fs with
  | []=>n
  | f::fs=>cond b (Nat.max (f.n n) (muK m fs n)) (muK m fs n)
def ixs :List Bool→Nat→List Nat
 | [],_=> []
 | b::m,j=>cond b (j::ixs m (j+1)) (ixs m (j+1))
theorem y8q{all:List Eff}{l:List (Nat×SV)}:∀{m:List Bool} {j:Nat} {fs:List Eff},(∀i,all.getD (j+i) noE=fs.getD i noE)→muA all (ixs m j) l=muM m fs l
 | [],_,_,_=>rfl
 | b::m,j,[],h=>by
  have ih:=y8q (all:=all) (l:=l) (m:=m) (j:=j+1) (fs:=[]) fun i=>by
   have:=h (i+1);rw [show j+(i+1)=j+1+i by omega] at this;simpa using this
  have h0:=h 0;have e:muM m [] l=l:=by cases m <;> rfl
  rw [e] at ih;cases b
  ·exact ih
  ·simp only [ixs,cond_true,muA,muM];rw [Nat.add_zero] at h0;rw [h0];exact ih
 | b::m,j,f::fs,h=>by
  have ih:=y8q (all:=all) (l:=l) (m:=m) (j:=j+1) (fs:=fs) fun i=>by
   have:=h (i+1);rw [show j+(i+1)=j+1+i by omega] at this;simpa using this
  have h0:=h 0;cases b
  ·exact ih
  ·simp only [ixs,cond_true,muA,muM];rw [Nat.add_zero] at h0;rw [h0,ih];rfl
theorem y9A{fs:List Eff}{k j:Nat}{l:List (Nat×Ob)}:∀{q:List (Nat×Ob)},(∀p,p∈q→okJ A fs N k j p.1=true)→muC A fs N k j q l=q++l
 | [],_=>rfl
 | p::q,h=>by
  simp only [muC];rw [h p (.head _),y9A fun p hp=>h p (.tail _ hp)];rfl
theorem yfp{fs:List Eff}{k:Nat}:∀{q:List (Nat×Ob)},(∀p,p∈q→okO A fs N k p.1=true)→muF A fs N k q=q
 | [],_=>rfl
 | p::q,h=>by
  simp only [muF];rw [h p (.head _),yfp fun p hp=>h p (.tail _ hp)];rfl
theorem yfq{fs:List Eff}{k:Nat}:∀{q:List (Nat×SV)},(∀p,p∈q→okD A fs N k p.1=true)→muB A fs N k q=q
 | [],_=>rfl
 | p::q,h=>by
  simp only [muB];rw [h p (.head _),yfq fun p hp=>h p (.tail _ hp)];rfl
theorem ycO{k:Nat}{all:List Eff}{l:List (Nat×Ob)}(hj:∀j p,p∈(all.getD j noE).ob→okJ A all N k j p.1=true):∀{m:List Bool} {j:Nat} {fs:List Eff},(∀i,all.getD (j+i) noE=fs.getD i noE)→muE A all N k (ixs m j) l=muO m fs l
 | [],_,_,_=>rfl
 | b::m,j,[],h=>by
  have ih:=ycO hj (l:=l) (m:=m) (j:=j+1) (fs:=[]) fun i=>by
   have:=h (i+1);rw [show j+(i+1)=j+1+i by omega] at this;simpa using this
  have h0:=h 0;have e:muO m [] l=l:=by cases m <;> rfl
  rw [e] at ih;cases b
  ·exact ih
  ·simp only [ixs,cond_true,muE,muO];rw [y9A (hj j)];rw [Nat.add_zero] at h0;rw [h0,ih];rfl
 | b::m,j,f::fs,h=>by
  have ih:=ycO hj (l:=l) (m:=m) (j:=j+1) (fs:=fs) fun i=>by
   have:=h (i+1);rw [show j+(i+1)=j+1+i by omega] at this;simpa using this
  have h0:=h 0;cases b
  ·exact ih
  ·simp only [ixs,cond_true,muE,muO];rw [y9A (hj j)];rw [Nat.add_zero] at h0;rw [h0,ih];rfl
theorem y6I{all:List Eff}{n:Nat}:∀{m:List Bool} {j:Nat} {fs:List Eff},(∀i,all.getD (j+i) noE=fs.getD i noE)→muN all n (ixs m j)=muK m fs n
 | [],_,_,_=>rfl
 | b::m,j,[],h=>by
  have ih:=y6I (all:=all) (n:=n) (m:=m) (j:=j+1) (fs:=[]) fun i=>by
   have:=h (i+1);rw [show j+(i+1)=j+1+i by omega] at this;simpa using this
  have h0:=h 0;have e:muK m [] n=n:=by cases m <;> rfl
  rw [e] at ih;cases b
  ·exact ih
  ·simp only [ixs,cond_true,muN,muK];rw [Nat.add_zero] at h0;rw [h0,ih];exact Nat.max_self n
 | b::m,j,f::fs,h=>by
  have ih:=y6I (all:=all) (n:=n) (m:=m) (j:=j+1) (fs:=fs) fun i=>by
   have:=h (i+1);rw [show j+(i+1)=j+1+i by omega] at this;simpa using this
  have h0:=h 0;cases b
  ·exact ih
  ·simp only [ixs,cond_true,muN,muK];rw [Nat.add_zero] at h0;rw [h0,ih];rfl
def sgl :List Eff→Bool
 | []=>true
 | f::fs=>(f.ob.all fun p=>fs.all fun g=>!y4J g p.1)&&sgl fs
def smp(fs:List Eff)(σ:Sx):Bool:=(σ.sl.all fun p=>fs.all fun f=>!dstIs f p.1)&&((σ.ob.all fun p=>fs.all fun f=>!y4J f p.1)&&sgl fs)
theorem ybD{q:Eff→Bool}{fs:List Eff}(h:fs.all q=true)(h0:q noE=true)(m:Nat):q (fs.getD m noE)=true:=by
 by_cases hm:m<fs.length
 ·rw [yGd,yGe hm];exact yAt.1 h _ (yGm hm)
 ·rw [yGd,yGn (by omega)];exact h0
theorem ye7{p:Nat×Ob}:∀{fs:List Eff} {j m:Nat},sgl fs=true→j<m→p∈(fs.getD j noE).ob→y4J (fs.getD m noE) p.1=false
 | [],j,m,_,_,_=>rfl
 | f::fs,0,m+1,h,_,hp=>by
  simp only [sgl,yAe] at h;have:=ybD (yAt.1 h.1 p hp) rfl m;simpa using this
 | f::fs,j+1,m+1,h,hl,hp=>by
  simp only [sgl,yAe] at h;have:=ye7 (fs:=fs) (j:=j) (m:=m) h.2 (by omega) (by simpa using hp);simpa using this
theorem yjn{p:Nat×Ob}{fs:List Eff}{j m:Nat}(h:sgl fs=true)(hne:m≠j)(hp:p∈(fs.getD j noE).ob):y4J (fs.getD m noE) p.1=false:=by
 rcases Nat.lt_or_ge j m with hl|hl
 ·exact ye7 h hl hp
 ·cases h0:y4J (fs.getD m noE) p.1 with
  | false=>rfl
  | true=>
   obtain⟨q,hq,hq2⟩:=List.any_eq_true.1 h0;have:=ye7 h (show m<j by omega) hq;rw [yNb hq2] at this;rw [y8g (o:=p.2) (i:=p.1) hp] at this;cases this
section
variable{K:Kx}{C:Cx}{P:Program}{Φ:Fr}{Q:Exit→Act→World→Prop}{n:Nat}{σ:Sx}{fs:List Eff}
theorem ygE{k:Nat}{m:List Bool}(h:smp fs σ=true):mu A fs N σ k (ixs m 0)=⟨muM m fs σ.sl,muO m fs σ.ob,muK m fs σ.n⟩:=by
 simp only [smp,yAe] at h;obtain⟨h1,h2,h3⟩:=h;have hz:∀i,fs.getD (0+i) noE=fs.getD i noE:=fun i=>by rw [yNz]
 unfold mu;rw [yfq fun p hp=>?_,yfp fun p hp=>?_,y8q hz,ycO (fun j p hp=>?_) hz,y6I hz]
 ·refine yAt.2 fun i _=>?_;by_cases hi:i=j
  ·subst hi;rw [Nat.beq_refl];rfl
  ·rw [yjn h3 hi hp];simp
 ·refine yAt.2 fun i _=>?_;have:=ybD (yAt.1 h2 p hp) rfl i;simp only [Bool.not_eq_true'] at this;rw [this];rfl
 ·refine yAt.2 fun i _=>?_;have:=ybD (yAt.1 h1 p hp) rfl i;simp only [Bool.not_eq_true'] at this;rw [this];rfl
def muS(σ:Sx)(fs:List Eff)(m:List Bool)(n:Nat):Sx:=⟨muM m fs σ.sl,muO m fs σ.ob,n⟩
def Wst(K:Kx)(C:Cx)(P:Program)(n:Nat)(ops:Array Oper)(all:List Eff)(σ:Sx):List (Nat×List Bool)→List Eff→List Oper→Prop
 | _,_,[]=>True
 | m::ms,f::fs,o::os=>Ox K C P n ops o (muS σ all m.2 m.1) f∧Wst K C P n ops all σ ms fs os
 | _,_,_::_=>False
def nsOk(fs:List Eff)(n:Nat)(ms:List (Nat×List Bool)):Bool:=ms.all fun m=>Nat.beq (muK m.2 fs n) m.1
theorem Wst.go{all:List Eff}(h:smp all σ=true):∀{l:List Oper} {k:Nat} {ms:List (Nat×List Bool)} {fs:List Eff},nsOk all σ.n ms=true→Wst K C P n ops all σ ms fs l→(∀i,all.getD (k+i) noE=fs.getD i noE)→(∀i,A.getD (k+i) []=(ms.map fun m=>ixs m.2 0).getD i [])→y7r K C P n ops A all N σ k l
 | [],_,_,_,_,_,_,_=>trivial
 | o::os,k,m::ms,f::fs,hn,hw,hf,hA=>by
  simp only [nsOk,List.all_cons,yAe] at hn;refine⟨?_,Wst.go h hn.2 hw.2 (fun i=>?_) (fun i=>?_)⟩
  ·have h1:=hf 0;have h2:=hA 0;rw [Nat.add_zero] at h1 h2;rw [h1,h2,show(List.map (fun (m:Nat×List Bool)=>ixs m.2 0) (m::ms)).getD 0 []=ixs m.2 0 from rfl,ygE h,yNb hn.1];exact hw.1
  ·have:=hf (i+1);rw [show k+(i+1)=k+1+i by omega] at this;simpa using this
  ·have:=hA (i+1);rw [show k+(i+1)=k+1+i by omega] at this;simpa using this
 | _::_,_,[],_,_,hw,_,_=>by cases hw
 | _::_,_,_::_,[],_,hw,_,_=>by cases hw
theorem y9B :∀{N j:Nat},ixs (List.replicate N true) j=List.range' j N
 | 0,_=>rfl
 | N+1,j=>by
  rw [List.replicate_succ,List.range'_succ];simp only [ixs,cond_true];rw [y9B]
theorem WE.drw{id:Nat}{l:List Oper}(ms:List (Nat×List Bool))(fs:List Eff)(τ:Sx)(hs:Wst K C P n l.toArray fs σ ms fs l)(hok:(smp fs σ&&(nsOk fs σ.n ms&&y7M P K (ms.map fun m=>ixs m.2 0) fs σ.n l.toArray))=true)(hτ:τ.is K (muS σ fs (List.replicate l.length true) (muK (List.replicate l.length true) fs σ.n)) [])(h0:WX K C Φ Q n .normal τ):WE K C Φ P Q n (.region id l.toArray true) σ:=by
 obtain⟨h1,h2⟩:=Bool.and_eq_true_iff.1 hok;obtain⟨h2,h3⟩:=Bool.and_eq_true_iff.1 h2;have hz:∀i,fs.getD (0+i) noE=fs.getD i noE:=fun i=>by rw [yNz]
 refine .draw (ms.map fun m=>ixs m.2 0) fs τ (hs.go h1 h2 hz fun i=>by rw [yNz]) h3 ?_ h0;rw [List.range_eq_range',←y9B,ygE h1];exact hτ
end
theorem y7d{x:α}{l1 l2:List (Nat×α)}:∀{pre:List (Nat×α)},((∀o,(d,o)∉pre)→∀x,aget l1 d=some x→aget l2 d=some x)→aget (pre++l1) d=some x→aget (pre++l2) d=some x
 | [],h,g=>h (fun _=>List.not_mem_nil) x g
 | (i,o)::pre,h,g=>by
  simp only [List.cons_append,aget] at g ⊢;cases hb:Nat.beq i d with
  | true=>rw [hb] at g;exact g
  | false=>
   rw [hb] at g;refine y7d (fun hn=>h fun o' hm=>?_) g;rcases yMo.1 hm with e|hm
   ·cases e;rw [Nat.beq_refl] at hb;cases hb
   ·exact hn _ hm
theorem y6q{x:α}:∀{l:List (Nat×α)},aget l d=some x→(d,x)∈l
 | [],h=>by cases h
 | (i,o)::l,h=>by
  rcases yf h with ⟨rfl,rfl⟩|⟨_,h2⟩
  ·exact .head _
  ·exact .tail _ (y6q h2)
theorem y7y{l:List (Nat×SV)}:∀{m:List Bool} {fs:List Eff},muM m fs l=muM m fs []++l
 | [],_=>rfl
 | _::_,[]=>rfl
 | b::m,f::fs=>by
  simp only [muM];rw [y7y (m:=m) (fs:=fs)];cases b
  ·rfl
  ·simp only [cond_true,cD];cases f.dst <;> rfl
theorem y9C{l:List (Nat×Ob)}:∀{m:List Bool} {fs:List Eff},muO m fs l=muO m fs []++l
 | [],_=>rfl
 | _::_,[]=>rfl
 | b::m,f::fs=>by
  simp only [muO];rw [y9C (m:=m) (fs:=fs)];cases b
  ·rfl
  ·simp only [cond_true,yAa]
theorem ybE{k:Nat}{all:List Eff}{l:List (Nat×Ob)}:∀{m:List Bool} {j:Nat} {fs:List Eff},(∀j',j'∈ixs m j→∀p,p∈(all.getD j' noE).ob→okJ A all N k j' p.1=true)→(∀i,all.getD (j+i) noE=fs.getD i noE)→muE A all N k (ixs m j) l=muO m fs l
 | [],_,_,_,_=>rfl
 | b::m,j,fs,hj,h=>by
  have ih:∀{fs':List Eff},(∀i,all.getD (j+1+i) noE=fs'.getD i noE)→muE A all N k (ixs m (j+1)) l=muO m fs' l:=fun h'=>ybE (fun j' hm=>hj j' (by
   cases b
   ·exact hm
   ·exact .tail _ hm)) h'
  have h0:=h 0;rw [Nat.add_zero] at h0;cases fs with
  | nil=>
   have ih:=ih (fs':=[]) fun i=>by
    have:=h (i+1);rw [show j+(i+1)=j+1+i by omega] at this;simpa using this
   have e:muO m [] l=l:=by cases m <;> rfl
   rw [e] at ih;cases b
   ·exact ih
   ·have hj:=hj j (.head _);simp only [ixs,cond_true,muE,muO];rw [y9A hj,h0,ih];rfl
  | cons f fs=>
   have ih:=ih (fs':=fs) fun i=>by
    have:=h (i+1);rw [show j+(i+1)=j+1+i by omega] at this;simpa using this
   cases b
   ·exact ih
   ·have hj:=hj j (.head _);simp only [ixs,cond_true,muE,muO];rw [y9A hj,h0,ih];rfl
theorem yc9{fs:List Eff}{k:Nat}{x:Ob}(hd:okO A fs N k d=true):∀{l:List (Nat×Ob)},aget l d=some x→aget (muF A fs N k l) d=some x
 | [],h=>by cases h
 | (i,o)::l,h=>by
  simp only [muF,aget] at h ⊢;cases hb:Nat.beq i d with
  | true=>rw [hb] at h;rw [yNb hb,hd];exact h
  | false=>rw [hb] at h;exact yc9 hd h
theorem yca{fs:List Eff}{k:Nat}{x:SV}(hd:okD A fs N k d=true):∀{l:List (Nat×SV)},aget l d=some x→aget (muB A fs N k l) d=some x
 | [],h=>by cases h
 | (i,o)::l,h=>by
  simp only [muB,aget] at h ⊢;cases hb:Nat.beq i d with
  | true=>rw [hb] at h;rw [yNb hb,hd];exact h
  | false=>rw [hb] at h;exact yca hd h
section
variable{K:Kx}{C:Cx}{P:Program}{Φ:Fr}{Q:Exit→Act→World→Prop}{n:Nat}{σ:Sx}{fs:List Eff}{A:List (List Nat)}{N:Nat}
def okQ(A:List (List Nat))(fs:List Eff)(N:Nat)(σ:Sx)(k:Nat)(m:List Bool):Bool:=
  ((ixs m 0).all fun j=>(fs.getD j noE).ob.all fun p=>okJ A fs N k j p.1) &&
  ((σ.ob.all fun p=>(muO m fs []).any (fun q=>Nat.beq q.1 p.1)||okO A fs N k p.1) &&
   (σ.sl.all fun p=>(muM m fs []).any (fun q=>Nat.beq q.1 p.1)||okD A fs N k p.1))
def okKs(A:List (List Nat))(fs:List Eff)(N:Nat)(σ:Sx):Nat→List (Nat×List Bool)→Bool
 | _,[]=>true
 | k,m::ms=>okQ A fs N σ k m.2&&okKs A fs N σ (k+1) ms
theorem Den.okK{k:Nat}{m:List Bool}{j:Nat}{β:Nat→Value}{s:Sig}{e:List (Nat×Value)}(hk:okQ A fs N σ k m=true)(hn:Nat.beq (muK m fs σ.n) j=true)(h:Den K C (mu A fs N σ k (ixs m 0)) β s e):Den K C (muS σ fs m j) β s e:=by
 have hj:(mu A fs N σ k (ixs m 0)).n=j:=by
  show muN fs σ.n (ixs m 0)=j;rw [y6I (fs:=fs) fun i=>by rw [yNz]];exact yNb hn
 simp only [okQ,yAe] at hk;obtain⟨k1,k2,k3⟩:=hk;have ho:∀i o,aget (muO m fs σ.ob) i=some o→aget (mu A fs N σ k (ixs m 0)).ob i=some o:=fun i o hx=>by
  show aget (muE A fs N k (ixs m 0) (muF A fs N k σ.ob)) i=some o;rw [ybE (fs:=fs) (fun j hj p hp=>yAt.1 (yAt.1 k1 j hj) p hp) fun i=>by rw [yNz],y9C];rw [y9C] at hx;refine y7d (fun hno x hx=>?_) hx;rcases Bool.or_eq_true_iff.1 (yAt.1 k2 _ (y6q hx)) with g|g
  ·obtain ⟨q,hq,hq2⟩:=List.any_eq_true.1 g;have:q.1=i:=yNb hq2;exact absurd (show (i,q.2)∈_ from by rw [←this];exact hq) (hno q.2)
  ·exact yc9 g hx
 have hs:∀d x,aget (muM m fs σ.sl) d=some x→aget (mu A fs N σ k (ixs m 0)).sl d=some x:=fun i o hx=>by
  show aget (muA fs (ixs m 0) (muB A fs N k σ.sl)) i=some o;rw [y8q (fs:=fs) fun i=>by rw [yNz],y7y];rw [y7y] at hx;refine y7d (fun hno x hx=>?_) hx;rcases Bool.or_eq_true_iff.1 (yAt.1 k3 _ (y6q hx)) with g|g
  ·obtain ⟨q,hq,hq2⟩:=List.any_eq_true.1 g;have:q.1=i:=yNb hq2;exact absurd (show (i,q.2)∈_ from by rw [←this];exact hq) (hno q.2)
  ·exact yca g hx
 exact⟨h.ok,h.mv,h.b0,hj▸h.m,fun d x hx=>h.sl d x (hs d x hx),fun i o hx=>h.ob i o (ho i o hx),fun d x hx=>hj▸h.fs d x (hs d x hx),fun i o hx=>hj▸h.fo i o (ho i o hx)⟩
theorem Wst.gg{all:List Eff}{A:List (List Nat)}{N:Nat}:∀{l:List Oper} {k:Nat} {ms:List (Nat×List Bool)} {fs:List Eff},okKs A all N σ k ms=true→nsOk all σ.n ms=true→Wst K C P n ops all σ ms fs l→(∀i,all.getD (k+i) noE=fs.getD i noE)→(∀i,A.getD (k+i) []=(ms.map fun m=>ixs m.2 0).getD i [])→y7r K C P n ops A all N σ k l
 | [],_,_,_,_,_,_,_,_=>trivial
 | o::os,k,m::ms,f::fs,hk,hn,hw,hf,hA=>by
  simp only [okKs,yAe] at hk;simp only [nsOk,List.all_cons,yAe] at hn;refine⟨?_,Wst.gg hk.2 hn.2 hw.2 (fun i=>?_) (fun i=>?_)⟩
  ·have h1:=hf 0;have h2:=hA 0;rw [Nat.add_zero] at h1 h2;rw [h1,h2,show(List.map (fun (m:Nat×List Bool)=>ixs m.2 0) (m::ms)).getD 0 []=ixs m.2 0 from rfl];intro Φ Q os β s e hd hc;have hj:(mu A all N σ k (ixs m.2 0)).n=m.1:=by
    show muN all σ.n (ixs m.2 0)=m.1;rw [y6I (fs:=all) fun i=>by rw [yNz]];exact yNb hn.1
   exact hw.1 Φ Q os β s e (hd.okK hk.1 hn.1) fun β' s' e' a=>hc β' s' e' (by rw [hj];exact a)
  ·have:=hf (i+1);rw [show k+(i+1)=k+1+i by omega] at this;simpa using this
  ·have:=hA (i+1);rw [show k+(i+1)=k+1+i by omega] at this;simpa using this
 | _::_,_,[],_,_,_,hw,_,_=>by cases hw
 | _::_,_,_::_,[],_,_,hw,_,_=>by cases hw
theorem WE.drg{id:Nat}{l:List Oper}(j:Nat)(ms:List (Nat×List Bool))(fs:List Eff)(τ:Sx)(hs:Wst K C P n l.toArray fs σ ms fs l)(hok:(okQ (ms.map fun m=>ixs m.2 0) fs l.length σ l.length (List.replicate l.length true)&&(Nat.beq (muK (List.replicate l.length true) fs σ.n) j&&(okKs (ms.map fun m=>ixs m.2 0) fs l.length σ 0 ms&&(nsOk fs σ.n ms&&y7M P K (ms.map fun m=>ixs m.2 0) fs σ.n l.toArray))))=true)(hτ:τ.is K (muS σ fs (List.replicate l.length true) j) [])(h0:WX K C Φ Q n .normal τ):WE K C Φ P Q n (.region id l.toArray true) σ:=by
 simp only [yAe] at hok;obtain⟨h1,h2,h3,h4,h5⟩:=hok;have hz:∀i,fs.getD (0+i) noE=fs.getD i noE:=fun i=>by rw [yNz]
 refine .draw' (ms.map fun m=>ixs m.2 0) fs (Wst.gg h3 h4 hs hz fun i=>by rw [yNz]) h5 ?_;rw [List.range_eq_range',←y9B];exact fun β s e hd=>h0.sub [] hτ β s e (hd.okK h1 h2)
end
def FlatR{α:Type}(r:Rep α):Prop:=∀s s' cs x,r.rd s cs x→r.rd s' cs x
def rVal :Rep Value:=⟨1,fun _ cs x=>cs= [x]∧x.oneCell'=true,fun h=>by rw [h.1];rfl,fun _ h=>h,fun h u hu=>by rw [h.1] at hu;rw [yMs.1 hu];exact h.2⟩
theorem y7N :FlatR rVal:=fun _ _ _ _ h=>h
section
variable{α:Type}{r:Rep α}{s s':Sig}{t t' u u':Nat}{T T':TypeId}{a:Option Addr}{c:Nat}{xs:List α}{τ:Nat→Nat}
theorem Cells.flat(hr:FlatR r):∀{cs:List Value} {xs:List α},Cells r s cs xs→Cells r s' cs xs
 | _,[],h=>h
 | _,_::_,⟨c,d,e,h1,h2⟩=>⟨c,d,e,hr _ _ _ _ h1,Cells.flat hr h2⟩
theorem RowT.fl(hr:FlatR r)(h:RowT r s u T a c xs)(hb:∀b,b<s.w.heap.size→s.tag b=u→s'.w.heap[b]? =s.w.heap[b]? ∧s'.tag b=u'):RowT r s' u' T a c xs:=by
 obtain⟨cs,h1,h2⟩:=h;refine⟨cs,⟨h1.1,h1.2.imp id fun⟨b,off,cap,cur,g1,g2,g3⟩=>⟨b,off,cap,cur,g1,?_,g3⟩⟩,h2.flat hr⟩;have hlt:b<s.w.heap.size:=(yAs.1 g2.heap).1;obtain⟨q1,q2⟩:=hb b hlt g2.htag;exact⟨q1.trans g2.heap,q2,g2.base⟩
theorem RowT.memAt{k b o:Nat}(h:RowT r s t T a c xs)(h2:Spot a r.sz k b o)(hk:k<xs.length):∃cs,Mem s t b o cs∧r.rd s cs xs[k]:=by
 obtain⟨cs,h4,h5⟩:=h;obtain⟨b',off',cap',e',hlt,_,htag⟩:=h4.addr (by omega);simp only [Value.slice.injEq,true_and] at e';obtain⟨rfl,rfl⟩:=e';obtain⟨o',e1,rfl⟩:=h2.is;cases e1;have hx2:=h5.at k hk;have hl2:=h4.1;have hm:=Nat.mul_le_mul_right r.sz (show k+1≤xs.length from hk);rw [Nat.succ_mul] at hm;refine⟨_,⟨fun _=>htag,fun j' hj=>?_⟩,hx2⟩;have hj':j'<r.sz:=by rw [r.len hx2] at hj;exact hj
 rw [Nat.add_assoc,h4.cellAt (k*r.sz+j') (by omega),List.getElem_take,List.getElem_drop,yGe]
def sp(s:Sig)(t:Nat)(τ:Nat→Nat):Sig:=⟨s.w,fun b=>if s.tag b=t then 2*τ b+1 else 2*s.tag b⟩
theorem y8z{b k:Nat}(h:(sp s t τ).tag b=2*k+1):s.tag b=t∧τ b=k:=by
 unfold sp at h;simp only at h;split at h
 ·exact ⟨‹_›,by omega⟩
 ·omega
theorem sp_at{b:Nat}(h:s.tag b=t):(sp s t τ).tag b=2*τ b+1:=iP h
structure TabP {α:Type} (r:Rep α) (T T':TypeId) (o:Option Nat) (xss:List (List α)) (s:Sig) (t:Nat) (h:Value) (hs:List Value) (τ:Nat→Nat) (a:Option Addr) (c:Nat):Prop where
 e:h= .slice a xss.length c
 out:RowT rVal (sp s t τ) (2*0+1) T a c hs
 len:hs.length=xss.length
 inn:∀i hd ys,hs[i]? =some hd→xss[i]? =some ys→o≠some i→∃a c,hd= .slice a ys.length c∧RowT r (sp s t τ) (2*(i+1)+1) T' a c ys
theorem TabP.to{o:Option Nat}{xss:List (List α)}{h:Value}(hr:FlatR r)(H:TabP r T T' o xss s t h hs τ a c)(hb:∀b,b<s.w.heap.size→s.tag b=t→s'.w.heap[b]? =s.w.heap[b]? ∧s'.tag b=t'):TabP r T T' o xss s' t' h hs τ a c:=by
 have key:∀k b,b<(sp s t τ).w.heap.size→(sp s t τ).tag b=2*k+1→(sp s' t' τ).w.heap[b]? =(sp s t τ).w.heap[b]? ∧(sp s' t' τ).tag b=2*k+1:=fun k b hb1 ht=>by
  obtain⟨q1,q2⟩:=y8z ht;obtain⟨g1,g2⟩:=hb b hb1 q1;exact⟨g1,by rw [sp_at g2,q2]⟩
 exact⟨H.e,H.out.fl y7N (key 0),H.len,fun i hd ys g1 g2 g3=>by
  obtain⟨a,c,e,h5⟩:=H.inn i hd ys g1 g2 g3;exact⟨a,c,e,h5.fl hr (key (i+1))⟩⟩
theorem ye8{s0:Sig}:∀{cs hs:List Value} {xss:List (List α)},Cells rVal s0 cs hs→hs.length=xss.length→(∀(i:Nat) (hd:Value) (ys:List α),hs[i]? =some hd→xss[i]? =some ys→∃a c,hd= .slice a ys.length c∧RdL r s a c ys)→Cells (rL r) s cs xss
 | _,[],[],h,_,_=>h
 | _,[],_::_,_,h,_=>by cases h
 | _,_::_,[],_,h,_=>by cases h
 | _,hd::hs,ys::xss,⟨c,d,e,h1,h2⟩,hl,h3=>⟨c,d,e,by
   obtain⟨a,k,e1,g⟩:=h3 0 hd ys rfl rfl;exact⟨a,k,by rw [h1.1,e1],g⟩,ye8 h2 (by simpa using hl) fun i hd ys g1 g2=>h3 (i+1) hd ys (by simpa using g1) (by simpa using g2)⟩
def fzTb{α:Type}(r:Rep α)(xss:List (List α)):Option Nat→LV
 | none=>lF (rL r) xss
 | some _=>lU
theorem TabP.fz{o:Option Nat}{xss:List (List α)}{h:Value}{β:Nat→Value}(H:TabP r T T' o xss s 0 h hs τ a c):(fzTb r xss o).p β s h:=by
 cases o with
 | some _=>rw [H.e];rfl
 | none=>
  have hle:Le (sp s 0 τ) s:=⟨yNr _,fun b _ hb=>by
   unfold sp at hb;simp only at hb;split at hb
   ·omega
   ·rename_i g;exact absurd (by omega) g⟩
  obtain⟨cs,h1,h2⟩:=H.out;have h3:RowT (rL r) s 0 T a c xss:=by
   refine⟨cs,?_,ye8 h2 H.len fun i hd ys g1 g2=>?_⟩
   ·rw [←H.len];exact⟨h1.1,h1.2.imp id fun⟨b,off,cap,cur,g1,g2,g3⟩=>⟨b,off,cap,cur,g1,⟨g2.heap,(y8z g2.htag).1,g2.base⟩,g3⟩⟩
   ·obtain ⟨a,c,e,h5⟩:=H.inn i hd ys g1 g2 nofun;exact⟨a,c,e,h5.rd hle rfl fun b hb=>(y8z hb).1⟩
  exact⟨a,c,H.e,h3.rd0⟩
def TAB{α:Type}{r:Rep α}(hr:FlatR r)(T T':TypeId)(o:Option Nat)(xss:List (List α)):Ob:= .hp ⟨fun s t h=>∃hs τ a c,TabP r T T' o xss s t h hs τ a c,fzTb r xss o,
 fun m ht _ ⟨hs,τ,a,c,h⟩=>⟨hs,τ,a,c,h.to hr fun b hb e=>by
  obtain⟨g1,g2⟩:=m.blk b hb (by rw [e];exact ht);exact⟨g1,g2.trans e⟩⟩,
 fun _ hw ht ⟨hs,τ,a,c,h⟩=>⟨hs,τ,a,c,h.to hr fun b _ e=>⟨by rw [hw],ht b e⟩⟩,fun⟨_,_,_,_,h⟩ _=>h.fz⟩
def tkS(s:Sig)(t u i:Nat)(τ:Nat→Nat):Sig:=⟨s.w,fun b=>if s.tag b=t∧τ b=i+1 then u else s.tag b⟩
theorem TabP.take{xss:List (List α)}{h hd:Value}{i:Nat}{ys:List α}(hr:FlatR r)(H:TabP r T T' none xss s t h hs τ a c)(h1:hs[i]? =some hd)(h2:xss[i]? =some ys)(hu:u≠t):
  TabP r T T' (some i) xss (tkS s t u i τ) t h hs τ a c∧(∃a c,hd= .slice a ys.length c∧RowT r (tkS s t u i τ) u T' a c ys)∧Mv (fun x=>x=u∨x=t) s (tkS s t u i τ):=by
 have key:∀k b,k≠i+1→b<(sp s t τ).w.heap.size→(sp s t τ).tag b=2*k+1→(sp (tkS s t u i τ) t τ).w.heap[b]? =(sp s t τ).w.heap[b]? ∧(sp (tkS s t u i τ) t τ).tag b=2*k+1:=fun k b hk _ ht=>by
  obtain⟨q1,q2⟩:=y8z ht;have:(tkS s t u i τ).tag b=t:=by
   show(if s.tag b=t∧τ b=i+1 then u else s.tag b)=t;rw [iN (fun g=>hk (q2.symm.trans g.2)),q1]
  exact⟨rfl,by rw [sp_at this,q2]⟩
 refine⟨⟨H.e,H.out.fl y7N (fun b=>key 0 b (by omega)),H.len,fun j hd ys g1 g2 g3=>?_⟩,?_,?_⟩
 ·obtain ⟨a,c,e,h5⟩:=H.inn j hd ys g1 g2 nofun;exact⟨a,c,e,h5.fl hr fun b=>key (j+1) b fun e=>g3 (by rw [Nat.succ.inj e])⟩
 ·obtain ⟨a,c,e,h5⟩:=H.inn i hd ys h1 h2 nofun;refine⟨a,c,e,h5.fl hr fun b _ ht=>⟨rfl,?_⟩⟩;obtain⟨q1,q2⟩:=y8z ht;exact iP ⟨q1,q2⟩
 ·exact ⟨rfl,rfl,rfl,yNr _,fun b _ hn=>⟨rfl,iN fun g=>hn (.inr g.1)⟩⟩
def ptS(s':Sig)(t u:Nat):Sig:=⟨s'.w,fun b=>if s'.tag b % 2=1 then t else if s'.tag b=2*u then t else s'.tag b/2⟩
def ptR(s':Sig)(i:Nat):Nat→Nat:=fun b=>if s'.tag b % 2=1 then s'.tag b/2 else i+1
theorem TabP.put{xss:List (List α)}{h:Value}{i:Nat}{ys:List α}{a':Option Addr}{c':Nat}{o:Option Nat}(hr:FlatR r)(H:TabP r T T' o xss s t h hs τ a c)(hy:RowT r s u T' a' c' ys)(hut:u≠t)(ho:∀k,o=some k→k=i)(m:Mv (One (2*0+1)) (sp s t τ) s')(hR:RowT rVal s' (2*0+1) T a c (hs.set i (.slice a' ys.length c'))):
  TabP r T T' none (xss.set i ys) (ptS s' t u) t h (hs.set i (.slice a' ys.length c')) (ptR s' i) a c∧Mv (fun x=>x=t∨x=u) s (ptS s' t u):=by
 have odd:∀k b,s'.tag b=2*k+1→(sp (ptS s' t u) t (ptR s' i)).tag b=2*k+1:=fun k b e=>by
  have h1:(ptS s' t u).tag b=t:=iP (by omega);rw [sp_at h1];have:ptR s' i b=s'.tag b/2:=iP (by omega);rw [this];omega
 refine⟨⟨by rw [List.length_set];exact H.e,hR.fl y7N fun b _ e=>⟨rfl,odd 0 b e⟩,by rw [List.length_set,List.length_set];exact H.len,fun j hd zs g1 g2 _=>?_⟩,?_⟩
 ·by_cases hj:i=j
  ·subst hj;have hl1:=(yGs.1 g1).1;have hl2:=(yGs.1 g2).1;rw [List.getElem?_set_self (by simpa using hl1)] at g1;rw [List.getElem?_set_self (by simpa using hl2)] at g2;cases g1;cases g2;refine⟨a',c',rfl,hy.fl hr fun b hb e=>?_⟩;have h1:(sp s t τ).tag b=2*u:=by
    show(if s.tag b=t then _ else 2*s.tag b)=_;rw [iN (by omega),e]
   obtain⟨q1,q2⟩:=m.blk b hb (by rw [h1];show ¬2*u=2*0+1;omega);rw [h1] at q2;refine⟨q1,?_⟩;have h2:(ptS s' t u).tag b=t:=by
    show(if s'.tag b % 2=1 then t else if s'.tag b=2*u then t else _)=t;rw [iN (by omega),iP q2]
   have h3:ptR s' i b=i+1:=iN (by omega);rw [sp_at h2,h3]
  ·rw [List.getElem?_set_ne hj] at g1 g2;obtain⟨a,c,e,h5⟩:=H.inn j hd zs g1 g2 fun e=>hj (ho j e).symm;refine⟨a,c,e,h5.fl hr fun b hb e=>?_⟩;obtain⟨q1,q2⟩:=m.blk b hb (by rw [e];show ¬2*(j+1)+1=2*0+1;omega);exact⟨q1,odd _ b (q2.trans e)⟩
 ·refine ⟨m.os,m.tape,m.output,m.size,fun b hb hn=>?_⟩;have h1:(sp s t τ).tag b=2*s.tag b:=iN fun e=>hn (.inl e);obtain⟨q1,q2⟩:=m.blk b hb (by rw [h1];show ¬2*s.tag b=2*0+1;omega);rw [h1] at q2;refine⟨q1,?_⟩;show(if s'.tag b % 2=1 then t else if s'.tag b=2*u then t else s'.tag b/2)=s.tag b;rw [iN (by omega),iN (fun e=>hn (.inr (by omega))),q2];omega
theorem TabP.made{zs:List Value}{xss:List (List α)}{n:Nat}(h:RowT rVal s t T a c zs)(h1:zs=List.replicate n (.slice none 0 0))(h2:xss=List.replicate n []):TabP r T T' none xss s t (.slice a zs.length c) zs (fun _=>0) a c:=by
 refine⟨by rw [h1,h2,List.length_replicate,List.length_replicate],h.fl y7N fun b _ e=>⟨rfl,sp_at e⟩,by rw [h1,h2,List.length_replicate,List.length_replicate],fun i hd ys g1 g2 _=>?_⟩;subst h1 h2;obtain⟨_,e1⟩:=yGs.1 g1;obtain⟨_,e2⟩:=yGs.1 g2;rw [List.getElem_replicate] at e1 e2;subst e1 e2;exact⟨none,0,rfl,RowT.nil⟩
end
abbrev FT(d i q:Nat)(x:LV)(o o2:Ob):Eff:=⟨some (d,sL x),[(i,o),(q,o2)],some (i+1)⟩
section
variable{K:Kx}{C:Cx}{P:Program}{n:Nat}{ops:Array Oper}{σ:Sx}{d q i:Nat}{ty:TypeId}{pos:String}{af:Array Edge}{g:Option (Nat×Bool)}{β:Nat→Value}{s s':Sig}{e:List (Nat×Value)}
variable{α:Type}{r:Rep α}{hr:FlatR r}{T1 T2:TypeId}{o:Option Nat}{xss zss:List (List α)}{ys:List α}
theorem Aft.tk{k:Nat}{x:LV}{o o2:Ob}{v h:Value}(hi:Nat.ble k i=true)(hq:q≠i)(m:Mv (fun t=>t=C.tg i∨t=C.tg q) s s')(hx:x.p (upB β i h) s' v)(ho:o.p (upB β i h) s' (C.tg i) h)(ho2:o2.p (upB β i h) s' (C.tg q) (β q)):Aft C (FT d i q x o o2) k β (upB β i h) s s' e ((d,v)::e) where
 hd j hj:=y6i (by have:=yNl hi;omega)
 hn j hj:=y6i fun e=>hj o (by rw [e];exact .head _)
 mv:=m.weak fun t ht=>ht.elim (fun ht=>⟨i,o,.head _,ht⟩) (fun ht=>⟨q,o2,.tail _ (.head _),ht⟩)
 sl d' hn:=Env.get_put fun e=>hn (sL x) (by rw [e])
 dst d' x' e:=by cases e;exact⟨v,by simp [Env.get],hx⟩
 ob j o' hm:=by
  rcases yMo.1 hm with e|hm
  ·cases e;rw [y6V];exact ho
  ·rcases yMo.1 hm with e|hm
   ·cases e;rw [y6i hq];exact ho2
   ·cases hm
theorem O.mkT{x:Operand}{T:TypeId}{k:IntKind}{j:Int}(hr:FlatR r)(T2:TypeId)(i:Nat)(hU:P.underlying T=some (.slice U))(hZ:Zr P rVal U by_ (.slice none 0 0))(hby:Nat.ble by_ 32768=true)(hi:Nat.ble σ.n i=true)(hg:Gu ops σ g)(hx:σ.ev x=some (VL (.int k j)))(hy:σ.ev y=some (VL (.int k' j)))(hl:mkL j []=some xss)(hb:Nat.blt d n=true):
  Ox K C P n ops ⟨some d,.makeSlice T x y,ty,pos,af,g⟩ σ (FN d i (lH i) (TAB hr U T2 none xss)):=fun Φ Q os β s e hd k=>by
 obtain⟨h0,h1,h2⟩:=ybx hl;exact L.mk (C.tg i) hU hZ hby (hd.gd hg) (hd.evl hx) (hd.evl hy) (ygx h0 h1) hb fun b s' m h5=>k _ s' _ (Aft.new hi m.no (lH_at rfl) ⟨_,_,_,_,TabP.made h5 rfl h2⟩)
theorem O.irT{x i:Operand}{T:TypeId}{k:IntKind}{j:Int}{y:List α}(hS:Sl P T U 1)(hg:Gu ops σ g)(hx:σ.ev x=some (sL (lH q)))(ho:aget σ.ob q=some (TAB hr T1 T2 o xss))(hi:σ.ev i=some (VL (.int k j)))(hy:idx xss j=some y)(hb:Nat.blt d n=true):Ox K C P n ops ⟨some d,.indexAddr T x i,ty,pos,af,g⟩ σ (F1 d (sL (lR q 1 j.toNat 0))):=
 Ox.pure fun _ _ _ β s e hd k=>by
  obtain⟨v,h1,h2,_⟩:=hd.evv hx;obtain⟨hs,τ,a,c,H⟩:=hd.ob q _ ho;obtain⟨h0,hk,_⟩:=y5H hy;have hk':j.toNat<hs.length:=by rw [H.len];exact hk
  exact L.ir (s:=sp s (C.tg q) τ) (r:=rVal) hS H.out (hd.gd hg) (show Env.ev e x=some (.slice a hs.length c) by rw [h1,h2,H.e,H.len]) (hd.evl hi) (show idx hs j=some hs[j.toNat] by unfold idx;rw [iP h0,yGe hk']) hb fun b o cs h3 h4 h5=>k _ ⟨b,o,a,_,c,H.e,h5,rfl⟩
theorem O.ldT{x:Operand}{T:TypeId}{j:Int}(i:Nat)(hT:NAg P T)(hi:Nat.ble σ.n i=true)(hg:Gu ops σ g)(hx:σ.ev x=some (sL (lR q 1 j.toNat 0)))(ho:aget σ.ob q=some (TAB hr T1 T2 none xss))(hy:idx xss j=some ys)(hb:Nat.blt d n=true):
  Ox K C P n ops ⟨some d,.load T x,ty,pos,af,g⟩ σ (FT d i q (lH i) (ROW r T2 ys) (TAB hr T1 T2 (some j.toNat) xss)):=fun Φ Q os β s e hd k=>by
 obtain⟨v,h1,b,o',a',n',c',h2,h3,rfl⟩:=hd.evv hx;obtain⟨hs,τ,a,c,H⟩:=hd.ob q _ ho;obtain⟨h0,hk,e0⟩:=y5H hy;have hk':j.toNat<hs.length:=by rw [H.len];exact hk
 have he:=H.e;rw [h2] at he;simp only [Value.slice.injEq] at he;obtain⟨rfl,rfl,rfl⟩:=he;obtain⟨cs,m1,m3,m4⟩:=H.out.memAt h3 hk';have hq:q<σ.n:=(hd.fo _ _ ho).1;have hqi:q≠i:=by have:=yNl hi;omega
 have hu:C.tg i≠C.tg q:=fun e=>hqi (hd.ok.inj e).symm;obtain⟨g1,⟨a2,c2,e2,g2⟩,g3⟩:=H.take (u:=C.tg i) hr (yGe hk') (show xss[j.toNat]? =some ys by rw [yGe hk,e0]) hu;exact L.ld (s:=sp s (C.tg q) τ) (j:=0) (v:=hs[j.toNat]) m1 hT (hd.gd hg) h1 rfl (by rw [m3];rfl) hb (k (upB β i hs[j.toNat]) (tkS s (C.tg q) (C.tg i) j.toNat τ) _ (Aft.tk hi hqi g3 (lH_at m4) ⟨a2,c2,e2,g2⟩ ⟨hs,τ,a',c',g1⟩))
theorem O.stT{x:Operand}{T:TypeId}{J:Int}(hT:∀w,(sizeOf T).run P w= .ok 1 w)(hg:Gu ops σ g)(hx:σ.ev x=some (sL (lR q 1 J.toNat 0)))(ho:aget σ.ob q=some (TAB hr T1 T2 o xss))(hu:upd xss J ys=some zss)(hy:σ.ev y=some (sL (lH i)))(hoi:aget σ.ob i=some (ROW r T2 ys))(hqi:Nat.beq q i=false)(hk:∀k,o=some k→k=J.toNat):
  Ox K C P n ops ⟨none,.store T x y,ty,pos,af,g⟩ σ ⟨none,[(q,TAB hr T1 T2 none zss),(i,.u)],none⟩:=fun Φ Q os β s e hd k=>by
 obtain⟨v,h1,b,o',a',n',c',h2,h3,rfl⟩:=hd.evv hx;obtain⟨a2,c2,h4,h5,h6⟩:=hd.row hy hoi;obtain⟨hs,τ,a,c,H⟩:=hd.ob q _ ho;have he:=H.e;rw [h2] at he;simp only [Value.slice.injEq] at he;obtain⟨rfl,rfl,rfl⟩:=he;obtain⟨h0,hk1,rfl⟩:=y9Y hu;have hk':J.toNat<hs.length:=by rw [H.len];exact hk1
 have hne:C.tg i≠C.tg q:=fun e=>by
  have:=hd.ok.inj e;rw [this,Nat.beq_refl] at hqi;cases hqi
 refine L.su (s:=sp s (C.tg q) τ) (r:=rVal) (fo:=0) (m:=1) H.out h3 (show idx hs J=some hs[J.toNat] by unfold idx;rw [iP h0,yGe hk']) (show upd hs J (.slice a2 ys.length c2)=some (hs.set J.toNat (.slice a2 ys.length c2)) by unfold upd;rw [iP ⟨h0,by omega⟩]) rfl hT (hd.gd hg) h1 h5 rfl rfl rfl rfl (fun c0 h0=>?_) fun s' m h8=>?_
 ·obtain ⟨e1,_⟩:=h0;rw [e1];exact⟨rfl,rfl⟩
 ·obtain ⟨g1,g2⟩:=H.put hr h6 hne hk m h8;refine k β (ptS s' (C.tg q) (C.tg i)) e ⟨fun _ _=>rfl,fun _ _=>rfl,g2.weak fun t ht=>ht.elim (fun ht=>⟨q,_,.head _,ht⟩) (fun ht=>⟨i,.u,.tail _ (.head _),ht⟩),fun _ _=>rfl,nofun,fun j o' hm=>?_⟩;rcases yMo.1 hm with e|hm
  ·cases e;rw [←h2] at *;exact⟨_,_,_,_,g1⟩
  ·rcases yMo.1 hm with e|hm
   ·cases e;trivial
   ·cases hm
theorem fTb :∀q,TAB hr T1 T2 none xss= .hp q→q.fz.refs= []:=fun q e=>by cases e;rfl
end
def fzAll :Nat→List Ob→SV→SV
 | _,[],r=>r
 | i,o::os,r=>fzAll (i+1) os (fzS i o r)
theorem yfr{β:Nat→Value}{s:Sig}{v:Value}:∀{ob:List Ob} {k:Nat} {r:SV},(∀(i:Nat) (o:Ob),ob[i]? =some o→o.p β s 0 (β (k+i)))→r.p β s v→(fzAll k ob r).p β s v
 | [],_,_,_,h=>h
 | o::os,k,r,ho,h=>yfr (k:=k+1) (fun i o' hi=>by
   have:=ho (i+1) o' (by simpa using hi);rwa [show k+(i+1)=k+1+i by omega] at this) (fzS_p (Le.refl _) (ho 0 o rfl) h)
theorem Fw.fz{f:FuncId}{r:SV}(h:Fw P f ⟨0,[]⟩ av [] r ob'):Fw P f ⟨0,[]⟩ av [] (fzAll 0 ob' r) [] where
 is ts β s vs _ _ _ _ h3 _:=Calls.mono (h.is (List.replicate ob'.length 0) β s vs (by simp) (yZl _) (by simp) (by simp) h3 (fun i o h=>by simp at h)) fun en w' ⟨v,s',a1,a2,a3,β',b1,b2,b3⟩=>
  ⟨v,s',a1,a2,a3.weak fun t ⟨i,hi,_⟩=>(by cases hi),β',b1,yfr (fun i o hi=>by
   have:=b3 i o hi;rw [yNz];rwa [show (List.replicate ob'.length 0).getD i 0=0 by rw [yGd];by_cases hl:i<ob'.length <;> simp [hl]] at this) b2,fun i o hi=>by simp at hi⟩
end
section
open Go.Proofs.Tryz Go.RowKit
variable{xs:List Ed}{k:Nat}{n:Int}{w:World}{al:LI}
theorem y5y{α:Type}(xs:List α)(k:Nat)(h:k<xs.length):xs.take (k+1)=xs.take k++[xs[k]]:=by
 rw [yTs h]
theorem yg6{xs:LI}(h:k<xs.length)(hn:Hid (n∉xs.take k))(hx:(xs[k]==n)=false):Hid (n∉xs.take (k+1)):=by
 show n∉xs.take (k+1);rw [y5y xs k h,yMa];rintro(h1|h1)
 ·exact hn.out h1
 ·rw [yMs.1 h1,beq_self_eq_true] at hx;cases hx
theorem ygF{xs:LI}(hk:k≤xs.length)(h:¬k<xs.length)(hn:Hid (n∉xs.take k)):n∉xs:=by
 have h1:=hn.out;rwa [List.take_of_length_le (by omega)] at h1
theorem yas(v:Value)(xs:LI)(n:Int)(w:World)(hr:RdI w v xs)(hl:xs.length≤1000000):
    Calls prog 181 #[v,.int .i64 n] w fun e w'=>e= .returned (.int .i64 (ym n none xs))∧w=w':=by
  obtain⟨a,cap,rfl,hr⟩:=hr
  go_enter func181,ntmps181
  go_wp2
  go_loop [9] (fun i=>∃k:Nat,k≤xs.length∧i= .int .i64 k∧Hid (ym n none xs=ym n (y4G xs k) (xs.drop k))) (fun i=>xs.length-(intOf i).toNat)
  case atStart=>exact⟨0,yZl _,rfl,by simp [Hid,y4G]⟩
  case round=>
    obtain⟨k,hk,rfl,hn⟩:=hrel;by_cases hlt:k<xs.length
    · obtain⟨b,off,rfl,hc⟩:=hr.at_int k hlt;obtain⟨b',off',hb',hc'⟩:=hr.at_int (k-1) (by omega);cases hb';by_cases h0:0<k
      all_goals
        go_wp2
        all_goals first
          | (go_ret;exact⟨y7i (hn.out.trans (ybv hlt (by omega))).symm,rfl⟩)
          | (go_ret;exact⟨y7i (hn.out.trans (ybw hlt (by omega) (by omega) (by omega))).symm,rfl⟩)
          | (go_round
             case rel=>exact⟨k+1,by omega,by go_num,hn.out.trans (y7I hlt (by omega) (by omega))⟩
             case measure=>simp [intOf];omega)
    · go_wp2
      go_ret
      exact⟨y7i (hn.out.trans (yc5 hlt)).symm,rfl⟩
theorem ydU(v:Value)(xs:LI)(n:Int)(w:World)(hr:RdI w v xs)(hl:xs.length≤1000000):
    Calls prog 277 #[v,.int .i64 n] w fun e w'=>e= .returned (.int .i64 (ym n none xs))∧w=w':=by
  obtain⟨a,cap,rfl,hr⟩:=hr
  go_enter func277,ntmps277
  go_wp2
  go_loop [9] (fun i=>∃k:Nat,k≤xs.length∧i= .int .i64 k∧Hid (ym n none xs=ym n (y4G xs k) (xs.drop k))) (fun i=>xs.length-(intOf i).toNat)
  case atStart=>exact⟨0,yZl _,rfl,by simp [Hid,y4G]⟩
  case round=>
    obtain⟨k,hk,rfl,hn⟩:=hrel;by_cases hlt:k<xs.length
    · obtain⟨b,off,rfl,hc⟩:=hr.at_int k hlt;obtain⟨b',off',hb',hc'⟩:=hr.at_int (k-1) (by omega);cases hb';by_cases h0:0<k
      all_goals
        go_wp2
        all_goals first
          | (go_ret;exact⟨y7i (hn.out.trans (ybv hlt (by omega))).symm,rfl⟩)
          | (go_ret;exact⟨y7i (hn.out.trans (ybw hlt (by omega) (by omega) (by omega))).symm,rfl⟩)
          | (go_round
             case rel=>exact⟨k+1,by omega,by go_num,hn.out.trans (y7I hlt (by omega) (by omega))⟩
             case measure=>simp [intOf];omega)
    · go_wp2
      go_ret
      exact⟨y7i (hn.out.trans (yc5 hlt)).symm,rfl⟩
def idxI(xs:LI)(n:Int):Int:=if n∈xs then(xs.idxOf n:Int) else -1
theorem yjo{xs:LI}(h:k<xs.length)(hn:Hid (n∉xs.take k))(hx:(n==xs[k])=true):idxI xs n=k:=by
 have hx':=eq_of_beq hx;have hm:n∈xs:=hx'▸yGm h;rw [idxI,iP hm];congr 1;have h1:=hn.out;rw [←List.take_append_drop k xs,List.idxOf_append,iN h1,yDc h,←hx',List.idxOf_cons_self,yLt];omega
theorem ydh{xs:LI}(h:n∉xs):idxI xs n= -1:=by rw [idxI,iN h]
theorem ygG(xs:LI)(n:Int):decide (0≤idxI xs n)=hasB xs n:=by
 by_cases h:n∈xs
 ·rw [yd.2 h,idxI,iP h];simp
 ·rw [y7n.2 h,ydh h];rfl
theorem ygH(v:Value)(xs:LI)(n:Int)(w:World)(hr:RdI w v xs)(hl:xs.length≤1000000):
  Calls prog 110 #[v,.int .i64 n] w fun e w'=>e= .returned (.int .i64 (idxI xs n))∧w=w':=by
 obtain⟨a,cap,rfl,hr⟩:=hr
 go_enter func110,ntmps110
 go_wp2
 go_loop [8] (fun i=>∃k:Nat,k≤xs.length∧i= .int .i64 k∧Hid (n∉xs.take k)) (fun i=>xs.length-(intOf i).toNat)
 case atStart=>exact⟨0,yZl _,rfl,by simp [Hid]⟩
 case round=>
  obtain⟨k,hk,rfl,hn⟩:=hrel;by_cases hlt:k<xs.length
  ·obtain ⟨b,off,rfl,hc⟩:=hr.at_int k hlt
   go_wp2
   ·have hx:(n==xs[k])=true:=by assumption
    go_ret
    exact⟨y7i (yjo hlt hn hx).symm,rfl⟩
   ·have hx:(n==xs[k])=false:=by assumption
    go_round
    case rel=>exact⟨k+1,by omega,by go_num,yg6 hlt hn (by rw [Bool.eq_false_iff] at hx ⊢;intro h;exact hx (by rw [eq_of_beq h];exact beq_self_eq_true _))⟩
    case measure=>simp [intOf];omega
  ·go_wp2
   go_ret
   exact⟨y7i (ydh (ygF hk hlt hn)).symm,rfl⟩
theorem ye9(v:Value)(xs:LI)(n:Int)(w:World)(hr:RdI w v xs)(hl:xs.length≤1000000):
  Calls prog 41 #[v,.int .i64 n] w fun e w'=>e= .returned (.bool (hasB xs n))∧w=w':=by
 go_enter func41,ntmps41
 go_wp2_with (go_at_call 110;((with_reducible refine(ygH _ _ _ _ hr hl).mono ?_);rintro e w1 ⟨rfl,rfl⟩))
 go_ret
 exact⟨yhZ (ygG xs n),rfl⟩
structure Aut where
 al:LI
 n:Int
 ms:LI
 es:List Ed
def RdA(w:World)(v:Value)(a:Aut):Prop:=∃va vm ve,v= .agg #[va,.int .i64 a.n,vm,ve]∧RdI w va a.al∧RdI w vm a.ms∧RdE w ve a.es
theorem RdA.mono{w':World}{v:Value}{a:Aut}(h:RdA w v a)(hb:Below w.heap.size w w'):RdA w' v a:=by
 obtain⟨va,vm,ve,rfl,h1,h2,h3⟩:=h;exact⟨va,vm,ve,rfl,h1.mono hb,h2.mono hb,h3.mono hb⟩
structure Aut.small (a:Aut):Prop where
 al:a.al.length≤1000000
 ms:a.ms.length≤1000000
 es:a.es.length≤1000000
def edErr(al:LI)(n:Int):Option Ed→List Ed→Int
 | _,[]=>0
 | p,x::xs=>if(x.f<0∨n≤x.f∨x.t<0∨n≤x.t) then 2 else if hasB al x.e=false then 9 else if(∃q,p=some q∧(x.f<q.f∨(x.f=q.f∧x.e≤q.e))) then 5 else edErr al n (some x) xs
def y5g(xs:List Ed)(k:Nat):Option Ed:=if k=0 then none else xs[k-1]?
theorem y8h(hk:k<xs.length):edErr al n (y5g xs k) (xs.drop k)=if(xs[k].f<0∨n≤xs[k].f∨xs[k].t<0∨n≤xs[k].t) then 2 else if hasB al xs[k].e=false then 9 else if(∃q,y5g xs k=some q∧(xs[k].f<q.f∨(xs[k].f=q.f∧xs[k].e≤q.e))) then 5 else edErr al n (y5g xs (k+1)) (xs.drop (k+1)):=by
 rw [yDc hk,edErr];congr 3;simp [y5g,yGe hk]
theorem yjp(hk:k<xs.length)(h:xs[k].f<0∨n≤xs[k].f∨xs[k].t<0∨n≤xs[k].t):edErr al n (y5g xs k) (xs.drop k)=2:=by rw [y8h hk,iP h]
theorem yjq(hk:k<xs.length)(h:¬(xs[k].f<0∨n≤xs[k].f∨xs[k].t<0∨n≤xs[k].t))(h0:(!hasB al xs[k].e)=true):edErr al n (y5g xs k) (xs.drop k)=9:=by rw [y8h hk,iN h,iP (by simpa using h0)]
theorem yjr(hk:k<xs.length)(h:¬(xs[k].f<0∨n≤xs[k].f∨xs[k].t<0∨n≤xs[k].t))(h0:(!hasB al xs[k].e)=false)(h1:0<k)(h2:xs[k].f<xs[k-1].f∨(xs[k].f=xs[k-1].f∧xs[k].e≤xs[k-1].e)):edErr al n (y5g xs k) (xs.drop k)=5:=by
 rw [y8h hk,iN h,iN (by simpa using h0),iP];exact⟨xs[k-1],by rw [y5g,iN (by omega),yGe (by omega)],h2⟩
theorem yg7(hk:k<xs.length)(h:¬(xs[k].f<0∨n≤xs[k].f∨xs[k].t<0∨n≤xs[k].t))(h0:(!hasB al xs[k].e)=false)(h2:0<k→¬(xs[k].f<xs[k-1].f∨(xs[k].f=xs[k-1].f∧xs[k].e≤xs[k-1].e))):edErr al n (y5g xs k) (xs.drop k)=edErr al n (y5g xs (k+1)) (xs.drop (k+1)):=by
 rw [y8h hk,iN h,iN (by simpa using h0),iN];rintro⟨q,hq,hle⟩;unfold y5g at hq;split at hq
 ·cases hq
 ·rw [yGe (by omega)] at hq;exact h2 (by omega) (ySi hq▸hle)
theorem ygI(hk:¬k<xs.length):edErr al n (y5g xs k) (xs.drop k)=0:=by
 rw [List.drop_of_length_le (by omega)];cases y5g xs k <;> rfl
set_option maxHeartbeats 2000000 in
theorem ycP(v:Value)(a:Aut)(w:World)(hr:RdA w v a)(hs:a.small):
    Calls prog 182 #[v] w (Ret w fun u _=>u= .int .i64 (edErr a.al a.n none a.es)):=by
  obtain⟨va,vm,ve,rfl,⟨aa,ca,rfl,hra⟩,⟨am,cm,rfl,hrm⟩,⟨ae,ce,rfl,hre⟩⟩:=hr;obtain⟨al,n,ms,es⟩:=a;obtain⟨hs1,hs2,hs3⟩:=hs;dsimp only at *;have hA:RdI w (.slice aa al.length ca) al:=⟨aa,ca,rfl,hra⟩
  go_enter func182,ntmps182
  go_wp2
  go_loopw [9] (fun j wr=>∃k:Nat,k≤es.length∧j= .int .i64 k∧Hid (edErr al n none es=edErr al n (y5g es k) (es.drop k))∧Below (w.heap.size+1) (w.alloc (.cells #[.slice aa al.length ca,.int .i64 n,.slice am ms.length cm,.slice ae es.length ce] 60)) wr) (fun j wr=>es.length-(intOf j).toNat)
  case atStart=>exact⟨0,yZl _,rfl,by simp [Hid,y5g],Below.refl _ _⟩
  case round=>
    obtain⟨k,hk,rfl,hn,hB⟩:=hrel;have hB0:Below w.heap.size w wr:=((Below.refl _ _).alloc (yNr _) _).trans (hB.mono (Nat.le_succ _));by_cases hlt:k<es.length
    · obtain⟨b,off,rfl,c0,c1,c2⟩:=hre.at_edge k hlt;obtain⟨b',off',hb',d0,d1,d2⟩:=hre.at_edge (k-1) (by omega);cases hb';have hbx:∀o,wr.cell? ⟨w.heap.size,o,none⟩=(w.alloc (.cells #[.slice aa al.length ca,.int .i64 n,.slice am ms.length cm,.slice (some ⟨b,off,none⟩) es.length ce] 60)).cell? ⟨w.heap.size,o,none⟩:=fun o=>hB.cell (p:=⟨w.heap.size,o,none⟩) (by simp);replace c0:=keep0 hB0 c0;replace c1:=keep0 hB0 c1;replace c2:=keep0 hB0 c2;replace d0:=keep0 hB0 d0;replace d1:=keep0 hB0 d1;replace d2:=keep0 hB0 d2;have hz:w.heap.size<wr.heap.size:=by have:=hB.size;simp at this;omega
      have hbz:b<wr.heap.size:=World.block_lt_of_cell? wr _ c0;by_cases h0:0<k
      all_goals
        go_wp2_with (go_at_call 41;((with_reducible refine(ye9 _ _ _ _ (hA.mono (by (repeat (first | with_reducible exact Below.refl _ _|with_reducible exact hB0|(with_reducible refine yR ?_ hB0 (by first | omega|(simp;done)|(simp;omega)|(simp at *;omega)))|(with_reducible refine Below.alloc ?_ (by first | omega|(simp;done)|(simp;omega)|(simp at *;omega)) _)|(with_reducible refine Below.drew ?_)|(with_reducible refine Below.setCell ?_ (by first | omega|(simp;done)|(simp;omega)|(simp at *;omega)) _))))) hs1).mono ?_);rintro e w1 ⟨rfl,rfl⟩))
        all_goals first
          | (go_ret;exact⟨_,rfl,congrArg (Value.int .i64) (hn.out.trans (yjp hlt (by omega))).symm,(by (repeat (first | with_reducible exact Below.refl _ _ | with_reducible exact hB0 | (with_reducible refine yR ?_ hB0 (by first | omega | (simp;done) | (simp;omega) | (simp at *;omega))) | (with_reducible refine Below.alloc ?_ (by first | omega | (simp;done) | (simp;omega) | (simp at *;omega)) _) | (with_reducible refine Below.drew ?_) | (with_reducible refine Below.setCell ?_ (by first | omega | (simp;done) | (simp;omega) | (simp at *;omega)) _))))⟩)
          | (go_ret;exact⟨_,rfl,congrArg (Value.int .i64) (hn.out.trans (yjq hlt (by omega) (by assumption))).symm,(by (repeat (first | with_reducible exact Below.refl _ _ | with_reducible exact hB0 | (with_reducible refine yR ?_ hB0 (by first | omega | (simp;done) | (simp;omega) | (simp at *;omega))) | (with_reducible refine Below.alloc ?_ (by first | omega | (simp;done) | (simp;omega) | (simp at *;omega)) _) | (with_reducible refine Below.drew ?_) | (with_reducible refine Below.setCell ?_ (by first | omega | (simp;done) | (simp;omega) | (simp at *;omega)) _))))⟩)
          | (go_ret;exact⟨_,rfl,congrArg (Value.int .i64) (hn.out.trans (yjr hlt (by omega) (by assumption) (by omega) (by omega))).symm,(by (repeat (first | with_reducible exact Below.refl _ _ | with_reducible exact hB0 | (with_reducible refine yR ?_ hB0 (by first | omega | (simp;done) | (simp;omega) | (simp at *;omega))) | (with_reducible refine Below.alloc ?_ (by first | omega | (simp;done) | (simp;omega) | (simp at *;omega)) _) | (with_reducible refine Below.drew ?_) | (with_reducible refine Below.setCell ?_ (by first | omega | (simp;done) | (simp;omega) | (simp at *;omega)) _))))⟩)
          | (go_roundw
             case rel=>exact⟨k+1,by omega,by go_num,hn.out.trans (yg7 hlt (by omega) (by assumption) (by omega)),(by (repeat (first | with_reducible exact Below.refl _ _|with_reducible exact hB|(with_reducible refine yR ?_ hB (by first | omega|(simp;done)|(simp;omega)|(simp at *;omega)))|(with_reducible refine Below.alloc ?_ (by first | omega|(simp;done)|(simp;omega)|(simp at *;omega)) _)|(with_reducible refine Below.drew ?_)|(with_reducible refine Below.setCell ?_ (by first | omega|(simp;done)|(simp;omega)|(simp at *;omega)) _))))⟩
             case measure=>simp [intOf];omega)
    · go_wp2
      (go_ret;exact⟨_,rfl,congrArg (Value.int .i64) (hn.out.trans (ygI hlt)).symm,(by (repeat (first | with_reducible exact Below.refl _ _|with_reducible exact hB0|(with_reducible refine yR ?_ hB0 (by first | omega|(simp;done)|(simp;omega)|(simp at *;omega)))|(with_reducible refine Below.alloc ?_ (by first | omega|(simp;done)|(simp;omega)|(simp at *;omega)) _)|(with_reducible refine Below.drew ?_)|(with_reducible refine Below.setCell ?_ (by first | omega|(simp;done)|(simp;omega)|(simp at *;omega)) _))))⟩)
def Aut.err(a:Aut):Int:=
 if(ym 32 none a.al != 0)=true then ym 32 none a.al else if a.n<0 then 2 else if 4096<a.n then 3 else if(ym a.n none a.ms != 0)=true then ym a.n none a.ms else edErr a.al a.n none a.es
theorem ygJ(v:Value)(a:Aut)(w:World)(hr:RdA w v a)(hs:a.small):
  Calls prog 114 #[v] w (Ret w fun u _=>u= .int .i64 a.err):=by
 have hr0:=hr;obtain⟨va,vm,ve,rfl,ha,hm,he⟩:=hr;have hs0:=hs;obtain⟨al,n,ms,es⟩:=a;obtain⟨hs1,hs2,hs3⟩:=hs;dsimp only at *
 go_enter func114,ntmps114
 go_wp2_with (first | (go_at_call 181;((with_reducible refine(yas _ _ _ _ (ha.mono (by (repeat (first | with_reducible exact Below.refl _ _|with_reducible exact hb|(with_reducible refine yR ?_ hb (by first | omega|(simp;done)|(simp;omega)|(simp at *;omega)))|(with_reducible refine Below.alloc ?_ (by first | omega|(simp;done)|(simp;omega)|(simp at *;omega)) _)|(with_reducible refine Below.drew ?_)|(with_reducible refine Below.setCell ?_ (by first | omega|(simp;done)|(simp;omega)|(simp at *;omega)) _))))) hs1).mono ?_);rintro e w1 ⟨rfl,rfl⟩))|(go_at_call 181;((with_reducible refine(yas _ _ _ _ (hm.mono (by (repeat (first | with_reducible exact Below.refl _ _|with_reducible exact hb|(with_reducible refine yR ?_ hb (by first | omega|(simp;done)|(simp;omega)|(simp at *;omega)))|(with_reducible refine Below.alloc ?_ (by first | omega|(simp;done)|(simp;omega)|(simp at *;omega)) _)|(with_reducible refine Below.drew ?_)|(with_reducible refine Below.setCell ?_ (by first | omega|(simp;done)|(simp;omega)|(simp at *;omega)) _))))) hs2).mono ?_);rintro e w1 ⟨rfl,rfl⟩))|(go_at_call 182;((with_reducible refine(ycP _ _ _ (hr0.mono (by (repeat (first | with_reducible exact Below.refl _ _|with_reducible exact hb|(with_reducible refine yR ?_ hb (by first | omega|(simp;done)|(simp;omega)|(simp at *;omega)))|(with_reducible refine Below.alloc ?_ (by first | omega|(simp;done)|(simp;omega)|(simp at *;omega)) _)|(with_reducible refine Below.drew ?_)|(with_reducible refine Below.setCell ?_ (by first | omega|(simp;done)|(simp;omega)|(simp at *;omega)) _))))) hs0).mono ?_);rintro e w1 ⟨_,rfl,rfl,hb⟩)))
 all_goals
  go_ret
  refine⟨_,rfl,congrArg (Value.int .i64) ?_,?_⟩
  ·simp [Aut.err, *]
   try omega
  ·first | ((repeat (first | with_reducible exact Below.refl _ _|with_reducible exact hb|(with_reducible refine yR ?_ hb (by first | omega|(simp;done)|(simp;omega)|(simp at *;omega)))|(with_reducible refine Below.alloc ?_ (by first | omega|(simp;done)|(simp;omega)|(simp at *;omega)) _)|(with_reducible refine Below.drew ?_)|(with_reducible refine Below.setCell ?_ (by first | omega|(simp;done)|(simp;omega)|(simp at *;omega)) _)));done)|((repeat (first | with_reducible exact Below.refl _ _|with_reducible exact hr0|(with_reducible refine yR ?_ hr0 (by first | omega|(simp;done)|(simp;omega)|(simp at *;omega)))|(with_reducible refine Below.alloc ?_ (by first | omega|(simp;done)|(simp;omega)|(simp at *;omega)) _)|(with_reducible refine Below.drew ?_)|(with_reducible refine Below.setCell ?_ (by first | omega|(simp;done)|(simp;omega)|(simp at *;omega)) _)));done)
theorem yinfo_int :(prog.info? 3).map (fun i=>(i.zero,i.size,i.bytes))=some (some (.int .i64 0),1,8):=by kernel_rfl
theorem yinfo_bool :(prog.info? 4).map (fun i=>(i.zero,i.size,i.bytes))=some (some (.bool false),1,1):=by kernel_rfl
abbrev bools(xs:List Bool):List Value:=xs.map Value.bool
theorem ygK(w:World)(cs:List Value)(t:TypeId):∀j u,cs[j]? =some u→(w.alloc (.cells cs.toArray t)).cell? ((⟨w.heap.size,0,none⟩:Addr).add j)=some u:=by
 intro j u h;have:(⟨w.heap.size,0,none⟩:Addr).add j=⟨w.heap.size,j,none⟩:=by unfold Addr.add;split <;> simp_all
 rw [this,World.cell?_alloc_new];simpa using h
theorem y8A{s:Nat}(cs:List Value)(t:TypeId)(h:s=w.heap.size):∀j u,cs[j]? =some u→(w.alloc (.cells cs.toArray t)).cell? ((⟨s,0,none⟩:Addr).add j)=some u:=by
 subst h;exact ygK w cs t
theorem yi5{B:Nat}{t:TypeId}{g n cap:Nat}{xs:List Value}(h:w.ownsRow B t 1 (.slice (some ⟨g,0,none⟩) n cap) n xs)(j:Nat)(hj:j<n):∃u,w.cell? ⟨g,j,none⟩=some u:=by
 have h1:=h.cellAt j (by omega);rw [yGe (by have:=h.1;omega)] at h1;exact⟨_,h1⟩
def flagL(n:Nat)(set:LI):List Bool:=(List.range n).map fun i=>hasB set (i:Nat)
theorem yaJ(n:Nat)(set:LI):(flagL n set).length=n:=by simp [flagL]
theorem ygL(n:Nat):bools (flagL n [])=List.replicate n (Value.bool false):=by
 apply List.ext_getElem
 ·simp [flagL]
 ·intro i h1 h2;simp [flagL,hasB]
theorem yg8(n:Nat)(set:LI)(x:Int)(h0:0≤x):bools (flagL n (set++[x]))=(bools (flagL n set)).set x.toNat (.bool true):=by
 apply List.ext_getElem
 ·simp [flagL]
 ·intro i h1 h2;rw [List.getElem_set];simp only [flagL,List.getElem_map,List.getElem_range,hasB,List.contains_eq_mem,yMa,yMs];by_cases hi:x.toNat=i
  ·rw [iP hi];have:(i:Int)=x:=by omega
   simp [this]
  ·rw [iN hi];have:¬(i:Int)=x:=by omega
   simp [this]
theorem ydi(va vm ve v:Value)(n:Nat)(set:LI)(w:World)(hr:RdI w v set)(hl:set.length≤1000000)(hn:n≤1000000)(hin:∀x∈set,0≤x∧x<n):
  Calls prog 235 #[.agg #[va,.int .i64 n,vm,ve],v] w (Ret w fun u w'=>w'.ownsRow w.heap.size 4 1 u n (bools (flagL n set))):=by
 obtain⟨a,cap,rfl,hr⟩:=hr;obtain⟨i0,hi,hz0,hz1,hz2⟩:=info_parts yinfo_bool;have Hin:=Lib.hid hin;clear hin
 go_enter func235,ntmps235
 go_wp2_with (at_make;refine wpList_make_full _ rfl _ _ 177 rfl w.heap.size 4 i0 (.bool false) 1 underlying177 hi hz0 hz1 .i64 .i64 _ _ (n) rfl rfl (by first | rfl|omega) (by first | rfl|omega) (by rw [hz2];omega) (by unfold maxLen;omega) (by first | omega|(simp;done)|(simp;omega)|(simp at *;omega)) ?_;intro w0 hown hgrow0)
 have hown1:w0.ownsRow w.heap.size 4 1 (.slice (some ⟨w.heap.size+1,0,none⟩) n n) n (bools (flagL n [])):=by
  rw [ygL];simpa [Value.cells,toList_madeCells_one] using hown
 have hB0:Below w.heap.size w w0:=Below.grown (by (repeat (first | with_reducible exact Below.refl _ _|with_reducible exact hr|(with_reducible refine yR ?_ hr (by first | omega|(simp;done)|(simp;omega)|(simp at *;omega)))|(with_reducible refine Below.alloc ?_ (by first | omega|(simp;done)|(simp;omega)|(simp at *;omega)) _)|(with_reducible refine Below.drew ?_)|(with_reducible refine Below.setCell ?_ (by first | omega|(simp;done)|(simp;omega)|(simp at *;omega)) _)))) hgrow0 (by simp) (fun k e=>(by cases e));clear hown hgrow0
 go_wp2_with fail
 go_loopw [13] (fun i wr=>∃k:Nat,k≤set.length∧i= .int .i64 k∧Below w.heap.size w wr∧wr.ownsRow w.heap.size 4 1 (.slice (some ⟨w.heap.size+1,0,none⟩) n n) n (bools (flagL n (set.take k)))) (fun i _=>set.length-(intOf i).toNat)
 case atStart=>exact⟨0,yZl _,rfl,hB0,by simpa using hown1⟩
 case round=>
  obtain⟨k,hk,rfl,hB,hown⟩:=hrel;clear hown1 hB0;by_cases hlt:k<set.length
  ·obtain ⟨b,off,rfl,hc⟩:=hr.at_int k hlt;replace hc:=keep0 hB hc;obtain⟨hx0,hx1⟩:=Hin.out set[k] (yGm hlt);obtain⟨u,hci⟩:=yi5 hown set[k].toNat (by omega);have hfi:=hown.frozenAt set[k].toNat;have hst:=hown.stored set[k].toNat (.bool true);rw [←yg8 n _ _ hx0,←y5y set k hlt] at hst;have Hst:=Lib.hid hst;clear hst
   go_wp2
   go_roundw
   case rel=>exact⟨k+1,by omega,by go_num,(by (repeat (first | with_reducible exact Below.refl _ _|with_reducible exact hB|(with_reducible refine yR ?_ hB (by first | omega|(simp;done)|(simp;omega)|(simp at *;omega)))|(with_reducible refine Below.alloc ?_ (by first | omega|(simp;done)|(simp;omega)|(simp at *;omega)) _)|(with_reducible refine Below.drew ?_)|(with_reducible refine Below.setCell ?_ (by first | omega|(simp;done)|(simp;omega)|(simp at *;omega)) _)))),Hst.out.1⟩
   case measure=>simp [intOf];omega
  ·go_wp2
   go_ret
   exact⟨_,rfl,by rw [List.take_of_length_le (by omega)] at hown;exact hown,hB⟩
def RdB(w:World)(v:Value)(xs:List Bool):Prop:=∃a cap,v= .slice a xs.length cap∧RdS w 1 a xs.length cap (bools xs)
theorem RdB.mono{w':World}{v:Value}{xs:List Bool}(h:RdB w v xs)(hb:Below w.heap.size w w'):RdB w' v xs:=by
 obtain⟨a,cap,rfl,hr⟩:=h;exact⟨a,cap,rfl,hr.mono hb⟩
theorem RdS.at_bool{a:Option Addr}{cap:Nat}{xs:List Bool}(h:RdS w 1 a xs.length cap (bools xs))(k:Nat)(hk:k<xs.length):
  ∃b off,a=some ⟨b,off,none⟩∧w.cell? ⟨b,off+k,none⟩=some (.bool xs[k]):=by
 obtain⟨b,off,e,hc⟩:=h.at_elem k hk;exact⟨b,off,e,by have h':=hc k (by simpa using hk);rwa [List.getElem_map] at h'⟩
def cnt1(n:Nat)(es:List Ed):LI:=(List.range (n+1)).map fun(s:Nat)=>((es.countP fun x=>decide (x.f+1=(s:Int)):Nat):Int)
def y8B(n:Nat)(es:List Ed):LI:=(List.range (n+1)).map fun(s:Nat)=>((es.countP fun x=>decide (x.f<(s:Int)):Nat):Int)
def cnt2(n:Nat)(es:List Ed)(j:Nat):LI:=(List.range (n+1)).map fun(s:Nat)=>if s≤j then((es.countP fun x=>decide (x.f<(s:Int)):Nat):Int) else((es.countP fun x=>decide (x.f+1=(s:Int)):Nat):Int)
theorem yi6(n:Nat):ints (cnt1 n [])=List.replicate (n+1) (.int .i64 0):=by
 apply List.ext_getElem
 ·simp [cnt1]
 ·intro i h1 h2;simp [cnt1]
theorem ygM(n:Nat)(es:List Ed)(x:Ed)(h0:0≤x.f)(h1:x.f<n):∃c:Int,0≤c∧c≤es.length∧(ints (cnt1 n es))[(x.f+1).toNat]? =some (.int .i64 c)∧ints (cnt1 n (es++[x]))=(ints (cnt1 n es)).set (x.f+1).toNat (.int .i64 (c+1)):=by
 refine⟨((es.countP fun y=>decide (y.f+1=(((x.f+1).toNat:Nat):Int)):Nat):Int),by omega,by have:=List.countP_le_length (p:=fun y:Ed=>decide (y.f+1=(((x.f+1).toNat:Nat):Int))) (l:=es);omega,?_,?_⟩
 ·rw [List.getElem?_map,cnt1,List.getElem?_map,List.getElem?_range (by omega)];rfl
 ·apply List.ext_getElem
  ·simp [cnt1]
  ·intro i g1 g2;rw [List.getElem_set];simp only [cnt1,List.getElem_map,List.getElem_range,List.countP_append,List.countP_singleton];by_cases hi:(x.f+1).toNat=i
   ·rw [iP hi,hi];have:x.f+1=(i:Int):=by omega
    simp [this]
   ·rw [iN hi];have:¬x.f+1=(i:Int):=by omega
    simp [this]
theorem ygN(n:Nat)(es:List Ed)(h:∀x∈es,0≤x.f):cnt2 n es 0=cnt1 n es:=by
 apply List.map_congr_left;intro s _;split
 ·have hs:s=0:=by omega
  subst hs;congr 1;apply List.countP_congr;intro x hx;have:=h x hx;simp only [decide_eq_true_eq];constructor <;> intro <;> omega
 ·rfl
theorem ygO(n:Nat)(es:List Ed):cnt2 n es n=y8B n es:=by
 apply List.map_congr_left;intro s hs;rw [iP (by simp at hs;omega)]
theorem ygP(n:Nat)(es:List Ed)(j:Nat)(hj:j<n):∃c d:Int,0≤c∧0≤d∧c≤es.length∧d≤es.length∧(ints (cnt2 n es j))[j+1]? =some (.int .i64 c)∧(ints (cnt2 n es j))[j]? =some (.int .i64 d)∧ints (cnt2 n es (j+1))=(ints (cnt2 n es j)).set (j+1) (.int .i64 (c+d)):=by
 refine⟨((es.countP fun y=>decide (y.f+1=((j+1:Nat):Int)):Nat):Int),((es.countP fun y=>decide (y.f<(j:Int)):Nat):Int),by omega,by omega,?_,?_,?_,?_,?_⟩
 ·have:=List.countP_le_length (p:=fun y:Ed=>decide (y.f+1=((j+1:Nat):Int))) (l:=es);omega
 ·have:=List.countP_le_length (p:=fun y:Ed=>decide (y.f<(j:Int))) (l:=es);omega
 ·rw [List.getElem?_map,cnt2,List.getElem?_map,List.getElem?_range (by omega)];simp only [Option.map_some];rw [iN (by omega)]
 ·rw [List.getElem?_map,cnt2,List.getElem?_map,List.getElem?_range (by omega)];simp
 ·apply List.ext_getElem
  ·simp [cnt2]
  ·intro i g1 g2;rw [List.getElem_set];simp only [cnt2,List.getElem_map,List.getElem_range];by_cases hi:j+1=i
   ·subst hi;rw [iP rfl,iP (by omega)];congr 1;rw [←Int.natCast_add];congr 1;clear g1 g2 hj
    induction es with
    | nil=>rfl
    | cons x xs ih=>
     simp only [List.countP_cons];rw [ih];by_cases h1:x.f<(j:Int)
     ·have h2:x.f<((j+1:Nat):Int):=by omega
      have h3:¬x.f+1=((j+1:Nat):Int):=by omega
      simp only [h1,h2,h3,decide_true,decide_false];simp;omega
     ·by_cases h3:x.f+1=((j+1:Nat):Int)
      ·have h2:x.f<((j+1:Nat):Int):=by omega
       simp only [h1,h2,h3,decide_true,decide_false];simp;omega
      ·have h2:¬x.f<((j+1:Nat):Int):=by omega
       simp only [h1,h2,h3,decide_false];simp
   ·rw [iN hi];by_cases h1:i≤j
    ·rw [iP h1,iP (by omega)]
    ·rw [iN h1,iN (by omega)]
theorem yea(aa am:Option Addr)(la lm ca cm:Nat)(ve:Value)(n:Nat)(es:List Ed)(w:World)(hr:RdE w ve es)(hl:es.length≤1000000)(hn:n≤1000000)(hin:∀x∈es,0≤x.f∧x.f<n):
  Calls prog 236 #[.agg #[.slice aa la ca,.int .i64 n,.slice am lm cm,ve]] w (Ret w fun u w'=>∃af cf,u= .agg #[.slice aa la ca,.int .i64 n,.slice am lm cm,ve,.slice af (n+1) cf]∧RdS w' 1 af (n+1) cf (ints (y8B n es))):=by
 obtain⟨a,cap,rfl,hr⟩:=hr;obtain⟨i0,hi,hz0,hz1,hz2⟩:=info_parts yinfo_int;have Hin:=Lib.hid hin;clear hin;have hmk:=fun W:World=>run_make (P:=prog) W 26 3 i0 (.int .i64 0) underlying26 hi hz0 .i64 .i64 ((n:Int)+1) ((n:Int)+1) (by omega) (by omega) (by rw [hz2];omega) (by omega);have hwr:IntKind.i64.wrap ((n:Int)+1)=(n:Int)+1:=IntWalk.i64_in _ (by omega)
 go_enter func236,ntmps236
 go_upto_region 1 with fail
 go_cut [3] (fun s3 wx=>∃(g r:Nat) (tag:Nat→Nat),s3= .pointer (some ⟨g,0,none⟩)∧Below w.heap.size w wx∧
  Own wx w.heap.size tag 0 w.heap.size #[.slice aa la ca,.int .i64 n,.slice am lm cm,.slice a es.length cap] 60∧
  Own wx w.heap.size tag 0 (w.heap.size+1) #[.slice none 0 0,.int .i64 0,.slice none 0 0,.slice none 0 0,.slice none 0 0] 315∧
  Own wx w.heap.size tag 0 g #[.slice aa la ca,.int .i64 n,.slice am lm cm,.slice a es.length cap,.slice (some ⟨r,0,none⟩) (n+1) (n+1)] 315∧
  Row wx w.heap.size tag 1 3 1 (.slice (some ⟨r,0,none⟩) (n+1) (n+1)) (n+1) (List.replicate (n+1) (.int .i64 0)))
 case first=>
  go_region
  all_goals go_wp2
  all_goals go_meet
  all_goals
   first
   | exact⟨w.heap.size+2,w.heap.size+3,fun b=>if b=w.heap.size+3 then 1 else 0,rfl,(by (repeat (first | with_reducible exact Below.refl _ _ | with_reducible exact hr | (with_reducible refine yR ?_ hr (by first | omega | (simp;done) | (simp;omega) | (simp at *;omega))) | (with_reducible refine Below.alloc ?_ (by first | omega | (simp;done) | (simp;omega) | (simp at *;omega)) _) | (with_reducible refine Below.drew ?_) | (with_reducible refine Below.setCell ?_ (by first | omega | (simp;done) | (simp;omega) | (simp at *;omega)) _)))),⟨(by repeat (first | with_reducible assumption | (refine y1f ?_) | (refine y4b ?_;(first | rfl | (simp;done) | (simp;omega))) | (refine y1E ?_ ?_;(next=>first | omega | (simp;done) | (simp;omega))))),by simp,by omega⟩,⟨(by repeat (first | with_reducible assumption | (refine y1f ?_) | (refine y4b ?_;(first | rfl | (simp;done) | (simp;omega))) | (refine y1E ?_ ?_;(next=>first | omega | (simp;done) | (simp;omega))))),by simp,by omega⟩,⟨(by repeat (first | with_reducible assumption | (refine y1f ?_) | (refine y4b ?_;(first | rfl | (simp;done) | (simp;omega))) | (refine y1E ?_ ?_;(next=>first | omega | (simp;done) | (simp;omega))))),by simp,by omega⟩,⟨by simp,.inr ⟨_,0,_,madeCells #[.int .i64 0] (n+1),rfl,⟨(by repeat (first | with_reducible assumption | (refine y1f ?_) | (refine y4b ?_;(first | rfl | (simp;done) | (simp;omega))) | (refine y1E ?_ ?_;(next=>first | omega | (simp;done) | (simp;omega))))),by simp,by omega⟩,by omega,by unfold maxLen;omega,by simp [size_madeCells],by simp [toList_madeCells_one]⟩⟩⟩
   | exact⟨w.heap.size+3,w.heap.size+2,fun b=>if b=w.heap.size+2 then 1 else 0,rfl,(by (repeat (first | with_reducible exact Below.refl _ _ | with_reducible exact hr | (with_reducible refine yR ?_ hr (by first | omega | (simp;done) | (simp;omega) | (simp at *;omega))) | (with_reducible refine Below.alloc ?_ (by first | omega | (simp;done) | (simp;omega) | (simp at *;omega)) _) | (with_reducible refine Below.drew ?_) | (with_reducible refine Below.setCell ?_ (by first | omega | (simp;done) | (simp;omega) | (simp at *;omega)) _)))),⟨(by repeat (first | with_reducible assumption | (refine y1f ?_) | (refine y4b ?_;(first | rfl | (simp;done) | (simp;omega))) | (refine y1E ?_ ?_;(next=>first | omega | (simp;done) | (simp;omega))))),by simp,by omega⟩,⟨(by repeat (first | with_reducible assumption | (refine y1f ?_) | (refine y4b ?_;(first | rfl | (simp;done) | (simp;omega))) | (refine y1E ?_ ?_;(next=>first | omega | (simp;done) | (simp;omega))))),by simp,by omega⟩,⟨(by repeat (first | with_reducible assumption | (refine y1f ?_) | (refine y4b ?_;(first | rfl | (simp;done) | (simp;omega))) | (refine y1E ?_ ?_;(next=>first | omega | (simp;done) | (simp;omega))))),by simp,by omega⟩,⟨by simp,.inr ⟨_,0,_,madeCells #[.int .i64 0] (n+1),rfl,⟨(by repeat (first | with_reducible assumption | (refine y1f ?_) | (refine y4b ?_;(first | rfl | (simp;done) | (simp;omega))) | (refine y1E ?_ ?_;(next=>first | omega | (simp;done) | (simp;omega))))),by simp,by omega⟩,by omega,by unfold maxLen;omega,by simp [size_madeCells],by simp [toList_madeCells_one]⟩⟩⟩
 case rest=>
  obtain⟨g,r,tag,rfl,hB,hb0,hb1,hg,hrow⟩:=hcut;clear hmk;have e3:wc.cell? ⟨w.heap.size,3,none⟩=some (.slice a es.length cap):=hb0.cell 3
  go_wp2_with fail
  clear e3
  go_loopw [16] (fun j wr=>∃(k:Nat) (tag:Nat→Nat),k≤es.length∧j= .int .i64 k∧Below w.heap.size w wr∧
   Own wr w.heap.size tag 0 w.heap.size #[.slice aa la ca,.int .i64 n,.slice am lm cm,.slice a es.length cap] 60∧
   Own wr w.heap.size tag 0 (w.heap.size+1) #[.slice none 0 0,.int .i64 0,.slice none 0 0,.slice none 0 0,.slice none 0 0] 315∧
   Own wr w.heap.size tag 0 g #[.slice aa la ca,.int .i64 n,.slice am lm cm,.slice a es.length cap,.slice (some ⟨r,0,none⟩) (n+1) (n+1)] 315∧
   Row wr w.heap.size tag 1 3 1 (.slice (some ⟨r,0,none⟩) (n+1) (n+1)) (n+1) (ints (cnt1 n (es.take k)))) (fun j _=>es.length-(intOf j).toNat)
  case atStart=>exact⟨0,tag,yZl _,rfl,hB,hb0,hb1,hg,by rw [List.take_zero,yi6];exact hrow⟩
  case round=>
   clear hB hb0 hb1 hg hrow;obtain⟨k,tag,hk,rfl,hB,hb0,hb1,hg,hrow⟩:=hrel;by_cases hlt:k<es.length
   ·obtain ⟨b,off,rfl,c0,c1,c2⟩:=hr.at_edge k hlt;obtain⟨hx0,hx1⟩:=Hin.out es[k] (yGm hlt);replace c0:=keep0 hB c0;replace c1:=keep0 hB c1;replace c2:=keep0 hB c2;obtain⟨c,d0,d1,d2,d3⟩:=ygM n (es.take k) es[k] hx0 hx1;have hlk:(es.take k).length≤1000000:=by simp;omega
    have hgl:=hg.lt;have e4:wr.cell? ⟨g,4,none⟩=some (.slice (some ⟨r,0,none⟩) (n+1) (n+1)):=hg.cell 4;have e5:=hrow.cellAt (es[k].f+1).toNat (by omega);rw [d2,yNz] at e5;have e6:=hrow.frozenAt (es[k].f+1).toNat;obtain⟨_,_,_,e7,hrl,_⟩:=hrow.addr (by omega);cases e7;have hst:=hrow.set (es[k].f+1).toNat (.int .i64 (c+1));rw [yNz,←d3,←y5y es k hlt] at hst;have Hst:=Lib.hid hst;clear d2 d3 hst
    go_wp2
    go_roundw
    case rel=>exact⟨k+1,tag,by omega,by go_num,(y2A hB Hst.out.2 hB.size).alloc (by simp;exact hB.size) _,(hb0.turn Hst.out.2 (by decide)).below (y1F _ _),(hb1.turn Hst.out.2 (by decide)).below (y1F _ _),(hg.turn Hst.out.2 (by decide)).below (y1F _ _),Hst.out.1.below (y1F _ _)⟩
    case measure=>simp [intOf];omega
   ·obtain rfl:k=es.length:=by omega
    rw [List.take_length] at hrow;have e1:wr.cell? ⟨w.heap.size,1,none⟩=some (.int .i64 n):=hb0.cell 1;rw [←ygN n es (fun x hx=>(Hin.out x hx).1)] at hrow
    go_wp2_with fail
    clear e1
    go_loopw [32] (fun j wr=>∃(k:Nat) (tag:Nat→Nat),k≤n∧j= .int .i64 k∧Below w.heap.size w wr∧
     Own wr w.heap.size tag 0 (w.heap.size+1) #[.slice none 0 0,.int .i64 0,.slice none 0 0,.slice none 0 0,.slice none 0 0] 315∧
     Own wr w.heap.size tag 0 g #[.slice aa la ca,.int .i64 n,.slice am lm cm,.slice a es.length cap,.slice (some ⟨r,0,none⟩) (n+1) (n+1)] 315∧
     Row wr w.heap.size tag 1 3 1 (.slice (some ⟨r,0,none⟩) (n+1) (n+1)) (n+1) (ints (cnt2 n es k))) (fun j _=>n-(intOf j).toNat)
    case atStart=>exact⟨0,tag,yZl _,rfl,hB,hb1,hg,hrow⟩
    case round=>
     clear hB hb0 hb1 hg hrow;obtain⟨k,tag,hk,rfl,hB,hb1,hg,hrow⟩:=hrel;by_cases hlt:k<n
     ·obtain ⟨c,d,d0,d1,d2,d3,d4,d5,d6⟩:=ygP n es k hlt;have hgl:=hg.lt;have e4:wr.cell? ⟨g,4,none⟩=some (.slice (some ⟨r,0,none⟩) (n+1) (n+1)):=hg.cell 4;have e5:=hrow.cellAt (k+1) (by omega);have e6:=hrow.cellAt k (by omega);rw [d4,yNz] at e5;rw [d5,yNz] at e6;have e7:=hrow.frozenAt (k+1);obtain⟨_,_,_,e8,hrl,_⟩:=hrow.addr (by omega);cases e8;have hst:=hrow.set (k+1) (.int .i64 (c+d));rw [yNz,←d6] at hst;have Hst:=Lib.hid hst;clear d4 d5 d6 hst
      go_wp2
      go_region
      go_wp2
      go_roundw
      case rel=>exact⟨k+1,tag,by omega,by go_num,(y2A hB Hst.out.2 hB.size).drew,(hb1.turn Hst.out.2 (by decide)).below (y5G _),(hg.turn Hst.out.2 (by decide)).below (y5G _),Hst.out.1.below (y5G _)⟩
      case measure=>simp [intOf];omega
     ·obtain rfl:n=k:=by omega
      have g0:wr.cell? ⟨g,0,none⟩=some (Value.slice aa la ca):=hg.cell 0;have g1:wr.cell? ⟨g,1,none⟩=some (Value.int .i64 n):=hg.cell 1;have g2:wr.cell? ⟨g,2,none⟩=some (Value.slice am lm cm):=hg.cell 2;have g3:wr.cell? ⟨g,3,none⟩=some (Value.slice a es.length cap):=hg.cell 3;have g4:wr.cell? ⟨g,4,none⟩=some (Value.slice (some ⟨r,0,none⟩) (n+1) (n+1)):=hg.cell 4;have z0:wr.cell? ⟨w.heap.size+1,0,none⟩=some (Value.slice none 0 0):=hb1.cell 0;have y0:=hb1.frozen 0;have z1:wr.cell? ⟨w.heap.size+1,1,none⟩=some (Value.int .i64 0):=hb1.cell 1;have y1:=hb1.frozen 1;have z2:wr.cell? ⟨w.heap.size+1,2,none⟩=some (Value.slice none 0 0):=hb1.cell 2;have y2:=hb1.frozen 2;have z3:wr.cell? ⟨w.heap.size+1,3,none⟩=some (Value.slice none 0 0):=hb1.cell 3;have y3:=hb1.frozen 3;have z4:wr.cell? ⟨w.heap.size+1,4,none⟩=some (Value.slice none 0 0):=hb1.cell 4;have y4:=hb1.frozen 4
      go_wp2
      have t0:=Turn.setCell hb1 0 (Value.slice aa la ca);have b0:=hb1.set 0 (Value.slice aa la ca);have t1:=Turn.setCell b0 1 (Value.int .i64 n);have b1:=b0.set 1 (Value.int .i64 n);have t2:=Turn.setCell b1 2 (Value.slice am lm cm);have b2:=b1.set 2 (Value.slice am lm cm);have t3:=Turn.setCell b2 3 (Value.slice a es.length cap);have b3:=b2.set 3 (Value.slice a es.length cap);have t4:=Turn.setCell b3 4 (Value.slice (some ⟨r,0,none⟩) (n+1) (n+1));have b4:=b3.set 4 (Value.slice (some ⟨r,0,none⟩) (n+1) (n+1));have T:=t0.trans (t1.trans (t2.trans (t3.trans t4)));have hrow':=hrow.turn T (by decide);rw [ygO] at hrow';obtain⟨_,_,e9,hrd⟩:=hrow'.rd;cases e9;exact bodyPost_ret (v:= .agg #[.slice aa la ca,.int .i64 n,.slice am lm cm,.slice a es.length cap,.slice (some ⟨r,0,none⟩) (n+1) (n+1)]) (by simp [results,results236,go_sem,z0,z1,z2,z3,z4]) rfl ⟨_,rfl,⟨_,_,rfl,hrd⟩,y2A hB T hB.size⟩
end
section
open Go.Proofs.Tryz Go.RowKit Go.Shelf
variable{w w':World}{B':Nat}{t:TypeId}{sz:Nat}{v:Value}{cs:List Value}{ds:List Deferred}{s D:Nat}{P:Program}{fn:Func}{bx:Nat}{cx:Array Value}
attribute [local go_sem] Oper.semAt_some
def Ed.val(x:Ed):Value:= .agg #[.int .i64 x.f,.int .i64 x.e,.int .i64 x.t]
def edEnc{sub:List Ed}(x:{ x:Ed // x∈sub }):Array Value:= #[x.1.val]
set_option maxHeartbeats 2000000 in
theorem ygQ(l bg bs n₀:Nat)(ae af:Option Addr)(ce lf cf:Nat)(s:Int)(es:List Ed)(lo hi:Nat)(hlo:lo<hi)(hhi:hi≤es.length)(hl:es.length≤1000000)
  (J Jx:List { x:Ed // x∈(es.drop lo).take (hi-lo) }→World→Prop)
  (W:World) (habJ:AbidesFrom W.heap.size J) (hn0:n₀≤W.heap.size)
  (hY:∀pre x W,J pre W→pre.length<hi-lo→YieldAt Fence.wide 2 prog l (edEnc x) W fun e W'=>
   (e= .returned (.bool true)∧J (pre++[x]) W'∧Below n₀ W W')∨(e= .returned (.bool false)∧Jx (pre++[x]) W'))
  (hg3:W.cell? ⟨bg,3,none⟩=some (.slice ae es.length ce)) (hg4:W.cell? ⟨bg,4,none⟩=some (.slice af lf cf)) (hs:W.cell? ⟨bs,0,none⟩=some (.int .i64 s)) (hs0:0≤s) (hs1:s+1<lf)
  (bf offf:Nat) (haf:af=some ⟨bf,offf,none⟩) (hlf:lf≤1000001) (hf0:W.cell? ⟨bf,offf+s.toNat,none⟩=some (.int .i64 lo)) (hf1:W.cell? ⟨bf,offf+(s+1).toNat,none⟩=some (.int .i64 hi))
  (hre:RdS W 3 ae es.length ce (y7h es)) (hbe:∀ad,ae=some ad→ad.block<n₀) (h0:J [] W):
  CallsIn Fence.wide 3 prog 307 #[.func (.yield l) #[] #[],.pointer (some ⟨bg,0,none⟩),.pointer (some ⟨bs,0,none⟩)] W fun e W'=>(∃v,e= .returned v)∧
   ((∃ys,ys.map (·.1)=(es.drop lo).take (hi-lo)∧J ys W')∨(∃pre,Jx pre W')):=by
 refine callsIn_of_wp func307 rfl trivial ?_ rfl;simp only [ntmps307,List.size_toArray,yLc,List.length_nil,Nat.reduceAdd,Nat.reduceSub,Array.replicate_succ,Array.replicate_zero,List.push_toArray,List.append_toArray,List.nil_append,List.cons_append];subst haf;obtain⟨be,offe,rfl,_⟩:=hre.at_elem lo (by omega);have hcap:=hre.hcap;have hne:¬ce=lo:=by omega
 have Hre:=Lib.hid hre;have hbe':=hbe _ rfl;have w1:IntKind.i64.wrap (s+1)=s+1:=IntWalk.i64_in _ (by omega);clear hbe hre
 gi_wp2_with fail
 gi_region
 all_goals gi_wp2
 gi_loopw [22] (fun i wr=>∃k:Nat,k≤hi-lo∧i= .int .i64 k∧(∃ys,ys.map (·.1)=((es.drop lo).take (hi-lo)).take k∧J ys wr)∧Below n₀ W wr) (fun i _=>hi-lo-(intOf i).toNat)
 case atStart=>exact⟨0,yZl _,rfl,⟨[],by simp,habJ [] W W.drew none h0 ⟨rfl,rfl,rfl,yNr _,fun _ _ _=>rfl⟩ (fun r e=>(by cases e))⟩,(Below.refl _ _).drew⟩
 case round=>
  obtain⟨k,hk,rfl,⟨ys,hys,hJ⟩,hB⟩:=hrel;by_cases hlt:k<hi-lo
  ·have hlen:ys.length=k:=by
    have:=congrArg List.length hys;simp at this;omega
   have hsub:k<((es.drop lo).take (hi-lo)).length:=by simp;omega
   have hel:((es.drop lo).take (hi-lo))[k]=es[lo+k]:=by simp
   obtain⟨be',offe',e1,c0,c1,c2⟩:=Hre.out.at_edge (lo+k) (by omega);cases e1;rw [show offe+(lo+k)*3=offe+lo*3+k*3 by omega] at c0 c1 c2;replace c0:=keep hB c0 hbe';replace c1:=keep hB c1 hbe';replace c2:=keep hB c2 hbe';have hJ2:=habJ ys wr (wr.alloc (.cells #[.int .i64 es[lo+k].f,.int .i64 es[lo+k].e,.int .i64 es[lo+k].t] 112)) none hJ (World.grownBy_alloc _ _ _) (fun r e=>(by cases e));obtain⟨fn,tmps,assign,body,hy,hR⟩:=hY ys ⟨es[lo+k],hel▸yGm hsub⟩ _ hJ2 (by omega);dsimp only [edEnc,Ed.val] at hy
   gi_wp2
   refine hR.mono ?_;rintro e W3 (⟨rfl,hJ3,hk3⟩|⟨rfl,hJx3⟩)
   ·gi_wp2
    go_roundw
    case rel=>exact⟨k+1,by omega,by go_num,⟨_,by rw [List.map_append,hys,y5y _ k hsub];simp,hJ3⟩,(hB.alloc (by have:=hB.size;omega) _).trans hk3⟩
    case measure=>simp [intOf];omega
   ·gi_wp2
    refine bodyPost_ret (results_none rfl _ _ _) rfl ?_;exact⟨⟨_,rfl⟩,.inr ⟨_,hJx3⟩⟩
  ·obtain rfl:k=hi-lo:=by omega
   gi_wp2
   go_end0
   exact⟨⟨_,rfl⟩,.inl ⟨ys,by rw [hys,List.take_of_length_le (by simp;omega)],hJ⟩⟩
attribute [local go_sem] Oper.semAt_some
set_option maxHeartbeats 2000000 in
theorem ygR{α:Type}(l bg bs:Nat)(ae:Option Addr)(ce lf cf:Nat)(s:Int)(es:List Ed)(lo:Nat)(hhi:lo≤es.length)(hl:es.length≤1000000)
  (J:List α→World→Prop) (W:World) (habJ:AbidesFrom W.heap.size J)
  (hs0:0≤s) (hs1:s+1<lf)
  (bf offf:Nat) (hg3:W.cell? ⟨bg,3,none⟩=some (.slice ae es.length ce)) (hg4:W.cell? ⟨bg,4,none⟩=some (.slice (some ⟨bf,offf,none⟩) lf cf)) (hs:W.cell? ⟨bs,0,none⟩=some (.int .i64 s)) (hlf:lf≤1000001) (hf0:W.cell? ⟨bf,offf+s.toNat,none⟩=some (.int .i64 lo)) (hf1:W.cell? ⟨bf,offf+(s+1).toNat,none⟩=some (.int .i64 lo))
  (hre:RdS W 3 ae es.length ce (y7h es)) (h0:J [] W):
  CallsIn Fence.wide 3 prog 307 #[.func (.yield l) #[] #[],.pointer (some ⟨bg,0,none⟩),.pointer (some ⟨bs,0,none⟩)] W fun e W'=>(∃v,e= .returned v)∧J [] W':=by
 have hD:=habJ [] W W.drew none h0 ⟨rfl,rfl,rfl,yNr _,fun _ _ _=>rfl⟩ (fun r e=>(by cases e));have HD:=Lib.hid hD;clear hD h0 habJ;have w1:IntKind.i64.wrap (s+1)=s+1:=IntWalk.i64_in _ (by omega);have hcap:=hre.hcap;refine callsIn_of_wp func307 rfl trivial ?_ rfl;simp only [ntmps307,List.size_toArray,yLc,List.length_nil,Nat.reduceAdd,Nat.reduceSub,Array.replicate_succ,Array.replicate_zero,List.push_toArray,List.append_toArray,List.nil_append,List.cons_append];cases ae with
 | none=>
  obtain rfl:ce=0:=hre.hnil rfl;have h1:es= []:=yLz (by omega);subst h1;obtain rfl:lo=0:=by simpa using hhi
  simp only [List.length_nil] at hg3;clear hre
  gi_wp2_with fail
  gi_region
  gi_wp2
  gi_loopw [22] (fun i wr=>i= .int .i64 0∧J [] wr) (fun i _=>0)
  case atStart=>exact⟨rfl,HD.out⟩
  case round=>
   obtain⟨rfl,hJ⟩:=hrel
   gi_wp2
   go_end0
   exact⟨⟨_,rfl⟩,hJ⟩
 | some ad=>
  obtain⟨be,offe,sp⟩:=ad;obtain rfl:sp=none:=hre.spot _ rfl;clear hre;by_cases hne:ce=lo
  all_goals
   gi_wp2_with fail
   gi_region
   gi_wp2
   gi_loopw [22] (fun i wr=>i= .int .i64 0∧J [] wr) (fun i _=>0)
   case atStart=>exact⟨rfl,HD.out⟩
   case round=>
    obtain⟨rfl,hJ⟩:=hrel
    gi_wp2
    go_end0
    exact⟨⟨_,rfl⟩,hJ⟩
theorem ya2{B:Nat}(h:Below w.heap.size w w'):KeepsFrom B w w':=⟨h.size,fun k _ _ hk _=>(h.block k (yAs.1 hk).1).trans hk⟩
theorem yaK{B:Nat}{tag tag':Nat→Nat}{k:Nat}(h:Turn B' tag tag' k w w'):KeepsFrom B w w':=⟨h.size,fun b o _ hb hc=>h.keep b o hb hc⟩
def mark(D:Nat):Deferred:={ target:= .collected D,args:= #[] }
def Marks(B:Nat)(w:World)(ds:List Deferred):Prop:=∃Ds:List Nat,ds=Ds.map mark∧Ds.Nodup∧∀D∈Ds,B≤D∧w.heap[D]? =some (.deferred (some []))
structure Quiet (B:Nat) (w w':World):Prop where
 below:Below B w w'
 cells:∀(b:Nat) (cs:Array Value) (t:TypeId) (fr:Nat×Nat),w.heap[b]? =some (Obj.cells cs t fr)→w'.heap[b]? =some (Obj.cells cs t fr)
theorem Quiet.refl(B:Nat)(w:World):Quiet B w w:=⟨Below.refl _ _,fun _ _ _ _ h=>h⟩
theorem Quiet.trans{B:Nat}{a b c:World}(h:Quiet B a b)(k:Quiet B b c):Quiet B a c:=⟨h.below.trans k.below,fun b cs t fr hb=>k.cells b cs t fr (h.cells b cs t fr hb)⟩
theorem Quiet.row{B:Nat}{tag:Nat→Nat}{k:Nat}{n:Nat}(hq:Quiet B w w')(h:Row w B' tag k t sz v n cs):Row w' B' tag k t sz v n cs:=
 ⟨h.1,h.2.imp id fun⟨b,off,cap,cur,h1,h2,h3⟩=>⟨b,off,cap,cur,h1,⟨hq.cells _ _ _ _ h2.heap,h2.htag,h2.base⟩,h3⟩⟩
theorem Marks.nil(B:Nat)(w:World):Marks B w []:=⟨[],rfl,List.nodup_nil,fun _ h=>by cases h⟩
theorem Marks.turn{B:Nat}{tag tag':Nat→Nat}{k:Nat}(h:Marks B w ds)(ht:Turn B' tag tag' k w w'):Marks B w' ds:=by
 obtain⟨Ds,h1,h2,h3⟩:=h;exact⟨Ds,h1,h2,fun D hD=>⟨(h3 D hD).1,ht.keep _ _ (h3 D hD).2 rfl⟩⟩
theorem Marks.below{B:Nat}(h:Marks B w ds)(hb:Below w.heap.size w w'):Marks B w' ds:=
 h.turn (Turn.below (B:=0) (tag:=fun _=>0) (k:=0) hb)
theorem Marks.cons{B:Nat}(h:Marks B w ds)(hs:∀D',mark D'∈ds→D'<s)(hD:s≤D)(hB:B≤D)(hd:w.heap[D]? =some (.deferred (some []))):Marks B w (mark D::ds):=by
 obtain⟨Ds,rfl,h2,h3⟩:=h;refine⟨D::Ds,rfl,List.nodup_cons.2 ⟨fun hm=>?_,h2⟩,fun D' hD'=>?_⟩
 ·have:=hs D (yMp.2 ⟨D,hm,rfl⟩);omega
 ·rcases yMo.1 hD' with rfl|h4
  ·exact ⟨hB,hd⟩
  ·exact h3 D' h4
theorem Marks.lt{B:Nat}(h:Marks B w ds)(hm:mark D∈ds):D<w.heap.size:=by
 obtain⟨Ds,rfl,h2,h3⟩:=h;obtain⟨D',h4,h5⟩:=yMp.1 hm;cases h5;exact(yAs.1 (h3 _ h4).2).1
theorem yfs{F:Fence}{n:Nat}{tmps:Array Value}{R:Ending→World→Prop}{B:Nat}:∀(Ds:List Nat) (w:World),Ds.Nodup→(∀D∈Ds,B≤D∧w.heap[D]? =some (.deferred (some [])))→
  (∀w',Quiet B w w'→∃v,(results fn tmps).run P w'= .ok v w'∧R (.returned v) w')→LeavesInM F n P fn tmps R (Ds.map mark) .returning w
 | [],w,_,_,hfin=>hfin w (Quiet.refl _ _)
 | D::Ds,w,hnd,hD,hfin=>by
  obtain⟨hB,hd⟩:=hD D (yMc ..);have hlt:=(yAs.1 hd).1;have hq:Quiet B w (w.putObj D (.deferred none)):=by
   refine⟨(Below.refl B w).grown (grownBy_putObj' w D _) (by omega) (fun k e=>by cases e;exact hB),fun b cs t fr h=>?_⟩;rw [World.putObj_heap_other ?_,h];rintro rfl;rw [hd] at h;cases h
  refine⟨by simp,.inl ⟨D,_,rfl,run_takeDeferred hd,yfs Ds _ (List.nodup_cons.1 hnd).2 (fun D' hD'=>⟨(hD D' (yMm _ hD')).1,?_⟩) fun w' hw'=>hfin w' (hq.trans hw')⟩⟩;rw [World.putObj_heap_other ?_]
  ·exact (hD D' (yMm _ hD')).2
  ·rintro rfl;exact(List.nodup_cons.1 hnd).1 hD'
theorem yat{n:Nat}{R:Ending→World→Prop}{B:Nat}{tmps:Array Value}(hM:Marks B w ds)
  (hfin:∀w',Quiet B w w'→∃v,(results fn tmps).run P w'= .ok v w'∧R (.returned v) w'):bodyPostM Fence.wide n P fn R .ret { tmps:=tmps,defers:=ds } w:=by
 obtain⟨Ds,rfl,h2,h3⟩:=hM;exact yfs Ds w h2 h3 hfin
theorem ycQ{f:FuncId}{c:Code}{args:Array Value}{R:Ending→World→Prop}(hf:P.funcs[f]? =some fn)(hb:fn.body=some c)
  (h:c.wp P (bodyPostM Fence.wide 4 P fn R) { tmps:=args++Array.replicate (fn.ntmps-args.size) undef,defers:=[] } w):Calls P f args w R:=
 (callsIn_wide (n:=4)).1 (callsIn_of_wp_marks hf hb trivial (wpIn_wide.2 h) rfl)
theorem ygS(aa am ae af:Option Addr)(la lm le lf ca cm ce cf:Nat)(n s:Int)(w:World):
  Calls prog 278 #[.agg #[.slice aa la ca,.int .i64 n,.slice am lm cm,.slice ae le ce,.slice af lf cf],.int .i64 s] w fun e w'=>
   e= .returned (.func (.func 307) #[] #[.pointer (some ⟨w.heap.size,0,none⟩),.pointer (some ⟨w.heap.size+1,0,none⟩)])∧
   w'=(w.alloc (.cells #[.slice aa la ca,.int .i64 n,.slice am lm cm,.slice ae le ce,.slice af lf cf] 315)).alloc (.cells #[.int .i64 s] 3):=by
 have hmf:∀(fn:Fn) (first cap:Array Value) (w:World),(Instr.makeFunc fn first cap).run prog w= .ok (.func fn first cap) w:=fun _ _ _ _=>rfl
 go_enter func278,ntmps278
 go_wp2
 go_ret
 exact⟨rfl,rfl⟩
def edSub(es:List Ed)(lo hi:Nat):List Ed:=(es.drop lo).take (hi-lo)
theorem yf9(bg bs n₀:Nat)(ae af:Option Addr)(ce lf cf:Nat)(s:Int)(es:List Ed)(lo hi:Nat)(hlo:lo≤hi)(hhi:hi≤es.length)(hl:es.length≤1000000)(w:World)(hn0:n₀≤w.heap.size)
  (hg3:w.cell? ⟨bg,3,none⟩=some (.slice ae es.length ce)) (hg4:w.cell? ⟨bg,4,none⟩=some (.slice af lf cf)) (hs:w.cell? ⟨bs,0,none⟩=some (.int .i64 s)) (hs0:0≤s) (hs1:s+1<lf)
  (bf offf:Nat) (haf:af=some ⟨bf,offf,none⟩) (hlf:lf≤1000001) (hf0:w.cell? ⟨bf,offf+s.toNat,none⟩=some (.int .i64 lo)) (hf1:w.cell? ⟨bf,offf+(s+1).toNat,none⟩=some (.int .i64 hi))
  (hre:RdS w 3 ae es.length ce (y7h es)) (hbe:0<es.length→∀ad,ae=some ad→ad.block<n₀):
  SeqStopsK Fence.wide 3 prog 307 #[.pointer (some ⟨bg,0,none⟩),.pointer (some ⟨bs,0,none⟩)] (edEnc (sub:=edSub es lo hi)) (Below n₀) (fun ys=>ys.map (·.1)=edSub es lo hi) (fun _=>True) (hi-lo) w:=by
 intro l J Jx W hW hJ hJx hY h0;by_cases h:lo<hi
 ·have hb:=ygQ l bg bs n₀ ae af ce lf cf s es lo hi h hhi hl J Jx W hJ (Nat.le_trans hn0 hW.size) hY (keep0 hW hg3) (keep0 hW hg4) (keep0 hW hs) hs0 hs1 bf offf haf hlf (keep0 hW hf0) (keep0 hW hf1) (hre.mono hW) (hbe (by omega)) h0;refine hb.mono ?_;rintro e W' ⟨h1,h2⟩;exact⟨h1,h2.imp id fun⟨pre,hp⟩=>⟨pre,trivial,hp⟩⟩
 ·obtain rfl:lo=hi:=by omega
  subst haf;have hb:=ygR l bg bs ae ce lf cf s es lo hhi hl J W hJ hs0 hs1 bf offf (keep0 hW hg3) (keep0 hW hg4) (keep0 hW hs) hlf (keep0 hW hf0) (keep0 hW hf1) (hre.mono hW) h0;refine hb.mono ?_;rintro e W' ⟨h1,h2⟩;exact⟨h1,.inl ⟨[],by simp [edSub],h2⟩⟩
theorem yi7{g:Operand}{ps:Array Tmp}{assign body:Code}{Q:Exit→Act→World→Prop}{a:Act}{bg bs n₀ N:Nat}{sub:List Ed}{w0:World}
  (hg:a.eval g= .func (.func 307) #[] #[.pointer (some ⟨bg,0,none⟩),.pointer (some ⟨bs,0,none⟩)])
  (hseq:SeqStopsK Fence.wide 3 prog 307 #[.pointer (some ⟨bg,0,none⟩),.pointer (some ⟨bs,0,none⟩)] (edEnc (sub:=sub)) (Below n₀) (fun ys=>ys.map (·.1)=sub) (fun _=>True) N w0)
  (hb0:Below w0.heap.size w0 w) (hn0:n₀≤w.heap.size) (hps:ps.size=1)
  (I:List Ed→World→Prop) (hI:OwnFrom w.heap.size I) (h0:I [] w) (Ax:Ed→Act→World→Prop) (hAx:∀x a',OwnFrom w.heap.size (fun (_:Unit) W=>Ax x a' W))
  (hassign:∀(l:Nat) (pre:List Ed) (x:Ed) (W:World) (K:Act→World→Prop),x∈sub→I pre W→(∀a' W',KeepsFrom w.heap.size W W'→Below n₀ W W'→I pre W'→Ax x a' W'→K a' W')→
   assign.wpIn (Fence.wide.inRound l) 2 prog (Exit.then K (fun _ _ _=>False)) { tmps:=(ps.zip #[x.val]).foldl (fun t (p,v)=>t.setIfInBounds p v) a.tmps,defers:=[] } W)
  (hbody:∀(l:Nat) (pre:List Ed) (x:Ed) (a':Act) (W:World),x∈sub→w.heap.size≤l→I pre W→Ax x a' W→
   body.wpIn (Fence.wide.inRound l) 2 prog (ownPostG w.heap.size (Below n₀) I (fun _ _ _=>False) (pre++[x]) W) a' W)
  (hdone:∀(D:Nat) (W:World),w.heap.size≤D→I sub W→W.heap[D]? =some (.deferred (some []))→Q .normal { a with defers:=mark D::a.defers } W):
  (Code.rangeFunc g ps assign body).wp prog Q a w:=by
 refine wpIn_wide.1 (wpIn_rangeFunc_ownH (n:=4) rfl (by decide) hg trivial (enters_of func307 (by kernel_rfl) rfl) hseq belowK_t (belowK_b hn0) hb0 (fun _=>by simp [edEnc,hps])
  (fun (pre:List { x:Ed // x∈sub }) W=>I (pre.map (fun y=>y.1)) W) (fun _ _ _=>False) (fun pre W W' row h1 h2 h3=>hI (pre.map (fun y=>y.1)) W W' row h1 h2 h3) (fun _ _ _ _ _ h _ _=>h) h0 (fun x a' W=>Ax x.1 a' W) (fun x a'=>hAx x.1 a')
  (fun l pre x W K hi hK=>hassign l (pre.map (fun y=>y.1)) x.1 W K x.2 hi hK) (fun l pre x a' W hl _ hi hax _=>?_) (fun D ys W hD hS hi hd=>?_) (fun _ _ _ _ _ _ h=>h.elim))
 ·have:=hbody l (pre.map (fun y=>y.1)) x.1 a' W x.2 hl hi hax;refine wpIn_mono this ?_;intro e a2 W2 h2;cases e <;> simp only [ownPostG] at h2 ⊢
  ·exact ⟨h2.1,h2.2.1,by rw [List.map_append];exact h2.2.2⟩
  all_goals exact h2
 ·exact hdone D W hD (by rw [←hS];exact hi) hd
structure St where
 s:Int
 p:Int
 e:Int
def St.cells(x:St):List Value:=[.int .i64 x.s,.int .i64 x.p,.int .i64 x.e]
abbrev y7j(l:List St):List Value:=l.flatMap St.cells
theorem Own.others{B:Nat}{tag:Nat→Nat}{k b:Nat}{cs:Array Value}{row:Option Nat}(h:Own w B tag k b cs t)(hg:w.grownBy w' row)(hr:∀r,row=some r→∃o:Obj,w.heap[r]? =some o∧o.isCells=false):Own w' B tag k b cs t:=by
 refine⟨(hg.block b h.lt (fun e=>?_)).trans h.heap,h.htag,h.base⟩;obtain⟨o,ho,hc⟩:=hr b e.symm;rw [h.heap] at ho;cases ho;cases hc
theorem Row.others{B:Nat}{tag:Nat→Nat}{k:Nat}{n:Nat}{row:Option Nat}(h:Row w B tag k t sz v n cs)(hg:w.grownBy w' row)(hr:∀r,row=some r→∃o:Obj,w.heap[r]? =some o∧o.isCells=false):Row w' B tag k t sz v n cs:=
 ⟨h.1,h.2.imp id fun⟨b,off,cap,cur,h1,h2,h3⟩=>⟨b,off,cap,cur,h1,h2.others hg hr,h3⟩⟩
theorem Marks.others{B:Nat}{row:Option Nat}(h:Marks B w ds)(hs:∀D,mark D∈ds→D<s)(hg:w.grownBy w' row)(hr:∀r,row=some r→s≤r):Marks B w' ds:=by
 obtain⟨Ds,rfl,h2,h3⟩:=h;refine⟨Ds,rfl,h2,fun D hD=>⟨(h3 D hD).1,(hg.block D (yAs.1 (h3 D hD).2).1 (fun e=>?_)).trans (h3 D hD).2⟩⟩;have:=hs D (yMp.2 ⟨D,hD,rfl⟩);have:=hr D e.symm;omega
theorem ygT{a:World}{B:Nat}{row:Option Nat}(h:Below B a w)(hg:w.grownBy w' row)(hB:B≤w.heap.size)(hs:B≤s)(hr:∀r,row=some r→s≤r):Below B a w':=
 h.grown hg hB (fun k e=>Nat.le_trans hs (hr k e))
theorem Own.retag{B:Nat}{tag:Nat→Nat}{k b:Nat}{cs:Array Value}(h:Own w B tag k b cs t){kx:Nat}{tx:TypeId}(hx:w.heap[bx]? =some (.cells cx tx (0,0)))(ht:t≠tx):Own w B (tagUp tag bx kx) k b cs t:=by
 refine⟨h.heap,?_,h.base⟩;unfold tagUp;rw [iN ?_]
 ·exact h.htag
 ·rintro rfl;rw [h.heap] at hx;cases hx;exact ht rfl
theorem Row.retag{B:Nat}{tag:Nat→Nat}{k:Nat}{n:Nat}(h:Row w B tag k t sz v n cs){kx:Nat}{tx:TypeId}(hx:w.heap[bx]? =some (.cells cx tx (0,0)))(ht:t≠tx):Row w B (tagUp tag bx kx) k t sz v n cs:=
 ⟨h.1,h.2.imp id fun⟨b,off,cap,cur,h1,h2,h3⟩=>⟨b,off,cap,cur,h1,h2.retag hx ht,h3⟩⟩
structure PInv (w:World) (G:Array Value) (FP:Value) (n:Nat) (ds:List Deferred) (wr:World) (tag:Nat→Nat) (bi i:Nat) (vs:Value) (seen:List Bool) (steps:List St):Prop where
 below:Below w.heap.size w wr
 marks:Marks w.heap.size wr ds
 g:Own wr w.heap.size tag 0 w.heap.size G 315
 fp:Own wr w.heap.size tag 0 (w.heap.size+1) #[FP] 295
 sb:Own wr w.heap.size tag 3 (w.heap.size+1+1+1) #[vs] 351
 st:Row wr w.heap.size tag 2 350 3 vs steps.length (y7j steps)
 eb:Own wr w.heap.size tag 0 (w.heap.size+1+1+1+1+1) #[.slice (some ⟨w.heap.size+1+1+1+1,0,none⟩) n n] 177
 se:Row wr w.heap.size tag 1 4 1 (.slice (some ⟨w.heap.size+1+1+1+1,0,none⟩) n n) n (bools seen)
 ib:Own wr w.heap.size tag 4 bi #[.int .i64 i] 3
section
variable{w:World}{G:Array Value}{FP:Value}{n:Nat}{ds:List Deferred}{wr wr':World}{tag tag':Nat→Nat}{bi i:Nat}{vs:Value}{seen:List Bool}{steps:List St}
theorem PInv.size(h:PInv w G FP n ds wr tag bi i vs seen steps):w.heap.size+1+1+1+1+1<wr.heap.size:=h.eb.lt
theorem PInv.call(h:PInv w G FP n ds wr tag bi i vs seen steps)(hb:Below wr.heap.size wr wr'):PInv w G FP n ds wr' tag bi i vs seen steps:=
 ⟨yR h.below hb h.below.size,h.marks.below hb,h.g.below hb,h.fp.below hb,h.sb.below hb,h.st.below hb,h.eb.below hb,h.se.below hb,h.ib.below hb⟩
theorem PInv.others{row:Option Nat}(h:PInv w G FP n ds wr tag bi i vs seen steps)(hg:wr.grownBy wr' row)(hs:∀D,mark D∈ds→D<s)(hws:w.heap.size≤s)(hr:∀r,row=some r→s≤r∧∃o:Obj,wr.heap[r]? =some o∧o.isCells=false):PInv w G FP n ds wr' tag bi i vs seen steps:=
 ⟨ygT h.below hg h.below.size hws (fun r e=>(hr r e).1),h.marks.others hs hg (fun r e=>(hr r e).1),h.g.others hg (fun r e=>(hr r e).2),h.fp.others hg (fun r e=>(hr r e).2),h.sb.others hg (fun r e=>(hr r e).2),h.st.others hg (fun r e=>(hr r e).2),h.eb.others hg (fun r e=>(hr r e).2),h.se.others hg (fun r e=>(hr r e).2),h.ib.others hg (fun r e=>(hr r e).2)⟩
theorem PInv.retag(h:PInv w G FP n ds wr tag bi i vs seen steps)(hx:wr.heap[bx]? =some (.cells cx 112 (0,0))):PInv w G FP n ds wr (tagUp tag bx 5) bi i vs seen steps:=
 ⟨h.below,h.marks,h.g.retag hx (by decide),h.fp.retag hx (by decide),h.sb.retag hx (by decide),h.st.retag hx (by decide),h.eb.retag hx (by decide),h.se.retag hx (by decide),h.ib.retag hx (by decide)⟩
theorem PInv.setSeen(h:PInv w G FP n ds wr tag bi i vs seen steps)(j:Nat):PInv w G FP n ds (wr.setCell ⟨w.heap.size+1+1+1+1,j,none⟩ (.bool true)) tag bi i vs (seen.set j true) steps∧Turn w.heap.size tag tag 1 wr (wr.setCell ⟨w.heap.size+1+1+1+1,j,none⟩ (.bool true)):=by
 have h1:=h.se.set j (.bool true);rw [yNz] at h1;refine⟨⟨y2A h.below h1.2 h.below.size,h.marks.turn h1.2,h.g.turn h1.2 (by decide),h.fp.turn h1.2 (by decide),h.sb.turn h1.2 (by decide),h.st.turn h1.2 (by decide),h.eb.turn h1.2 (by decide),?_,h.ib.turn h1.2 (by decide)⟩,h1.2⟩;have h2:=h1.1;rwa [show bools (seen.set j true)=(bools seen).set j (.bool true) from List.map_set ..]
theorem PInv.newI(h:PInv w G FP n ds wr tag bi i vs seen steps)(j:Nat):PInv w G FP n ds (wr.alloc (.cells #[.int .i64 j] 3)) (tagUp tag wr.heap.size 4) wr.heap.size j vs seen steps:=by
 have hb:=y1F wr (.cells #[.int .i64 j] 3);have ht:Turn w.heap.size tag (tagUp tag wr.heap.size 4) 9 wr (wr.alloc (.cells #[.int .i64 j] 3)):={ Turn.below (B:=w.heap.size) (tag:=tag) (k:=9) hb with tags:=fun b hb=>y5f hb };exact⟨y2A h.below ht h.below.size,h.marks.turn ht,h.g.turn ht (by decide),h.fp.turn ht (by decide),h.sb.turn ht (by decide),h.st.turn ht (by decide),h.eb.turn ht (by decide),h.se.turn ht (by decide),Own.new _ _ _ _ _ _ h.below.size (y4R _ _ _)⟩
theorem PInv.push{vs':Value}{x:St}(h:PInv w G FP n ds wr tag bi i vs seen steps)(hr:Row wr' w.heap.size tag' 2 350 3 vs' (steps.length+1) (y7j steps++x.cells))(ht:Turn w.heap.size tag tag' 2 wr wr'):
  PInv w G FP n ds (wr'.setCell ⟨w.heap.size+1+1+1,0,none⟩ vs') tag' bi i vs' seen (steps++[x]):=by
 have hs:=h.sb.turn ht (by decide);have h1:=Turn.setCell hs 0 vs';have h2:=hs.set 0 vs';have hB:w.heap.size≤wr'.heap.size:=Nat.le_trans h.below.size ht.size;exact⟨y2A (y2A h.below ht h.below.size) h1 hB,(h.marks.turn ht).turn h1,(h.g.turn ht (by decide)).turn h1 (by decide),(h.fp.turn ht (by decide)).turn h1 (by decide),h2,by rw [yLa,show y7j (steps++[x])=y7j steps++x.cells by simp [y7j]];exact hr.turn h1 (by decide),(h.eb.turn ht (by decide)).turn h1 (by decide),(h.se.turn ht (by decide)).turn h1 (by decide),(h.ib.turn ht (by decide)).turn h1 (by decide)⟩
theorem PInv.turn{k:Nat}(h:PInv w G FP n ds wr tag bi i vs seen steps)(ht:Turn w.heap.size tag tag' k wr wr')(hk:4<k):PInv w G FP n ds wr' tag' bi i vs seen steps:=
 ⟨y2A h.below ht h.below.size,h.marks.turn ht,h.g.turn ht (by omega),h.fp.turn ht (by omega),h.sb.turn ht (by omega),h.st.turn ht (by omega),h.eb.turn ht (by omega),h.se.turn ht (by omega),h.ib.turn ht (by omega)⟩
theorem PInv.mark(h:PInv w G FP n ds wr tag bi i vs seen steps)(hs:∀D',Go.Proofs.YtfdeiphkmjdifaaGreatDoor.mark D'∈ds→D'<s)(hD:s≤D)(hB:w.heap.size≤s)(hd:wr.heap[D]? =some (.deferred (some []))):PInv w G FP n (Go.Proofs.YtfdeiphkmjdifaaGreatDoor.mark D::ds) wr tag bi i vs seen steps:=
 { h with marks:=h.marks.cons hs hD (Nat.le_trans hB hD) hd }
end
theorem Row.at_step{B:Nat}{tag:Nat→Nat}{k:Nat}{l:List St}(h:Row w B tag k t 3 v l.length (y7j l))(i:Nat)(hi:i<l.length):
  ∃b off cap,v= .slice (some ⟨b,off,none⟩) l.length cap∧b<w.heap.size∧w.cell? ⟨b,off+i*3,none⟩=some (.int .i64 l[i].s)∧w.cell? ⟨b,off+i*3+1,none⟩=some (.int .i64 l[i].p)∧w.cell? ⟨b,off+i*3+2,none⟩=some (.int .i64 l[i].e):=by
 obtain⟨b,off,cap,rfl,hlt,_⟩:=h.addr (by omega);refine⟨b,off,cap,rfl,hlt,?_,?_,?_⟩
 ·have:=h.cellAt (i*3+0) (by omega);rw [y8n St.cells 3 (fun _=>rfl) l i 0 hi (by omega)] at this;exact this
 ·have:=h.cellAt (i*3+1) (by omega);rw [y8n St.cells 3 (fun _=>rfl) l i 1 hi (by omega)] at this;rw [Nat.add_assoc];exact this
 ·have:=h.cellAt (i*3+2) (by omega);rw [y8n St.cells 3 (fun _=>rfl) l i 2 hi (by omega)] at this;rw [Nat.add_assoc];exact this
end
section
open Go.Proofs.Tryz
variable{n:Nat}{seen:List Bool}{steps:List St}{i:Nat}{sub:Int→List Ed}{want:Int→Bool}{f:Nat}
def fstN(es:List Ed)(s:Int):Nat:=es.countP fun x=>decide (x.f<s)
theorem yjs(es:List Ed)(s:Int):fstN es s≤es.length:=List.countP_le_length
theorem ygU(es:List Ed)(s t:Int)(h:s≤t):fstN es s≤fstN es t:=by
 apply List.countP_mono_left;intro x _ hx;simp only [decide_eq_true_eq] at hx ⊢;omega
theorem yg9(n:Nat)(es:List Ed)(s:Nat)(h:s≤n):(ints (y8B n es))[s]? =some (.int .i64 (fstN es s)):=by
 rw [List.getElem?_map,y8B,List.getElem?_map,List.getElem?_range (by omega)];rfl
def subOf(es:List Ed)(s:Int):List Ed:=edSub es (fstN es s) (fstN es (s+1))
theorem yaL{es:List Ed}{s:Int}{x:Ed}(h:x∈subOf es s):x∈es:=List.mem_of_mem_drop (List.mem_of_mem_take h)
def pStep(perm:Ed→Bool)(i:Nat)(acc:List Bool×List St)(x:Ed):List Bool×List St:=
 if acc.1[x.t.toNat]?.getD true=false∧perm x=true then(acc.1.set x.t.toNat true,acc.2++[⟨x.t,i,x.e⟩]) else acc
def bfs(sub:Int→List Ed)(want:Int→Bool)(perm:Ed→Bool):Nat→Nat→List Bool→List St→Option (List St×Nat)
 | 0,_,_,_=>none
 | f+1,i,seen,steps=>match steps[i]? with
  | none=>none
  | some x=>if want x.s=true then some (steps,i) else
   bfs sub want perm f (i+1) ((sub x.s).foldl (pStep perm i) (seen,steps)).1 ((sub x.s).foldl (pStep perm i) (seen,steps)).2
def back(steps:List St):Nat→Int→LI
 | 0,_=> []
 | f+1,k=>match steps[k.toNat]? with
  | none=> []
  | some x=>if 0≤x.p then x.e::back steps f x.p else []
structure POk (n:Nat) (seen:List Bool) (steps:List St):Prop where
 len:seen.length=n
 count:steps.length=seen.count true
 range:∀x∈steps,0≤x.s∧x.s<n
 parent:∀j (h:j<steps.length),-1≤steps[j].p∧steps[j].p<j
theorem ydj{l:List Bool}{j:Nat}(h:l[j]? =some false):(l.set j true).count true=l.count true+1:=by
 induction l generalizing j with
 | nil=>simp at h
 | cons a l ih=>
  cases j with
  | zero=>simp at h;subst h;simp
  | succ j=>
   simp at h;rw [List.set_cons_succ,List.count_cons,List.count_cons,ih h];omega
theorem POk.le(h:POk n seen steps):steps.length≤n:=by
 rw [h.count,←h.len];exact List.count_le_length
theorem POk.push(h:POk n seen steps)(hi:i<steps.length)(t e:Int)(h0:0≤t)(h1:t<n)(hs:seen[t.toNat]? =some false):POk n (seen.set t.toNat true) (steps++[⟨t,i,e⟩]):=by
 refine⟨by simp [h.len],by rw [yLa,ydj hs,h.count];rfl,fun x hx=>?_,fun j hj=>?_⟩
 ·rcases yMa.1 hx with h2|h2
  ·exact h.range x h2
  ·rw [yMs.1 h2];exact⟨h0,h1⟩
 ·by_cases hlt:j<steps.length
  ·rw [yGl hlt];exact h.parent j hlt
  ·have:j=steps.length:=by simp at hj;omega
   subst this;simp only [List.getElem_append_right (yNr _),Nat.sub_self,List.getElem_singleton];omega
theorem POk.step{perm:Ed→Bool}(h:POk n seen steps)(hi:i<steps.length)(x:Ed)(h0:0≤x.t)(h1:x.t<n):
  POk n (pStep perm i (seen,steps) x).1 (pStep perm i (seen,steps) x).2∧i<(pStep perm i (seen,steps) x).2.length:=by
 unfold pStep;dsimp only;split
 ·rename_i hc;have hlt:x.t.toNat<seen.length:=by rw [h.len];omega
  have hs:seen[x.t.toNat]? =some false:=by
   have:=hc.1;rw [yGe hlt] at this ⊢;simpa using this
  exact⟨h.push hi _ _ h0 h1 hs,by simp;omega⟩
 ·exact ⟨h,hi⟩
theorem POk.fold{perm:Ed→Bool}:∀(l:List Ed) {seen:List Bool} {steps:List St},POk n seen steps→i<steps.length→(∀x∈l,0≤x.t∧x.t<n)→
  POk n (l.foldl (pStep perm i) (seen,steps)).1 (l.foldl (pStep perm i) (seen,steps)).2∧i<(l.foldl (pStep perm i) (seen,steps)).2.length
 | [],_,_,h,hi,_=>⟨h,hi⟩
 | x::l,seen,steps,h,hi,hx=>by
  have h1:=h.step (perm:=perm) hi x (hx x (yMc ..)).1 (hx x (yMc ..)).2;exact POk.fold l h1.1 h1.2 (fun y hy=>hx y (yMm _ hy))
theorem POk.start(n from_:Nat)(h:from_<n):POk n ((List.replicate n false).set from_ true) [⟨from_,-1,-1⟩]:=by
 refine⟨by simp,?_,fun x hx=>?_,fun j hj=>?_⟩
 ·rw [ydj (by rw [List.getElem?_replicate,iP h]),List.count_replicate];rfl
 ·rw [yMs.1 hx];exact⟨by simp,by simp;omega⟩
 ·have:j=0:=by simp at hj;omega
  subst this;simp
theorem ydk{perm:Ed→Bool}(hi:i<steps.length)(hw:want steps[i].s=true):bfs sub want perm (f+1) i seen steps=some (steps,i):=by
 rw [bfs,yGe hi];simp [hw]
theorem yeb{perm:Ed→Bool}(hi:i<steps.length)(hw:want steps[i].s=false):
  bfs sub want perm (f+1) i seen steps=bfs sub want perm f (i+1) ((sub steps[i].s).foldl (pStep perm i) (seen,steps)).1 ((sub steps[i].s).foldl (pStep perm i) (seen,steps)).2:=by
 rw [bfs,yGe hi];simp [hw]
theorem yft{perm:Ed→Bool}(hi:steps.length≤i):bfs sub want perm (f+1) i seen steps=none:=by
 rw [bfs,yGn hi]
theorem ygV{k:Nat}(hk:k<steps.length)(hp:0≤steps[k].p):back steps (f+1) k=steps[k].e::back steps f steps[k].p:=by
 rw [back,yTn,yGe hk];simp [hp]
theorem yi8{k:Nat}(hk:k<steps.length)(hp:steps[k].p<0):back steps (f+1) k= []:=by
 rw [back,yTn,yGe hk];simp;omega
def pathF(n:Nat)(es:List Ed)(want:Int→Bool)(perm:Ed→Bool)(from_:Nat):Option LI:=
 (bfs (subOf es) want perm (n+1) 0 ((List.replicate n false).set from_ true) [⟨from_,-1,-1⟩]).map fun r=>(back r.1 (r.2+1) r.2).reverse
end
section
open Go.Proofs.Tryz Go.RowKit
def revK(xs:LI)(k:Nat):LI:=(List.range xs.length).map fun m=>if m<k∨xs.length-k≤m then xs.getD (xs.length-1-m) 0 else xs.getD m 0
theorem ygW(xs:LI):revK xs 0=xs:=by
 apply List.ext_getElem
 ·simp [revK]
 ·intro i h1 h2;simp only [revK,List.getElem_map,List.getElem_range];rw [iN (by omega),yGd,yGe h2];rfl
theorem yec(xs:LI)(k m:Nat)(hm:m<xs.length)(h:¬(m<k∨xs.length-k≤m)):(ints (revK xs k))[m]? =some (.int .i64 (xs.getD m 0)):=by
 rw [List.getElem?_map,revK,List.getElem?_map,List.getElem?_range hm];simp only [Option.map_some];rw [iN h]
theorem ygX(xs:LI)(k:Nat)(h:2*k+1<xs.length):ints (revK xs (k+1))=((ints (revK xs k)).set k (.int .i64 (xs.getD (xs.length-1-k) 0))).set (xs.length-1-k) (.int .i64 (xs.getD k 0)):=by
 apply List.ext_getElem
 ·simp [revK]
 ·intro i g1 g2;have hi:i<xs.length:=by simpa [revK] using g1
  rw [List.getElem_set,List.getElem_set];simp only [revK,List.getElem_map,List.getElem_range];by_cases e1:xs.length-1-k=i
  ·rw [iP e1,iP (by omega)];congr 2;omega
  ·rw [iN e1];by_cases e2:k=i
   ·rw [iP e2,iP (by omega)];congr 2;omega
   ·rw [iN e2];by_cases e3:i<k∨xs.length-k≤i
    ·rw [iP e3,iP (by omega)]
    ·rw [iN e3,iN (by omega)]
theorem yi9(xs:LI)(k:Nat)(h:xs.length≤2*k+1):revK xs k=xs.reverse:=by
 apply List.ext_getElem
 ·simp [revK]
 ·intro i h1 h2;have hi:i<xs.length:=by simpa using h2
  simp only [revK,List.getElem_map,List.getElem_range,List.getElem_reverse];split
  ·rw [yGd,yGe (by omega)];rfl
  ·have:xs.length-1-i=i:=by omega
   rw [yGd,yGe hi,Option.getD_some];congr 1;exact this.symm
theorem yed(v:Value)(xs:LI)(w:World)(B:Nat)(tag:Nat→Nat)(k0:Nat)(hr:Row w B tag k0 3 1 v xs.length (ints xs))(hl:xs.length≤1000000):
  Calls prog 205 #[v] w fun e w'=>e= .returned (.tuple #[])∧Row w' B tag k0 3 1 v xs.length (ints xs.reverse)∧Turn B tag tag k0 w w':=by
 obtain⟨a,cap,rfl⟩:=hr.val
 go_enter func205,ntmps205
 go_wp2_with fail
 go_loopw [2,3] (fun i j wr=>∃k:Nat,i= .int .i64 k∧j= .int .i64 ((xs.length:Int)-1-k)∧2*k≤xs.length+1∧Row wr B tag k0 3 1 (.slice a xs.length cap) xs.length (ints (revK xs k))∧Turn B tag tag k0 w wr) (fun i _ _=>xs.length-(intOf i).toNat)
 case atStart=>exact⟨0,rfl,by simp,by omega,by rw [ygW];exact hr,Turn.refl _ _ _ _⟩
 case round=>
  obtain⟨k,rfl,rfl,hk,hrow,ht⟩:=hrel;by_cases hlt:2*k+1<xs.length
  ·obtain ⟨b,off,cap',e1,hbl,_⟩:=hrow.addr (by omega);cases e1;have c1:=hrow.cellAt k (by omega);rw [yec xs k k (by omega) (by omega)] at c1;have c2:=hrow.cellAt (xs.length-1-k) (by omega);rw [yec xs k (xs.length-1-k) (by omega) (by omega)] at c2;have f1:=hrow.frozenAt (off+k);have f2:=hrow.frozenAt (off+(xs.length-1-k));have s1:=hrow.set k (.int .i64 (xs.getD (xs.length-1-k) 0));have s2:=s1.1.set (xs.length-1-k) (.int .i64 (xs.getD k 0));rw [←ygX xs k hlt] at s2;have S1:=Lib.hid s1.2;have S2:=Lib.hid s2;have c3:(wr.setCell ⟨b,off+k,none⟩ (.int .i64 (xs.getD (xs.length-1-k) 0))).cell? ⟨b,off+(xs.length-1-k),none⟩=some (.int .i64 (xs.getD (xs.length-1-k) 0)):=by
    rw [World.cell?_setCell_other,c2];intro e;simp at e;try omega
   clear s1 s2 hr;generalize xs.getD (xs.length-1-k) 0=p at *;generalize xs.getD k 0=q at *;have hidx:((xs.length:Int)-1-k).toNat=xs.length-1-k:=by omega
   go_wp2
   go_region
   go_wp2
   go_roundw
   case rel=>exact⟨k+1,by go_num,by congr 1;omega,by omega,S2.out.1.below (y5G _),((ht.trans S1.out).trans S2.out.2).trans (Turn.below (y5G _))⟩
   case measure=>simp [intOf];omega
  ·go_wp2
   refine⟨rfl,.tuple #[],by simp [results,results205],⟨rfl,by rw [yi9 xs k (by omega)] at hrow;exact hrow,ht⟩⟩
theorem yfa(v:Value)(xs:LI)(w:World)(B:Nat)(tag:Nat→Nat)(k0:Nat)(hr:Row w B tag k0 3 1 v xs.length (ints xs))(hl:xs.length≤1000000):
  Calls prog 205 #[v] w fun e w'=>(∃r,e= .returned r)∧Row w' B tag k0 3 1 v xs.length (ints xs.reverse)∧Turn B tag tag k0 w w':=
 (yed v xs w B tag k0 hr hl).mono fun _ _ h=>⟨⟨_,h.1⟩,h.2⟩
theorem yaw{F:Fence}{nF:Nat}{P:Program}{ops:Array Oper}{rest:List Oper}{o:Oper}{a:Act}{Q:Exit→Act→World→Prop}
  {w:World} {B:Nat} {tag:Nat→Nat} {k:Nat} {sz:Nat} {v:Value} {n:Nat} {cs:List Value} (hgd:o.guard=none) (s x:Operand) (tt:TypeId)
  (ho:o.op= .call { callee:= .builtin .append,args:= #[s,x],argTypes:= #[tt,tt] })
  (e:TypeId) (i:TypeInfo) (z:Value) (bytes:Nat) (ht:P.underlying tt=some (.slice e)) (hi:P.info? e=some i) (hz:i.zero=some z)
  (hsize:i.size=sz) (hby:i.bytes=bytes) (hzs:z.cells.size=sz) (hs:a.eval s=v) (hrow:Row w B tag k e sz v n cs)
  (ao:Option Addr) (m c:Nat) (news:List Value) (hx:a.eval x= .slice ao m c) (hl:news.length=m*sz) (hnone:ao=none→m=0∧c=0)
  (hnews:∀ad,ao=some ad→∀j u,news[j]? =some u→w.cell? (ad.add j)=some u) (h1:∀u∈news,u.oneCell'=true)
  (h63:n+m≤maxLen) (hbytes:(n+m)*bytes≤140737488355328) (hB:B≤w.heap.size)
  (h:∀v' w' tag',Row w' B tag' k e sz v' (n+m) (cs++news)→Turn B tag tag' k w w'→wpListIn F nF P ops Q rest (a.put o.dst v') w'):wpListIn F nF P ops Q (o::rest) a w:=by
 refine wpListIn_plain hgd fun K hK'=>?_;obtain⟨v',w',tag',hrun,h2,h3⟩:=y7x (P:=P) (w:=w) (ty:=o.type) tt e i z bytes ht hi hz hsize hby hzs hrow ao m c news hl hnone hnews h1 h63 hbytes hB;unfold Oper.wpIn;refine⟨?_,?_⟩
 ·simp [Oper.about,ho,resolve,Target.leads,Sem.run_pure]
 ·rw [Oper.semAt_plain F _ _ (by rw [ho];intro c hc';cases hc')];simp [execOp,ho,resolve,invoke,builtin,hs,hx,hrun,Result.andThen];exact hK' _ _ (h v' w' tag' h2 h3)
end
end Go.Proofs.YtfdeiphkmjdifaaGreatDoor
