/- Parts of the proof, without what nothing here names. -/
import Derived.Test.YtfdeiphkmjdifaaGreatDoorChecked
import Derived.Deep.DeepCutAuto
import Derived.Deep.LoopGhost
import Derived.Test.YtfdeiphkmjdifaaGreatDoorQs1
namespace Go.Proofs.YtfdeiphkmjdifaaGreatDoor
section
open Go Go.RowKit
variable{α:Type}{d:Nat}{μ:Nat→Nat}{y:Operand}{ops:Array Oper}{e:List (Nat×Value)}{s':Sig}{U:TypeId}{k':IntKind}{off:Nat}{T' S:TypeId}{zs:List α}{lo hi:Operand}{ys:List α}{by_:Nat}{P:Program}{A:Type}{Φ:Fr}{x' y':Code}{kt et:TypeId}{zv:Value}{N:Nat}{xss:List (List α)}{hs:List Value}
structure LV where
 p:(Nat→Value)→Sig→Value→Prop
 refs:List Nat
 hd:Option Nat
 pt:Option (Nat×Nat)
 mono:∀{β β' s s' v},(∀i,i∈refs→β' i=β i)→Le s s'→p β s v→p β' s' v
 hdp:∀{i β s v},hd=some i→p β s v→v=β i
 ptp:∀{i o β s v},pt=some (i,o)→p β s v→∃b,β i= .pointer (some ⟨b,0,none⟩)∧v= .pointer (some ⟨b,o,none⟩)
 one:∀{β s v},p β s v→v.oneCell'=true
def All2(β:Nat→Value)(s:Sig):List LV→List Value→Prop
 | [],vs=>vs= []
 | x::xs,vs=>∃v us,x.p β s v∧All2 β s xs us∧vs=v::us
def refsL :List LV→List Nat
 | []=> []
 | x::xs=>x.refs++refsL xs
section
variable{β β':Nat→Value}{s s':Sig}
theorem All2.mono(hl:Le s s'):∀{l:List LV} {vs:List Value},(∀i,i∈refsL l→β' i=β i)→All2 β s l vs→All2 β' s' l vs
 | [],_,_,h=>h
 | _::_,_,hb,⟨v,us,h1,h2,e⟩=>⟨v,us,LV.mono _ (fun i hi=>hb i (yMl _ hi)) hl h1,All2.mono hl (fun i hi=>hb i (yMr _ hi)) h2,e⟩
theorem All2.len :∀{l:List LV} {vs:List Value},All2 β s l vs→vs.length=l.length
 | [],_,h=>by rw [show _= [] from h];rfl
 | _::_,_,⟨v,us,_,h2,e⟩=>by rw [e,yLc,h2.len,yLc]
theorem All2.one :∀{l:List LV} {vs:List Value},All2 β s l vs→vs.all Value.oneCell'=true
 | [],_,h=>by rw [show _= [] from h];rfl
 | x::_,_,⟨v,us,h1,h2,e⟩=>by rw [e,List.all_cons,x.one h1,h2.one];rfl
theorem All2.get :∀{l:List LV} {vs:List Value},All2 β s l vs→∀{i:Nat} {x:LV},l[i]? =some x→∃v,vs[i]? =some v∧x.p β s v
 | [],_,_,_,_,h=>by cases h
 | _::_,_,⟨v,us,h1,h2,e⟩,0,x,h=>by cases h;exact⟨v,by rw [e];rfl,h1⟩
 | _::_,_,⟨v,us,h1,h2,e⟩,i+1,x,h=>by
  obtain⟨u,g1,g2⟩:=h2.get (i:=i) (by simpa using h);exact⟨u,by rw [e];simpa using g1,g2⟩
theorem All2.append :∀{l l':List LV} {vs us:List Value},All2 β s l vs→All2 β s l' us→All2 β s (l++l') (vs++us)
 | [],_,_,_,h,h2=>by rw [show _= [] from h];exact h2
 | _::_,_,_,_,⟨v,us,h1,h2,e⟩,h3=>⟨v,_,h1,h2.append h3,by rw [e];rfl⟩
theorem All2.drop :∀(k:Nat) {l:List LV} {vs:List Value},All2 β s l vs→All2 β s (l.drop k) (vs.drop k)
 | 0,_,_,h=>h
 | _+1,[],_,h=>by rw [show _= [] from h];rfl
 | k+1,_::_,_,⟨v,us,h1,h2,e⟩=>by rw [e];exact h2.drop k
theorem All2.take :∀(k:Nat) {l:List LV} {vs:List Value},All2 β s l vs→All2 β s (l.take k) (vs.take k)
 | 0,_,_,_=>rfl
 | _+1,[],_,h=>by rw [show _= [] from h];rfl
 | k+1,_::_,_,⟨v,us,h1,h2,e⟩=>by rw [e];exact⟨v,_,h1,h2.take k,rfl⟩
theorem All2.split :∀{l l':List LV} {vs:List Value},All2 β s (l++l') vs→∃us ws,vs=us++ws∧All2 β s l us∧All2 β s l' ws
 | [],_,vs,h=>⟨[],vs,rfl,rfl,h⟩
 | _::_,_,_,⟨v,us,h1,h2,e⟩=>by
  obtain⟨a,b,g1,g2,g3⟩:=h2.split;exact⟨v::a,b,by rw [e,g1];rfl,⟨v,a,h1,g2,rfl⟩,g3⟩
end
def lV(u:Value):LV:=⟨fun _ _ v=>v=u∧u.oneCell'=true,[],none,none,fun _ _ h=>h,nofun,nofun,fun h=>h.1▸h.2⟩
abbrev lI(n:Int):LV:=lV (.int .i64 n)
abbrev lB(b:Bool):LV:=lV (.bool b)
def lU :LV:=⟨fun _ _ v=>v.oneCell'=true,[],none,none,fun _ _ h=>h,nofun,nofun,id⟩
def lF{α:Type}(r:Rep α)(xs:List α):LV:=⟨fun _ s v=>∃a c,v= .slice a xs.length c∧RdL r s a c xs,[],none,none,fun _ hl ⟨a,c,e,h⟩=>⟨a,c,e,h.mono hl⟩,nofun,nofun,fun⟨_,_,e,_⟩=>by rw [e];rfl⟩
def lH(i:Nat):LV:=⟨fun β _ v=>v=β i∧v.oneCell'=true,[i],some i,none,fun hb _ h=>⟨h.1.trans (hb _ (.head _)).symm,h.2⟩,fun e h=>by cases e;exact h.1,nofun,fun h=>h.2⟩
def lP(i off:Nat):LV:=⟨fun β _ v=>∃b,β i= .pointer (some ⟨b,0,none⟩)∧v= .pointer (some ⟨b,off,none⟩),[i],none,some (i,off),fun hb _ ⟨b,e,h⟩=>⟨b,(hb _ (.head _)).trans e,h⟩,nofun,fun e h=>by cases e;exact h,fun⟨_,_,e⟩=>by rw [e];rfl⟩
def lE{α:Type}(r:Rep α)(x:α)(off:Nat):LV:=⟨fun _ s v=>∃b o cs,Mem s 0 b o cs∧r.rd s cs x∧v= .pointer (some ⟨b,o+off,none⟩),[],none,none,fun _ hl ⟨b,o,cs,h1,h2,e⟩=>⟨b,o,cs,h1.le hl,r.mono hl h2,e⟩,nofun,nofun,fun⟨_,_,_,_,_,e⟩=>by rw [e];rfl⟩
def lR(i sz j off:Nat):LV:=⟨fun β _ v=>∃b o a n c,β i= .slice a n c∧Spot a sz j b o∧v= .pointer (some ⟨b,o+off,none⟩),[i],none,none,fun hb _ ⟨b,o,a,n,c,e,h1,h⟩=>⟨b,o,a,n,c,(hb _ (.head _)).trans e,h1,h⟩,nofun,nofun,fun⟨_,_,_,_,_,_,_,e⟩=>by rw [e];rfl⟩
def lQ(T:TypeId)(l:List LV)(off:Nat):LV:=⟨fun β s v=>∃(b:Nat) (vs:List Value),Bx s 0 b vs.toArray T∧All2 β s l vs∧v= .pointer (some ⟨b,off,none⟩),refsL l,none,none,fun hb hl ⟨b,vs,h1,h2,e⟩=>⟨b,vs,h1.le hl,h2.mono hl hb,e⟩,nofun,nofun,fun⟨_,_,_,_,e⟩=>by rw [e];rfl⟩
structure TV where
 g:Bool
 l:List LV
def TV.p(β:Nat→Value)(s:Sig)(v:Value):TV→Prop
 | ⟨false,[x]⟩=>x.p β s v
 | ⟨false,_⟩=>False
 | ⟨true,l⟩=>∃vs,All2 β s l vs∧v= .agg vs.toArray
inductive SV
 | v (x:TV)
 | tp (l:List TV)
 | u
def All3(β:Nat→Value)(s:Sig):List TV→List Value→Prop
 | [],vs=>vs= []
 | x::xs,vs=>∃v us,x.p β s v∧All3 β s xs us∧vs=v::us
def SV.p(β:Nat→Value)(s:Sig)(v:Value):SV→Prop
 | .v x=>x.p β s v
 | .tp l=>∃vs,All3 β s l vs∧v= .tuple vs.toArray
 | .u=>True
def refsT :List TV→List Nat
 | []=> []
 | x::xs=>refsL x.l++refsT xs
def SV.refs :SV→List Nat
 | .v x=>refsL x.l
 | .tp l=>refsT l
 | .u=> []
section
variable{β β':Nat→Value}{s s':Sig}{v:Value}
theorem TV.mono(hl:Le s s'):∀{x:TV},(∀i,i∈refsL x.l→β' i=β i)→x.p β s v→x.p β' s' v
 | ⟨false,[x]⟩,hb,h=>x.mono (fun i hi=>hb i (yMl _ hi)) hl h
 | ⟨false,[]⟩,_,h=>h
 | ⟨false,_::_::_⟩,_,h=>h
 | ⟨true,_⟩,hb,⟨vs,h,e⟩=>⟨vs,h.mono hl hb,e⟩
theorem All3.mono(hl:Le s s'):∀{l:List TV} {vs:List Value},(∀i,i∈refsT l→β' i=β i)→All3 β s l vs→All3 β' s' l vs
 | [],_,_,h=>h
 | _::_,_,hb,⟨v,us,h1,h2,e⟩=>⟨v,us,TV.mono hl (fun i hi=>hb i (yMl _ hi)) h1,All3.mono hl (fun i hi=>hb i (yMr _ hi)) h2,e⟩
theorem SV.mono(hl:Le s s'):∀{x:SV},(∀i,i∈x.refs→β' i=β i)→x.p β s v→x.p β' s' v
 | .v _,hb,h=>TV.mono hl hb h
 | .tp _,hb,⟨vs,h,e⟩=>⟨vs,h.mono hl hb,e⟩
 | .u,_,_=>trivial
theorem TV.cells :∀{x:TV},x.p β s v→All2 β s x.l v.cells.toList
 | ⟨false,[x]⟩,h=>⟨v,[],h,rfl,by
   have:=x.one h;cases v <;> first | rfl|(simp [Value.oneCell'] at this)⟩
 | ⟨false,[]⟩,h=>h.elim
 | ⟨false,_::_::_⟩,h=>h.elim
 | ⟨true,_⟩,⟨vs,h,e⟩=>by rw [e];simpa [Value.cells] using h
end
@[reducible] def sL(x:LV):SV:= .v ⟨false,[x]⟩
@[reducible] def AG(l:List LV):SV:= .v ⟨true,l⟩
@[reducible] def VL(u:Value):SV:=sL (lV u)
structure HO where
 p:Sig→Nat→Value→Prop
 fz:LV
 mv:∀{s s' t h S},Mv S s s'→¬S t→¬S 0→p s t h→p s' t h
 mvt:∀{s s' t t' h},Le s s'→s'.w=s.w→(∀b,s.tag b=t→s'.tag b=t')→p s t h→p s' t' h
 fzp:∀{s h},p s 0 h→∀β,fz.p β s h
inductive Ob
 | hp (o:HO)
 | bx (T:TypeId) (l:List LV)
 | u
def Ob.p(β:Nat→Value)(s:Sig)(t:Nat)(h:Value):Ob→Prop
 | .hp o=>o.p s t h
 | .bx T l=>∃(b:Nat) (vs:List Value),h= .pointer (some ⟨b,0,none⟩)∧Bx s t b vs.toArray T∧All2 β s l vs
 | .u=>True
def Ob.refs :Ob→List Nat
 | .hp _=> []
 | .bx _ l=>refsL l
 | .u=> []
section
variable{β β':Nat→Value}{s s':Sig}{t t':Nat}{h:Value}{S:Nat→Prop}
theorem Ob.mv(m:Mv S s s')(ht:¬S t)(h0:¬S 0):∀{o:Ob},(∀i,i∈o.refs→β' i=β i)→o.p β s t h→o.p β' s' t h
 | .hp o,_,g=>o.mv m ht h0 g
 | .bx _ _,hb,⟨b,vs,e,h1,h2⟩=>⟨b,vs,e,h1.mv m ht,h2.mono (m.le h0) hb⟩
 | .u,_,_=>trivial
theorem Ob.as(hl:Le s s')(hw:s'.w=s.w)(ht:∀b,s.tag b=t→s'.tag b=t'):∀{o:Ob},(∀i,i∈o.refs→β' i=β i)→o.p β s t h→o.p β' s' t' h
 | .hp o,_,g=>o.mvt hl hw ht g
 | .bx _ _,hb,⟨b,vs,e,h1,h2⟩=>⟨b,vs,e,⟨by rw [hw];exact h1.heap,ht _ h1.htag⟩,h2.mono hl hb⟩
 | .u,_,_=>trivial
end
theorem RowT.rd0{r:Rep α}{s:Sig}{T:TypeId}{a:Option Addr}{cap:Nat}{xs:List α}(h:RowT r s 0 T a cap xs):RdL r s a cap xs:=h.rd (Le.refl _) rfl fun _ e=>e
def ROW{α:Type}(r:Rep α)(T:TypeId)(xs:List α):Ob:= .hp ⟨fun s t h=>∃a c,h= .slice a xs.length c∧RowT r s t T a c xs,lF r xs,
 fun m ht h0 ⟨a,c,e,h⟩=>⟨a,c,e,h.mv m ht h0⟩,fun hl hw ht ⟨a,c,e,h⟩=>⟨a,c,e,h.as hl hw ht⟩,fun⟨a,c,e,h⟩ _=>⟨a,c,e,h.rd0⟩⟩
structure Sx where
 sl:List (Nat×SV)
 ob:List (Nat×Ob)
 n:Nat
def aget{α:Type}:List (Nat×α)→Nat→Option α
 | [],_=>none
 | (i,v)::e,d=>cond (Nat.beq i d) (some v) (aget e d)
theorem yj{l:List (Nat×α)}{i:Nat}{v x:α}(h:aget ((i,v)::l) d=some x):(i=d∧v=x)∨(i≠d∧aget l d=some x):=by
 simp only [aget] at h;by_cases hb:Nat.beq i d=true
 ·rw [hb,cond_true,yIj] at h;exact .inl ⟨yNb hb,h⟩
 ·have hb':Nat.beq i d=false:=by cases h0:Nat.beq i d <;> simp_all
  rw [hb',cond_false] at h;exact .inr ⟨fun e=>hb (by rw [e,Nat.beq_refl]),h⟩
structure Kx where
 m:Nat
 S:List Nat
structure Cx where
 s0:Sig
 N:Nat
 ts:List Nat
 b0:Nat→Value
def Cx.tg(C:Cx)(i:Nat):Nat:=C.ts.getD i (C.N+i)
def Cx.Up(C:Cx)(K:Kx):Nat→Prop:=fun t=>C.N≤t∨∃i,i∈K.S∧C.ts[i]? =some t
structure Cx.Ok (C:Cx) (K:Kx):Prop where
 len:C.ts.length=K.m
 N0:0<C.N
 old:∀b,b<C.s0.w.heap.size→C.s0.tag b<C.N
 pos:∀t,t∈C.ts→0<t
 lt:∀t,t∈C.ts→t<C.N
 nd:C.ts.Nodup
section
variable{C:Cx}{K:Kx}
theorem Cx.tg_lt{i:Nat}(h:i<C.ts.length):C.tg i=C.ts[i]:=by simp [Cx.tg,yGd,h]
theorem Cx.tg_ge{i:Nat}(h:C.ts.length≤i):C.tg i=C.N+i:=by simp [Cx.tg,yGd,yGn h]
theorem Cx.Ok.inj(k:C.Ok K){i j:Nat}(e:C.tg i=C.tg j):i=j:=by
 rcases Nat.lt_or_ge i C.ts.length with hi|hi <;> rcases Nat.lt_or_ge j C.ts.length with hj|hj
 ·rw [Cx.tg_lt hi,Cx.tg_lt hj] at e;exact(List.getElem_inj k.nd).1 e
 ·rw [Cx.tg_lt hi,Cx.tg_ge hj] at e;have:=k.lt _ (yGm hi);omega
 ·rw [Cx.tg_ge hi,Cx.tg_lt hj] at e;have:=k.lt _ (yGm hj);omega
 ·rw [Cx.tg_ge hi,Cx.tg_ge hj] at e;omega
theorem Cx.Ok.tpos(k:C.Ok K)(i:Nat):0<C.tg i:=by
 rcases Nat.lt_or_ge i C.ts.length with hi|hi
 ·rw [Cx.tg_lt hi];exact k.pos _ (yGm hi)
 ·rw [Cx.tg_ge hi];have:=k.N0;omega
def Kx.may(K:Kx)(i:Nat):Bool:=Nat.ble K.m i||K.S.contains i
theorem Cx.Ok.up(k:C.Ok K){i:Nat}(h:K.may i=true):C.Up K (C.tg i):=by
 rcases Nat.lt_or_ge i C.ts.length with hi|hi
 ·rcases Bool.or_eq_true_iff.1 h with h|h
  ·have:=yNl h;have:=k.len;omega
  ·refine .inr ⟨i,List.contains_iff_mem.1 h,?_⟩;rw [Cx.tg_lt hi,yGe hi]
 ·rw [Cx.tg_ge hi];exact .inl (Nat.le_add_right _ _)
end
structure Den (K:Kx) (C:Cx) (σ:Sx) (β:Nat→Value) (s:Sig) (e:List (Nat×Value)):Prop where
 ok:C.Ok K
 mv:Mv (C.Up K) C.s0 s
 b0:∀i,i<K.m→β i=C.b0 i
 m:K.m≤σ.n
 sl:∀d x,aget σ.sl d=some x→∃v,Env.get e d=some v∧x.p β s v
 ob:∀i o,aget σ.ob i=some o→o.p β s (C.tg i) (β i)
 fs:∀d x,aget σ.sl d=some x→∀i,i∈x.refs→i<σ.n
 fo:∀i o,aget σ.ob i=some o→i<σ.n∧∀j,j∈o.refs→j<σ.n
structure Eff where
 dst:Option (Nat×SV)
 ob:List (Nat×Ob)
 nx:Option Nat
def Eff.n(f:Eff)(n:Nat):Nat:=match f.nx with
 | none=>n
 | some k=>k
def Sx.eff(σ:Sx)(f:Eff):Sx:=⟨match f.dst with | none=>σ.sl|some p=>p::σ.sl,f.ob++σ.ob,f.n σ.n⟩
theorem yb5{x:Ob}:∀{f l:List (Nat×Ob)},aget (f++l) d=some x→(d,x)∈f∨((∀o,(d,o)∉f)∧aget l d=some x)
 | [],l,h=> .inr ⟨fun _=>List.not_mem_nil,h⟩
 | (i,o)::f,l,h=>by
  rcases yj (show aget ((i,o)::(f++l)) d=some x from h) with ⟨rfl,rfl⟩|⟨hne,h2⟩
  ·exact .inl (.head _)
  ·rcases yb5 h2 with g|⟨g1,g2⟩
   ·exact .inl (.tail _ g)
   ·refine .inr ⟨fun o' hm=>?_,g2⟩;rcases yMo.1 hm with e|hm
    ·cases e;exact hne rfl
    ·exact g1 _ hm
def Eff.T(f:Eff)(C:Cx):Nat→Prop:=fun t=>∃i o,(i,o)∈f.ob∧t=C.tg i
def ltA(n:Nat)(l:List Nat):Bool:=l.all fun i=>Nat.blt i n
theorem y5n{n:Nat}{l:List Nat}(h:ltA n l=true){i:Nat}(hi:i∈l):i<n:=by
 have:=yAt.1 h i hi;simpa using this
def Eff.ok(f:Eff)(K:Kx)(n:Nat):Bool:=Nat.ble n (f.n n)&&(f.ob.all fun p=>K.may p.1&&(Nat.blt p.1 (f.n n)&&ltA (f.n n) p.2.refs))&&match f.dst with
 | none=>true
 | some (_,x)=>ltA (f.n n) x.refs
structure Aft (C:Cx) (f:Eff) (n:Nat) (β β':Nat→Value) (s s':Sig) (e e':List (Nat×Value)):Prop where
 hd:∀i,i<n→β' i=β i
 hn:∀i,(∀o,(i,o)∉f.ob)→β' i=β i
 mv:Mv (f.T C) s s'
 sl:∀d,(∀x,f.dst≠some (d,x))→Env.get e' d=Env.get e d
 dst:∀d x,f.dst=some (d,x)→∃v,Env.get e' d=some v∧x.p β' s' v
 ob:∀i o,(i,o)∈f.ob→o.p β' s' (C.tg i) (β' i)
section
variable{K:Kx}{C:Cx}{σ:Sx}{β β':Nat→Value}{s s':Sig}{e e':List (Nat×Value)}{f:Eff}
theorem Eff.T0(k:C.Ok K):¬f.T C 0:=fun⟨i,_,_,e⟩=>by have:=k.tpos i;omega
theorem Eff.Tn(k:C.Ok K){i:Nat}(h:∀o,(i,o)∉f.ob):¬f.T C (C.tg i):=fun⟨j,o,hm,e⟩=>by
 have:=k.inj e;subst this;exact h o hm
theorem Den.eff(h:Den K C σ β s e)(a:Aft C f σ.n β β' s s' e e')(hk:f.ok K σ.n=true):Den K C (σ.eff f) β' s' e':=by
 have hl:Le s s':=a.mv.le (Eff.T0 h.ok);simp only [Eff.ok,yAe] at hk;obtain⟨⟨hk0,hk1⟩,hk2⟩:=hk;have hn:σ.n≤f.n σ.n:=yNl hk0;have hm:=h.m;have hob:∀i o,(i,o)∈f.ob→K.may i=true∧i<f.n σ.n∧∀j,j∈o.refs→j<f.n σ.n:=fun i o hm=>by
  have:=yAt.1 hk1 _ hm;simp only [yAe] at this;exact⟨this.1,by simpa using this.2.1,fun j hj=>y5n this.2.2 hj⟩
 have hsl:∀d x,aget (σ.eff f).sl d=some x→(f.dst=some (d,x))∨((∀y,f.dst≠some (d,y))∧aget σ.sl d=some x):=fun d x hx=>by
  cases hd:f.dst with
  | none=>simp only [Sx.eff,hd] at hx;exact .inr ⟨fun y e=>(by cases e),hx⟩
  | some p=>
   obtain⟨d',y⟩:=p;simp only [Sx.eff,hd] at hx;rcases yj hx with ⟨rfl,rfl⟩|⟨hne,hx⟩
   ·exact .inl rfl
   ·exact .inr ⟨fun y' e=>(by cases e;exact hne rfl),hx⟩
 refine⟨h.ok,h.mv.trans (a.mv.weak fun t ⟨i,o,hm,e⟩=>e▸h.ok.up (hob i o hm).1),fun i hi=>(a.hd i (by omega)).trans (h.b0 i hi),Nat.le_trans hm hn,fun d x hx=>?_,fun i o ho=>?_,fun d x hx i hi=>?_,fun i o ho=>?_⟩
 ·rcases hsl d x hx with g|⟨g1,g2⟩
  ·exact a.dst d x g
  ·rw [a.sl d g1];obtain⟨v,g3,g4⟩:=h.sl d x g2;exact⟨v,g3,SV.mono hl (fun i hi=>a.hd i (h.fs d x g2 i hi)) g4⟩
 ·rcases yb5 ho with g|⟨g1,g2⟩
  ·exact a.ob i o g
  ·rw [a.hn i g1];exact Ob.mv a.mv (Eff.Tn h.ok g1) (Eff.T0 h.ok) (fun j hj=>a.hd j ((h.fo i o g2).2 j hj)) (h.ob i o g2)
 ·rcases hsl d x hx with g|⟨_,g2⟩
  ·rw [g] at hk2;exact y5n hk2 hi
  ·exact Nat.lt_of_lt_of_le (h.fs d x g2 i hi) hn
 ·rcases yb5 ho with g|⟨_,g2⟩
  ·exact (hob i o g).2
  ·obtain ⟨g3,g4⟩:=h.fo i o g2;exact⟨Nat.lt_of_lt_of_le g3 hn,fun j hj=>Nat.lt_of_lt_of_le (g4 j hj) hn⟩
def agets{α:Type}(l:List (Nat×α)):List (Nat×α)→List (Option α)
 | []=> []
 | p::ps=>aget l p.1::agets l ps
def asays{α:Type}:List (Nat×α)→List (Option α)
 | []=> []
 | p::ps=>some p.2::asays ps
theorem yfi{l:List (Nat×α)}:∀{l':List (Nat×α)},agets l l'=asays l'→∀d x,aget l' d=some x→aget l d=some x
 | [],_,_,_,h=>by cases h
 | (i,v)::l',h,d,x,hx=>by
  obtain⟨h1,h2⟩:=List.cons.inj h;rcases yj hx with ⟨rfl,rfl⟩|⟨_,hx⟩
  ·exact h1
  ·exact yfi h2 d x hx
end
/-! A state seen by other numbers of objects. -/
def LV.ren(μ:Nat→Nat)(x:LV):LV:=match x.refs with
 | []=>x
 | _=>⟨fun β s v=>x.p (fun i=>β (μ i)) s v,x.refs.map μ,x.hd.map μ,x.pt.map fun p=>(μ p.1,p.2),fun hb hl h=>x.mono (fun i hi=>hb (μ i) (List.mem_map_of_mem hi)) hl h,
  fun e h=>by
   obtain⟨j,hh,rfl⟩:=Option.map_eq_some_iff.1 e;have q:=x.hdp hh h;exact q,
  fun e h=>by
   obtain⟨⟨j,o⟩,hh,hh2⟩:=Option.map_eq_some_iff.1 e;cases hh2;have q:=x.ptp hh h;exact q,fun h=>x.one h⟩
theorem LV.ren_p{x:LV}{β:Nat→Value}{s:Sig}{v:Value}(h:(x.ren μ).p β s v):x.p (fun i=>β (μ i)) s v:=by
 unfold LV.ren at h;split at h
 ·rename_i hr;exact x.mono (fun i hi=>by rw [hr] at hi;cases hi) (Le.refl _) h
 ·exact h
def TV.ren(μ:Nat→Nat)(x:TV):TV:=⟨x.g,x.l.map (LV.ren μ)⟩
def SV.ren(μ:Nat→Nat):SV→SV
 | .v x=> .v (x.ren μ)
 | .tp l=> .tp (l.map (TV.ren μ))
 | .u=> .u
def Ob.ren(μ:Nat→Nat):Ob→Ob
 | .hp o=> .hp o
 | .bx T l=> .bx T (l.map (LV.ren μ))
 | .u=> .u
section
variable{μ:Nat→Nat}{β:Nat→Value}{s:Sig}{v:Value}
theorem All2.ren :∀{l:List LV} {vs:List Value},All2 β s (l.map (LV.ren μ)) vs→All2 (fun i=>β (μ i)) s l vs
 | [],_,h=>h
 | _::_,_,⟨v,us,h1,h2,e⟩=>⟨v,us,LV.ren_p h1,h2.ren,e⟩
theorem TV.ren_p :∀{x:TV},(x.ren μ).p β s v→x.p (fun i=>β (μ i)) s v
 | ⟨false,[x]⟩,h=>LV.ren_p (x:=x) h
 | ⟨false,[]⟩,h=>h.elim
 | ⟨false,_::_::_⟩,h=>h.elim
 | ⟨true,_⟩,⟨vs,h,e⟩=>⟨vs,h.ren,e⟩
theorem All3.ren :∀{l:List TV} {vs:List Value},All3 β s (l.map (TV.ren μ)) vs→All3 (fun i=>β (μ i)) s l vs
 | [],_,h=>h
 | _::_,_,⟨v,us,h1,h2,e⟩=>⟨v,us,TV.ren_p h1,h2.ren,e⟩
theorem SV.ren_p :∀{x:SV},(x.ren μ).p β s v→x.p (fun i=>β (μ i)) s v
 | .v _,h=>TV.ren_p h
 | .tp _,⟨vs,h,e⟩=>⟨vs,h.ren,e⟩
 | .u,_=>trivial
theorem Ob.ren_p{t:Nat}{h:Value}:∀{o:Ob},(o.ren μ).p β s t h→o.p (fun i=>β (μ i)) s t h
 | .hp _,h=>h
 | .bx _ _,⟨b,vs,e,h1,h2⟩=>⟨b,vs,e,h1,h2.ren⟩
 | .u,_=>trivial
end
def renS(μ:Nat→Nat):List (Nat×SV)→List (Nat×SV)
 | []=> []
 | (d,x)::l=>(d,x.ren μ)::renS μ l
def renO(μ:Nat→Nat):List (Nat×Ob)→List (Nat×Ob)
 | []=> []
 | (d,x)::l=>(μ d,x.ren μ)::renO μ l
theorem yfj{x:SV}:∀{l:List (Nat×SV)},aget l d=some x→aget (renS μ l) d=some (x.ren μ)
 | [],h=>by cases h
 | (i,y)::l,h=>by
  rcases yj h with ⟨rfl,rfl⟩|⟨hne,h2⟩
  ·simp [renS,aget]
  ·simp only [renS,aget];have:Nat.beq i d=false:=by cases h0:Nat.beq i d with | false=>rfl|true=>exact absurd (yNb h0) hne
   rw [this];exact yfj h2
theorem yeF{l:List (Nat×Ob)}:∀{l':List (Nat×Ob)},agets l l'=asays l'→∀d x,(d,x)∈l'→aget l d=some x
 | [],_,_,_,h=>by cases h
 | (i,v)::l',h,d,x,hx=>by
  obtain⟨h1,h2⟩:=List.cons.inj h;rcases yMo.1 hx with e|hx
  ·cases e;exact h1
  ·exact yeF h2 d x hx
theorem yfk{x:Ob}:∀{l:List (Nat×Ob)},aget l d=some x→(μ d,x.ren μ)∈renO μ l
 | [],h=>by cases h
 | (i,y)::l,h=>by
  rcases yj h with ⟨rfl,rfl⟩|⟨_,h2⟩
  ·exact .head _
  ·exact .tail _ (yfk h2)
def mapN :List (Nat×Nat)→Nat→Nat
 | [],i=>i
 | (a,b)::l,i=>cond (Nat.beq a i) b (mapN l i)
def Sx.le(τ σ:Sx)(l:List (Nat×Nat)):Prop:=(agets σ.sl (renS (mapN l) τ.sl),agets σ.ob (renO (mapN l) τ.ob))=(asays (renS (mapN l) τ.sl),asays (renO (mapN l) τ.ob))
def refsA :List (Nat×SV)→List Nat
 | []=> []
 | (_,x)::l=>x.refs++refsA l
def refsB :List (Nat×Ob)→List Nat
 | []=> []
 | (i,x)::l=>i::x.refs++refsB l
def ycl :List Nat→Bool
 | []=>true
 | x::l=>!l.contains x&&ycl l
theorem y8T :∀{l:List Nat},ycl l=true→l.Nodup
 | [],_=>List.nodup_nil
 | x::l,h=>by
  obtain⟨h1,h2⟩:=Bool.and_eq_true_iff.1 h;exact List.nodup_cons.2 ⟨by simpa using h1,y8T h2⟩
def keysO :List (Nat×Ob)→List Nat
 | []=> []
 | (i,_)::l=>i::keysO l
def Sx.fit(τ:Sx)(K:Kx)(l:List (Nat×Nat)):Bool:=(ltA τ.n (refsA τ.sl)&&(ltA τ.n (refsB τ.ob)&&Nat.ble K.m τ.n))&&(((List.range K.m).all fun i=>Nat.beq (mapN l i) i)&&(ycl ((keysO τ.ob).map (mapN l))&&(keysO τ.ob).all fun i=>Nat.beq (mapN l i) i||(Nat.ble K.m i&&Nat.ble K.m (mapN l i))))
theorem yeG{x:SV}:∀{l:List (Nat×SV)},aget l d=some x→∀i,i∈x.refs→i∈refsA l
 | [],h=>by cases h
 | (j,y)::l,h=>fun i hi=>by
  rcases yj h with ⟨rfl,rfl⟩|⟨_,h2⟩
  ·exact yMl _ hi
  ·exact yMr _ (yeG h2 i hi)
theorem yeH{x:Ob}:∀{l:List (Nat×Ob)},aget l d=some x→d∈refsB l∧∀i,i∈x.refs→i∈refsB l
 | [],h=>by cases h
 | (j,y)::l,h=>by
  rcases yj h with ⟨rfl,rfl⟩|⟨_,h2⟩
  ·exact ⟨.head _,fun i hi=> .tail _ (yMl _ hi)⟩
  ·obtain ⟨g1,g2⟩:=yeH h2;exact⟨.tail _ (yMr _ g1),fun i hi=> .tail _ (yMr _ (g2 i hi))⟩
theorem yeI{x:Ob}:∀{l:List (Nat×Ob)},aget l d=some x→d∈keysO l
 | [],h=>by cases h
 | (j,y)::l,h=>by
  rcases yj h with ⟨rfl,rfl⟩|⟨_,h2⟩
  ·exact .head _
  ·exact .tail _ (yeI h2)
def Sig.mapT(f:Nat→Nat)(s:Sig):Sig:=⟨s.w,fun b=>f (s.tag b)⟩
section
variable{K:Kx}{C:Cx}{σ τ:Sx}{β:Nat→Value}{s:Sig}{e:List (Nat×Value)}
theorem Den.sub{l:List (Nat×Nat)}(hs:τ.le σ l)(hf:τ.fit K l=true)(h:Den K C σ β s e):∃β' s',s'.w=s.w∧Den K C τ β' s' e:=by
 obtain⟨h1,h2⟩:=Prod.mk.inj hs;simp only [Sx.fit,yAe] at hf;obtain⟨⟨f1,f2,f3⟩,f4,f5,f6⟩:=hf;have hμ:∀i,i<K.m→mapN l i=i:=fun i hi=>yNb (yAt.1 f4 i (List.mem_range.2 hi));have hnd:=y8T f5;have inj:∀i j,i∈keysO τ.ob→j∈keysO τ.ob→mapN l i=mapN l j→i=j:=by
  have:∀(q:List Nat),(q.map (mapN l)).Nodup→∀i j,i∈q→j∈q→mapN l i=mapN l j→i=j:=by
   intro q
   induction q with
   | nil=>intro _ i j hi;cases hi
   | cons a q ih=>
    intro hn i j hi hj e;rw [List.map_cons,List.nodup_cons] at hn;rcases yMo.1 hi with e1|hi <;> rcases yMo.1 hj with e2|hj
    ·rw [e1,e2]
    ·exact absurd (yMp.2 ⟨j,hj,by rw [←e1,e]⟩) hn.1
    ·exact absurd (yMp.2 ⟨i,hi,by rw [←e2,e]⟩) hn.1
    ·exact ih hn.2 i j hi hj e
  exact this _ hnd
 -- the tags: those of objects that have another number now are theirs
 let F:Nat→Nat:=fun t=>match (keysO τ.ob).find? (fun i=>Nat.beq (C.tg (mapN l i)) t && !Nat.beq (mapN l i) i) with
  | some i=>C.tg i
  | none=>t
 have hF:∀i,i∈keysO τ.ob→mapN l i≠i→F (C.tg (mapN l i))=C.tg i:=fun i hi hne=>by
  show(match (keysO τ.ob).find? (fun j=>Nat.beq (C.tg (mapN l j)) (C.tg (mapN l i)) && !Nat.beq (mapN l j) j) with | some i=>C.tg i|none=>_)=_;cases hh:(keysO τ.ob).find? (fun j=>Nat.beq (C.tg (mapN l j)) (C.tg (mapN l i)) && !Nat.beq (mapN l j) j) with
  | none=>
   have:=List.find?_eq_none.1 hh i hi;exfalso;apply this;have hb:Nat.beq (mapN l i) i=false:=by cases h0:Nat.beq (mapN l i) i with | false=>rfl|true=>exact absurd (yNb h0) hne
   rw [Nat.beq_refl,hb];rfl
  | some j=>
   have hj:=List.find?_some hh;have hjm:=List.mem_of_find?_eq_some hh;obtain⟨hj1,_⟩:=Bool.and_eq_true_iff.1 hj;have:=h.ok.inj (yNb hj1);rw [inj j i hjm hi this]
 have hF0:∀t,(∀i,i∈keysO τ.ob→mapN l i≠i→t≠C.tg (mapN l i))→F t=t:=fun t ht=>by
  show(match (keysO τ.ob).find? (fun j=>Nat.beq (C.tg (mapN l j)) t && !Nat.beq (mapN l j) j) with | some i=>C.tg i|none=>_)=_;cases hh:(keysO τ.ob).find? (fun j=>Nat.beq (C.tg (mapN l j)) t && !Nat.beq (mapN l j) j) with
  | none=>rfl
  | some j=>
   have hj:=List.find?_some hh;have hjm:=List.mem_of_find?_eq_some hh;obtain⟨hj1,hj2⟩:=Bool.and_eq_true_iff.1 hj;exfalso;refine ht j hjm (fun e=>?_) (yNb hj1).symm;rw [e,Nat.beq_refl] at hj2;cases hj2
 have hFi:∀i,i∈keysO τ.ob→F (C.tg (mapN l i))=C.tg i:=fun i hi=>by
  by_cases hne:mapN l i=i
  ·rw [hne];refine hF0 _ fun j hj hjn e=>?_;have h5:=h.ok.inj e;have:i=j:=inj i j hi hj (by rw [hne,←h5]);subst this;exact hjn hne
  ·exact hF i hi hne
 have hup:∀i,i∈keysO τ.ob→mapN l i≠i→C.Up K (C.tg (mapN l i)):=fun i hi hne=>by
  have:=yAt.1 f6 i hi;rcases Bool.or_eq_true_iff.1 this with g|g
  ·exact absurd (yNb g) hne
  ·obtain ⟨_,g2⟩:=Bool.and_eq_true_iff.1 g;refine h.ok.up ?_;unfold Kx.may;rw [g2];rfl
 have hle:Le s (s.mapT F):=⟨yNr _,fun b _ hb=>⟨rfl,by
  show F (s.tag b)=0;rw [hb];exact hF0 0 fun i hi hne e=>by have:=h.ok.tpos (mapN l i);omega⟩⟩
 have hmv:Mv (C.Up K) s (s.mapT F):=⟨rfl,rfl,rfl,yNr _,fun b _ hb=>⟨rfl,hF0 _ fun i hi hne e=>hb (e▸hup i hi hne)⟩⟩;refine⟨fun i=>β (mapN l i),s.mapT F,rfl,h.ok,h.mv.trans hmv,fun i hi=>by show β (mapN l i)=_;rw [hμ i hi];exact h.b0 i hi,yNl f3,fun d x hx=>?_,fun i o ho=>?_,fun d x hx i hi=>y5n f1 (yeG hx i hi),fun i o ho=>?_⟩
 ·obtain ⟨v,g1,g2⟩:=h.sl d _ (yfi h1 d _ (yfj hx));exact⟨v,g1,SV.mono hle (fun _ _=>rfl) (SV.ren_p g2)⟩
 ·have g:=h.ob _ _ (yeF h2 _ _ (yfk ho));refine Ob.as hle rfl (fun b hb=>?_) (fun _ _=>rfl) (Ob.ren_p g);show F (s.tag b)=_;rw [hb];exact hFi i (yeI ho)
 ·obtain ⟨g1,g2⟩:=yeH ho;exact⟨y5n f2 g1,fun j hj=>y5n f2 (g2 j hj)⟩
end
/-! Judgements: code, a way out, the operations of a region that are still to come, from what is known. -/
def WE(K:Kx)(C:Cx)(Φ:Fr)(P:Program)(Q:Exit→Act→World→Prop)(n:Nat)(c:Code)(σ:Sx):Prop:=∀β s e,Den K C σ β s e→E Φ P Q n c e s.w
def WX(K:Kx)(C:Cx)(Φ:Fr)(Q:Exit→Act→World→Prop)(n:Nat)(x:Exit)(σ:Sx):Prop:=∀β s e,Den K C σ β s e→X Φ Q n x e s.w
def V(K:Kx)(C:Cx)(Φ:Fr)(P:Program)(Q:Exit→Act→World→Prop)(n:Nat)(ops:Array Oper)(os:List Oper)(σ:Sx):Prop:=∀β s e,Den K C σ β s e→L Φ P Q n ops os e s.w
def Ox(K:Kx)(C:Cx)(P:Program)(n:Nat)(ops:Array Oper)(o:Oper)(σ:Sx)(f:Eff):Prop:=
 ∀Φ Q os β s e,Den K C σ β s e→(∀β' s' e',Aft C f σ.n β β' s s' e e'→L Φ P Q n ops os e' s'.w)→L Φ P Q n ops (o::os) e s.w
section
variable{K:Kx}{C:Cx}{Φ:Fr}{P:Program}{Q:Exit→Act→World→Prop}{n:Nat}{ops:Array Oper}{os:List Oper}{o:Oper}{σ:Sx}{f:Eff}
theorem V.op(h:Ox K C P n ops o σ f)(hk:f.ok K σ.n=true)(h2:V K C Φ P Q n ops os (σ.eff f)):V K C Φ P Q n ops (o::os) σ:=
 fun β s e hd=>h Φ Q os β s e hd fun β' s' e' a=>h2 β' s' e' (hd.eff a hk)
theorem V.nil(h:WX K C Φ Q n .normal σ):V K C Φ P Q n ops [] σ:=fun β s e hd=>L.nil (h β s e hd)
def Sx.is(τ:Sx)(K:Kx)(σ:Sx)(l:List (Nat×Nat)):Prop:=((agets σ.sl (renS (mapN l) τ.sl),agets σ.ob (renO (mapN l) τ.ob)),τ.fit K l)=((asays (renS (mapN l) τ.sl),asays (renO (mapN l) τ.ob)),true)
theorem V.sub{τ:Sx}(h:V K C Φ P Q n ops os τ)(l:List (Nat×Nat))(hs:τ.is K σ l):V K C Φ P Q n ops os σ:=fun β s e hd=>by
 obtain⟨β',s',hw,hd'⟩:=hd.sub (Prod.mk.inj hs).1 (Prod.mk.inj hs).2;exact hw▸h β' s' e hd'
theorem WX.sub{x:Exit}{τ:Sx}(h:WX K C Φ Q n x τ)(l:List (Nat×Nat))(hs:τ.is K σ l):WX K C Φ Q n x σ:=fun β s e hd=>by
 obtain⟨β',s',hw,hd'⟩:=hd.sub (Prod.mk.inj hs).1 (Prod.mk.inj hs).2;exact hw▸h β' s' e hd'
theorem WE.sub{c:Code}{τ:Sx}(h:WE K C Φ P Q n c τ)(l:List (Nat×Nat))(hs:τ.is K σ l):WE K C Φ P Q n c σ:=fun β s e hd=>by
 obtain⟨β',s',hw,hd'⟩:=hd.sub (Prod.mk.inj hs).1 (Prod.mk.inj hs).2;exact hw▸h β' s' e hd'
theorem WE.seq{x y:Code}(h:WE K C Φ P (Exit.then (y.wpIn Φ.f 2 P Q) Q) n x σ):WE K C Φ P Q n (.seq x y) σ:=fun β s e hd=>E.seq (h β s e hd)
theorem WE.skip(h:WX K C Φ Q n .normal σ):WE K C Φ P Q n .skip σ:=fun β s e hd=>E.skip (h β s e hd)
theorem WE.block{id:Nat}{c:Code}(h:WE K C Φ P (Exit.inBlock id Q) n c σ):WE K C Φ P Q n (.block id c) σ:=fun β s e hd=>E.block (h β s e hd)
theorem WE.exit{id:Nat}(h:WX K C Φ Q n (.exit id) σ):WE K C Φ P Q n (.exit id) σ:=fun β s e hd=>E.exit (h β s e hd)
theorem WE.ret(h:WX K C Φ Q n .ret σ):WE K C Φ P Q n .ret σ:=fun β s e hd=>E.ret (h β s e hd)
theorem WE.reg{id:Nat}{l:List Oper}(h:V K C Φ P Q n l.toArray l σ):WE K C Φ P Q n (.region id l.toArray false) σ:=fun β s e hd=>E.reg (h β s e hd)
theorem WX.seqN{y:Code}(h:WE K C Φ P Q n y σ):WX K C Φ (Exit.then (y.wpIn Φ.f 2 P Q) Q) n .normal σ:=fun β s e hd=>X.seqN (h β s e hd)
theorem WX.seqX{J:Act→World→Prop}{id:Nat}(h:WX K C Φ Q n (.exit id) σ):WX K C Φ (Exit.then J Q) n (.exit id) σ:=h
theorem WX.seqR{J:Act→World→Prop}(h:WX K C Φ Q n .ret σ):WX K C Φ (Exit.then J Q) n .ret σ:=h
theorem WX.blkN{id:Nat}(h:WX K C Φ Q n .normal σ):WX K C Φ (Exit.inBlock id Q) n .normal σ:=h
theorem WX.blkR{id:Nat}(h:WX K C Φ Q n .ret σ):WX K C Φ (Exit.inBlock id Q) n .ret σ:=h
theorem WX.blkE{id:Nat}(h:WX K C Φ Q n .normal σ):WX K C Φ (Exit.inBlock id Q) n (.exit id) σ:=fun β s e hd=>X.blkE (h β s e hd)
theorem WX.blkX{id id':Nat}(hne:Nat.beq id' id=false)(h:WX K C Φ Q n (.exit id') σ):WX K C Φ (Exit.inBlock id Q) n (.exit id') σ:=fun β s e hd=>X.blkX hne (h β s e hd)
end
def Sx.ev(σ:Sx):Operand→Option SV
 | .tmp t=>aget σ.sl t
 | .const v=>match v with
  | .agg cs=>cond (cs.toList.all Value.oneCell') (some (AG (cs.toList.map lV))) none
  | v=>cond v.oneCell' (some (VL v)) none
 | .global g=>some (VL (.pointer (some ⟨g,0,none⟩)))
 | .func f=>some (VL (.func (.func f) #[] #[]))
def Sx.evs(σ:Sx):List Operand→Option (List TV)
 | []=>some []
 | x::xs=>match σ.ev x,σ.evs xs with
  | some (.v v),some vs=>some (v::vs)
  | _,_=>none
section
variable{K:Kx}{C:Cx}{σ:Sx}{β:Nat→Value}{s:Sig}{e:List (Nat×Value)}
theorem yb6 :∀{cs:List Value},cs.all Value.oneCell'=true→All2 β s (cs.map lV) cs
 | [],_=>rfl
 | c::cs,h=>by
  rw [List.all_cons,yAe] at h;exact⟨c,cs,⟨rfl,h.1⟩,yb6 h.2,rfl⟩
theorem yiX{v:Value}{y:SV}(hx:σ.ev (.const v)=some y):y.p β s v:=by
 have key:∀v:Value,cond v.oneCell' (some (VL v)) none=some y→y.p β s v:=by
  intro v hx;cases h:v.oneCell' with
  | true=>rw [h] at hx;cases hx;exact⟨rfl,h⟩
  | false=>rw [h] at hx;cases hx
 cases v with
 | agg cs=>
  simp only [Sx.ev] at hx;cases h:cs.toList.all Value.oneCell' with
  | true=>rw [h] at hx;cases hx;exact⟨cs.toList,yb6 h,by simp⟩
  | false=>rw [h] at hx;cases hx
 | _=>exact key _ hx
theorem Den.ev(h:Den K C σ β s e){x:Operand}{y:SV}(hx:σ.ev x=some y):∃v,Env.ev e x=some v∧y.p β s v:=by
 cases x with
 | tmp t=>exact h.sl t y hx
 | const v=>exact⟨v,rfl,yiX hx⟩
 | global g=>simp only [Sx.ev,yIj] at hx;subst hx;exact⟨_,rfl,rfl,rfl⟩
 | func f=>simp only [Sx.ev,yIj] at hx;subst hx;exact⟨_,rfl,rfl,rfl⟩
theorem Den.evl(h:Den K C σ β s e){x:Operand}{v:Value}(hx:σ.ev x=some (VL v)):Env.ev e x=some v:=by
 obtain⟨u,h1,h2⟩:=h.ev hx;rw [h1];exact congrArg some h2.1
theorem Den.evs(h:Den K C σ β s e):∀{xs:List Operand} {ys:List TV},σ.evs xs=some ys→∃vs,Env.evs e xs=some vs∧All3 β s ys vs
 | [],ys,hx=>by simp only [Sx.evs,yIj] at hx;subst hx;exact⟨[],rfl,rfl⟩
 | x::xs,ys,hx=>by
  simp only [Sx.evs] at hx;split at hx
  ·rename_i y zs h1 h2;simp only [yIj] at hx;subst hx;obtain⟨v,g1,g2⟩:=h.ev h1;obtain⟨vs,g3,g4⟩:=h.evs h2;exact⟨v::vs,by simp [Env.evs,g1,g3],v,vs,g2,g4,rfl⟩
  ·cases hx
end
def Gu(ops:Array Oper)(σ:Sx):Option (Nat×Bool)→Prop
 | none=>True
 | some (j,b)=>∃s,(ops[j]?).bind (·.dst)=some s∧aget σ.sl s=some (VL (.bool b))
theorem Gu.no{σ:Sx}:Gu ops σ none:=trivial
theorem Gu.mk{σ:Sx}{j s:Nat}{b:Bool}(h:(ops[j]?).bind (·.dst)=some s)(h2:aget σ.sl s=some (VL (.bool b))):Gu ops σ (some (j,b)):=⟨s,h,h2⟩
theorem Den.gd{K:Kx}{C:Cx}{σ:Sx}{β:Nat→Value}{s:Sig}(h:Den K C σ β s e):∀{g:Option (Nat×Bool)},Gu ops σ g→Wt ops e g
 | none,_=>trivial
 | some (_,_),⟨s,h1,h2⟩=>⟨s,h1,h.evl (x:= .tmp s) h2⟩
section
variable{K:Kx}{C:Cx}{P:Program}{n:Nat}{ops:Array Oper}{σ:Sx}{d:Nat}{ty:TypeId}{pos:String}{af:Array Edge}{g:Option (Nat×Bool)}
abbrev F1(d:Nat)(x:SV):Eff:=⟨some (d,x),[],none⟩
theorem Aft.one{β:Nat→Value}{k:Nat}{s:Sig}{d:Nat}{x:SV}{v:Value}(m:Mv No s s')(h:x.p β s' v):Aft C (F1 d x) k β β s s' e ((d,v)::e):=
 ⟨fun _ _=>rfl,fun _ _=>rfl,m.no,fun d' hn=>by
  simp only [Env.get];have:Nat.beq d d'=false:=by cases h0:Nat.beq d d' with | false=>rfl|true=>exact absurd (by rw [yNb h0]) (hn x)
  rw [this];rfl,fun d' x' e=>by cases e;exact⟨v,by simp [Env.get],h⟩,fun _ _ h=>by cases h⟩
theorem Ox.pure{op:Op}{x:SV}(h:∀Φ Q os β s e,Den K C σ β s e→(∀v,x.p β s v→L Φ P Q n ops os ((d,v)::e) s.w)→L Φ P Q n ops (⟨some d,op,ty,pos,af,g⟩::os) e s.w):
  Ox K C P n ops ⟨some d,op,ty,pos,af,g⟩ σ (F1 d x):=fun Φ Q os β s e hd k=>h Φ Q os β s e hd fun v hv=>k β s _ (Aft.one (Mv.refl _ _) hv)
end
def Lv{α:Type}(r:Rep α)(y:α)(l:List LV):Prop:=∀β s cs,r.rd s cs y→All2 β s l cs
def Rv{α:Type}(r:Rep α)(l:List LV)(z:α):Prop:=∀β s cs,All2 β s l cs→r.rd s cs z
theorem Lv.k{k:IntKind}{x:Int}:Lv (rK k) x [lV (.int k x)]:=fun _ _ _ h=>⟨_,[],⟨rfl,rfl⟩,rfl,h⟩
theorem Lv.b{x:Bool}:Lv rB x [lV (.bool x)]:=fun _ _ _ h=>⟨_,[],⟨rfl,rfl⟩,rfl,h⟩
theorem Lv.l{r:Rep α}{xs:List α}:Lv (rL r) xs [lF r xs]:=fun _ _ _ ⟨a,c,e,h⟩=>⟨_,[],⟨a,c,rfl,h⟩,rfl,e⟩
theorem Lv.p{γ:Type}{r:Rep α}{q:Rep γ}{x:α×γ}{l:List LV}(h:Lv r x.1 (l.take r.sz))(h2:Lv q x.2 (l.drop r.sz)):Lv (rP r q) x l:=fun β s _ ⟨_,_,e,g1,g2⟩=>by
 have:=(h β s _ g1).append (h2 β s _ g2);rw [List.take_append_drop] at this;exact e▸this
theorem Rv.k{k:IntKind}{x:Int}:Rv (rK k) [lV (.int k x)] x:=fun _ _ _ ⟨_,_,h,h2,e⟩=>by rw [e,h.1,show _= [] from h2];rfl
theorem Rv.b{x:Bool}:Rv rB [lV (.bool x)] x:=fun _ _ _ ⟨_,_,h,h2,e⟩=>by rw [e,h.1,show _= [] from h2];rfl
theorem Rv.l{r:Rep α}{xs:List α}:Rv (rL r) [lF r xs] xs:=fun _ _ _ ⟨_,_,⟨a,c,e',h⟩,h2,e⟩=>⟨a,c,by rw [e,e',show _= [] from h2],h⟩
theorem Rv.n{r:Rep α}:Rv (rL r) [lV (.slice none 0 0)] []:=fun _ _ _ ⟨_,_,h,h2,e⟩=>⟨none,0,by rw [e,h.1,show _= [] from h2];rfl,RdL.nil⟩
theorem Rv.p{γ:Type}{r:Rep α}{q:Rep γ}{x:α}{y:γ}{l:List LV}(h:Rv r (l.take r.sz) x)(h2:Rv q (l.drop r.sz) y):Rv (rP r q) l (x,y):=fun β s _ g=>by
 rw [←List.take_append_drop r.sz l] at g;obtain⟨us,ws,e,g1,g2⟩:=g.split;exact⟨us,ws,e,h β s _ g1,h2 β s _ g2⟩
def Cv{α:Type}(r:Rep α)(l:List LV)(xs:List α):Prop:=∀β s cs,All2 β s l cs→Cells r s cs xs
theorem Cv.n{r:Rep α}:Cv r [] []:=fun _ _ _ h=>h
theorem Cv.c{r:Rep α}{l:List LV}{x:α}{xs:List α}(h:Rv r (l.take r.sz) x)(h2:Cv r (l.drop r.sz) xs):Cv r l (x::xs):=fun β s _ g=>by
 rw [←List.take_append_drop r.sz l] at g;obtain⟨us,ws,e,g1,g2⟩:=g.split;exact⟨us,ws,e,h β s _ g1,h2 β s _ g2⟩
theorem yh5{op:BinOp}{k:IntKind}{i j:Int}{v:Value}(h:yar op k i j=some v):v.oneCell'=true:=by
 cases op <;> simp only [yar,yIj,reduceCtorEq] at h <;> subst h <;> rfl
section
variable{K:Kx}{C:Cx}{P:Program}{n:Nat}{ops:Array Oper}{σ:Sx}{d:Nat}{ty:TypeId}{pos:String}{af:Array Edge}{g:Option (Nat×Bool)}{β:Nat→Value}{s s':Sig}{e:List (Nat×Value)}
theorem Den.evv(h:Den K C σ β s e){x:Operand}{y:LV}(hx:σ.ev x=some (sL y)):∃v,Env.ev e x=some v∧y.p β s v:=h.ev hx
theorem O.mv{x:Operand}{y:SV}(hg:Gu ops σ g)(hx:σ.ev x=some y)(hb:Nat.blt d n=true):Ox K C P n ops ⟨some d,.move x,ty,pos,af,g⟩ σ (F1 d y):=
 Ox.pure fun _ _ _ _ _ _ hd k=>by obtain⟨v,h1,h2⟩:=hd.ev hx;exact L.mv (hd.gd hg) h1 hb (k v h2)
theorem O.as{x:Operand}{y:SV}(hg:Gu ops σ g)(hx:σ.ev x=some y)(hb:Nat.blt d n=true):Ox K C P n ops ⟨some d,.assign x,ty,pos,af,g⟩ σ (F1 d y):=
 Ox.pure fun _ _ _ _ _ _ hd k=>by obtain⟨v,h1,h2⟩:=hd.ev hx;exact L.as (hd.gd hg) h1 hb (k v h2)
theorem O.pkT{x z:Operand}{t:Bool}{v:SV}(hg:Gu ops σ g)(hx:σ.ev x=some (VL (.bool t)))(ht:t=true)(hy:σ.ev y=some v)(hb:Nat.blt d n=true):Ox K C P n ops ⟨some d,.pick x y z,ty,pos,af,g⟩ σ (F1 d v):=
 Ox.pure fun _ _ _ _ _ _ hd k=>by obtain⟨u,h1,h2⟩:=hd.ev hy;exact L.pkT (hd.gd hg) (hd.evl hx) ht h1 hb (k u h2)
theorem O.pkF{x z:Operand}{t:Bool}{v:SV}(hg:Gu ops σ g)(hx:σ.ev x=some (VL (.bool t)))(ht:t=false)(hy:σ.ev z=some v)(hb:Nat.blt d n=true):Ox K C P n ops ⟨some d,.pick x y z,ty,pos,af,g⟩ σ (F1 d v):=
 Ox.pure fun _ _ _ _ _ _ hd k=>by obtain⟨u,h1,h2⟩:=hd.ev hy;exact L.pkF (hd.gd hg) (hd.evl hx) ht h1 hb (k u h2)
theorem O.bi{op:BinOp}{T:TypeId}{x:Operand}{k:IntKind}{i j:Int}{v:Value}(hg:Gu ops σ g)(hx:σ.ev x=some (VL (.int k i)))(hy:σ.ev y=some (VL (.int k j)))(hv:yar op k i j=some v)(hb:Nat.blt d n=true):Ox K C P n ops ⟨some d,.binOp op T x y U,ty,pos,af,g⟩ σ (F1 d (VL v)):=
 Ox.pure fun _ _ _ _ _ _ hd k=>L.bi (hd.gd hg) (hd.evl hx) (hd.evl hy) hv hb (k v ⟨rfl,yh5 hv⟩)
theorem O.rem{T:TypeId}{x:Operand}{k:IntKind}{i j:Int}(hg:Gu ops σ g)(hx:σ.ev x=some (VL (.int k i)))(hy:σ.ev y=some (VL (.int k j)))(hj:j≠0)(hb:Nat.blt d n=true):Ox K C P n ops ⟨some d,.binOp .rem T x y U,ty,pos,af,g⟩ σ (F1 d (VL (.int k (i.tmod j)))):=
 Ox.pure fun _ _ _ _ _ _ hd k=>L.rem (hd.gd hg) (hd.evl hx) (hd.evl hy) hj hb (k _ ⟨rfl,rfl⟩)
theorem O.shr{T:TypeId}{x:Operand}{k:IntKind}{i j:Int}(hg:Gu ops σ g)(hx:σ.ev x=some (VL (.int k i)))(hy:σ.ev y=some (VL (.int k' j)))(hj:¬j<0)(hb:Nat.blt d n=true):Ox K C P n ops ⟨some d,.binOp .shr T x y U,ty,pos,af,g⟩ σ (F1 d (VL (.int k (i.fdiv (2 ^ (min j.toNat k.bits)))))):=
 Ox.pure fun _ _ _ _ _ _ hd k=>L.shr (hd.gd hg) (hd.evl hx) (hd.evl hy) hj hb (k _ ⟨rfl,rfl⟩)
theorem O.not{T:TypeId}{x:Operand}{i:Bool}(hg:Gu ops σ g)(hx:σ.ev x=some (VL (.bool i)))(hb:Nat.blt d n=true):Ox K C P n ops ⟨some d,.unOp .not T x,ty,pos,af,g⟩ σ (F1 d (VL (.bool (!i)))):=
 Ox.pure fun _ _ _ _ _ _ hd k=>L.not (hd.gd hg) (hd.evl hx) hb (k _ ⟨rfl,rfl⟩)
theorem O.cv{T:TypeId}{D:TypeDesc}{x:Operand}{k:IntKind}{i:Int}(hT:P.underlying T=some D)(hU:P.underlying U=some (.int k'))(hg:Gu ops σ g)(hx:σ.ev x=some (VL (.int k i)))(hb:Nat.blt d n=true):Ox K C P n ops ⟨some d,.convert T U x,ty,pos,af,g⟩ σ (F1 d (VL (.int k' (k'.wrap i)))):=
 Ox.pure fun _ _ _ _ _ _ hd k=>L.cv hT hU (hd.gd hg) (hd.evl hx) hb (k _ ⟨rfl,rfl⟩)
theorem All3.get :∀{l:List TV} {vs:List Value},All3 β s l vs→∀{i:Nat} {x:TV},l[i]? =some x→∃v,vs[i]? =some v∧x.p β s v
 | [],_,_,_,_,h=>by cases h
 | _::_,_,⟨v,us,h1,h2,e⟩,0,x,h=>by cases h;exact⟨v,by rw [e];rfl,h1⟩
 | _::_,_,⟨v,us,h1,h2,e⟩,i+1,x,h=>by
  obtain⟨u,g1,g2⟩:=h2.get (i:=i) (by simpa using h);exact⟨u,by rw [e];simpa using g1,g2⟩
theorem O.ex{x:Operand}{l:List TV}{i:Nat}{y:TV}(hg:Gu ops σ g)(hx:σ.ev x=some (.tp l))(hi:l[i]? =some y)(hb:Nat.blt d n=true):Ox K C P n ops ⟨some d,.extract x i,ty,pos,af,g⟩ σ (F1 d (.v y)):=
 Ox.pure fun _ _ _ _ _ _ hd k=>by
  obtain⟨v,h1,vs,h2,rfl⟩:=hd.ev hx;obtain⟨u,h3,h4⟩:=h2.get hi;exact L.ex (hd.gd hg) h1 (by simpa using h3) hb (k u h4)
def Pr(x:LV):Prop:=∀β s v,x.p β s v→∃a,v= .pointer (some a)
theorem Pr.B{i:Nat}:Pr (lP i off):=fun _ _ _ ⟨_,_,e⟩=>⟨_,e⟩
theorem Pr.Q{T:TypeId}{l:List LV}:Pr (lQ T l off):=fun _ _ _ ⟨_,_,_,_,e⟩=>⟨_,e⟩
theorem O.nc{x:Operand}{y:LV}(hp:Pr y)(hg:Gu ops σ g)(hx:σ.ev x=some (sL y))(hb:Nat.blt d n=true):Ox K C P n ops ⟨some d,.nilCheck x,ty,pos,af,g⟩ σ (F1 d (sL y)):=
 Ox.pure fun _ _ _ β s _ hd k=>by
  obtain⟨v,h1,h2⟩:=hd.evv hx;obtain⟨a,rfl⟩:=hp β s v h2;exact L.nc (hd.gd hg) h1 hb (k _ h2)
theorem O.len{r:Rep α}{xs:List α}{x:Operand}{T E:TypeId}{m:Nat}(hT:Sl P T E m)(hg:Gu ops σ g)(hx:σ.ev x=some (sL (lF r xs)))(hb:Nat.blt d n=true):Ox K C P n ops ⟨some d,.call { callee:= .builtin .len,args:= #[x],argTypes:= #[T] },ty,pos,af,g⟩ σ (F1 d (VL (.int .i64 (xs.length:Int)))):=
 Ox.pure fun _ _ _ _ _ _ hd k=>by
  obtain⟨v,h1,a,c,rfl,_⟩:=hd.evv hx;exact L.len hT (hd.gd hg) h1 hb (k _ ⟨rfl,rfl⟩)
theorem Den.row{r:Rep α}{xs:List α}{x:Operand}{i:Nat}(hd:Den K C σ β s e)(hx:σ.ev x=some (sL (lH i)))(ho:aget σ.ob i=some (ROW r U xs)):∃a c,β i= .slice a xs.length c∧Env.ev e x=some (.slice a xs.length c)∧RowT r s (C.tg i) U a c xs:=by
 obtain⟨v,h1,h2,_⟩:=hd.evv hx;obtain⟨a,c,h3,h4⟩:=hd.ob i _ ho;exact⟨a,c,h3,by rw [h1,h2,h3],h4⟩
theorem O.lenH{r:Rep α}{xs:List α}{x:Operand}{T E:TypeId}{m i:Nat}(hT:Sl P T E m)(hg:Gu ops σ g)(hx:σ.ev x=some (sL (lH i)))(ho:aget σ.ob i=some (ROW r U xs))(hb:Nat.blt d n=true):Ox K C P n ops ⟨some d,.call { callee:= .builtin .len,args:= #[x],argTypes:= #[T] },ty,pos,af,g⟩ σ (F1 d (VL (.int .i64 (xs.length:Int)))):=
 Ox.pure fun _ _ _ _ _ _ hd k=>by
  obtain⟨a,c,_,h1,_⟩:=hd.row hx ho;exact L.len hT (hd.gd hg) h1 hb (k _ ⟨rfl,rfl⟩)
theorem O.min{x:Operand}{T:TypeId}{k:IntKind}{i j:Int}(hg:Gu ops σ g)(hx:σ.ev x=some (VL (.int k i)))(hy:σ.ev y=some (VL (.int k j)))(hb:Nat.blt d n=true):Ox K C P n ops ⟨some d,.call { callee:= .builtin .min,args:= #[x,y],argTypes:= #[T,U] },ty,pos,af,g⟩ σ (F1 d (VL (.int k (if j<i then j else i)))):=
 Ox.pure fun _ _ _ _ _ _ hd k=>L.min (hd.gd hg) (hd.evl hx) (hd.evl hy) hb (k _ ⟨rfl,rfl⟩)
/-! Places. -/
theorem O.ix{r:Rep α}{xs:List α}{x i:Operand}{T:TypeId}{k:IntKind}{j:Int}{y:α}(hS:Sl P T U r.sz)(hg:Gu ops σ g)(hx:σ.ev x=some (sL (lF r xs)))(hi:σ.ev i=some (VL (.int k j)))(hy:idx xs j=some y)(hb:Nat.blt d n=true):Ox K C P n ops ⟨some d,.indexAddr T x i,ty,pos,af,g⟩ σ (F1 d (sL (lE r y 0))):=
 Ox.pure fun _ _ _ _ _ _ hd k=>by
  obtain⟨v,h1,a,c,rfl,h2⟩:=hd.evv hx;exact L.ix hS h2 (hd.gd hg) h1 (hd.evl hi) hy hb fun b o cs h3 h4=>k _ ⟨b,o,cs,h3,h4,rfl⟩
theorem O.ir{r:Rep α}{xs:List α}{x i:Operand}{T:TypeId}{k:IntKind}{j:Int}{q:Nat}{y:α}(hS:Sl P T U r.sz)(hg:Gu ops σ g)(hx:σ.ev x=some (sL (lH q)))(ho:aget σ.ob q=some (ROW r T' xs))(hi:σ.ev i=some (VL (.int k j)))(hy:idx xs j=some y)(hb:Nat.blt d n=true):Ox K C P n ops ⟨some d,.indexAddr T x i,ty,pos,af,g⟩ σ (F1 d (sL (lR q r.sz j.toNat 0))):=
 Ox.pure fun _ _ _ _ _ _ hd k=>by
  obtain⟨a,c,h0,h1,h2⟩:=hd.row hx ho;exact L.ir hS h2 (hd.gd hg) h1 (hd.evl hi) hy hb fun b o cs h3 h4 h5=>k _ ⟨b,o,a,_,c,h0,h5,rfl⟩
theorem O.faE{r:Rep α}{y:α}{x:Operand}{f o:Nat}(hF:FA P S f o)(hg:Gu ops σ g)(hx:σ.ev x=some (sL (lE r y off)))(hb:Nat.blt d n=true):Ox K C P n ops ⟨some d,.fieldAddr S x f,ty,pos,af,g⟩ σ (F1 d (sL (lE r y (off+o)))):=
 Ox.pure fun _ _ _ _ _ _ hd k=>by
  obtain⟨v,h1,b,q,cs,h2,h3,rfl⟩:=hd.evv hx;exact L.fa hF (hd.gd hg) h1 hb (k _ ⟨b,q,cs,h2,h3,by rw [Nat.add_assoc]⟩)
theorem O.faR{x:Operand}{f o i sz j:Nat}(hF:FA P S f o)(hg:Gu ops σ g)(hx:σ.ev x=some (sL (lR i sz j off)))(hb:Nat.blt d n=true):Ox K C P n ops ⟨some d,.fieldAddr S x f,ty,pos,af,g⟩ σ (F1 d (sL (lR i sz j (off+o)))):=
 Ox.pure fun _ _ _ _ _ _ hd k=>by
  obtain⟨v,h1,b,q,a,l,c,h2,h3,rfl⟩:=hd.evv hx;exact L.fa hF (hd.gd hg) h1 hb (k _ ⟨b,q,a,l,c,h2,h3,by rw [Nat.add_assoc]⟩)
theorem O.faP{x:Operand}{f o i:Nat}(hF:FA P S f o)(hg:Gu ops σ g)(hx:σ.ev x=some (sL (lP i off)))(hb:Nat.blt d n=true):Ox K C P n ops ⟨some d,.fieldAddr S x f,ty,pos,af,g⟩ σ (F1 d (sL (lP i (off+o)))):=
 Ox.pure fun _ _ _ _ _ _ hd k=>by
  obtain⟨v,h1,b,h2,rfl⟩:=hd.evv hx;exact L.fa hF (hd.gd hg) h1 hb (k _ ⟨b,h2,rfl⟩)
theorem O.faQ{T:TypeId}{x:Operand}{f o:Nat}{l:List LV}(hF:FA P S f o)(hg:Gu ops σ g)(hx:σ.ev x=some (sL (lQ T l off)))(hb:Nat.blt d n=true):Ox K C P n ops ⟨some d,.fieldAddr S x f,ty,pos,af,g⟩ σ (F1 d (sL (lQ T l (off+o)))):=
 Ox.pure fun _ _ _ _ _ _ hd k=>by
  obtain⟨v,h1,b,vs,h2,h3,rfl⟩:=hd.evv hx;exact L.fa hF (hd.gd hg) h1 hb (k _ ⟨b,vs,h2,h3,rfl⟩)
def At(K:Kx)(C:Cx)(σ:Sx)(x:LV)(l:List LV)(off:Nat):Prop:=∀β s e,Den K C σ β s e→∀v,x.p β s v→∃t b o cs,Mem s t b o cs∧All2 β s l cs∧v= .pointer (some ⟨b,o+off,none⟩)
theorem At.E{r:Rep α}{y:α}{l:List LV}(h:Lv r y l):At K C σ (lE r y off) l off:=fun β s _ _ _ ⟨b,o,cs,h1,h2,e⟩=>⟨0,b,o,cs,h1,h β s cs h2,e⟩
theorem At.B{T:TypeId}{l:List LV}{i:Nat}(h:aget σ.ob i=some (.bx T l)):At K C σ (lP i off) l off:=fun _ _ _ hd v ⟨b,h1,e⟩=>by
 obtain⟨b',vs,h2,h3,h4⟩:=hd.ob i _ h;rw [h1] at h2;simp only [Value.pointer.injEq,yIj,Addr.mk.injEq,and_true] at h2;subst h2;exact⟨_,b,0,vs,by simpa using h3.mem,h4,by rw [yNz];exact e⟩
theorem At.Q{T:TypeId}{l:List LV}:At K C σ (lQ T l off) l off:=fun _ _ _ _ _ ⟨b,vs,h1,h2,e⟩=>⟨0,b,0,vs,by simpa using h1.mem,h2,by rw [yNz];exact e⟩
theorem At.R{r:Rep α}{xs:List α}{y:α}{T:TypeId}{l:List LV}{i:Nat}{j:Int}(h:aget σ.ob i=some (ROW r T xs))(hy:idx xs j=some y)(hl:Lv r y l):At K C σ (lR i r.sz j.toNat off) l off:=fun β s _ hd _ ⟨b,o,a,k,c,h1,h2,e⟩=>by
 obtain⟨h0,hk,rfl⟩:=y8D hy;obtain⟨a',c',h3,cs,h4,h5⟩:=hd.ob i _ h;rw [h1] at h3;simp only [Value.slice.injEq] at h3;obtain⟨rfl,_,rfl⟩:=h3;obtain⟨b',off',cap',e',hlt,_,htag⟩:=h4.addr (by omega);simp only [Value.slice.injEq,true_and] at e';obtain⟨rfl,rfl⟩:=e';obtain⟨o',e1,rfl⟩:=h2.is;cases e1;have hx2:=h5.at j.toNat hk;have hl2:=h4.1;have hm:=Nat.mul_le_mul_right r.sz (show j.toNat+1≤xs.length from hk);rw [Nat.succ_mul] at hm;refine⟨_,_,_,_,⟨fun _=>htag,fun j' hj=>?_⟩,hl β s _ hx2,e⟩;have hj':j'<r.sz:=by rw [r.len hx2] at hj;exact hj
 rw [Nat.add_assoc,h4.cellAt (j.toNat*r.sz+j') (by omega),List.getElem_take,List.getElem_drop,yGe]
theorem O.ld{T:TypeId}{x:Operand}{p y:LV}{l:List LV}(hT:NAg P T)(hg:Gu ops σ g)(hx:σ.ev x=some (sL p))(ha:At K C σ p l off)(hy:l[off]? =some y)(hb:Nat.blt d n=true):Ox K C P n ops ⟨some d,.load T x,ty,pos,af,g⟩ σ (F1 d (sL y)):=
 Ox.pure fun _ _ _ β s e hd k=>by
  obtain⟨v,h1,h2⟩:=hd.evv hx;obtain⟨t,b,o,cs,h3,h4,rfl⟩:=ha β s e hd v h2;obtain⟨u,h5,h6⟩:=h4.get hy;exact L.ld h3 hT (hd.gd hg) h1 rfl h5 hb (k u h6)
theorem O.lg{T:TypeId}{x:Operand}{p:LV}{l l':List LV}{m:Nat}(hT:Ag P T m)(hg:Gu ops σ g)(hx:σ.ev x=some (sL p))(ha:At K C σ p l off)(hy:(l.drop off).take m=l')(hm:l'.length=m)(hb:Nat.blt d n=true):Ox K C P n ops ⟨some d,.load T x,ty,pos,af,g⟩ σ (F1 d (AG l')):=
 Ox.pure fun _ _ _ β s e hd k=>by
  obtain⟨v,h1,h2⟩:=hd.evv hx;obtain⟨t,b,o,cs,h3,h4,rfl⟩:=ha β s e hd v h2;have h5:=(h4.drop off).take m;rw [hy] at h5;exact L.lg h3 hT (hd.gd hg) h1 rfl rfl (h5.len.trans hm) hb (k _ ⟨_,h5,rfl⟩)
/-! Parts of slices that nobody writes. -/
theorem O.sl{r:Rep α}{xs:List α}{x:Operand}{T:TypeId}{k:IntKind}{i j:Int}(hS:Sl P T U r.sz)(hg:Gu ops σ g)(hx:σ.ev x=some (sL (lF r xs)))(hi1:σ.ev lo=some (VL (.int k i)))(hj:σ.ev hi=some (VL (.int k' j)))(hz:slc xs i j=some zs)(hb:Nat.blt d n=true):Ox K C P n ops ⟨some d,.slice T x (some lo) (some hi) none,ty,pos,af,g⟩ σ (F1 d (sL (lF r zs))):=
 Ox.pure fun _ _ _ _ _ _ hd k=>by
  obtain⟨v,h1,a,c,rfl,h2⟩:=hd.evv hx;exact L.sl hS h2 (hd.gd hg) h1 (hd.evl hi1) (hd.evl hj) hz hb fun a c h=>k _ ⟨a,c,rfl,h⟩
theorem O.sh{r:Rep α}{xs:List α}{x:Operand}{T:TypeId}{j:Int}(hS:Sl P T U r.sz)(hg:Gu ops σ g)(hx:σ.ev x=some (sL (lF r xs)))(hj:σ.ev hi=some (VL (.int k' j)))(hz:slc xs 0 j=some zs)(hb:Nat.blt d n=true):Ox K C P n ops ⟨some d,.slice T x none (some hi) none,ty,pos,af,g⟩ σ (F1 d (sL (lF r zs))):=
 Ox.pure fun _ _ _ _ _ _ hd k=>by
  obtain⟨v,h1,a,c,rfl,h2⟩:=hd.evv hx;exact L.sh hS h2 (hd.gd hg) h1 (hd.evl hj) hz hb fun a c h=>k _ ⟨a,c,rfl,h⟩
theorem O.sf{r:Rep α}{xs:List α}{x:Operand}{T:TypeId}{k:IntKind}{i:Int}(hS:Sl P T U r.sz)(hg:Gu ops σ g)(hx:σ.ev x=some (sL (lF r xs)))(hi1:σ.ev lo=some (VL (.int k i)))(hz:slc xs i xs.length=some zs)(hb:Nat.blt d n=true):Ox K C P n ops ⟨some d,.slice T x (some lo) none none,ty,pos,af,g⟩ σ (F1 d (sL (lF r zs))):=
 Ox.pure fun _ _ _ _ _ _ hd k=>by
  obtain⟨v,h1,a,c,rfl,h2⟩:=hd.evv hx;exact L.sf hS h2 (hd.gd hg) h1 (hd.evl hi1) hz hb fun a c h=>k _ ⟨a,c,rfl,h⟩
theorem O.s3{r:Rep α}{xs:List α}{x mx:Operand}{T:TypeId}{k k2:IntKind}{i j m:Int}(hS:Sl P T U r.sz)(hg:Gu ops σ g)(hx:σ.ev x=some (sL (lF r xs)))(hi1:σ.ev lo=some (VL (.int k i)))(hj:σ.ev hi=some (VL (.int k' j)))(hm:σ.ev mx=some (VL (.int k2 m)))(hz:slc3 xs i j m=some zs)(hb:Nat.blt d n=true):Ox K C P n ops ⟨some d,.slice T x (some lo) (some hi) (some mx),ty,pos,af,g⟩ σ (F1 d (sL (lF r zs))):=
 Ox.pure fun _ _ _ _ _ _ hd k=>by
  obtain⟨v,h1,a,c,rfl,h2⟩:=hd.evv hx;exact L.s3 hS h2 (hd.gd hg) h1 (hd.evl hi1) (hd.evl hj) (hd.evl hm) hz hb fun a c h=>k _ ⟨a,c,rfl,h⟩
end
def upB(β:Nat→Value)(i:Nat)(h:Value):Nat→Value:=fun j=>if j=i then h else β j
theorem y7J{β:Nat→Value}{i:Nat}{h:Value}:upB β i h i=h:=iP rfl
theorem y7u{β:Nat→Value}{i j:Nat}{h:Value}(e:j≠i):upB β i h j=β j:=iN e
abbrev FN(d i:Nat)(x:LV)(o:Ob):Eff:=⟨some (d,sL x),[(i,o)],some (i+1)⟩
abbrev FS(d j i:Nat)(x:LV)(o:Ob):Eff:=⟨some (d,sL x),[(i,o),(j,.u)],some (i+1)⟩
abbrev FO(i:Nat)(o:Ob):Eff:=⟨none,[(i,o)],none⟩
section
variable{K:Kx}{C:Cx}{P:Program}{n:Nat}{ops:Array Oper}{σ:Sx}{d i:Nat}{ty:TypeId}{pos:String}{af:Array Edge}{g:Option (Nat×Bool)}{β:Nat→Value}{s s':Sig}{e:List (Nat×Value)}
theorem Env.get_put{d d':Nat}{v:Value}(h:d≠d'):Env.get ((d,v)::e) d'=Env.get e d':=by
 simp only [Env.get];have:Nat.beq d d'=false:=by cases h0:Nat.beq d d' with | false=>rfl|true=>exact absurd (yNb h0) h
 rw [this];rfl
theorem Aft.new{k:Nat}{x:LV}{o:Ob}{v h:Value}(hi:Nat.ble k i=true)(m:Mv (One (C.tg i)) s s')(hx:x.p (upB β i h) s' v)(ho:o.p (upB β i h) s' (C.tg i) h):Aft C (FN d i x o) k β (upB β i h) s s' e ((d,v)::e) where
 hd j hj:=y7u (by have:=yNl hi;omega)
 hn j hj:=y7u fun e=>hj o (by rw [e];exact .head _)
 mv:=m.weak fun t ht=>⟨i,o,.head _,ht⟩
 sl d' hn:=Env.get_put fun e=>hn (sL x) (by rw [e])
 dst d' x' e:=by cases e;exact⟨v,by simp [Env.get],hx⟩
 ob j o' hm:=by
  rcases yMo.1 hm with e|hm
  ·cases e;rw [y7J];exact ho
  ·cases hm
theorem Aft.suc{k j:Nat}{x:LV}{o:Ob}{v h:Value}(hi:Nat.ble k i=true)(m:Mv (fun t=>t=C.tg i∨t=C.tg j) s s')(hx:x.p (upB β i h) s' v)(ho:o.p (upB β i h) s' (C.tg i) h):Aft C (FS d j i x o) k β (upB β i h) s s' e ((d,v)::e) where
 hd j hj:=y7u (by have:=yNl hi;omega)
 hn j hj:=y7u fun e=>hj o (by rw [e];exact .head _)
 mv:=m.weak fun t ht=>ht.elim (fun ht=>⟨i,o,.head _,ht⟩) (fun ht=>⟨j,.u,.tail _ (.head _),ht⟩)
 sl d' hn:=Env.get_put fun e=>hn (sL x) (by rw [e])
 dst d' x' e:=by cases e;exact⟨v,by simp [Env.get],hx⟩
 ob j o' hm:=by
  rcases yMo.1 hm with e|hm
  ·cases e;rw [y7J];exact ho
  ·rcases yMo.1 hm with e|hm
   ·cases e;trivial
   ·cases hm
theorem Aft.old{k:Nat}{o:Ob}(m:Mv (One (C.tg i)) s s')(ho:o.p β s' (C.tg i) (β i)):Aft C (FO i o) k β β s s' e e where
 hd j hj:=rfl
 hn j hj:=rfl
 mv:=m.weak fun t ht=>⟨i,o,.head _,ht⟩
 sl d' hn:=rfl
 dst d' x' e:=by cases e
 ob j o' hm:=by
  rcases yMo.1 hm with e|hm
  ·cases e;exact ho
  ·cases hm
theorem lH_at{v:Value}(h:v.oneCell'=true):(lH i).p (upB β i v) s v:=⟨y7J.symm,h⟩
def Sig.re(t t':Nat)(s:Sig):Sig:=s.mapT fun x=>if x=t then t' else x
theorem Sig.re_mv{t t':Nat}(s:Sig):Mv (One t) s (s.re t t'):=⟨rfl,rfl,rfl,yNr _,fun b _ hb=>⟨rfl,iN hb⟩⟩
theorem RowT.re{r:Rep α}{a:Option Addr}{c:Nat}{xs:List α}{t t':Nat}(h:RowT r s t U a c xs)(ht:0<t):RowT r (s.re t t') t' U a c xs:=
 h.as ((Sig.re_mv s).le fun e=>by have:0=t:=e;omega) rfl fun b e=>by show(if s.tag b=t then t' else s.tag b)=t';rw [iP e]
def Ry{α:Type}(K:Kx)(C:Cx)(σ:Sx)(y:Operand)(r:Rep α)(ys:List α):Prop:=∀β s e,Den K C σ β s e→∃a c,Env.ev e y=some (.slice a ys.length c)∧RdW r s a c ys
theorem Ry.fr{r:Rep α}(hy:σ.ev y=some (sL (lF r ys))):Ry K C σ y r ys:=fun _ _ _ hd=>by
 obtain⟨v,h1,a,c,rfl,h2⟩:=hd.evv hy;exact⟨a,c,h1,h2.wk⟩
theorem Ry.ow{r:Rep α}(hy:σ.ev y=some (sL (lH i)))(ho:aget σ.ob i=some (ROW r U ys)):Ry K C σ y r ys:=fun _ _ _ hd=>by
 obtain⟨a,c,_,h1,h2⟩:=hd.row hy ho;exact⟨a,c,h1,h2.wk⟩
theorem O.ap{r:Rep α}{xs:List α}{x:Operand}{T:TypeId}{j:Nat}(i:Nat)(hU:P.underlying T=some (.slice U))(hE:El P U r.sz by_)(hby:Nat.ble by_ 32768=true)(hi:Nat.ble σ.n i=true)(hg:Gu ops σ g)(hx:σ.ev x=some (sL (lH j)))(ho:aget σ.ob j=some (ROW r U xs))(hy:Ry K C σ y r ys)(hl:app xs ys=some zs)(hb:Nat.blt d n=true):
  Ox K C P n ops ⟨some d,.call { callee:= .builtin .append,args:= #[x,y],argTypes:= #[T,T] },ty,pos,af,g⟩ σ (FS d j i (lH i) (ROW r U zs)):=fun Φ Q os β s e hd k=>by
 obtain⟨a,c,_,h1,h2⟩:=hd.row hx ho;obtain⟨a2,c2,h3,h4⟩:=hy β s e hd;exact L.ap hU hE hby (by simpa using hd.ok.tpos j) h2 h4 (hd.gd hg) h1 h3 hl hb fun a' c' s' m h5=>k _ (s'.re (C.tg j) (C.tg i)) _ (Aft.suc hi ((m.trans (Sig.re_mv s')).weak fun _ e=> .inr e) (lH_at rfl) ⟨a',c',rfl,h5.re (hd.ok.tpos j)⟩)
theorem O.apN{r:Rep α}{x:Operand}{T:TypeId}(i:Nat)(hU:P.underlying T=some (.slice U))(hE:El P U r.sz by_)(hby:Nat.ble by_ 32768=true)(hi:Nat.ble σ.n i=true)(hg:Gu ops σ g)(hx:σ.ev x=some (VL (.slice none 0 0)))(hy:Ry K C σ y r ys)(hl:app ([]:List α) ys=some zs)(hb:Nat.blt d n=true):
  Ox K C P n ops ⟨some d,.call { callee:= .builtin .append,args:= #[x,y],argTypes:= #[T,T] },ty,pos,af,g⟩ σ (FN d i (lH i) (ROW r U zs)):=fun Φ Q os β s e hd k=>by
 obtain⟨a2,c2,h3,h4⟩:=hy β s e hd;exact L.ap (xs:=[]) hU hE hby (by simpa using hd.ok.tpos i) RowT.nil h4 (hd.gd hg) (hd.evl hx) h3 hl hb fun a' c' s' m h5=>k _ s' _ (Aft.new hi m (lH_at rfl) ⟨a',c',rfl,h5⟩)
theorem O.mk{r:Rep α}{z:α}{x:Operand}{T:TypeId}{k:IntKind}{j:Int}(i:Nat)(hU:P.underlying T=some (.slice U))(hZ:Zr P r U by_ z)(hby:Nat.ble by_ 32768=true)(hi:Nat.ble σ.n i=true)(hg:Gu ops σ g)(hx:σ.ev x=some (VL (.int k j)))(hy:σ.ev y=some (VL (.int k' j)))(hl:mkL j z=some zs)(hb:Nat.blt d n=true):
  Ox K C P n ops ⟨some d,.makeSlice T x y,ty,pos,af,g⟩ σ (FN d i (lH i) (ROW r U zs)):=fun Φ Q os β s e hd k=>
 L.mk (C.tg i) hU hZ hby (hd.gd hg) (hd.evl hx) (hd.evl hy) hl hb fun b s' m h5=>k _ s' _ (Aft.new hi m.no (lH_at rfl) ⟨_,_,rfl,h5⟩)
/-! Boxes. -/
theorem O.box{T:TypeId}{x:Operand}{y:TV}(i:Nat)(hi:Nat.ble σ.n i=true)(hg:Gu ops σ g)(hx:σ.ev x=some (.v y))(hr:ltA σ.n (refsL y.l)=true)(hb:Nat.blt d n=true):Ox K C P n ops ⟨some d,.box T x,ty,pos,af,g⟩ σ (FN d i (lP i 0) (.bx T y.l)):=fun Φ Q os β s e hd k=>by
 obtain⟨v,h1,h2⟩:=hd.ev hx;refine L.box (C.tg i) (hd.gd hg) h1 rfl hb fun b s' m h5=>k _ s' _ (Aft.new (h:= .pointer (some ⟨b,0,none⟩)) hi m.no ⟨b,y7J,rfl⟩ ⟨b,_,rfl,by simpa using h5,(TV.cells h2).mono m.z fun j hj=>y7u (by have:=y5n hr hj;have:=yNl hi;omega)⟩)
theorem O.al{T:TypeId}{z:Value}(i:Nat)(hi:Nat.ble σ.n i=true)(hz:(P.info? T).bind (·.zero)=some z)(ho:z.cells.toList.all Value.oneCell'=true)(hg:Gu ops σ g)(hb:Nat.blt d n=true):Ox K C P n ops ⟨some d,.alloc T,ty,pos,af,g⟩ σ (FN d i (lP i 0) (.bx T (z.cells.toList.map lV))):=fun Φ Q os β s e hd k=>
 L.al (C.tg i) hz rfl (hd.gd hg) hb fun b s' m h5=>k _ s' _ (Aft.new (h:= .pointer (some ⟨b,0,none⟩)) hi m.no ⟨b,y7J,rfl⟩ ⟨b,_,rfl,by simpa using h5,yb6 ho⟩)
theorem All2.splice{l c:List LV}{vs us:List Value}(o:Nat)(h:All2 β s l vs)(h2:All2 β s c us):All2 β s (l.take o++c++l.drop (o+c.length)) (vs.take o++us++vs.drop (o+us.length)):=by
 rw [h2.len];exact((h.take o).append h2).append (h.drop _)
def stL :List LV→Nat→List LV→List LV
 | [],_,_=> []
 | x::l,0,[]=>x::l
 | _::l,0,v::vs=>v::stL l 0 vs
 | x::l,o+1,vs=>x::stL l o vs
theorem ycm :∀{l:List LV} {o:Nat} {vs:List LV},o+vs.length≤l.length→stL l o vs=l.take o++vs++l.drop (o+vs.length)
 | [],o,vs,h=>by
  simp only [List.length_nil] at h;have:vs= []:=yLz (by omega);subst this;simp [stL]
 | x::l,0,[],_=>by simp [stL]
 | _::l,0,v::vs,h=>by
  simp only [yLc] at h;have:=ycm (l:=l) (o:=0) (vs:=vs) (by omega);simp only [stL,this];simp
 | x::l,o+1,vs,h=>by
  simp only [yLc] at h;have:=ycm (l:=l) (o:=o) (vs:=vs) (by omega);simp only [stL,this];rw [show o+1+vs.length=(o+vs.length)+1 by omega];simp
theorem O.st{T:TypeId}{x:Operand}{o m:Nat}{l:List LV}{v:TV}(hT:∀w,(sizeOf T).run P w= .ok m w)(hg:Gu ops σ g)(hx:σ.ev x=some (sL (lP i o)))(ho:aget σ.ob i=some (.bx T' l))(hy:σ.ev y=some (.v v))(hm:v.l.length=m)(hf:Nat.ble (o+m) l.length=true):
  Ox K C P n ops ⟨none,.store T x y,ty,pos,af,g⟩ σ (FO i (.bx T' (stL l o v.l))):=fun Φ Q os β s e hd k=>by
 obtain⟨u,h1,b,h2,rfl⟩:=hd.evv hx;obtain⟨w,h3,h4⟩:=hd.ev hy;obtain⟨b',vs,h5,h6,h7⟩:=hd.ob i _ ho;rw [h2] at h5;simp only [Value.pointer.injEq,yIj,Addr.mk.injEq,and_true] at h5;subst h5;have hc:=TV.cells h4;have hf':o+m≤l.length:=yNl hf;refine L.st h6 hT (hd.gd hg) h1 h3 rfl (hc.len.trans hm) hc.one (by rw [hc.len,hm];simpa [h7.len] using hf') rfl fun s' m h8=>k _ s' _ (Aft.old m ⟨b,_,h2,h8,?_⟩);rw [ycm (by rw [hm];exact hf')];have hn:¬One (C.tg i) 0:=fun e=>by have:=hd.ok.tpos i;have:0=C.tg i:=e;omega
 exact(h7.splice o hc).mono (m.le hn) fun _ _=>rfl
theorem O.su{r:Rep α}{xs:List α}{y0 z:α}{T:TypeId}{x:Operand}{o m:Nat}{J:Int}{l:List LV}{v:TV}(hT:∀w,(sizeOf T).run P w= .ok m w)(hg:Gu ops σ g)(hx:σ.ev x=some (sL (lR i r.sz J.toNat o)))(ho:aget σ.ob i=some (ROW r T' xs))(hi:idx xs J=some y0)(hu:upd xs J z=some zs)(hy:σ.ev y=some (.v v))(hm:v.l.length=m)(hf:Nat.ble (o+m) r.sz=true)
  (hL:Lv r y0 l) (hll:Nat.ble (o+m) l.length=true) (hR:Rv r (stL l o v.l) z):Ox K C P n ops ⟨none,.store T x y,ty,pos,af,g⟩ σ (FO i (ROW r T' zs)):=fun Φ Q os β s e hd k=>by
 obtain⟨u,h1,b,q,a,kk,c,h2,h9,rfl⟩:=hd.evv hx;obtain⟨w,h3,h4⟩:=hd.ev hy;obtain⟨a',c',h5,h6⟩:=hd.ob i _ ho;rw [h2] at h5;simp only [Value.slice.injEq] at h5;obtain⟨rfl,rfl,rfl⟩:=h5;have hc:=TV.cells h4;refine L.su h6 h9 hi hu (by simpa using hd.ok.tpos i) hT (hd.gd hg) h1 h3 rfl (hc.len.trans hm) (by simpa using hf) hc.one (fun c0 h0=>hR β s _ (by rw [ycm (by rw [hm];exact yNl hll)];exact(hL β s c0 h0).splice o hc)) fun s' m h8=>k _ s' _ (Aft.old m ⟨a,c,?_,h8⟩);rw [h2,yk3 hu]
/-! What is built. -/
def Sx.evp(σ:Sx):List (Nat×Operand)→Option (List (Nat×List LV))
 | []=>some []
 | (i,x)::xs=>match σ.ev x,σ.evp xs with
  | some (.v v),some vs=>some ((i,v.l)::vs)
  | _,_=>none
def fillS(pl:List (Nat×Nat)):List LV→List (Nat×List LV)→Option (List LV)
 | cs,[]=>some cs
 | cs,(i,v)::rest=>match pl[i]? with
  | none=>none
  | some (off,sz)=>cond (Nat.beq v.length sz&&Nat.ble (off+sz) cs.length) (fillS pl (stL cs off v) rest) none
theorem Den.evp(h:Den K C σ β s e):∀{xs:List (Nat×Operand)} {ps:List (Nat×List LV)},σ.evp xs=some ps→∃vs,Env.evp e xs=some vs∧∀{pl:List (Nat×Nat)} {cs l:List LV} {us:List Value},All2 β s cs us→fillS pl cs ps=some l→∃ws,fillL pl us vs=some ws∧All2 β s l ws
 | [],ps,hx=>by simp only [Sx.evp,yIj] at hx;subst hx;exact⟨[],rfl,fun h1 h2=>by cases h2;exact⟨_,rfl,h1⟩⟩
 | (i,x)::xs,ps,hx=>by
  simp only [Sx.evp] at hx;split at hx
  ·rename_i y zs h1 h2;simp only [yIj] at hx;subst hx;obtain⟨v,g1,g2⟩:=h.ev h1;obtain⟨vs,g3,g4⟩:=h.evp h2;refine⟨(i,v)::vs,by simp [Env.evp,g1,g3],fun {pl cs l us} h5 h6=>?_⟩;have hc:=TV.cells g2;simp only [fillS] at h6;simp only [fillL];split at h6
   ·cases h6
   ·rename_i off sz hp
    try rw [hp]
    try dsimp only
    cases hq:(Nat.beq y.l.length sz&&Nat.ble (off+sz) cs.length) with
    | false=>rw [hq] at h6;cases h6
    | true=>
     rw [hq,cond_true] at h6;obtain⟨q1,q2⟩:=Bool.and_eq_true_iff.1 hq;rw [hc.len,h5.len,iP hq];have hsz:y.l.length=sz:=yNb q1;rw [ycm (by rw [hsz];exact yNl q2),hsz] at h6;refine g4 ?_ h6;have:=h5.splice off hc;rw [hc.len,hsz] at this;exact this
  ·cases hx
theorem O.bu{T:TypeId}{pl:List (Nat×Nat)}{z:List Value}{xs:List (Nat×Operand)}{ps:List (Nat×List LV)}{l:List LV}(hP:Pl P T pl z)(hz:z.all Value.oneCell'=true)(hg:Gu ops σ g)(hx:σ.evp xs=some ps)(hf:fillS pl (z.map lV) ps=some l)(hb:Nat.blt d n=true):Ox K C P n ops ⟨some d,.build T xs.toArray,ty,pos,af,g⟩ σ (F1 d (AG l)):=
 Ox.pure fun _ _ _ _ _ _ hd k=>by
  obtain⟨vs,h1,h2⟩:=hd.evp hx;obtain⟨ws,h3,h4⟩:=h2 (yb6 hz) hf;exact L.bu hP (hd.gd hg) h1 h3 hb (k _ ⟨ws,h4,rfl⟩)
theorem ye1{z:List Value}(hz:z.all Value.oneCell'=true):∀k,All2 β s (List.replicate k (z.map lV)).flatten (List.replicate k z).flatten
 | 0=>rfl
 | k+1=>by
  rw [List.replicate_succ,List.flatten_cons,List.replicate_succ,List.flatten_cons];exact(yb6 hz).append (ye1 hz k)
theorem O.bsF{r:Rep α}{T E m k:Nat}{z:List Value}{xs:List (Nat×Operand)}{ps:List (Nat×List LV)}{l:List LV}(hB:Bs P T E m z)(hz:z.all Value.oneCell'=true)(hk:Nat.ble (k*m) 16777216=true)(hg:Gu ops σ g)(hx:σ.evp xs=some ps)(h0:Nat.blt 0 (k*m)=true)(hf:fillS (plK m k 0) (List.replicate k (z.map lV)).flatten ps=some l)(hc:Cv r l zs)(hl:zs.length=k)(hm:Nat.ble k 4294967296=true)(hb:Nat.blt d n=true):
  Ox K C P n ops ⟨some d,.buildSlice T k xs.toArray,ty,pos,af,g⟩ σ (F1 d (sL (lF r zs))):=fun Φ Q os β s e hd q=>by
 obtain⟨vs,h1,h2⟩:=hd.evp hx;obtain⟨ws,h3,h4⟩:=h2 (ye1 hz k) hf;have hk':k*m≤2 ^ 24:=yNl hk;have hm':k≤4294967296:=yNl hm;refine L.bsE 0 hB hk' (hd.gd hg) h1 h0 h3 hb fun b s' m h5=>q β s' _ (Aft.one m ⟨_,_,?_,Bx.rdL h5 (by simpa using (hc β s _ h4).mono m.z) (by rw [hl];simp [maxLen];omega)⟩);rw [hl]
theorem O.bsO{r:Rep α}{T E m k:Nat}{z:List Value}{xs:List (Nat×Operand)}{ps:List (Nat×List LV)}{l:List LV}(i:Nat)(hi:Nat.ble σ.n i=true)(hB:Bs P T E m z)(hz:z.all Value.oneCell'=true)(hk:Nat.ble (k*m) 16777216=true)(hg:Gu ops σ g)(hx:σ.evp xs=some ps)(h0:Nat.blt 0 (k*m)=true)(hf:fillS (plK m k 0) (List.replicate k (z.map lV)).flatten ps=some l)(hc:Cv r l zs)(hl:zs.length=k)(hm:Nat.ble k 4294967296=true)(hb:Nat.blt d n=true):
  Ox K C P n ops ⟨some d,.buildSlice T k xs.toArray,ty,pos,af,g⟩ σ (FN d i (lH i) (ROW r E zs)):=fun Φ Q os β s e hd q=>by
 obtain⟨vs,h1,h2⟩:=hd.evp hx;obtain⟨ws,h3,h4⟩:=h2 (ye1 hz k) hf;have hk':k*m≤2 ^ 24:=yNl hk;have hm':k≤4294967296:=yNl hm;refine L.bsE (C.tg i) hB hk' (hd.gd hg) h1 h0 h3 hb fun b s' m h5=>q _ s' _ (Aft.new (h:= .slice (some ⟨b,0,none⟩) k k) hi m.no (lH_at rfl) ⟨_,_,?_,Bx.row h5 (by simpa using (hc β s _ h4).mono m.z) (by rw [hl];simp [maxLen];omega)⟩);rw [hl]
end
def fzV(i:Nat)(o:Ob)(x:LV):LV:=match o with
 | .hp h=>match x.hd with
  | some j=>cond (Nat.beq j i) h.fz x
  | none=>x
 | .bx T l=>match x.pt with
  | some (j,off)=>cond (Nat.beq j i) (lQ T l off) x
  | none=>x
 | .u=>x
def fzT(i:Nat)(o:Ob)(x:TV):TV:=⟨x.g,x.l.map (fzV i o)⟩
def fzS(i:Nat)(o:Ob):SV→SV
 | .v x=> .v (fzT i o x)
 | .tp l=> .tp (l.map (fzT i o))
 | .u=> .u
def fzB(i:Nat)(o:Ob):Ob→Ob
 | .hp h=> .hp h
 | .bx T l=> .bx T (l.map (fzV i o))
 | .u=> .u
def fzL(i:Nat)(o:Ob)(sl:List (Nat×SV)):List Nat→List (Nat×SV)
 | []=> []
 | d::ds=>(d,match aget sl d with
  | some x=>fzS i o x
  | none=> .u)::fzL i o sl ds
def fzO(i:Nat)(o:Ob)(ob:List (Nat×Ob)):List Nat→List (Nat×Ob)
 | []=> [(i,.u)]
 | b::bs=>(b,match aget ob b with
  | some x=>cond (Nat.beq b i) .u (fzB i o x)
  | none=> .u)::fzO i o ob bs
def Sx.fz(σ:Sx)(i:Nat)(o:Ob)(ds bs:List Nat):Sx:=⟨fzL i o σ.sl ds++σ.sl,fzO i o σ.ob bs++σ.ob,σ.n⟩
theorem ydc{x:SV}:∀{f l:List (Nat×SV)},aget (f++l) d=some x→(d,x)∈f∨aget l d=some x
 | [],l,h=> .inr h
 | (i,o)::f,l,h=>by
  rcases yj (show aget ((i,o)::(f++l)) d=some x from h) with ⟨rfl,rfl⟩|⟨_,h2⟩
  ·exact .inl (.head _)
  ·exact (ydc h2).imp (.tail _) id
theorem ye2{i:Nat}{o:Ob}{sl:List (Nat×SV)}{x:SV}:∀{ds:List Nat},(d,x)∈fzL i o sl ds→d∈ds∧(x= .u∨∃y,aget sl d=some y∧x=fzS i o y)
 | [],h=>by cases h
 | d'::ds,h=>by
  rcases yMo.1 h with e|h
  ·injection e with e1 e2;subst e1;subst e2;refine⟨.head _,?_⟩;cases hy:aget sl d with
   | none=>exact .inl rfl
   | some y=>exact .inr ⟨y,rfl,rfl⟩
  ·obtain ⟨g1,g2⟩:=ye2 h;exact⟨.tail _ g1,g2⟩
theorem ye3{i:Nat}{o:Ob}{ob:List (Nat×Ob)}{x:Ob}:∀{ds:List Nat},(d,x)∈fzO i o ob ds→(x= .u∧(d=i∨d∈ds))∨(d≠i∧∃y,aget ob d=some y∧x=fzB i o y)
 | [],h=>by
  rcases yMo.1 h with e|h
  ·cases e;exact .inl ⟨rfl,.inl rfl⟩
  ·cases h
 | d'::ds,h=>by
  rcases yMo.1 h with e|h
  ·injection e with e1 e2;subst e1;subst e2;cases hy:aget ob d with
   | none=>exact .inl ⟨rfl,.inr (.head _)⟩
   | some y=>
    cases hb:Nat.beq d i with
    | true=>exact .inl ⟨rfl,.inl (yNb hb)⟩
    | false=>exact .inr ⟨fun e=>(by rw [e,Nat.beq_refl] at hb;cases hb),y,rfl,rfl⟩
  ·rcases ye3 h with ⟨g1,g2⟩|g
   ·exact .inl ⟨g1,g2.imp id (.tail _)⟩
   ·exact .inr g
theorem ygi{i:Nat}{o:Ob}{ob:List (Nat×Ob)}:∀{ds:List Nat},(i,Ob.u)∈fzO i o ob ds
 | []=> .head _
 | _::_=> .tail _ ygi
def hasS(sl:List (Nat×SV))(ds:List Nat):Bool:=ds.all fun d=>(aget sl d).isSome
section
variable{K:Kx}{C:Cx}{P:Program}{σ:Sx}{β β':Nat→Value}{s s':Sig}{e:List (Nat×Value)}{i:Nat}{o:Ob}{v:Value}
theorem fzV_p(hl:Le s s')(ho:o.p β s' 0 (β i)){x:LV}(h:x.p β s v):(fzV i o x).p β s' v:=by
 have hk:x.p β s' v:=x.mono (fun _ _=>rfl) hl h;cases o with
 | hp q=>
  unfold fzV;dsimp only;split
  ·rename_i j hj;cases hb:Nat.beq j i with
   | false=>exact hk
   | true=>
    have hji:j=i:=yNb hb;subst hji;rw [x.hdp hj h];exact q.fzp ho β
  ·exact hk
 | bx T l=>
  unfold fzV;dsimp only;split
  ·rename_i j off hj;cases hb:Nat.beq j i with
   | false=>exact hk
   | true=>
    have hji:j=i:=yNb hb;subst hji;obtain⟨b,h1,h2⟩:=x.ptp hj h;obtain⟨b',vs,h3,h4,h5⟩:=ho;rw [h1] at h3;simp only [Value.pointer.injEq,yIj,Addr.mk.injEq,and_true] at h3;subst h3;exact⟨b,vs,h4,h5,h2⟩
  ·exact hk
 | u=>exact hk
theorem ydd{n:Nat}(hq:∀j,j∈o.refs→j<n)(hz:∀q,o= .hp q→q.fz.refs= []){x:LV}(h:∀j,j∈x.refs→j<n):∀j,j∈(fzV i o x).refs→j<n:=by
 unfold fzV;split
 ·rename_i q;split
  ·rename_i j hj;cases Nat.beq j i with
   | true=>intro j hj;rw [show (cond true q.fz x)=q.fz from rfl,hz q rfl] at hj;cases hj
   | false=>exact h
  ·exact h
 ·split
  ·rename_i j off hj;cases Nat.beq j i with
   | true=>exact hq
   | false=>exact h
  ·exact h
 ·exact h
theorem yaO{n:Nat}{f:LV→LV}(hf:∀x:LV,(∀j,j∈x.refs→j<n)→∀j,j∈(f x).refs→j<n):∀{l:List LV},(∀j,j∈refsL l→j<n)→∀j,j∈refsL (l.map f)→j<n
 | [],h=>h
 | x::l,h=>fun j hj=>by
  rcases yMa.1 (show j∈(f x).refs++refsL (l.map f) from hj) with hj|hj
  ·exact hf x (fun j hj=>h j (yMl _ hj)) j hj
  ·exact yaO hf (fun j hj=>h j (yMr _ hj)) j hj
theorem yeJ{n:Nat}{f:LV→LV}(hf:∀x:LV,(∀j,j∈x.refs→j<n)→∀j,j∈(f x).refs→j<n):∀{l:List TV},(∀j,j∈refsT l→j<n)→∀j,j∈refsT (l.map fun x=>⟨x.g,x.l.map f⟩)→j<n
 | [],h=>h
 | x::l,h=>fun j hj=>by
  rcases yMa.1 (show j∈refsL (x.l.map f)++refsT (l.map fun x=>⟨x.g,x.l.map f⟩) from hj) with hj|hj
  ·exact yaO hf (fun j hj=>h j (yMl _ hj)) j hj
  ·exact yeJ hf (fun j hj=>h j (yMr _ hj)) j hj
theorem yiY{n:Nat}(hq:∀j,j∈o.refs→j<n)(hz:∀q,o= .hp q→q.fz.refs= []):∀{x:SV},(∀j,j∈x.refs→j<n)→∀j,j∈(fzS i o x).refs→j<n
 | .v _,h=>yaO (fun _ h=>ydd hq hz h) h
 | .tp _,h=>yeJ (fun _ h=>ydd hq hz h) h
 | .u,h=>h
theorem yfl{f:LV→LV}(hf:∀x v,x.p β s v→(f x).p β' s' v):∀{l:List LV} {vs:List Value},All2 β s l vs→All2 β' s' (l.map f) vs
 | [],_,h=>h
 | _::_,_,⟨v,us,h1,h2,e⟩=>⟨v,us,hf _ _ h1,yfl hf h2,e⟩
theorem yhC{f:LV→LV}(hf:∀x v,x.p β s v→(f x).p β' s' v):∀{x:TV},x.p β s v→TV.p β' s' v ⟨x.g,x.l.map f⟩
 | ⟨false,[x]⟩,h=>hf x v h
 | ⟨false,[]⟩,h=>h.elim
 | ⟨false,_::_::_⟩,h=>h.elim
 | ⟨true,_⟩,⟨vs,h,e⟩=>⟨vs,yfl hf h,e⟩
theorem yhD{f:LV→LV}(hf:∀x v,x.p β s v→(f x).p β' s' v):∀{l:List TV} {vs:List Value},All3 β s l vs→All3 β' s' (l.map fun x=>⟨x.g,x.l.map f⟩) vs
 | [],_,h=>h
 | _::_,_,⟨v,us,h1,h2,e⟩=>⟨v,us,yhC hf h1,yhD hf h2,e⟩
theorem fzS_p(hl:Le s s')(ho:o.p β s' 0 (β i)):∀{x:SV},x.p β s v→(fzS i o x).p β s' v
 | .v _,h=>yhC (fun _ _ h=>fzV_p hl ho h) h
 | .tp _,⟨vs,h,e⟩=>⟨vs,yhD (fun _ _ h=>fzV_p hl ho h) h,e⟩
 | .u,_=>trivial
theorem Den.fz{ds bs:List Nat}(h:Den K C σ β s e)(hk:K.may i=true)(ho:aget σ.ob i=some o)(hz:∀q,o= .hp q→q.fz.refs= [])(hds:hasS σ.sl ds=true)(hbs:(bs.all fun b=>(aget σ.ob b).isSome)=true):Den K C (σ.fz i o ds bs) β (s.fz (C.tg i)) e:=by
 have hm:=Sig.fz_mv (C.tg i) s;have ht:=h.ok.tpos i;have hl:Le s (s.fz (C.tg i)):=hm.le fun e=>by have:0=C.tg i:=e;omega
 have ho':o.p β (s.fz (C.tg i)) 0 (β i):=Ob.as hl rfl (fun b hb=>by simp [Sig.fz,hb]) (fun _ _=>rfl) (h.ob i o ho);have hor:=(h.fo i o ho).2;refine⟨h.ok,h.mv.trans (hm.one (h.ok.up hk)),h.b0,h.m,fun d x hx=>?_,fun j q hq=>?_,fun d x hx=>?_,fun j q hq=>?_⟩
 ·rcases ydc hx with g|g
  ·obtain ⟨g0,g1|⟨y,g1,rfl⟩⟩:=ye2 g
   ·subst g1;obtain⟨y,hy⟩:=Option.isSome_iff_exists.1 (yAt.1 hds d g0);obtain⟨v,g2,_⟩:=h.sl d y hy;exact⟨v,g2,trivial⟩
   ·obtain ⟨v,g2,g3⟩:=h.sl d y g1;exact⟨v,g2,fzS_p hl ho' g3⟩
  ·obtain ⟨v,g2,g3⟩:=h.sl d x g;exact⟨v,g2,SV.mono hl (fun _ _=>rfl) g3⟩
 ·have h0:¬One (C.tg i) 0:=fun e=>by have:0=C.tg i:=e;omega
  rcases yb5 hq with g|⟨g1,g2⟩
  ·rcases ye3 g with ⟨rfl,_⟩|⟨hne,y,g2,rfl⟩
   ·trivial
   ·have hz:=h.ob j y g2;have hn:¬One (C.tg i) (C.tg j):=fun e=>hne (h.ok.inj e);cases y with
    | hp z=>exact z.mv hm hn h0 hz
    | bx T l=>
     obtain⟨b,vs,e1,e2,e3⟩:=hz;exact⟨b,vs,e1,e2.mv hm hn,yfl (fun _ _ h=>fzV_p hl ho' h) e3⟩
    | u=>trivial
  ·have hne:j≠i:=fun e=>g1 .u (e▸ygi);exact Ob.mv hm (fun e=>hne (h.ok.inj e)) h0 (fun _ _=>rfl) (h.ob j q g2)
 ·rcases ydc hx with g|g
  ·obtain ⟨_,g1|⟨y,g1,rfl⟩⟩:=ye2 g
   ·subst g1;intro i hi;cases hi
   ·exact yiY hor hz (h.fs d y g1)
  ·exact h.fs d x g
 ·rcases yb5 hq with g|⟨g1,g2⟩
  ·rcases ye3 g with ⟨rfl,g2⟩|⟨hne,y,g2,rfl⟩
   ·refine ⟨?_,fun j hj=>by cases hj⟩;rcases g2 with rfl|g2
    ·exact (h.fo j o ho).1
    ·obtain ⟨y,hy⟩:=Option.isSome_iff_exists.1 (yAt.1 hbs j g2);exact(h.fo j y hy).1
   ·refine ⟨(h.fo j y g2).1,?_⟩;have:=(h.fo j y g2).2;cases y with
    | hp z=>exact this
    | bx T l=>exact yaO (fun _ h=>ydd hor hz h) this
    | u=>exact this
  ·exact h.fo j q g2
end
section
variable{K:Kx}{C:Cx}{Φ:Fr}{P:Program}{Q:Exit→Act→World→Prop}{n:Nat}{ops:Array Oper}{os:List Oper}{σ:Sx}{o:Ob}
theorem V.fz(i:Nat)(ds bs:List Nat)(hk:K.may i=true)(ho:aget σ.ob i=some o)(hz:∀q,o= .hp q→q.fz.refs= [])(hds:hasS σ.sl ds=true)(hbs:(bs.all fun b=>(aget σ.ob b).isSome)=true)(h:V K C Φ P Q n ops os (σ.fz i o ds bs)):V K C Φ P Q n ops os σ:=fun β s e hd=>h β (s.fz (C.tg i)) e (hd.fz hk ho hz hds hbs)
theorem WE.fz{c:Code}(i:Nat)(ds bs:List Nat)(hk:K.may i=true)(ho:aget σ.ob i=some o)(hz:∀q,o= .hp q→q.fz.refs= [])(hds:hasS σ.sl ds=true)(hbs:(bs.all fun b=>(aget σ.ob b).isSome)=true)(h:WE K C Φ P Q n c (σ.fz i o ds bs)):WE K C Φ P Q n c σ:=fun β s e hd=>h β (s.fz (C.tg i)) e (hd.fz hk ho hz hds hbs)
theorem WX.fz{x:Exit}(i:Nat)(ds bs:List Nat)(hk:K.may i=true)(ho:aget σ.ob i=some o)(hz:∀q,o= .hp q→q.fz.refs= [])(hds:hasS σ.sl ds=true)(hbs:(bs.all fun b=>(aget σ.ob b).isSome)=true)(h:WX K C Φ Q n x (σ.fz i o ds bs)):WX K C Φ Q n x σ:=fun β s e hd=>h β (s.fz (C.tg i)) e (hd.fz hk ho hz hds hbs)
end
/-! What a function does: objects 0, 1, .. are the parameters', in order, then those that it makes. -/
def Lft(K:Kx)(ts:List Nat)(β:Nat→Value)(s:Sig)(r:SV)(ob':List Ob):Ending→World→Prop:=RetS (fun t=>∃i,i∈K.S∧ts[i]? =some t) s fun v s'=>∃β',(∀i,i<K.m→β' i=β i)∧r.p β' s' v∧∀(i:Nat) (o:Ob),ob'[i]? =some o→o.p β' s' (ts.getD i 0) (β' i)
structure Fw (P:Program) (f:FuncId) (K:Kx) (av:List TV) (ob:List Ob) (r:SV) (ob':List Ob):Prop where
 is:∀(ts:List Nat) (β:Nat→Value) (s:Sig) (vs:List Value),ts.length=ob'.length→K.m≤ts.length→(ts.take K.m).Nodup→(∀t,t∈ts.take K.m→0<t)→All3 β s av vs→(∀(i:Nat) (o:Ob),ob[i]? =some o→o.p β s (ts.getD i 0) (β i))→Calls P f vs.toArray s.w (Lft K ts β s r ob')
theorem All3.len{β:Nat→Value}{s:Sig}:∀{l:List TV} {vs:List Value},All3 β s l vs→vs.length=l.length
 | [],_,h=>by rw [show _= [] from h];rfl
 | _::_,_,⟨v,us,_,h2,e⟩=>by rw [e,yLc,h2.len,yLc]
def Env.of3 :Nat→List TV→List (Nat×SV)
 | _,[]=> []
 | i,v::vs=>(i,.v v)::Env.of3 (i+1) vs
def Env.ofO :Nat→List Ob→List (Nat×Ob)
 | _,[]=> []
 | i,v::vs=>(i,v)::Env.ofO (i+1) vs
theorem Env.of3_get{β:Nat→Value}{s:Sig}{x:SV}:∀{i:Nat} {l:List TV} {vs:List Value},All3 β s l vs→aget (Env.of3 i l) d=some x→∃v,Env.get (Env.ofArgs i vs) d=some v∧x.p β s v
 | _,[],_,_,h=>by cases h
 | i,y::l,_,⟨v,us,h1,h2,rfl⟩,h=>by
  rcases yj h with ⟨rfl,rfl⟩|⟨hne,h3⟩
  ·exact ⟨v,by simp [Env.ofArgs,Env.get],h1⟩
  ·obtain ⟨u,g1,g2⟩:=Env.of3_get h2 h3;refine⟨u,?_,g2⟩;show Env.get ((i,v)::Env.ofArgs (i+1) us) d=_;rw [Env.get_put hne];exact g1
theorem Env.of3_refs{x:SV}:∀{i:Nat} {l:List TV},aget (Env.of3 i l) d=some x→∀j,j∈x.refs→j∈refsT l
 | _,[],h=>by cases h
 | i,y::l,h=>fun j hj=>by
  rcases yj h with ⟨rfl,rfl⟩|⟨_,h3⟩
  ·exact yMl _ hj
  ·exact yMr _ (Env.of3_refs h3 j hj)
theorem Env.ofO_get{x:Ob}:∀{i:Nat} {l:List Ob},aget (Env.ofO i l) d=some x→i≤d∧l[d-i]? =some x
 | _,[],h=>by cases h
 | i,y::l,h=>by
  rcases yj h with ⟨rfl,rfl⟩|⟨hne,h3⟩
  ·exact ⟨yNr _,by simp⟩
  ·obtain ⟨g1,g2⟩:=Env.ofO_get h3;refine⟨by omega,?_⟩;rw [show d-i=(d-(i+1))+1 by omega,List.getElem?_cons_succ];exact g2
def Fin(K:Kx)(C:Cx)(P:Program)(r:SV)(ob':List Ob):Ending→World→Prop:=fun en w=>∃(ρ:Nat→Nat) (v:Value) (β:Nat→Value) (s:Sig),w=s.w∧en= .returned v∧Mv (C.Up K) C.s0 s∧(∀i,i<K.m→β i=C.b0 i)∧(∀i,i<K.m→ρ i=i)∧(∀i,K.m≤i→i<ob'.length→K.m≤ρ i)∧(∀i j,i<ob'.length→j<ob'.length→ρ i=ρ j→i=j)∧r.p (fun i=>β (ρ i)) s v∧∀(i:Nat) (o:Ob),ob'[i]? =some o→o.p (fun i=>β (ρ i)) s (C.tg (ρ i)) (β (ρ i))
theorem yfm{ρ:Nat→Nat}(k:Nat):∀n:Nat,(∀i j,i<n→j<n→ρ i=ρ j→i=j)→∃f:Nat→Nat,∀i,i<n→f (ρ i)=i
 | 0,_=>⟨fun _=>0,fun _ h=>by omega⟩
 | n+1,hi=>by
  obtain⟨f,hf⟩:=yfm k n fun i j h1 h2=>hi i j (by omega) (by omega);refine⟨fun x=>if x=ρ n then n else f x,fun i h=>?_⟩;show(if ρ i=ρ n then n else f (ρ i))=i;by_cases e:ρ i=ρ n
  ·rw [iP e];exact(hi i n h (by omega) e).symm
  ·rw [iN e];refine hf i ?_;rcases Nat.lt_or_ge i n with h|h
   ·exact h
   ·have:i=n:=by omega
    subst this;exact absurd rfl e
theorem Fw.mk'{f:FuncId}{K:Kx}{av:List TV}{ob:List Ob}{r:SV}{ob':List Ob}{fn:Func}{c:Code}{n:Nat}(hf:P.funcs[f]? =some fn)(hb:fn.body=some c)(hn:fn.ntmps=n)(hv:Nat.ble av.length n=true)(hm:ob.length=K.m)
  (h:∀C:Cx,WE K C Fr.o P (bodyPost P fn (Fin K C P r ob')) n c ⟨Env.of3 0 av,Env.ofO 0 ob,K.m⟩) (hra:ltA K.m (refsT av)=true) (hro:ob.all (fun o=>ltA K.m o.refs)=true):Fw P f K av ob r ob':=by
 refine⟨fun ts β s vs h1 h2 h3 h4 h5 h6=>?_⟩;obtain⟨N0,hN0,hold⟩:=s.fresh;obtain⟨N1,hN1,hlt⟩:=ybC (fun i=>ts.getD i 0) ts.length;have hlen:vs.length=av.length:=h5.len
 let C:Cx:=⟨s,max N0 N1,ts.take K.m,β⟩
 have hts:C.ts.length=K.m:=by simp [C];omega
 have ok:C.Ok K:=⟨hts,by show 0<max N0 N1;omega,fun b hb=>by have:=hold b hb;show s.tag b<max N0 N1;omega,h4,fun t ht=>by
  have ht:t∈ts.take K.m:=ht;obtain⟨i,hi,e⟩:=yGo ht;rw [yLt] at hi;have:=hlt i (by omega);rw [List.getElem_take] at e;rw [yGd,yGe (by omega),Option.getD_some,e] at this;show t<max N0 N1;omega,h3⟩
 have htg:∀i,i<K.m→C.tg i=ts.getD i 0:=fun i hi=>by
  rw [Cx.tg_lt (by omega)];show(ts.take K.m)[i]'_=_;rw [List.getElem_take,yGd,yGe (by omega)];rfl
 refine Calls.mono (w:=s.w) (E.entry hf hb hn (by rw [hlen];exact hv) rfl (h C β s _ ⟨ok,Mv.refl _ _,fun _ _=>rfl,yNr _,fun d x hx=>Env.of3_get h5 hx,fun i o ho=>?_,fun d x hx i hi=>y5n hra (Env.of3_refs hx i hi),fun i o ho=>?_⟩)) fun en w' hh=>?_
 ·obtain ⟨_,g⟩:=Env.ofO_get ho;rw [Nat.sub_zero] at g;have hi:i<K.m:=by rw [←hm];exact(yGs.1 g).1
  rw [htg i hi];exact h6 i o g
 ·obtain ⟨_,g⟩:=Env.ofO_get ho;rw [Nat.sub_zero] at g;obtain⟨g1,g2⟩:=yGs.1 g;exact⟨by show i<K.m;omega,fun j hj=>y5n (yAt.1 hro o (g2▸yGm g1)) hj⟩
 ·obtain ⟨ρ,v,β',s',rfl,rfl,g1,g2,g3,g4,g5,g6,g7⟩:=hh;obtain⟨q,hq⟩:=yfm 0 ob'.length g5
  -- the tags of what was made
  let F:Nat→Nat:=fun k=>ts.getD (q k) 0
  have hup:Mv (fun t=>C.N≤t∨∃i,i∈K.S∧ts[i]? =some t) s s':=g1.weak fun t ht=>ht.imp id fun⟨i,hi,e⟩=>⟨i,hi,by
   have e:(ts.take K.m)[i]? =some t:=e;rw [List.getElem?_take] at e;split at e
   ·exact e
   ·cases e⟩
  have hmv:=Mv.ren (f:=F) hup ok.old;have hl:Le s' (s'.ren C.N F):=Sig.ren_le ok.N0;refine⟨v,s'.ren C.N F,rfl,rfl,hmv,fun i=>β' (ρ i),fun i hi=>by show β' (ρ i)=β i;rw [g3 i hi];exact g2 i hi,SV.mono hl (fun _ _=>rfl) g6,fun i o ho=>Ob.as hl rfl (fun b hb=>?_) (fun _ _=>rfl) (g7 i o ho)⟩;have hi:i<ob'.length:=(yGs.1 ho).1;show(if C.N≤s'.tag b then F (s'.tag b-C.N) else s'.tag b)=_;rw [hb];rcases Nat.lt_or_ge i K.m with hk|hk
  ·rw [g3 i hk,htg i hk];have h9:=hlt i (by omega);rw [iN (by show ¬max N0 N1≤_;omega)]
  ·have h8:=g4 i hk hi;rw [Cx.tg_ge (by rw [hts];exact h8),iP (Nat.le_add_right _ _),Nat.add_sub_cancel_left];show ts.getD (q (ρ i)) 0=_;rw [hq i hi]
section
variable{K:Kx}{C:Cx}{P:Program}{n:Nat}{ops:Array Oper}{σ:Sx}{d i:Nat}{ty:TypeId}{pos:String}{af:Array Edge}{g:Option (Nat×Bool)}{β:Nat→Value}{s s':Sig}{e:List (Nat×Value)}
theorem O.ca0{f:FuncId}{xs:List Operand}{av:List TV}{c:Call}{r:SV}(hF:Fw P f ⟨0,[]⟩ av [] r [])(hcf:Cf P f)(hc:c.callee= .value (.func f))(hca:c.args=xs.toArray)(hg:Gu ops σ g)(hx:σ.evs xs=some av)(hr:r.refs= [])(hb:Nat.blt d n=true):Ox K C P n ops ⟨some d,.call c,ty,pos,af,g⟩ σ (F1 d r):=fun Φ Q os β s e hd k=>by
 obtain⟨vs,h1,h2⟩:=hd.evs hx;have hcall:=hF.is [] β s vs rfl (yNr _) (by simp) (by simp) h2 (fun i o h=>by simp at h);refine L.ca hcf hc hca (hd.gd hg) h1 hcall hb fun v s' m hp=>?_;obtain⟨β',_,g1,_⟩:=hp;have m':Mv No s s':=m.weak fun t ⟨i,hi,_⟩=>by cases hi
 exact k β s' _ (Aft.one m' (SV.mono (Le.refl _) (fun i hi=>by rw [hr] at hi;cases hi) g1))
def InL(σ:Sx)(ν:Nat→Nat):Nat→List Ob→Prop
 | _,[]=>True
 | i,o::l=>(∃q,aget σ.ob (ν i)=some q∧∀β s t h,q.p β s t h→o.p (fun i=>β (ν i)) s t h)∧InL σ ν (i+1) l
theorem InL.at{ν:Nat→Nat}{o:Ob}:∀{k:Nat} {l:List Ob} {i:Nat},InL σ ν k l→l[i]? =some o→∃q,aget σ.ob (ν (k+i))=some q∧∀β s t h,q.p β s t h→o.p (fun i=>β (ν i)) s t h
 | _,[],_,_,h=>by cases h
 | k,_::_,0,⟨h1,_⟩,h=>by cases h;exact h1
 | k,_::_,i+1,⟨_,h2⟩,h=>by
  have:=h2.at (i:=i) (by simpa using h);rwa [show k+1+i=k+(i+1) by omega] at this
def OutL(ν:Nat→Nat)(ob':List Ob):List (Nat×Ob)→Prop
 | []=>True
 | (i,o)::l=>(∃q,ob'[i]? =some q∧∀β s t h,q.p (fun i=>β (ν i)) s t h→o.p β s t h)∧OutL ν ob' l
theorem OutL.at{ν:Nat→Nat}{ob':List Ob}{i:Nat}{o:Ob}:∀{l:List (Nat×Ob)},OutL ν ob' l→(i,o)∈l→∃q,ob'[i]? =some q∧∀β s t h,q.p (fun i=>β (ν i)) s t h→o.p β s t h
 | [],_,h=>by cases h
 | _::_,⟨h1,h2⟩,h=>by
  rcases yMo.1 h with e|h
  ·cases e;exact h1
  ·exact h2.at h
theorem bltF{i m:Nat}(h:m≤i):Nat.blt i m=false:=by cases hb:Nat.blt i m with | false=>rfl|true=>simp at hb;omega
def callE(dst:Option (Nat×SV))(ν:List Nat)(l:List (Nat×Ob))(nx:Option Nat):Eff:=⟨dst,l.map fun p=>(ν.getD p.1 0,p.2),nx⟩
def y9L(K':Kx)(n:Nat)(ν:List Nat)(l:List (Nat×Ob))(ob':List Ob)(r:SV):Bool:=
 (ycl ν&&(Nat.beq ν.length ob'.length&&(Nat.ble K'.m ob'.length&&(ltA ob'.length K'.S&&(ltA ob'.length r.refs&&ob'.all fun o=>ltA ob'.length o.refs))))) &&
 (List.range ob'.length).all fun i=>cond (Nat.blt i K'.m) (!K'.S.contains i||l.any fun p=>Nat.beq p.1 i) ((l.any fun p=>Nat.beq p.1 i)&&Nat.ble n (ν.getD i 0))
theorem yde{K':Kx}{k:Nat}{ob':List Ob}{ν:List Nat}{l:List (Nat×Ob)}{nx:Option Nat}{r:SV}{v:Value}(k0:C.Ok K)(hok:y9L K' k ν l ob' r=true)(hO:OutL (fun i=>ν.getD i 0) ob' l)
  (m:Mv (fun t=>∃i,i∈K'.S∧((List.range ob'.length).map fun i=>C.tg (ν.getD i 0))[i]? =some t) s s')
  (hp:∃β',(∀i,i<K'.m→β' i=β (ν.getD i 0))∧r.p β' s' v∧∀(i:Nat) (o:Ob),ob'[i]? =some o→o.p β' s' (((List.range ob'.length).map fun i=>C.tg (ν.getD i 0)).getD i 0) (β' i)):
  ∃β'',(r.p (fun i=>β'' (ν.getD i 0)) s' v)∧(∀i,i<k→β'' i=β i)∧(∀i,(∀o,(i,o)∉(callE none ν l nx).ob)→β'' i=β i)∧Mv ((callE none ν l nx).T C) s s'∧∀i o,(i,o)∈(callE none ν l nx).ob→o.p β'' s' (C.tg i) (β'' i):=by
 obtain⟨β',g1,g2,g3⟩:=hp;simp only [y9L,yAe] at hok;obtain⟨⟨h1,h2,h3,hS,h4,h5⟩,h6⟩:=hok;have hnd:=y8T h1;have hlen:ν.length=ob'.length:=yNb h2;have inj:∀i j,i<ob'.length→j<ob'.length→ν.getD i 0=ν.getD j 0→i=j:=fun i j hi hj e=>by
  rw [yGd,yGd,yGe (by omega),yGe (by omega)] at e;exact(List.getElem_inj hnd).1 e
 obtain⟨q,hq⟩:=yfm 0 ob'.length inj;have hany:∀i,(l.any fun p=>Nat.beq p.1 i)=true→∃o,(i,o)∈l:=fun i hh=>by
  obtain⟨⟨j,o⟩,hm,hb⟩:=List.any_eq_true.1 hh;have:j=i:=yNb hb;exact⟨o,this▸hm⟩
 have hnew:∀i,i<ob'.length→K'.m≤i→(∃o,(i,o)∈l)∧k≤ν.getD i 0:=fun i hi hm=>by
  have:=yAt.1 h6 i (List.mem_range.2 hi);rw [bltF hm,cond_false] at this;obtain⟨a1,a2⟩:=Bool.and_eq_true_iff.1 this;exact⟨hany i a1,yNl a2⟩
 let nw:Nat→Prop:=fun j=>∃i,i<ob'.length∧K'.m≤i∧ν.getD i 0=j
 have:∀j,Decidable (nw j):=fun j=>Classical.propDecidable _
 let β'':Nat→Value:=fun j=>if nw j then β' (q j) else β j
 have hβ:∀i,i<ob'.length→β'' (ν.getD i 0)=β' i:=fun i hi=>by
  show(if nw (ν.getD i 0) then β' (q (ν.getD i 0)) else β (ν.getD i 0))=β' i;rcases Nat.lt_or_ge i K'.m with hk|hk
  ·rw [iN,g1 i hk];rintro⟨j,hj,hjm,e⟩;have:=inj j i hj hi e;omega
  ·rw [iP ⟨i,hi,hk,rfl⟩,hq i hi]
 have htg:∀i,i<ob'.length→((List.range ob'.length).map fun i=>C.tg (ν.getD i 0)).getD i 0=C.tg (ν.getD i 0):=fun i hi=>by
  simp [yGd,hi]
 refine⟨β'',SV.mono (Le.refl _) (fun i hi=>hβ i (y5n h4 hi)) g2,fun i hi=>iN ?_,fun i hi=>iN ?_,m.weak ?_,fun i o hm=>?_⟩
 ·rintro ⟨j,hj,hjm,e⟩;have:=(hnew j hj hjm).2;omega
 ·rintro ⟨j,hj,hjm,e⟩;obtain⟨o,hm⟩:=(hnew j hj hjm).1;exact hi o (yMp.2 ⟨(j,o),hm,by rw [←e]⟩)
 ·rintro t ⟨i,hi,e⟩;have hl:=y5n hS hi;simp only [List.getElem?_map,List.getElem?_range hl,Option.map_some,yIj] at e;have hcov:∃o,(i,o)∈l:=by
   rcases Nat.lt_or_ge i K'.m with hk|hk
   ·have:=yAt.1 h6 i (List.mem_range.2 hl);rw [show Nat.blt i K'.m=true by simpa using hk,cond_true,List.contains_iff_mem.2 hi] at this;exact hany i (by simpa using this)
   ·exact (hnew i hl hk).1
  obtain⟨o,hm⟩:=hcov;exact⟨ν.getD i 0,o,yMp.2 ⟨(i,o),hm,rfl⟩,e.symm⟩
 ·obtain ⟨⟨j,oo⟩,hj,e⟩:=yMp.1 hm;simp only [Prod.mk.injEq] at e;obtain⟨rfl,rfl⟩:=e;obtain⟨q0,e1,e2⟩:=hO.at hj;have hjl:j<ob'.length:=(yGs.1 e1).1;have h9:=g3 j q0 e1;rw [htg j hjl] at h9;rw [hβ j hjl];refine e2 _ _ _ _ ?_;have hrf:=yAt.1 h5 _ (List.mem_of_getElem? e1);cases q0 with
  | hp z=>exact h9
  | bx T c=>
   obtain⟨b,vs,e3,e4,e5⟩:=h9;exact⟨b,vs,e3,e4,e5.mono (Le.refl _) fun i hi=>hβ i (y5n hrf hi)⟩
  | u=>trivial
theorem yfn{K':Kx}{k:Nat}{av ys:List TV}{ob ob':List Ob}{ν:List Nat}{l:List (Nat×Ob)}{r:SV}{f:FuncId}{vs:List Value}(hd:Den K C σ β s e)(hF:Fw P f K' av ob r ob')(hok:y9L K' k ν l ob' r=true)
  (hA:∀β s vs,All3 β s ys vs→All3 (fun i=>β (ν.getD i 0)) s av vs) (hI:InL σ (fun i=>ν.getD i 0) 0 ob) (hol:ob.length=K'.m) (h:All3 β s ys vs):
  Calls P f vs.toArray s.w (Lft K' ((List.range ob'.length).map fun i=>C.tg (ν.getD i 0)) (fun i=>β (ν.getD i 0)) s r ob'):=by
 simp only [y9L,yAe] at hok;obtain⟨⟨h1,h2,h3,hS,h4,h5⟩,h6⟩:=hok;have hnd:=y8T h1;have hlen:ν.length=ob'.length:=yNb h2;have hm:K'.m≤ob'.length:=yNl h3;have hts:((List.range ob'.length).map fun i=>C.tg (ν.getD i 0)).Nodup:=by
  refine List.pairwise_map.2 ((List.nodup_range (n:=ob'.length)).imp_of_mem ?_);intro i j hi hj hne ee;have:=hd.ok.inj ee;rw [yGd,yGd,yGe (by have:=List.mem_range.1 hi;omega),yGe (by have:=List.mem_range.1 hj;omega)] at this;exact hne ((List.getElem_inj hnd).1 this)
 refine hF.is _ _ s vs (by simp) (by simpa using hm) (hts.sublist (List.take_sublist _ _)) (fun t ht=>?_) (hA β s vs h) fun i o ho=>?_
 ·obtain ⟨i,_,rfl⟩:=yMp.1 (List.mem_of_mem_take ht);exact hd.ok.tpos _
 ·obtain ⟨q,e1,e2⟩:=hI.at ho;rw [yNz] at e1;have hi:i<ob'.length:=by have:=(yGs.1 ho).1;omega
  have:((List.range ob'.length).map fun i=>C.tg (ν.getD i 0)).getD i 0=C.tg (ν.getD i 0):=by simp [yGd,hi]
  rw [this];exact e2 β s _ _ (hd.ob _ _ e1)
theorem All3.ren':∀{l:List TV} {vs:List Value},All3 β s (l.map (TV.ren μ)) vs→All3 (fun i=>β (μ i)) s l vs
 | [],_,h=>h
 | _::_,_,⟨v,us,h1,h2,e⟩=>⟨v,us,TV.ren_p h1,h2.ren',e⟩
def inG(ob:List (Nat×Ob))(μ:Nat→Nat):Nat→List Ob→List (Option Ob)
 | _,[]=> []
 | i,_::l=>aget ob (μ i)::inG ob μ (i+1) l
def inS(μ:Nat→Nat):List Ob→List (Option Ob)
 | []=> []
 | o::l=>some (o.ren μ)::inS μ l
theorem InL.of:∀{i:Nat} {l:List Ob},inG σ.ob μ i l=inS μ l→InL σ μ i l
 | _,[],_=>trivial
 | _,_::_,h=>⟨⟨_,(List.cons.inj h).1,fun _ _ _ _ h=>Ob.ren_p h⟩,InL.of (List.cons.inj h).2⟩
theorem O.ca{f:FuncId}{xs:List Operand}{K':Kx}{av:List TV}{ob:List Ob}{ob':List Ob}{c:Call}{r r':SV}(ν:List Nat)(l:List (Nat×Ob))(nx:Option Nat)(hF:Fw P f K' av ob r ob')(hcf:Cf P f)(hc:c.callee= .value (.func f))(hca:c.args=xs.toArray)(hg:Gu ops σ g)(hx:σ.evs xs=some (av.map (TV.ren fun i=>ν.getD i 0)))
  (hok:y9L K' σ.n ν l ob' r=true) (hol:ob.length=K'.m) (hI:inG σ.ob (fun i=>ν.getD i 0) 0 ob=inS (fun i=>ν.getD i 0) ob) (hO:OutL (fun i=>ν.getD i 0) ob' l) (hr:∀β s v,r.p (fun i=>β (ν.getD i 0)) s v→r'.p β s v) (hb:Nat.blt d n=true):
  Ox K C P n ops ⟨some d,.call c,ty,pos,af,g⟩ σ (callE (some (d,r')) ν l nx):=fun Φ Q os β s e hd k=>by
 obtain⟨vs,h1,h2⟩:=hd.evs hx;refine L.ca hcf hc hca (hd.gd hg) h1 (yfn hd hF hok (fun _ _ _ h=>h.ren') (InL.of hI) hol h2) hb fun v s' m hp=>?_;obtain⟨β'',g1,g2,g2',g3,g4⟩:=yde (nx:=nx) hd.ok hok hO m hp;exact k β'' s' _ ⟨g2,g2',g3,fun d' hn=>Env.get_put fun e=>hn r' (by rw [e];rfl),fun d' x' ee=>(by cases ee;exact⟨v,by simp [Env.get],hr _ _ _ g1⟩),g4⟩
/-! Rows and boxes of one's own, lent to a call. -/
def flatS(r:SV):Prop:=∀β s β' s' v,r.p β s v→r.p β' s' v
end
section
variable{K:Kx}{C:Cx}{Φ:Fr}{P:Program}{Q:Exit→Act→World→Prop}{n:Nat}{ops:Array Oper}{os:List Oper}{σ:Sx}
theorem WE.cT{c:Operand}{x y:Code}{t:Bool}(hx:σ.ev c=some (VL (.bool t)))(ht:t=true)(h:WE K C Φ P Q n x σ):WE K C Φ P Q n (.cond c x y) σ:=fun β s e hd=>E.cT (hd.evl hx) ht (h β s e hd)
theorem WE.cF{c:Operand}{x y:Code}{t:Bool}(hx:σ.ev c=some (VL (.bool t)))(ht:t=false)(h:WE K C Φ P Q n y σ):WE K C Φ P Q n (.cond c x y) σ:=fun β s e hd=>E.cF (hd.evl hx) ht (h β s e hd)
theorem WE.iter{S O:Type}{f:S→Option (S⊕O)}{o:O}{st0:S}{c:Code}(F:S→Sx)(hi:iter f st0=some o)(l:List (Nat×Nat))(h0:(F st0).is K σ l)
  (round:∀st res,f st=some res→(∀st',res= .inl st'→WX K C Φ (Exit.then (LW Φ P Q c) Q) n .normal (F st'))→(∀o',res= .inr o'→o'=o)→WE K C Φ P (Exit.then (LW Φ P Q c) Q) n c (F st)):WE K C Φ P Q n (.loop c) σ:=fun β s e hd=>
 E.iter (fun st e w=>∃β s,Den K C (F st) β s e∧w=s.w) hi (let ⟨β',s',hw,hd'⟩:=hd.sub (Prod.mk.inj h0).1 (Prod.mk.inj h0).2;⟨β',s',hd',hw.symm⟩) (fun _ _ h=>h) fun st res h1 h2 h3 e w ⟨β,s,hd,hw⟩=>by
  subst hw;exact round st res h1 (fun st' e' β s e hd=>h2 st' e' e _ ⟨β,s,hd,rfl⟩) h3 β s e hd
theorem V.know{c b:Bool}(h:aget σ.sl d=some (VL (.bool c)))(hc:c=b)(h2:V K C Φ P Q n ops os ⟨(d,VL (.bool b))::σ.sl,σ.ob,σ.n⟩):V K C Φ P Q n ops os σ:=fun β s e hd=>h2 β s e ⟨hd.ok,hd.mv,hd.b0,hd.m,fun d' x hx=>by
 rcases yj hx with ⟨rfl,rfl⟩|⟨_,hx⟩
 ·exact hc▸hd.sl _ _ h
 ·exact hd.sl _ _ hx,hd.ob,fun d' x hx=>by
 rcases yj hx with ⟨rfl,rfl⟩|⟨_,hx⟩
 ·intro i hi;cases hi
 ·exact hd.fs _ _ hx,hd.fo⟩
theorem V.cut(k:Nat)(J:A→Prop)(F:A→Sx)(hj:∀a,J a→V K C Φ P Q n ops (os.drop k) (F a))(h:(∀a,J a→V K C Φ P Q n ops (os.drop k) (F a))→V K C Φ P Q n ops os σ):V K C Φ P Q n ops os σ:=h hj
inductive Rw (P:Program) (σ:Sx):List ResultVar→List TV→Prop
 | nil:Rw P σ [] []
 | tmp {t:Nat} {x:TV} {rs:List ResultVar} {l:List TV}:aget σ.sl t=some (.v x)→Rw P σ rs l→Rw P σ (.tmp t::rs) (x::l)
 | cell {a i m:Nat} {c:List LV} {T T':TypeId} {rs:List ResultVar} {l:List TV}:aget σ.sl a=some (sL (lP i 0))→aget σ.ob i=some (.bx T' c)→Ag P T m→c.length=m→Rw P σ rs l→Rw P σ (.cell a T::rs) (⟨true,c⟩::l)
 | one {a i:Nat} {x:LV} {T T':TypeId} {rs:List ResultVar} {l:List TV}:aget σ.sl a=some (sL (lP i 0))→aget σ.ob i=some (.bx T' [x])→NAg P T→Rw P σ rs l→Rw P σ (.cell a T::rs) (⟨false,[x]⟩::l)
theorem Rw.rs{β:Nat→Value}{s:Sig}(hd:Den K C σ β s e):∀{rs:List ResultVar} {l:List TV},Rw P σ rs l→∃vs,Rs P e s rs vs∧All3 β s l vs:=by
 intro rs l h
 induction h with
 | nil=>exact⟨[],.nil,rfl⟩
 | tmp h1 _ ih=>
  obtain⟨vs,g1,g2⟩:=ih;obtain⟨v,g3,g4⟩:=hd.sl _ _ h1;exact⟨v::vs,.tmp g3 g1,v,vs,g4,g2,rfl⟩
 | cell h1 h2 h3 h4 _ ih=>
  obtain⟨vs,g1,g2⟩:=ih;obtain⟨v,g3,b,g4,rfl⟩:=hd.sl _ _ h1;obtain⟨b',us,g5,g6,g7⟩:=hd.ob _ _ h2;rw [g4] at g5;simp only [Value.pointer.injEq,yIj,Addr.mk.injEq,and_true] at g5;subst g5;exact⟨.agg us.toArray::vs,.cell g3 g6 h3 (by simpa [g7.len] using h4) g1,_,vs,⟨us,g7,rfl⟩,g2,rfl⟩
 | one h1 h2 h3 _ ih=>
  obtain⟨vs,g1,g2⟩:=ih;obtain⟨v,g3,b,g4,rfl⟩:=hd.sl _ _ h1;obtain⟨b',us,g5,g6,u,us',g7,g8,rfl⟩:=hd.ob _ _ h2;rw [g4] at g5;simp only [Value.pointer.injEq,yIj,Addr.mk.injEq,and_true] at g5;subst g5;have:us'= []:=g8;subst this;exact⟨u::vs,.one g3 (by simpa using g6) h3 g1,u,vs,g7,g2,rfl⟩
def retS :List TV→SV
 | [x]=> .v x
 | l=> .tp l
theorem ykT{β:Nat→Value}{s:Sig}:∀{l:List TV} {vs:List Value},All3 β s l vs→(retS l).p β s (if h:vs.toArray.size=1 then vs.toArray[0] else .tuple vs.toArray)
 | [],vs,h=>⟨vs,h,by rw [show vs= [] from h];rfl⟩
 | [x],_,⟨v,us,h1,h2,e⟩=>by
  have:us= []:=h2;subst this;subst e;exact h1
 | x::y::l,vs,h=>⟨vs,h,by
  obtain⟨v,us,_,⟨u,ws,_,_,rfl⟩,rfl⟩:=h;simp⟩
def EndL(σ:Sx)(ρ:Nat→Nat):Nat→List Ob→Prop
 | _,[]=>True
 | i,o::l=>(∃q,aget σ.ob (ρ i)=some q∧∀β s t h,q.p β s t h→o.p (fun i=>β (ρ i)) s t h)∧EndL σ ρ (i+1) l
theorem EndL.at{ρ:Nat→Nat}{o:Ob}:∀{k:Nat} {l:List Ob} {i:Nat},EndL σ ρ k l→l[i]? =some o→∃q,aget σ.ob (ρ (k+i))=some q∧∀β s t h,q.p β s t h→o.p (fun i=>β (ρ i)) s t h
 | _,[],_,_,h=>by cases h
 | k,_::_,0,⟨h1,_⟩,h=>by cases h;exact h1
 | k,_::_,i+1,⟨_,h2⟩,h=>by
  have:=h2.at (i:=i) (by simpa using h);rwa [show k+1+i=k+(i+1) by omega] at this
def endOk(K:Kx)(N:Nat)(ρ:List Nat):Bool:=ycl ρ&&Nat.beq ρ.length N&&Nat.ble K.m N&&(List.range N).all fun i=>cond (Nat.blt i K.m) (Nat.beq (ρ.getD i 0) i) (Nat.ble K.m (ρ.getD i 0))
theorem WX.rt{fn:Func}{rs:List ResultVar}{l:List TV}{x:Exit}{r:SV}{ob':List Ob}(ρ:List Nat)(hx:x= .ret∨x= .normal)(hr:fn.results=rs.toArray)(hv:Rw P σ rs l)(hok:endOk K ob'.length ρ=true)(hc:∀β s v,(retS l).p β s v→r.p (fun i=>β (ρ.getD i i)) s v)(hE:EndL σ (fun i=>ρ.getD i i) 0 ob'):
  WX K C Fr.o (bodyPost P fn (Fin K C P r ob')) n x σ:=fun β s e hd=>by
 obtain⟨vs,h1,h2⟩:=hv.rs hd;simp only [endOk,yAe] at hok;obtain⟨⟨⟨g1,g2⟩,g3⟩,g4⟩:=hok;have hlen:ρ.length=ob'.length:=yNb g2;have hm:K.m≤ob'.length:=yNl g3;have hnd:=y8T g1;have hgd:∀i,i<ob'.length→ρ.getD i i=ρ.getD i 0:=fun i hi=>by
  rw [yGd,yGd,yGe (by omega)];rfl
 refine X.rt hx hr h1 rfl ⟨fun i=>ρ.getD i i,_,β,s,rfl,rfl,hd.mv,hd.b0,fun i hi=>?_,fun i hi hi2=>?_,fun i j hi hj e=>?_,hc β s _ (ykT h2),fun i o ho=>?_⟩
 ·have:=yAt.1 g4 i (List.mem_range.2 (by omega));rw [show Nat.blt i K.m=true by simpa using hi,cond_true] at this;show ρ.getD i i=i;rw [hgd i (by omega)];exact yNb this
 ·have:=yAt.1 g4 i (List.mem_range.2 hi2);rw [bltF hi,cond_false] at this;show K.m≤ρ.getD i i;rw [hgd i hi2];exact yNl this
 ·have e:ρ.getD i i=ρ.getD j j:=e;rw [yGd,yGd,yGe (by omega),yGe (by omega)] at e;exact(List.getElem_inj hnd).1 e
 ·obtain ⟨q,e1,e2⟩:=hE.at ho;rw [yNz] at e1;exact e2 β s _ _ (hd.ob _ _ e1)
end
def noE :Eff:=⟨none,[],none⟩
def dstIs(f:Eff)(d:Nat):Bool:=match f.dst with
 | some (d',_)=>Nat.beq d' d
 | none=>false
def y5O(f:Eff)(i:Nat):Bool:=f.ob.any fun p=>Nat.beq p.1 i
def pd(A:List (List Nat))(k m:Nat):Bool:=!(Nat.beq m k||(A.getD m []).contains k)
def okD(A:List (List Nat))(fs:List Eff)(N k d:Nat):Bool:=(List.range N).all fun m=>!(dstIs (fs.getD m noE) d&&pd A k m)
def okO(A:List (List Nat))(fs:List Eff)(N k i:Nat):Bool:=(List.range N).all fun m=>!(y5O (fs.getD m noE) i&&pd A k m)
def okJ(A:List (List Nat))(fs:List Eff)(N k j i:Nat):Bool:=(List.range N).all fun m=>Nat.beq m j || !(y5O (fs.getD m noE) i&&(A.getD m []).contains j&&pd A k m)
def muA(fs:List Eff):List Nat→List (Nat×SV)→List (Nat×SV)
 | [],l=>l
 | j::js,l=>match (fs.getD j noE).dst with
  | some p=>p::muA fs js l
  | none=>muA fs js l
def muB(A:List (List Nat))(fs:List Eff)(N k:Nat):List (Nat×SV)→List (Nat×SV)
 | []=> []
 | (d,x)::l=>(d,cond (okD A fs N k d) x .u)::muB A fs N k l
def muC(A:List (List Nat))(fs:List Eff)(N k j:Nat):List (Nat×Ob)→List (Nat×Ob)→List (Nat×Ob)
 | [],l=>l
 | (i,o)::q,l=>cond (okJ A fs N k j i) ((i,o)::muC A fs N k j q l) (muC A fs N k j q l)
def muE(A:List (List Nat))(fs:List Eff)(N k:Nat):List Nat→List (Nat×Ob)→List (Nat×Ob)
 | [],l=>l
 | j::js,l=>muC A fs N k j (fs.getD j noE).ob (muE A fs N k js l)
def muF(A:List (List Nat))(fs:List Eff)(N k:Nat):List (Nat×Ob)→List (Nat×Ob)
 | []=> []
 | (i,o)::l=>(i,cond (okO A fs N k i) o .u)::muF A fs N k l
def muN(fs:List Eff)(n:Nat):List Nat→Nat
 | []=>n
 | j::js=>Nat.max ((fs.getD j noE).n n) (muN fs n js)
def mu(A:List (List Nat))(fs:List Eff)(N:Nat)(σ:Sx)(k:Nat)(B:List Nat):Sx:=⟨muA fs B (muB A fs N k σ.sl),muE A fs N k B (muF A fs N k σ.ob),muN fs σ.n B⟩
def Eff.refs(f:Eff):List Nat:=match f.dst with
 | some (_,x)=>x.refs++refsB f.ob
 | none=>refsB f.ob
def memN(x:Nat):List Nat→Bool
 | []=>false
 | a::l=>cond (Nat.beq a x) true (memN x l)
theorem yat{x:Nat}:∀{l:List Nat},memN x l=l.contains x
 | []=>rfl
 | a::l=>by
  rw [List.contains_cons,←yat (l:=l)];simp only [memN];by_cases h:a=x
  ·subst h;rw [Nat.beq_refl];simp
  ·have:Nat.beq a x=false:=by cases h0:Nat.beq a x with | false=>rfl|true=>exact absurd (yNb h0) h
   rw [this];simp [Ne.symm h]
def dsts :List Eff→List Nat
 | []=> []
 | f::fs=>match f.dst with
  | some (d,_)=>d::dsts fs
  | none=>dsts fs
def yau :List Nat→Bool
 | []=>true
 | x::l=>cond (memN x l) false (yau l)
theorem ydf{x:SV}:∀{fs:List Eff} {k:Nat},(fs.getD k noE).dst=some (d,x)→memN d (dsts fs)=true
 | [],k,h=>by simp [noE] at h
 | f::fs,0,h=>by
  have h:f.dst=some (d,x):=h;simp only [dsts,h,memN,Nat.beq_refl,cond_true]
 | f::fs,k+1,h=>by
  have:=ydf (fs:=fs) (k:=k) (by simpa using h);simp only [dsts];split
  ·simp only [memN];rw [this];cases Nat.beq _ d <;> rfl
  ·exact this
theorem ygj{x y:SV}:∀{fs:List Eff} {k m:Nat},yau (dsts fs)=true→(fs.getD k noE).dst=some (d,x)→(fs.getD m noE).dst=some (d,y)→k=m
 | [],k,_,_,h,_=>by simp [noE] at h
 | f::fs,0,0,_,_,_=>rfl
 | f::fs,0,m+1,hn,h1,h2=>by
  have h1:f.dst=some (d,x):=h1;have:=ydf (fs:=fs) (k:=m) (by simpa using h2);simp only [dsts,h1,yau,this,cond_true] at hn;cases hn
 | f::fs,k+1,0,hn,h1,h2=>by
  have h2:f.dst=some (d,y):=h2;have:=ydf (fs:=fs) (k:=k) (by simpa using h1);simp only [dsts,h2,yau,this,cond_true] at hn;cases hn
 | f::fs,k+1,m+1,hn,h1,h2=>by
  have hn':yau (dsts fs)=true:=by
   simp only [dsts] at hn;split at hn
   ·simp only [yau] at hn;revert hn;cases memN _ (dsts fs) <;> simp
   ·exact hn
  rw [ygj (fs:=fs) hn' (k:=k) (m:=m) (by simpa using h1) (by simpa using h2)]
def yhE(A:List (List Nat))(fs:List Eff)(N n k:Nat)(ob:List (Nat×Ob)):Bool:=(List.range N).all fun j=>Nat.beq j k ||
  ((memN j (A.getD k [])||(memN k (A.getD j [])||ob.all fun p=>!y5O (fs.getD j noE) p.1)) &&
   (memN k (A.getD j [])||(fs.getD j noE).refs.all fun i=>Nat.blt i n || !ob.any fun p=>Nat.beq p.1 i))
def confl(A:List (List Nat))(fs:List Eff)(N n:Nat)(K:Kx):Bool:=yau (dsts fs)&&(List.range N).all fun k=>(fs.getD k noE).ok K (muN fs n (A.getD k []))&&match (fs.getD k noE).ob with
 | []=>true
 | ob=>yhE A fs N (muN fs n (A.getD k [])) k ob
def y8U(K:Kx)(C:Cx)(P:Program)(n:Nat)(ops:Array Oper)(A:List (List Nat))(fs:List Eff)(N:Nat)(σ:Sx):Nat→List Oper→Prop
 | _,[]=>True
 | k,o::os=>Ox K C P n ops o (mu A fs N σ k (A.getD k [])) (fs.getD k noE)∧y8U K C P n ops A fs N σ (k+1) os
structure Inv (K:Kx) (C:Cx) (A:List (List Nat)) (fs:List Eff) (N:Nat) (σ:Sx) (D:Nat→Bool) (β:Nat→Value) (s:Sig) (e:List (Nat×Value)):Prop where
 ok:C.Ok K
 mv:Mv (C.Up K) C.s0 s
 b0:∀i,i<K.m→β i=C.b0 i
 m:K.m≤σ.n
 s0:∀d x,aget σ.sl d=some x→∃v,Env.get e d=some v
 s1:∀d x,aget σ.sl d=some x→(∀m,m<N→D m=true→dstIs (fs.getD m noE) d=false)→∀v,Env.get e d=some v→x.p β s v
 s2:∀k d x,k<N→D k=true→(fs.getD k noE).dst=some (d,x)→∃v,Env.get e d=some v∧x.p β s v
 o1:∀i o,aget σ.ob i=some o→(∀m,m<N→D m=true→y5O (fs.getD m noE) i=false)→o.p β s (C.tg i) (β i)
 o2:∀k i o,k<N→D k=true→(i,o)∈(fs.getD k noE).ob→(∀m,m<N→D m=true→m≠k→(A.getD m []).contains k=true→y5O (fs.getD m noE) i=false)→o.p β s (C.tg i) (β i)
 fs:∀d x,aget σ.sl d=some x→∀i,i∈x.refs→i<σ.n
 fo:∀i o,aget σ.ob i=some o→i<σ.n∧∀j,j∈o.refs→j<σ.n
theorem nbeq{i j:Nat}(h:i≠j):Nat.beq i j=false:=by cases h0:Nat.beq i j with | false=>rfl|true=>exact absurd (yNb h0) h
section
variable{K:Kx}{C:Cx}{A:List (List Nat)}{fs:List Eff}{N k:Nat}{σ:Sx}{D:Nat→Bool}{β:Nat→Value}{s:Sig}{e:List (Nat×Value)}
theorem ycE{x:SV}:∀{B:List Nat} {l:List (Nat×SV)},aget (muA fs B l) d=some x→(∃j,j∈B∧(fs.getD j noE).dst=some (d,x))∨((∀j,j∈B→dstIs (fs.getD j noE) d=false)∧aget l d=some x)
 | [],l,h=> .inr ⟨fun _ h=>(by cases h),h⟩
 | j::B,l,h=>by
  simp only [muA] at h;cases hd:(fs.getD j noE).dst with
  | none=>
   rw [hd] at h;rcases ycE h with ⟨j',h1,h2⟩|⟨h1,h2⟩
   ·exact .inl ⟨j',.tail _ h1,h2⟩
   ·refine .inr ⟨fun j' hj=>?_,h2⟩;rcases yMo.1 hj with rfl|hj
    ·unfold dstIs;rw [hd]
    ·exact h1 _ hj
  | some p=>
   obtain⟨d',y⟩:=p;rw [hd] at h;rcases yj h with ⟨rfl,rfl⟩|⟨hne,h2⟩
   ·exact .inl ⟨j,.head _,hd⟩
   ·rcases ycE h2 with ⟨j',h1,h2⟩|⟨h1,h2⟩
    ·exact .inl ⟨j',.tail _ h1,h2⟩
    ·refine .inr ⟨fun j' hj=>?_,h2⟩;rcases yMo.1 hj with rfl|hj
     ·unfold dstIs;rw [hd];exact nbeq hne
     ·exact h1 _ hj
theorem ye4{x:SV}:∀{l:List (Nat×SV)},aget (muB A fs N k l) d=some x→∃y,aget l d=some y∧(x= .u∨(x=y∧okD A fs N k d=true))
 | [],h=>by cases h
 | (i,y)::l,h=>by
  rcases yj (show aget ((i,cond (okD A fs N k i) y .u)::muB A fs N k l) d=some x from h) with ⟨rfl,rfl⟩|⟨hne,h2⟩
  ·refine ⟨y,by simp [aget],?_⟩;cases hc:okD A fs N k i
   ·exact .inl rfl
   ·exact .inr ⟨rfl,rfl⟩
  ·obtain ⟨z,g1,g2⟩:=ye4 h2;refine⟨z,?_,g2⟩;simp only [aget];rw [nbeq hne];exact g1
theorem ye5{j i:Nat}{o:Ob}:∀{q:List (Nat×Ob)} {l:List (Nat×Ob)},aget (muC A fs N k j q l) i=some o→((i,o)∈q∧okJ A fs N k j i=true)∨aget l i=some o
 | [],l,h=> .inr h
 | (i',o')::q,l,h=>by
  simp only [muC] at h;cases hc:okJ A fs N k j i' with
  | false=>
   rw [hc] at h;rcases ye5 h with ⟨h1,h2⟩|h2
   ·exact .inl ⟨.tail _ h1,h2⟩
   ·exact .inr h2
  | true=>
   rw [hc,cond_true] at h;rcases yj h with ⟨rfl,rfl⟩|⟨_,h2⟩
   ·exact .inl ⟨.head _,hc⟩
   ·rcases ye5 h2 with ⟨h1,h2⟩|h2
    ·exact .inl ⟨.tail _ h1,h2⟩
    ·exact .inr h2
theorem ye6{i:Nat}{o:Ob}:∀{B:List Nat} {l:List (Nat×Ob)},aget (muE A fs N k B l) i=some o→(∃j,j∈B∧(i,o)∈(fs.getD j noE).ob∧okJ A fs N k j i=true)∨aget l i=some o
 | [],l,h=> .inr h
 | j::B,l,h=>by
  rcases ye5 (show aget (muC A fs N k j (fs.getD j noE).ob (muE A fs N k B l)) i=some o from h) with ⟨h1,h2⟩|h2
  ·exact .inl ⟨j,.head _,h1,h2⟩
  ·rcases ye6 h2 with ⟨j',g1,g2⟩|g
   ·exact .inl ⟨j',.tail _ g1,g2⟩
   ·exact .inr g
theorem ye7{i:Nat}{o:Ob}:∀{l:List (Nat×Ob)},aget (muF A fs N k l) i=some o→(o= .u∧∃y,aget l i=some y)∨(aget l i=some o∧okO A fs N k i=true)
 | [],h=>by cases h
 | (i',y)::l,h=>by
  rcases yj (show aget ((i',cond (okO A fs N k i') y .u)::muF A fs N k l) i=some o from h) with ⟨rfl,rfl⟩|⟨hne,h2⟩
  ·cases hc:okO A fs N k i' with
   | false=>exact .inl ⟨rfl,y,by simp [aget]⟩
   | true=>exact .inr ⟨by simp [aget],rfl⟩
  ·have hb:aget ((i',y)::l) i=aget l i:=by simp only [aget];rw [nbeq hne];rfl
   rw [hb];exact ye7 h2
theorem ycn{n:Nat}:∀{B:List Nat},n≤muN fs n B
 | []=>yNr _
 | _::_=>Nat.le_trans ycn (Nat.le_max_right _ _)
theorem ye8{n j:Nat}:∀{B:List Nat},j∈B→(fs.getD j noE).n n≤muN fs n B
 | _::_,.head _=>Nat.le_max_left _ _
 | _::_,.tail _ h=>Nat.le_trans (ye8 h) (Nat.le_max_right _ _)
theorem Eff.n_mono{f:Eff}{n n':Nat}(h:n≤n')(h2:n'≤f.n n'):f.n n'≤Nat.max (f.n n) n':=by
 unfold Eff.n at h2 ⊢;cases f.nx with
 | none=>exact Nat.le_max_right _ _
 | some k=>exact Nat.le_max_left _ _
theorem ybE{f:Eff}{n:Nat}(h:f.ok K n=true):(∀d x,f.dst=some (d,x)→∀i,i∈x.refs→i<f.n n)∧(∀i o,(i,o)∈f.ob→K.may i=true∧i<f.n n∧∀j,j∈o.refs→j<f.n n)∧n≤f.n n:=by
 simp only [Eff.ok,yAe] at h;obtain⟨⟨h0,h1⟩,h2⟩:=h;refine⟨fun d x hd i hi=>?_,fun i o hm=>?_,yNl h0⟩
 ·rw [hd] at h2;exact y5n h2 hi
 ·have:=yAt.1 h1 _ hm;simp only [yAe] at this;exact⟨this.1,by simpa using this.2.1,fun j hj=>y5n this.2.2 hj⟩
theorem Inv.mu{B:List Nat}(h:Inv K C A fs N σ D β s e)(hc:confl A fs N σ.n K=true)(hcl:∀j,j∈B→∀i,i∈A.getD j []→i∈B)(hB:∀j,j∈B→j<N∧D j=true)(hD:∀m,m<N→D m=true→pd A k m=true):Den K C (mu A fs N σ k B) β s e:=by
 have hn:σ.n≤muN fs σ.n B:=ycn;have hj:∀j,j∈B→(fs.getD j noE).ok K (muN fs σ.n (A.getD j []))=true∧(fs.getD j noE).n (muN fs σ.n (A.getD j []))≤muN fs σ.n B:=fun j hj=>by
  have hrow:=yAt.1 (Bool.and_eq_true_iff.1 hc).2 j (List.mem_range.2 (hB j hj).1);obtain⟨hmay,_⟩:=Bool.and_eq_true_iff.1 hrow;refine⟨hmay,?_⟩;have h2:=(ybE hmay).2.2;refine Nat.le_trans (Eff.n_mono ycn h2) (Nat.max_le.2 ⟨ye8 hj,?_⟩);have:∀(q:List Nat),(∀i,i∈q→i∈B)→muN fs σ.n q≤muN fs σ.n B:=by
   intro q
   induction q with
   | nil=>intro _;exact ycn
   | cons a q ih=>intro hq;exact Nat.max_le.2 ⟨ye8 (hq a (.head _)),ih fun i hi=>hq i (.tail _ hi)⟩
  exact this _ (hcl j hj)
 refine⟨h.ok,h.mv,h.b0,Nat.le_trans h.m hn,fun d x hx=>?_,fun i o ho=>?_,fun d x hx i hi=>?_,fun i o ho=>?_⟩
 ·rcases ycE hx with ⟨j,hj,hd⟩|⟨_,hx⟩
  ·exact h.s2 j d x (hB j hj).1 (hB j hj).2 hd
  ·obtain ⟨y,g1,hxy⟩:=ye4 hx;obtain⟨v,g2⟩:=h.s0 d y g1;refine⟨v,g2,?_⟩;rcases hxy with rfl|⟨rfl,hc⟩
   ·trivial
   ·refine h.s1 d x g1 (fun m hm hDm=>?_) v g2;have:=yAt.1 hc m (List.mem_range.2 hm);rw [hD m hm hDm,Bool.and_true] at this;simpa using this
 ·rcases ye6 ho with ⟨j,hj,hm,hc⟩|ho
  ·refine h.o2 j i o (hB j hj).1 (hB j hj).2 hm fun m hm hDm hmj hA=>?_;have:=yAt.1 hc m (List.mem_range.2 hm);rw [nbeq hmj,hA,hD m hm hDm] at this;simpa using this
  ·rcases ye7 ho with ⟨rfl,_⟩|⟨g1,hc⟩
   ·trivial
   ·refine h.o1 i o g1 fun m hm hDm=>?_;have:=yAt.1 hc m (List.mem_range.2 hm);rw [hD m hm hDm,Bool.and_true] at this;simpa using this
 ·rcases ycE hx with ⟨j,hjB,hd⟩|⟨_,hx⟩
  ·exact Nat.lt_of_lt_of_le ((ybE (hj j hjB).1).1 d x hd i hi) (hj j hjB).2
  ·obtain ⟨y,g1,hxy⟩:=ye4 hx;rcases hxy with rfl|⟨rfl,_⟩
   ·cases hi
   ·exact Nat.lt_of_lt_of_le (h.fs d x g1 i hi) hn
 ·rcases ye6 ho with ⟨j,hjB,hm,_⟩|ho
  ·obtain ⟨_,g1,g2⟩:=(ybE (hj j hjB).1).2.1 i o hm;exact⟨Nat.lt_of_lt_of_le g1 (hj j hjB).2,fun q hq=>Nat.lt_of_lt_of_le (g2 q hq) (hj j hjB).2⟩
  ·rcases ye7 ho with ⟨rfl,y,g⟩|⟨g,_⟩
   ·exact ⟨Nat.lt_of_lt_of_le (h.fo i y g).1 hn,fun q hq=>by cases hq⟩
   ·exact ⟨Nat.lt_of_lt_of_le (h.fo i o g).1 hn,fun q hq=>Nat.lt_of_lt_of_le ((h.fo i o g).2 q hq) hn⟩
theorem yab{f:Eff}{i:Nat}{o:Ob}(h:(i,o)∈f.ob):y5O f i=true:=List.any_eq_true.2 ⟨_,h,Nat.beq_refl _⟩
theorem ydC{f:Eff}{i:Nat}(h:y5O f i=false):∀o,(i,o)∉f.ob:=fun o hm=>by rw [yab hm] at h;cases h
theorem yiZ{f:Eff}{i:Nat}{x:SV}(h:f.dst=some (d,x))(hi:i∈x.refs):i∈f.refs:=by unfold Eff.refs;rw [h];exact yMl _ hi
theorem yeK{x:Ob}:∀{l:List (Nat×Ob)},(d,x)∈l→d∈refsB l∧∀i,i∈x.refs→i∈refsB l
 | (j,y)::l,h=>by
  rcases yMo.1 h with e|h2
  ·cases e;exact⟨.head _,fun i hi=> .tail _ (yMl _ hi)⟩
  ·obtain ⟨g1,g2⟩:=yeK h2;exact⟨.tail _ (yMr _ g1),fun i hi=> .tail _ (yMr _ (g2 i hi))⟩
theorem yk7{f:Eff}{i:Nat}{o:Ob}(h:(i,o)∈f.ob):i∈f.refs∧∀j,j∈o.refs→j∈f.refs:=by
 have key:∀j,j∈refsB f.ob→j∈f.refs:=fun j hj=>by unfold Eff.refs;split <;> first | exact hj|exact yMr _ hj
 obtain⟨g1,g2⟩:=yeK h;exact⟨key _ g1,fun j hj=>key _ (g2 j hj)⟩
theorem Inv.step{β':Nat→Value}{e':List (Nat×Value)}(h:Inv K C A fs N σ D β s e)(hk:k<N)(hDk:D k=false)(hc:confl A fs N σ.n K=true)(hf:∀j,j<N→(A.getD j []).contains k=true→D j=false)(a:Aft C (fs.getD k noE) (muN fs σ.n (A.getD k [])) β β' s s' e e'):Inv K C A fs N σ (upD D k) β' s' e':=by
 obtain⟨hdd,hc⟩:=Bool.and_eq_true_iff.1 hc;have hrow:=yAt.1 hc k (List.mem_range.2 hk);obtain⟨hmay,hrow⟩:=Bool.and_eq_true_iff.1 hrow;obtain⟨hr1,hr2,_⟩:=ybE hmay;have hn:σ.n≤muN fs σ.n (A.getD k []):=ycn;have hl:Le s s':=a.mv.le (Eff.T0 h.ok);have hup:∀m,D m=true→upD D k m=true:=fun m hm=>ydb hm;have hself:upD D k k=true:=by simp [upD]
 have hdn:∀m,upD D k m=true→m≠k→D m=true:=fun m hm hne=>by simpa [upD,nbeq hne] using hm
 have keepE:∀d,dstIs (fs.getD k noE) d=false→Env.get e' d=Env.get e d:=fun d hd=>a.sl d fun x hx=>by
  unfold dstIs at hd;rw [hx] at hd;simp at hd
 have hpair:∀m,m<N→m≠k→D m=true→((A.getD k []).contains m=true∨∀i o,(i,o)∈(fs.getD k noE).ob→y5O (fs.getD m noE) i=false)∧∀i,i∈(fs.getD m noE).refs→β' i=β i:=fun m hm hmk hDm=>by
  by_cases hob:(fs.getD k noE).ob= []
  ·exact ⟨.inr fun i o hio=>(by rw [hob] at hio;cases hio),fun i _=>a.hn i fun o hm'=>(by rw [hob] at hm';cases hm')⟩
  have hrow':yhE A fs N (muN fs σ.n (A.getD k [])) k (fs.getD k noE).ob=true:=by
   revert hrow hob;cases (fs.getD k noE).ob <;> simp
  have hp:=yAt.1 hrow' m (List.mem_range.2 hm);rw [nbeq hmk,Bool.false_or] at hp;obtain⟨hp2,hp3⟩:=Bool.and_eq_true_iff.1 hp;rw [yat,yat] at hp2;rw [yat] at hp3;refine⟨?_,fun i hi=>?_⟩
  ·rcases Bool.or_eq_true_iff.1 hp2 with hp2|hp2
   ·exact .inl hp2
   ·rcases Bool.or_eq_true_iff.1 hp2 with hp2|hp2
    ·rw [hf m hm hp2] at hDm;cases hDm
    ·exact .inr fun i o hio=>by
      have:=yAt.1 hp2 _ hio;simpa using this
  ·rcases Bool.or_eq_true_iff.1 hp3 with hp3|hp3
   ·rw [hf m hm hp3] at hDm;cases hDm
   ·rcases Bool.or_eq_true_iff.1 (yAt.1 hp3 i hi) with g|g
    ·exact a.hd i (by simpa using g)
    ·refine a.hn i fun o hm'=>?_;have:=yab hm';unfold y5O at this;rw [this] at g;cases g
 have hob:∀(i:Nat) (o:Ob),(∀o',(i,o')∉(fs.getD k noE).ob)→(∀j,j∈o.refs→β' j=β j)→o.p β s (C.tg i) (β i)→o.p β' s' (C.tg i) (β' i):=fun i o hno hdj hp=>by
  rw [a.hn i hno];exact Ob.mv a.mv (Eff.Tn h.ok hno) (Eff.T0 h.ok) hdj hp
 have hm:=h.m;refine⟨h.ok,h.mv.trans (a.mv.weak fun t ⟨i,o,hm,e⟩=>e▸h.ok.up (hr2 i o hm).1),fun i hi=>(a.hd i (by omega)).trans (h.b0 i hi),h.m,fun d x hx=>?_,fun d x hx h1 v hv=>?_,fun m d x hm hDm hd=>?_,fun i o ho h1=>?_,fun m i o hm hDm ho h1=>?_,h.fs,h.fo⟩
 ·cases hd:dstIs (fs.getD k noE) d with
  | false=>rw [keepE d hd];exact h.s0 d x hx
  | true=>
   unfold dstIs at hd;split at hd
   ·rename_i d' y hy;have:d'=d:=yNb hd;subst this;obtain⟨v,g,_⟩:=a.dst d' y hy;exact⟨v,g⟩
   ·cases hd
 ·rw [keepE d (h1 k hk hself)] at hv;exact SV.mono hl (fun i hi=>a.hd i (Nat.lt_of_lt_of_le (h.fs d x hx i hi) hn)) (h.s1 d x hx (fun m hm hDm=>h1 m hm (hup m hDm)) v hv)
 ·by_cases hmk:m=k
  ·subst hmk;exact a.dst d x hd
  ·have hDm':=hdn m hDm hmk;obtain⟨v,g1,g2⟩:=h.s2 m d x hm hDm' hd;obtain⟨_,hp3⟩:=hpair m hm hmk hDm';have hds:dstIs (fs.getD k noE) d=false:=by
    unfold dstIs;split
    ·rename_i d' y hy;by_cases e:d'=d
     ·subst e;exact absurd (ygj hdd hd hy) hmk
     ·exact nbeq e
    ·rfl
   exact⟨v,by rw [keepE d hds];exact g1,SV.mono hl (fun i hi=>hp3 i (yiZ hd hi)) g2⟩
 ·exact hob i o (ydC (h1 k hk hself)) (fun j hj=>a.hd j (Nat.lt_of_lt_of_le ((h.fo i o ho).2 j hj) hn)) (h.o1 i o ho (fun m hm hDm=>h1 m hm (hup m hDm)))
 ·by_cases hmk:m=k
  ·subst hmk;exact a.ob i o ho
  ·have hDm':=hdn m hDm hmk;obtain⟨hp2,hp3⟩:=hpair m hm hmk hDm';have hnt:∀o',(i,o')∉(fs.getD k noE).ob:=fun o' hm'=>by
    rcases hp2 with g|g
    ·exact ydC (h1 k hk hself (Ne.symm hmk) g) o' hm'
    ·have:=g i o' hm';rw [yab ho] at this;cases this
   exact hob i o hnt (fun j hj=>hp3 j ((yk7 ho).2 j hj)) (h.o2 m i o hm hDm' ho (fun m' hm' hDm' hne'=>h1 m' hm' (hup m' hDm') hne'))
theorem y8U.at{n:Nat}:∀{l:List Oper} {k:Nat},y8U K C P n ops A fs N σ k l→∀j o,l[j]? =some o→Ox K C P n ops o (mu A fs N σ (k+j) (A.getD (k+j) [])) (fs.getD (k+j) noE)
 | [],_,_,_,_,h=>by cases h
 | _::_,_,h,0,_,ho=>by cases ho;exact h.1
 | _::_,k,h,j+1,o,ho=>by
  have:=h.2.at j o (by simpa using ho);rwa [show k+1+j=k+(j+1) by omega] at this
def y8V(P:Program)(K:Kx)(A:List (List Nat))(fs:List Eff)(n:Nat)(ops:Array Oper):Bool:=decide (P.follows .mixedOrders=true)&&(ydB ops&&(chkA ops A&&(confl A fs ops.size n K&&(List.range ops.size).all fun k=>(A.getD k []).all fun j=>Nat.blt j ops.size&&(A.getD j []).all fun i=>memN i (A.getD k []))))
theorem yhF{Q:Exit→Act→World→Prop}{n:Nat}{I:(Nat→Bool)→List (Nat×Value)→Sig→Prop}:∀{l:List Oper} {k:Nat},(∀j o,l[j]? =some o→DStep Φ P Q n ops A I (k+j) o)→yck Φ P Q n ops A I k l
 | [],_,_=>trivial
 | o::l,k,h=>⟨h 0 o rfl,yhF fun j o' ho=>by
   have:=h (j+1) o' (by simpa using ho);rwa [show k+(j+1)=k+1+j by omega] at this⟩
theorem WE.draw'{Q:Exit→Act→World→Prop}{n id:Nat}{l:List Oper}(A:List (List Nat))(fs:List Eff)(hs:y8U K C P n l.toArray A fs l.length σ 0 l)(hok:y8V P K A fs σ.n l.toArray=true)(h:WX K C Φ Q n .normal (mu A fs l.length σ l.length (List.range l.length))):WE K C Φ P Q n (.region id l.toArray true) σ:=fun β s e hd=>by
 simp only [y8V,yAe,decide_eq_true_eq,List.size_toArray] at hok;obtain⟨hm,hB,hA,hc,hR⟩:=hok;have hR':∀k,k<l.length→∀j,j∈A.getD k []→j<l.length∧∀i,i∈A.getD j []→i∈A.getD k []:=fun k hk j hj=>by
  have:=yAt.1 (yAt.1 hR k (List.mem_range.2 hk)) j hj;obtain⟨a1,a2⟩:=Bool.and_eq_true_iff.1 this;exact⟨by simpa using a1,fun i hi=>List.contains_iff_mem.1 (yat▸yAt.1 a2 i hi)⟩
 refine E.draw A (fun D e s=>∃β,Inv K C A fs l.length σ D β s e) hm hB hA ?_ ?_ ?_
 ·intro s0 m;refine⟨β,hd.ok,hd.mv.trans m.no,hd.b0,hd.m,fun d x hx=>?_,fun d x hx _ v hv=>?_,fun k d x _ hD=>(by cases hD),fun i o ho _=>?_,fun k i o _ hD=>(by cases hD),hd.fs,hd.fo⟩
  ·obtain ⟨v,g,_⟩:=hd.sl d x hx;exact⟨v,g⟩
  ·obtain ⟨v',g,g2⟩:=hd.sl d x hx;rw [g] at hv;cases hv;exact SV.mono m.z (fun _ _=>rfl) g2
  ·exact Ob.mv m no_No no_No (fun _ _=>rfl) (hd.ob i o ho)
 ·refine yhF fun k o ho=>?_;rw [yNz];rintro D e' s' ⟨β',hI⟩ hDk hf hAl;have hk:k<l.length:=(yGs.1 ho).1;have hop:=hs.at k o ho;rw [yNz] at hop;have hf':∀j,j<l.length→(A.getD j []).contains k=true→D j=false:=fun j hj=>hf j (by simpa using hj);refine hop Φ _ [] β' s' e' (hI.mu hc (fun j hj=>(hR' k hk j hj).2) (fun j hj=>⟨(hR' k hk j hj).1,hAl.mem j hj⟩) fun m hm hDm=>?_) fun β2 s2 e2 a=>L.nil fun ac ha=>⟨e2,s2,ha,rfl,β2,hI.step hk hDk hc hf' a⟩;unfold pd;have hb:Nat.beq m k=false:=nbeq fun e=>by rw [e,hDk] at hDm;cases hDm
  have hn:(A.getD m []).contains k=false:=by
   cases h0:(A.getD m []).contains k with
   | false=>rfl
   | true=>rw [hf' m hm h0] at hDm;cases hDm
  rw [hb,hn];rfl
 ·rintro D e' s' hD ⟨β',hI⟩;refine h β' s' e' (hI.mu hc (fun j hj i hi=>List.mem_range.2 (hR' j (List.mem_range.1 hj) i hi).1) (fun j hj=>⟨List.mem_range.1 hj,hD j (by simpa using List.mem_range.1 hj)⟩) fun m hm _=>?_);unfold pd;have hn:(A.getD m []).contains l.length=false:=by
   cases h0:(A.getD m []).contains l.length with
   | false=>rfl
   | true=>
    have:=(hR' m hm _ (List.contains_iff_mem.1 h0)).1;omega
  rw [nbeq (by omega),hn];rfl
theorem WE.draw{Q:Exit→Act→World→Prop}{n id:Nat}{l:List Oper}(A:List (List Nat))(fs:List Eff)(τ:Sx)(hs:y8U K C P n l.toArray A fs l.length σ 0 l)(hok:y8V P K A fs σ.n l.toArray=true)(hτ:τ.is K (mu A fs l.length σ l.length (List.range l.length)) [])(h0:WX K C Φ Q n .normal τ):WE K C Φ P Q n (.region id l.toArray true) σ:= .draw' A fs hs hok (h0.sub [] hτ)
end
theorem Z{σ:Sx}:Gu ops σ none:=trivial
theorem bS{β:Type}{o:Option α}{f:α→Option β}{r:β}{q:Prop}(h:o.bind f=some r)(k:∀x,o=some x→f x=some r→q):q:=by
 obtain⟨x,h1,h2⟩:=Option.bind_eq_some_iff.1 h;exact k x h1 h2
/-! Statements on slots and arguments. -/
@[reducible] def SV.f{α:Type}(r:Rep α)(xs:List α):SV:=sL (lF r xs)
@[reducible] def SV.h(i:Nat):SV:=sL (lH i)
@[reducible] def SV.i(n:Int):SV:=sL (lV (.int .i64 n))
@[reducible] def SV.b(b:Bool):SV:=sL (lV (.bool b))
@[reducible] def SV.q(i o:Nat):SV:=sL (lP i o)
@[reducible] def SV.o(x:LV):SV:=sL x
@[reducible] def SV.g(l:List LV):SV:=AG l
@[reducible] def TV.f{α:Type}(r:Rep α)(xs:List α):TV:=⟨false,[lF r xs]⟩
@[reducible] def TV.h(i:Nat):TV:=⟨false,[lH i]⟩
@[reducible] def TV.i(n:Int):TV:=⟨false,[lV (.int .i64 n)]⟩
@[reducible] def TV.b(b:Bool):TV:=⟨false,[lV (.bool b)]⟩
@[reducible] def TV.o(x:LV):TV:=⟨false,[x]⟩
@[reducible] def TV.a(l:List LV):TV:=⟨true,l⟩
/-! Function values. -/
def FVw{A B:Type}(P:Program)(s:Sig)(v:Value)(args:A→List TV)(res:B→TV)(m:A→Option B):Prop:=
 ∃f fst cap,v= .func (.func f) fst cap∧Cf P f∧∀x r,m x=some r→∀s',Le s s'→∀β vs,All3 β s' (args x) vs→Calls P f (fst++vs.toArray++cap) s'.w (RetS No s' fun v' s''=>∀β',(res r).p β' s'' v')
theorem FVw.mono{B:Type}{s:Sig}{v:Value}{args:A→List TV}{res:B→TV}{m:A→Option B}(h:FVw P s v args res m)(hl:Le s s'):FVw P s' v args res m:=by
 obtain⟨f,fst,cap,h1,h2,h3⟩:=h;exact⟨f,fst,cap,h1,h2,fun x r hm s'' hl'=>h3 x r hm s'' (hl.trans hl')⟩
def lW{A B:Type}(P:Program)(args:A→List TV)(res:B→TV)(m:A→Option B):LV:=⟨fun _ s v=>FVw P s v args res m,[],none,none,fun _ hl h=>h.mono hl,nofun,nofun,fun⟨_,_,_,e,_⟩=>by rw [e];rfl⟩
section
variable{K:Kx}{C:Cx}{P:Program}{n:Nat}{ops:Array Oper}{σ:Sx}{d i:Nat}{ty:TypeId}{pos:String}{af:Array Edge}{g:Option (Nat×Bool)}{β:Nat→Value}{s s':Sig}{e:List (Nat×Value)}{A B:Type}{args:A→List TV}{res:B→TV}{m:A→Option B}
theorem O.fv{x:Operand}{xs:List Operand}{c:Call}{y:A}{r:B}(hx:σ.ev x=some (sL (lW P args res m)))(hc:c.callee= .value x)(hca:c.args=xs.toArray)(hg:Gu ops σ g)(hxs:σ.evs xs=some (args y))(hm:m y=some r)(hr:refsL (res r).l= [])(hb:Nat.blt d n=true):Ox K C P n ops ⟨some d,.call c,ty,pos,af,g⟩ σ (F1 d (.v (res r))):=fun Φ Q os β s e hd k=>by
 obtain⟨v,h1,f,fst,cap,rfl,hcf,h2⟩:=hd.evv hx;obtain⟨vs,h3,h4⟩:=hd.evs hxs;exact L.fvc hcf hc hca (hd.gd hg) h1 h3 (h2 y r hm s (Le.refl _) β vs h4) hb fun v' s' m' hp=>k β s' _ (Aft.one m' (hp β))
theorem FVw.of{f:FuncId}{caps:List TV}{cs:List Value}(hcf:Cf P f)(hF:∀x r,m x=some r→Fw P f ⟨0,[]⟩ (args x++caps) [] (.v (res r)) [])(hr:∀r,refsL (res r).l= [])(hc:refsT caps= [])(h:All3 β s caps cs):FVw P s (.func (.func f) #[] cs.toArray) args res m:=by
 refine⟨f,#[],cs.toArray,rfl,hcf,fun x r hm s' hl β' vs h2=>?_⟩;have app3:∀{l l':List TV} {vs us:List Value},All3 β' s' l vs→All3 β' s' l' us→All3 β' s' (l++l') (vs++us):=by
  intro l
  induction l with
  | nil=>intro l' vs us h h2;rw [show vs= [] from h];exact h2
  | cons a l ih=>
   intro l' vs us h h2;obtain⟨v,ws,a1,a2,rfl⟩:=h;exact⟨v,ws++us,a1,ih a2 h2,rfl⟩
 have hcall:=(hF x r hm).is [] β' s' (vs++cs) rfl (yNr _) (by simp) (by simp) (app3 h2 (h.mono hl fun i hi=>by rw [hc] at hi;cases hi)) (fun i o h=>by simp at h);have e:(#[]++vs.toArray++cs.toArray:Array Value)=(vs++cs).toArray:=by simp
 rw [e];refine Calls.mono hcall fun en w' ⟨v,s'',a1,a2,a3,β2,_,a4,_⟩=>⟨v,s'',a1,a2,a3.weak fun t ⟨i,hi,_⟩=>(by cases hi),fun β3=>?_⟩;exact TV.mono (Le.refl _) (fun i hi=>by rw [hr r] at hi;cases hi) a4
theorem O.mf{f:FuncId}{ys:List Operand}{caps:List TV}(hcf:Cf P f)(hF:∀x r,m x=some r→Fw P f ⟨0,[]⟩ (args x++caps) [] (.v (res r)) [])(hr:∀r,refsL (res r).l= [])(hc:refsT caps= [])(hg:Gu ops σ g)(hy:σ.evs ys=some caps)(hb:Nat.blt d n=true):Ox K C P n ops ⟨some d,.makeFunc (.func f) #[] ys.toArray,ty,pos,af,g⟩ σ (F1 d (sL (lW P args res m))):=
 Ox.pure fun _ _ _ β s e hd k=>by
  obtain⟨vs,h1,h2⟩:=hd.evs hy;exact L.mf (xs:=[]) (hd.gd hg) rfl h1 hb (k _ (FVw.of hcf hF hr hc h2))
def Cnv(x y:LV):Prop:=∀β s v,x.p β s v→y.p β s v
theorem Cnv.rf{x:LV}:Cnv x x:=fun _ _ _ h=>h
theorem Cnv.fn{f:FuncId}(hcf:Cf P f)(hF:∀x r,m x=some r→Fw P f ⟨0,[]⟩ (args x) [] (.v (res r)) [])(hr:∀r,refsL (res r).l= []):Cnv (lV (.func (.func f) #[] #[])) (lW P args res m):=fun β s v h=>by
 rw [h.1];exact FVw.of (β:=β) (caps:=[]) (cs:=[]) hcf (fun x r hm=>by rw [List.append_nil];exact hF x r hm) hr rfl rfl
theorem Cnv.nf{r:Rep α}:Cnv (lV (.slice none 0 0)) (lF r []):=fun _ _ _ h=>⟨none,0,h.1,RdL.nil⟩
inductive CnvL :List LV→List LV→Prop
 | n:CnvL [] []
 | c {x y:LV} {xs ys:List LV}:Cnv x y→CnvL xs ys→CnvL (x::xs) (y::ys)
theorem CnvL.p{l l':List LV}(hc:CnvL l l'):∀{vs:List Value},All2 β s l vs→All2 β s l' vs:=by
 induction hc with
 | n=>exact fun h=>h
 | c h1 _ ih=>intro vs ⟨v,us,g1,g2,e⟩;exact⟨v,us,h1 _ _ _ g1,ih g2,e⟩
theorem CnvL.t{x:Bool}{l l':List LV}{v:Value}(hc:CnvL l l')(h:TV.p β s v ⟨x,l⟩):TV.p β s v ⟨x,l'⟩:=by
 cases x with
 | true=>obtain⟨vs,h,e⟩:=h;exact⟨vs,hc.p h,e⟩
 | false=>
  cases hc with
  | n=>exact h
  | c h1 h2=>
   cases h2 with
   | n=>exact h1 _ _ _ h
   | c=>exact h.elim
theorem Den.cnt{x:Bool}{l l':List LV}(d:Nat)(h:aget σ.sl d=some (.v ⟨x,l⟩))(hc:CnvL l l')(hr:ltA σ.n (refsL l')=true)(hd:Den K C σ β s e):Den K C ⟨(d,.v ⟨x,l'⟩)::σ.sl,σ.ob,σ.n⟩ β s e:=⟨hd.ok,hd.mv,hd.b0,hd.m,fun d' y hx=>by
 rcases yj hx with ⟨rfl,rfl⟩|⟨_,hx⟩
 ·obtain ⟨v,g1,g2⟩:=hd.sl _ _ h;exact⟨v,g1,hc.t g2⟩
 ·exact hd.sl _ _ hx,hd.ob,fun d' y hx=>by
 rcases yj hx with ⟨rfl,rfl⟩|⟨_,hx⟩
 ·intro i hi;exact y5n hr hi
 ·exact hd.fs _ _ hx,hd.fo⟩
theorem Den.cno{T:TypeId}{l:List LV}(i:Nat)(l':List LV)(h:aget σ.ob i=some (.bx T l))(hc:CnvL l l')(hr:ltA σ.n (refsL l')=true)(hd:Den K C σ β s e):Den K C ⟨σ.sl,(i,.bx T l')::σ.ob,σ.n⟩ β s e:=⟨hd.ok,hd.mv,hd.b0,hd.m,hd.sl,fun j o ho=>by
 rcases yj ho with ⟨rfl,rfl⟩|⟨_,ho⟩
 ·obtain ⟨b,vs,g1,g2,g3⟩:=hd.ob _ _ h;exact⟨b,vs,g1,g2,hc.p g3⟩
 ·exact hd.ob _ _ ho,hd.fs,fun j o ho=>by
 rcases yj ho with ⟨rfl,rfl⟩|⟨_,ho⟩
 ·exact ⟨(hd.fo _ _ h).1,fun j hj=>y5n hr hj⟩
 ·exact hd.fo _ _ ho⟩
theorem All2.nl{r:Rep α}{T:TypeId}{m:Nat}(hb:∀i,i<m→(upB β m (.slice none 0 0)) i=β i):∀{l:List LV} {vs:List Value} (k:Nat),l[k]? =some (lV (.slice none 0 0))→(∀i,i∈refsL l→i<m)→All2 β s l vs→All2 (upB β m (.slice none 0 0)) s (l.set k (lH m)) vs
 | [],_,_,h,_,_=>by cases h
 | x::l,_,0,h,hr,⟨v,us,h1,h2,e⟩=>by
  cases h;exact⟨v,us,by rw [h1.1];exact lH_at rfl,h2.mono (Le.refl _) fun i hi=>hb i (hr i (yMr _ hi)),e⟩
 | x::l,_,k+1,h,hr,⟨v,us,h1,h2,e⟩=>⟨v,us,x.mono (fun i hi=>hb i (hr i (yMl _ hi))) (Le.refl _) h1,All2.nl (r:=r) (T:=T) hb k (by simpa using h) (fun i hi=>hr i (yMr _ hi)) h2,e⟩
theorem ybF{m:Nat}:∀{l:List LV} (k:Nat),(∀i,i∈refsL l→i<m)→∀i,i∈refsL (l.set k (lH m))→i<m+1
 | [],_,_,i,hi=>by cases hi
 | x::l,0,h,i,hi=>by
  rcases yMa.1 (show i∈ [m]++refsL l from hi) with hi|hi
  ·have:=yMs.1 hi;omega
  ·have:=h i (yMr _ hi);omega
 | x::l,k+1,h,i,hi=>by
  rcases yMa.1 (show i∈x.refs++refsL (l.set k (lH m)) from hi) with hi|hi
  ·have:=h i (yMl _ hi);omega
  ·exact ybF k (fun i hi=>h i (yMr _ hi)) i hi
theorem Den.nl(r:Rep α)(T:TypeId){sl:Option (Nat×SV)}{ob:Option (Nat×Ob)}(hd:Den K C σ β s e)
  (h1:∀d x,sl=some (d,x)→(∃v,Env.get e d=some v∧x.p (upB β σ.n (.slice none 0 0)) s v)∧∀i,i∈x.refs→i<σ.n+1)
  (h2:∀i o,ob=some (i,o)→o.p (upB β σ.n (.slice none 0 0)) s (C.tg i) (β i)∧i<σ.n∧∀j,j∈o.refs→j<σ.n+1):
  Den K C ⟨sl.toList++σ.sl,(σ.n,ROW r T [])::(ob.toList++σ.ob),σ.n+1⟩ (upB β σ.n (.slice none 0 0)) s e:=by
 have hm:=hd.m;have hb:∀i,i<σ.n→upB β σ.n (.slice none 0 0) i=β i:=fun i hi=>y7u (by omega);have o1:∀d x,aget σ.sl d=some x→(∃v,Env.get e d=some v∧x.p (upB β σ.n (.slice none 0 0)) s v)∧∀i,i∈x.refs→i<σ.n+1:=fun d x hx=>by
  obtain⟨v,g1,g2⟩:=hd.sl _ _ hx;exact⟨⟨v,g1,SV.mono (Le.refl _) (fun i hi=>hb i (hd.fs _ _ hx i hi)) g2⟩,fun i hi=>by have:=hd.fs _ _ hx i hi;omega⟩
 have o2:∀i o,aget σ.ob i=some o→o.p (upB β σ.n (.slice none 0 0)) s (C.tg i) (β i)∧i<σ.n∧∀j,j∈o.refs→j<σ.n+1:=fun i o ho=>by
  obtain⟨g1,g2⟩:=hd.fo _ _ ho;exact⟨Ob.as (Le.refl _) rfl (fun _ h=>h) (fun j hj=>hb j (g2 j hj)) (hd.ob _ _ ho),g1,fun j hj=>by have:=g2 j hj;omega⟩
 have q1:∀d x,aget (sl.toList++σ.sl) d=some x→(∃v,Env.get e d=some v∧x.p (upB β σ.n (.slice none 0 0)) s v)∧∀i,i∈x.refs→i<σ.n+1:=fun d x hx=>by
  cases sl with
  | none=>exact o1 d x hx
  | some p=>
   obtain⟨d',y⟩:=p;rcases yj hx with ⟨rfl,rfl⟩|⟨_,hx⟩
   ·exact h1 _ _ rfl
   ·exact o1 d x hx
 have q2:∀i o,aget (ob.toList++σ.ob) i=some o→o.p (upB β σ.n (.slice none 0 0)) s (C.tg i) (β i)∧i<σ.n∧∀j,j∈o.refs→j<σ.n+1:=fun i o ho=>by
  cases ob with
  | none=>exact o2 i o ho
  | some p=>
   obtain⟨d',y⟩:=p;rcases yj ho with ⟨rfl,rfl⟩|⟨_,ho⟩
   ·exact h2 _ _ rfl
   ·exact o2 i o ho
 refine⟨hd.ok,hd.mv,fun i hi=>(hb i (by omega)).trans (hd.b0 i hi),by show K.m≤σ.n+1;omega,fun d x hx=>(q1 d x hx).1,fun i o ho=>?_,fun d x hx=>(q1 d x hx).2,fun i o ho=>?_⟩
 ·rcases yj ho with ⟨rfl,rfl⟩|⟨_,ho⟩
  ·exact ⟨none,0,y7J,RowT.nil⟩
  ·obtain ⟨g1,g2,_⟩:=q2 i o ho;rw [hb i g2];exact g1
 ·rcases yj ho with ⟨rfl,rfl⟩|⟨_,ho⟩
  ·exact ⟨by show σ.n<σ.n+1;omega,fun j hj=>by cases hj⟩
  ·obtain ⟨_,g2,g3⟩:=q2 i o ho;exact⟨by show i<σ.n+1;omega,g3⟩
theorem Den.nlg(r:Rep α)(T:TypeId){x:Bool}{l:List LV}(d k:Nat)(h:aget σ.sl d=some (.v ⟨x,l⟩))(hk:l[k]? =some (lV (.slice none 0 0)))(hd:Den K C σ β s e):Den K C ⟨(d,.v ⟨x,l.set k (lH σ.n)⟩)::σ.sl,(σ.n,ROW r T [])::σ.ob,σ.n+1⟩ (upB β σ.n (.slice none 0 0)) s e:=by
 have hb:∀i,i<σ.n→upB β σ.n (.slice none 0 0) i=β i:=fun i hi=>y7u (by omega);refine hd.nl r T (sl:=some (d,.v ⟨x,l.set k (lH σ.n)⟩)) (ob:=none) (fun d' y e=>?_) (fun _ _ e=>by cases e);cases e;have hr:=hd.fs _ _ h;obtain⟨v,g1,g2⟩:=hd.sl _ _ h;refine⟨⟨v,g1,?_⟩,ybF k hr⟩
 match x,l,g2 with
 | true,l,⟨vs,g,e⟩=>exact⟨vs,All2.nl (r:=r) (T:=T) hb k hk hr g,e⟩
 | false,[y],g=>
  match k,hk with
  | 0,hk=>cases hk;exact⟨y7J.symm▸g.1,by rw [g.1];rfl⟩
  | k+1,hk=>simp at hk
theorem Den.nlb(r:Rep α)(T:TypeId){l:List LV}(i k:Nat)(h:aget σ.ob i=some (.bx T' l))(hk:l[k]? =some (lV (.slice none 0 0)))(hd:Den K C σ β s e):Den K C ⟨σ.sl,(σ.n,ROW r T [])::(i,.bx T' (l.set k (lH σ.n)))::σ.ob,σ.n+1⟩ (upB β σ.n (.slice none 0 0)) s e:=by
 have hb:∀i,i<σ.n→upB β σ.n (.slice none 0 0) i=β i:=fun i hi=>y7u (by omega);refine hd.nl r T (sl:=none) (ob:=some (i,.bx T' (l.set k (lH σ.n)))) (fun _ _ e=>by cases e) (fun i' o e=>?_);cases e;obtain⟨g1,hr⟩:=hd.fo _ _ h;obtain⟨b,vs,g2,g3,g4⟩:=hd.ob _ _ h;exact⟨⟨b,vs,g2,g3,All2.nl (r:=r) (T:=T) hb k hk hr g4⟩,g1,ybF k hr⟩
end
section
variable{K:Kx}{C:Cx}{Φ:Fr}{P:Program}{Q:Exit→Act→World→Prop}{n:Nat}{ops:Array Oper}{os:List Oper}{σ:Sx}{c:Code}{z:Exit}{x y:LV}
theorem V.cnt{x:Bool}{l l':List LV}(d:Nat)(h:aget σ.sl d=some (.v ⟨x,l⟩))(hc:CnvL l l')(hr:ltA σ.n (refsL l')=true)(h2:V K C Φ P Q n ops os ⟨(d,.v ⟨x,l'⟩)::σ.sl,σ.ob,σ.n⟩):V K C Φ P Q n ops os σ:=fun β s e hd=>h2 β s e (hd.cnt d h hc hr)
theorem WE.cnt{x:Bool}{l l':List LV}(d:Nat)(h:aget σ.sl d=some (.v ⟨x,l⟩))(hc:CnvL l l')(hr:ltA σ.n (refsL l')=true)(h2:WE K C Φ P Q n c ⟨(d,.v ⟨x,l'⟩)::σ.sl,σ.ob,σ.n⟩):WE K C Φ P Q n c σ:=fun β s e hd=>h2 β s e (hd.cnt d h hc hr)
theorem WE.cno{T:TypeId}{l l':List LV}(i:Nat)(h:aget σ.ob i=some (.bx T l))(hc:CnvL l l')(hr:ltA σ.n (refsL l')=true)(h2:WE K C Φ P Q n c ⟨σ.sl,(i,.bx T l')::σ.ob,σ.n⟩):WE K C Φ P Q n c σ:=fun β s e hd=>h2 β s e (hd.cno i l' h hc hr)
theorem WE.nlg(r:Rep α)(T:TypeId){x:Bool}{l:List LV}(d k:Nat)(h:aget σ.sl d=some (.v ⟨x,l⟩))(hk:l[k]? =some (lV (.slice none 0 0)))(h2:WE K C Φ P Q n c ⟨(d,.v ⟨x,l.set k (lH σ.n)⟩)::σ.sl,(σ.n,ROW r T [])::σ.ob,σ.n+1⟩):WE K C Φ P Q n c σ:=fun β s e hd=>h2 _ s e (hd.nlg r T d k h hk)
theorem WE.nlb(r:Rep α)(T:TypeId){l:List LV}(i k:Nat)(h:aget σ.ob i=some (.bx T' l))(hk:l[k]? =some (lV (.slice none 0 0)))(h2:WE K C Φ P Q n c ⟨σ.sl,(σ.n,ROW r T [])::(i,.bx T' (l.set k (lH σ.n)))::σ.ob,σ.n+1⟩):WE K C Φ P Q n c σ:=fun β s e hd=>h2 _ s e (hd.nlb r T i k h hk)
theorem WX.cnt{x:Bool}{l l':List LV}(d:Nat)(h:aget σ.sl d=some (.v ⟨x,l⟩))(hc:CnvL l l')(hr:ltA σ.n (refsL l')=true)(h2:WX K C Φ Q n z ⟨(d,.v ⟨x,l'⟩)::σ.sl,σ.ob,σ.n⟩):WX K C Φ Q n z σ:=fun β s e hd=>h2 β s e (hd.cnt d h hc hr)
theorem WX.cno{T:TypeId}{l l':List LV}(i:Nat)(h:aget σ.ob i=some (.bx T l))(hc:CnvL l l')(hr:ltA σ.n (refsL l')=true)(h2:WX K C Φ Q n z ⟨σ.sl,(i,.bx T l')::σ.ob,σ.n⟩):WX K C Φ Q n z σ:=fun β s e hd=>h2 β s e (hd.cno i l' h hc hr)
theorem WX.nlg(r:Rep α)(T:TypeId){x:Bool}{l:List LV}(d k:Nat)(h:aget σ.sl d=some (.v ⟨x,l⟩))(hk:l[k]? =some (lV (.slice none 0 0)))(h2:WX K C Φ Q n z ⟨(d,.v ⟨x,l.set k (lH σ.n)⟩)::σ.sl,(σ.n,ROW r T [])::σ.ob,σ.n+1⟩):WX K C Φ Q n z σ:=fun β s e hd=>h2 _ s e (hd.nlg r T d k h hk)
theorem WX.nlb(r:Rep α)(T:TypeId){l:List LV}(i k:Nat)(h:aget σ.ob i=some (.bx T' l))(hk:l[k]? =some (lV (.slice none 0 0)))(h2:WX K C Φ Q n z ⟨σ.sl,(σ.n,ROW r T [])::(i,.bx T' (l.set k (lH σ.n)))::σ.ob,σ.n+1⟩):WX K C Φ Q n z σ:=fun β s e hd=>h2 _ s e (hd.nlb r T i k h hk)
theorem fR{r:Rep α}{T:TypeId}{xs:List α}:∀q,ROW r T xs= .hp q→q.fz.refs= []:=fun q e=>by cases e;rfl
theorem fB{T:TypeId}{l:List LV}:∀q,Ob.bx T l= .hp q→q.fz.refs= []:=fun q e=>by cases e
abbrev lN :LV:=lV (.slice none 0 0)
theorem WE.cut1{z:Exit}(o:A)(F:A→Sx)(hj:WX K C Φ Q n z (F o))(h:(∀a,a=o→WX K C Φ Q n z (F a))→WE K C Φ P Q n c σ):WE K C Φ P Q n c σ:=h fun _ e=>e▸hj
theorem WE.cutU{z:Exit}(J:A→Prop)(F:A→Sx)(hj:∀a,J a→WX K C Φ Q n z (F a))(h:(∀a,J a→WX K C Φ Q n z (F a))→WE K C Φ P Q n c σ):WE K C Φ P Q n c σ:=h hj
theorem WE.join0(J:Prop)(F:Sx)(hy:J→WE K C Φ P Q n y' F)(h:(J→WX K C Φ (Exit.then (y'.wpIn Φ.f 2 P Q) Q) n .normal F)→WE K C Φ P (Exit.then (y'.wpIn Φ.f 2 P Q) Q) n x' σ):WE K C Φ P Q n (.seq x' y') σ:=WE.seq (h fun j=>WX.seqN (hy j))
theorem WE.join1(J:A→Prop)(F:A→Sx)(hy:∀a,J a→WE K C Φ P Q n y' (F a))(h:(∀a,J a→WX K C Φ (Exit.then (y'.wpIn Φ.f 2 P Q) Q) n .normal (F a))→WE K C Φ P (Exit.then (y'.wpIn Φ.f 2 P Q) Q) n x' σ):WE K C Φ P Q n (.seq x' y') σ:=WE.seq (h fun a j=>WX.seqN (hy a j))
theorem WE.join2{B:Type}(J:A→B→Prop)(F:A→B→Sx)(hy:∀a b,J a b→WE K C Φ P Q n y' (F a b))(h:(∀a b,J a b→WX K C Φ (Exit.then (y'.wpIn Φ.f 2 P Q) Q) n .normal (F a b))→WE K C Φ P (Exit.then (y'.wpIn Φ.f 2 P Q) Q) n x' σ):WE K C Φ P Q n (.seq x' y') σ:=WE.seq (h fun a b j=>WX.seqN (hy a b j))
theorem WE.join3{B D:Type}(J:A→B→D→Prop)(F:A→B→D→Sx)(hy:∀a b d,J a b d→WE K C Φ P Q n y' (F a b d))(h:(∀a b d,J a b d→WX K C Φ (Exit.then (y'.wpIn Φ.f 2 P Q) Q) n .normal (F a b d))→WE K C Φ P (Exit.then (y'.wpIn Φ.f 2 P Q) Q) n x' σ):WE K C Φ P Q n (.seq x' y') σ:=WE.seq (h fun a b d j=>WX.seqN (hy a b d j))
theorem WE.join4{B D G:Type}(J:A→B→D→G→Prop)(F:A→B→D→G→Sx)(hy:∀a b d g,J a b d g→WE K C Φ P Q n y' (F a b d g))(h:(∀a b d g,J a b d g→WX K C Φ (Exit.then (y'.wpIn Φ.f 2 P Q) Q) n .normal (F a b d g))→WE K C Φ P (Exit.then (y'.wpIn Φ.f 2 P Q) Q) n x' σ):WE K C Φ P Q n (.seq x' y') σ:=WE.seq (h fun a b d g j=>WX.seqN (hy a b d g j))
end
theorem CnvL.rf :∀{l:List LV},CnvL l l
 | []=> .n
 | _::_=> .c Cnv.rf CnvL.rf
def CnvA :List TV→List TV→Prop
 | [],[]=>True
 | x::xs,y::ys=>(x.g=y.g∧CnvL x.l y.l)∧CnvA xs ys
 | _,_=>False
theorem Lv.s{x:ByteArray}:Lv rStr x [lV (.string x)]:=fun _ _ _ h=>⟨_,[],⟨rfl,rfl⟩,rfl,h⟩
theorem Rv.s{x:ByteArray}:Rv rStr [lV (.string x)] x:=fun _ _ _ ⟨_,_,h,h2,e⟩=>by rw [e,h.1,show _= [] from h2];rfl
section
variable{K:Kx}{C:Cx}{P:Program}{n:Nat}{ops:Array Oper}{σ:Sx}{d i:Nat}{ty:TypeId}{pos:String}{af:Array Edge}{g:Option (Nat×Bool)}{β:Nat→Value}{s s':Sig}{e:List (Nat×Value)}
theorem CnvA.p :∀{l l':List TV} {vs:List Value},CnvA l l'→All3 β s l vs→All3 β s l' vs
 | [],[],_,_,h=>h
 | ⟨_,_⟩::_,⟨_,_⟩::_,_,⟨⟨e,h1⟩,h2⟩,⟨v,us,g1,g2,e2⟩=>by
  cases e;exact⟨v,us,h1.t g1,h2.p g2,e2⟩
 | [],_::_,_,h,_=>h.elim
 | _::_,[],_,h,_=>h.elim
theorem O.ca0c{f:FuncId}{xs:List Operand}{av ys:List TV}{c:Call}{r:SV}(hF:Fw P f ⟨0,[]⟩ av [] r [])(hcf:Cf P f)(hc:c.callee= .value (.func f))(hca:c.args=xs.toArray)(hg:Gu ops σ g)(hx:σ.evs xs=some ys)(hcv:CnvA ys av)(hr:r.refs= [])(hb:Nat.blt d n=true):Ox K C P n ops ⟨some d,.call c,ty,pos,af,g⟩ σ (F1 d r):=fun Φ Q os β s e hd k=>by
 obtain⟨vs,h1,h2⟩:=hd.evs hx;have hcall:=hF.is [] β s vs rfl (yNr _) (by simp) (by simp) (hcv.p h2) (fun i o h=>by simp at h);refine L.ca hcf hc hca (hd.gd hg) h1 hcall hb fun v s' m hp=>?_;obtain⟨β',_,g1,_⟩:=hp;have m':Mv No s s':=m.weak fun t ⟨i,hi,_⟩=>by cases hi
 exact k β s' _ (Aft.one m' (SV.mono (Le.refl _) (fun i hi=>by rw [hr] at hi;cases hi) g1))
end
section
variable{K:Kx}{C:Cx}{P:Program}{n:Nat}{ops:Array Oper}{σ:Sx}{d i:Nat}{ty:TypeId}{pos:String}{af:Array Edge}{g:Option (Nat×Bool)}{β:Nat→Value}{s s':Sig}{e:List (Nat×Value)}
/-! Operations that are left out. -/
theorem O.skip{op:Op}{j q:Nat}{b b':Bool}(h1:(ops[j]?).bind (·.dst)=some q)(h2:aget σ.sl q=some (VL (.bool b')))(hb:b'=!b)(hd:Nat.blt d n=true):Ox K C P n ops ⟨some d,op,ty,pos,af,some (j,b)⟩ σ (F1 d (.tp [])):=fun Φ Q os β s e hq k=>
 L.skip h1 (hq.evl (x:= .tmp q) h2) hb hd (k β s _ (Aft.one (Mv.refl _ _) ⟨[],rfl,rfl⟩))
theorem O.skipU{op:Op}{j q:Nat}{b:Bool}(h1:(ops[j]?).bind (·.dst)=some q)(h2:aget σ.sl q=some (.tp []))(hd:Nat.blt d n=true):Ox K C P n ops ⟨some d,op,ty,pos,af,some (j,b)⟩ σ (F1 d (.tp [])):=fun Φ Q os β s e hq k=>by
 obtain⟨v,h3,vs,h4,rfl⟩:=hq.sl _ _ h2;have:vs= []:=h4;subst this;exact L.skipU h1 h3 hd (k β s _ (Aft.one (Mv.refl _ _) ⟨[],rfl,rfl⟩))
theorem O.kn{o:Oper}{t b:Bool}(h:Ox K C P n ops o σ (F1 d (VL (.bool t))))(hc:t=b):Ox K C P n ops o σ (F1 d (VL (.bool b))):=hc▸h
/-! Maps. -/
variable{κ γ:Type}{kv:κ→Value}{r:Rep γ}
def lM{κ γ:Type}(kv:κ→Value)(r:Rep γ)(m:List (κ×γ)):LV:=⟨fun _ s v=>∃a c,v= .map a∧MapD kv r s a c m,[],none,none,fun _ hl ⟨a,c,e,h⟩=>⟨a,c,e,h.mono hl⟩,nofun,nofun,fun⟨_,_,e,_⟩=>by rw [e];rfl⟩
def MAP{κ γ:Type}(kv:κ→Value)(r:Rep γ)(T:TypeId)(m:List (κ×γ)):Ob:= .hp ⟨fun s t h=>∃a c,h= .map a∧MapO kv r s t T a c m,lM kv r m,
 fun mv ht h0 ⟨a,c,e,h⟩=>⟨a,c,e,h.mv mv ht h0⟩,fun hl hw ht ⟨a,c,e,h⟩=>⟨a,c,e,h.as hl hw ht⟩,fun⟨a,c,e,h⟩ _=>⟨a,c,e,h.p⟩⟩
theorem fM{κ γ:Type}{kv:κ→Value}{r:Rep γ}{T:TypeId}{m:List (κ×γ)}:∀q,MAP kv r T m= .hp q→q.fz.refs= []:=fun q e=>by cases e;rfl
theorem Lv.m{m:List (κ×γ)}:Lv (rM kv r) m [lM kv r m]:=fun _ _ _ ⟨a,c,e,h⟩=>⟨_,[],⟨a,c,rfl,h⟩,rfl,e⟩
theorem Rv.m{m:List (κ×γ)}:Rv (rM kv r) [lM kv r m] m:=fun _ _ _ ⟨_,_,⟨a,c,e',h⟩,h2,e⟩=>⟨a,c,by rw [e,e',show _= [] from h2],h⟩
theorem O.mk2{T:TypeId}(i:Nat)(hi:Nat.ble σ.n i=true)(hg:Gu ops σ g)(hb:Nat.blt d n=true):Ox K C P n ops ⟨some d,.makeMap T none,ty,pos,af,g⟩ σ (FN d i (lH i) (MAP kv r T [])):=fun Φ Q os β s e hd k=>
 L.mk2 (kv:=kv) (r:=r) (T:=T) (C.tg i) hb (hd.gd hg) fun a c s' m h5=>k _ s' _ (Aft.new hi m.no (lH_at rfl) ⟨a,c,rfl,h5⟩)
def Rm(K:Kx)(C:Cx)(σ:Sx)(x:Operand)(kv:κ→Value)(r:Rep γ)(m:List (κ×γ)):Prop:=∀β s e,Den K C σ β s e→∃a,Env.ev e x=some (.map a)∧MapA kv r s a m
theorem Rm.fr{x:Operand}{m:List (κ×γ)}(hx:σ.ev x=some (sL (lM kv r m))):Rm K C σ x kv r m:=fun _ _ _ hd=>by
 obtain⟨v,h1,a,c,rfl,h2⟩:=hd.evv hx;exact⟨a,h1,h2.any⟩
theorem Rm.ow{x:Operand}{T:TypeId}{m:List (κ×γ)}(hx:σ.ev x=some (sL (lH i)))(ho:aget σ.ob i=some (MAP kv r T m)):Rm K C σ x kv r m:=fun β s e hd=>by
 obtain⟨v,h1,h2,_⟩:=hd.evv hx;obtain⟨a,c,h3,h4⟩:=hd.ob i _ ho;exact⟨a,by rw [h1,h2,h3],h4.any⟩
def Ky(K:Kx)(C:Cx)(σ:Sx)(y:Operand)(v:Value):Prop:=∀β s e,Den K C σ β s e→Env.ev e y=some v
theorem Ky.o{v:Value}(h:σ.ev y=some (VL v)):Ky K C σ y v:=fun _ _ _ hd=>hd.evl h
theorem Ky.a{l:List LV}{vs:List Value}(h:σ.ev y=some (AG l))(hl:l=vs.map lV):Ky K C σ y (.agg vs.toArray):=fun β s e hd=>by
 have key:∀{us:List Value} {ws:List Value},All2 β s (us.map lV) ws→ws=us:=by
  intro us
  induction us with
  | nil=>intro ws h;exact h
  | cons u us ih=>intro ws h;obtain⟨v,ws',⟨h1,_⟩,h2,e⟩:=h;rw [e,h1,ih h2]
 subst hl;obtain⟨_,h1,ws,h2,rfl⟩:=hd.ev h;rw [key h2] at h1;exact h1
variable [BEq κ]
theorem O.mi{T:TypeId}{x:Operand}{kd:IntKind}{m:List (κ×Int)}{k:κ}{zi:Int}(hT:Md P T kt et kv (rK kd) zi zv)(hg:Gu ops σ g)(hx:Rm K C σ x kv (rK kd) m)(hy:Ky K C σ y (kv k))(hb:Nat.blt d n=true):Ox K C P n ops ⟨some d,.lookup T x y false,ty,pos,af,g⟩ σ (F1 d (VL (.int kd ((kget m k).getD zi)))):=
 Ox.pure fun _ _ _ β s e hd q=>by
  obtain⟨a,h1,h2⟩:=hx β s e hd;exact L.mi hT h2 (hd.gd hg) h1 (hy β s e hd) hb (q _ ⟨rfl,rfl⟩)
theorem O.mi2{T:TypeId}{x:Operand}{kd:IntKind}{m:List (κ×Int)}{k:κ}{zi:Int}(hT:Md P T kt et kv (rK kd) zi zv)(hg:Gu ops σ g)(hx:Rm K C σ x kv (rK kd) m)(hy:Ky K C σ y (kv k))(hb:Nat.blt d n=true):Ox K C P n ops ⟨some d,.lookup T x y true,ty,pos,af,g⟩ σ (F1 d (.tp [⟨false,[lV (.int kd ((kget m k).getD zi))]⟩,⟨false,[lV (.bool (kget m k).isSome)]⟩])):=
 Ox.pure fun _ _ _ β s e hd q=>by
  obtain⟨a,h1,h2⟩:=hx β s e hd;exact L.mi2 hT h2 (hd.gd hg) h1 (hy β s e hd) hb (q _ ⟨_,⟨_,_,⟨rfl,rfl⟩,⟨_,_,⟨rfl,rfl⟩,rfl,rfl⟩,rfl⟩,rfl⟩)
theorem O.mu{T:TypeId}{x q:Operand}{m:List (κ×γ)}{k:κ}{v z:γ}{lq:LV}(hT:Md P T kt et kv r z zv)(hkk:∀k k':κ,(k==k')=true→k=k')(hg:Gu ops σ g)(hx:σ.ev x=some (sL (lH i)))(ho:aget σ.ob i=some (MAP kv r T' m))(hy:Ky K C σ y (kv k))(hq:σ.ev q=some (sL lq))(hR:Rv r [lq] v):Ox K C P n ops ⟨none,.mapUpdate T x y q,ty,pos,af,g⟩ σ (FO i (MAP kv r T' (kput m k v))):=fun Φ Q os β s e hd k0=>by
 obtain⟨u,h1,h2,_⟩:=hd.evv hx;obtain⟨a,c,h3,h4⟩:=hd.ob i _ ho;obtain⟨w,h5,h6⟩:=hd.evv hq;exact L.mu hT h4 (hR β s _ ⟨w,[],h6,rfl,rfl⟩) (hd.ok.tpos i) hkk (hd.gd hg) (by rw [h1,h2,h3]) (hy β s e hd) h5 fun s' m' h7=>k0 _ s' _ (Aft.old m' ⟨a,c,h3,h7⟩)
theorem O.ins{T:TypeId}{x q:Operand}{m:List (κ×γ)}{k:κ}{v z:γ}{lq:LV}(hT:Md P T kt et kv r z zv)(hkk:∀k k':κ,(k==k')=true→k=k')(hg:Gu ops σ g)(hx:σ.ev x=some (sL (lH i)))(ho:aget σ.ob i=some (MAP kv r T' m))(hy:Ky K C σ y (kv k))(hq:σ.ev q=some (sL lq))(hR:Rv r [lq] v):Ox K C P n ops ⟨none,.insert T x y q,ty,pos,af,g⟩ σ (FO i (MAP kv r T' (kput m k v))):=fun Φ Q os β s e hd k0=>by
 obtain⟨u,h1,h2,_⟩:=hd.evv hx;obtain⟨a,c,h3,h4⟩:=hd.ob i _ ho;obtain⟨w,h5,h6⟩:=hd.evv hq;exact L.ins hT h4 (hR β s _ ⟨w,[],h6,rfl,rfl⟩) (hd.ok.tpos i) hkk (hd.gd hg) (by rw [h1,h2,h3]) (hy β s e hd) h5 fun s' m' h7=>k0 _ s' _ (Aft.old m' ⟨a,c,h3,h7⟩)
/-! nil compared. -/
def lNl{α:Type}(xs:List α):LV:=⟨fun _ _ v=>∃b,v= .bool b∧(b=true→xs= []),[],none,none,fun _ _ h=>h,nofun,nofun,fun⟨_,e,_⟩=>by rw [e];rfl⟩
theorem O.nil?{r:Rep α}{xs:List α}{x:Operand}{T:TypeId}(hu:P.underlying T=some (.slice U))(hg:Gu ops σ g)(hx:σ.ev x=some (sL (lF r xs)))(hy:σ.ev y=some (VL (.slice none 0 0)))(hb:Nat.blt d n=true):Ox K C P n ops ⟨some d,.binOp .eql T x y T',ty,pos,af,g⟩ σ (F1 d (sL (lNl xs))):=
 Ox.pure fun _ _ _ β s e hd q=>by
  obtain⟨v,h1,a,c,rfl,h2⟩:=hd.evv hx;refine L.nil? hu (hd.gd hg) h1 (hd.evl hy) hb (q _ ⟨_,rfl,fun h=>?_⟩);cases a with
  | none=>
   obtain⟨cs,h3,_⟩:=h2;exact yLz (h3.srcs.1 rfl).1
  | some a=>cases h
theorem WE.cN{xs:List α}{Q:Exit→Act→World→Prop}{c:Operand}{x y:Code}(hx:σ.ev c=some (sL (lNl xs)))(h1:xs= []→WE K C Φ P Q n x σ)(h2:WE K C Φ P Q n y σ):WE K C Φ P Q n (.cond c x y) σ:=fun β s e hd=>by
 obtain⟨v,g1,b,rfl,g2⟩:=hd.evv hx;cases b with
 | true=>exact E.cT g1 rfl (h1 (g2 rfl) β s e hd)
 | false=>exact E.cF g1 rfl (h2 β s e hd)
/-! Pointers as data. -/
def lK{α:Type}(r:Rep α)(T:TypeId)(x:Option α):LV:=⟨fun _ s v=>PtO r T s v x,[],none,none,fun _ hl h=>h.mono hl,nofun,nofun,fun h=>h.one⟩
theorem Cnv.pn{r:Rep α}{T:TypeId}:Cnv (lV (.pointer none)) (lK r T (none:Option α)):=fun _ _ _ h=>h.1
theorem Cnv.pk{r:Rep α}{T:TypeId}{l:List LV}{y:α}(h:Rv r l y):Cnv (lQ T l 0) (lK r T (some y)):=fun β s v ⟨b,vs,h1,h2,e⟩=>⟨b,vs,e,h1,h β s _ h2⟩
theorem Cnv.pd{r:Rep α}{T:TypeId}{l:List LV}{x:Option α}{y:α}(hx:x=some y)(h:Lv r y l):Cnv (lK r T x) (lQ T l 0):=fun β s v g=>by
 obtain⟨b,ds,e,h1,h2⟩:=PtO.some g hx;exact⟨b,ds,h1,h β s _ h2,e⟩
/-! A function over what changes; lent to a call. -/
def lZ(f:FuncId)(l:List LV):LV:=⟨fun β s v=>∃vs,All2 β s l vs∧v= .func (.func f) #[] vs.toArray,refsL l,none,none,fun hb hl ⟨vs,h,e⟩=>⟨vs,h.mono hl hb,e⟩,nofun,nofun,fun⟨_,_,e⟩=>by rw [e];rfl⟩
theorem All2.of3{l:List TV}:∀{vs:List Value},All3 β s l vs→∀{l':List LV},l=l'.map (fun x=>⟨false,[x]⟩)→All2 β s l' vs:=by
 induction l with
 | nil=>intro vs h l' e;cases l' with | nil=>exact h | cons=>cases e
 | cons x l ih=>
  intro vs h l' e;cases l' with
  | nil=>cases e
  | cons y l'=>
   cases e;obtain⟨v,us,h1,h2,e2⟩:=h;exact⟨v,us,h1,ih h2 rfl,e2⟩
theorem O.mz{f:FuncId}{ys:List Operand}{l:List LV}(hg:Gu ops σ g)(hy:σ.evs ys=some (l.map fun x=>⟨false,[x]⟩))(hb:Nat.blt d n=true):Ox K C P n ops ⟨some d,.makeFunc (.func f) #[] ys.toArray,ty,pos,af,g⟩ σ (F1 d (sL (lZ f l))):=
 Ox.pure fun _ _ _ β s e hd k=>by
  obtain⟨vs,h1,h2⟩:=hd.evs hy;exact L.mf (xs:=[]) (hd.gd hg) rfl h1 hb (k _ ⟨vs,All2.of3 h2 rfl,rfl⟩)
def Ln(K:Kx)(C:Cx)(σ:Sx)(x y:LV):Prop:=∀β s e,Den K C σ β s e→∀v,x.p β s v→y.p β ⟨s.w,fun _=>0⟩ v
def LnL(K:Kx)(C:Cx)(σ:Sx):List LV→List LV→Prop
 | [],[]=>True
 | x::xs,y::ys=>Ln K C σ x y∧LnL K C σ xs ys
 | _,_=>False
def LnA(K:Kx)(C:Cx)(σ:Sx):List TV→List TV→Prop
 | [],[]=>True
 | x::xs,y::ys=>(x.g=y.g∧LnL K C σ x.l y.l)∧LnA K C σ xs ys
 | _,_=>False
theorem ye9{s:Sig}:Le s ⟨s.w,fun _=>0⟩:=⟨yNr _,fun _ _ _=>⟨rfl,rfl⟩⟩
theorem Ln.rf{x:LV}:Ln K C σ x x:=fun _ _ _ _ _ h=>x.mono (fun _ _=>rfl) ye9 h
theorem Ln.cv{x y z:LV}(h:Ln K C σ x y)(h2:Cnv y z):Ln K C σ x z:=fun β s e hd v g=>h2 _ _ _ (h β s e hd v g)
theorem LnL.rf :∀{l:List LV},LnL K C σ l l
 | []=>trivial
 | _::_=>⟨Ln.rf,LnL.rf⟩
theorem Ln.h{i:Nat}{o:HO}(ho:aget σ.ob i=some (.hp o)):Ln K C σ (lH i) o.fz:=fun β s e hd v h=>by
 have:=Ob.as (o:= .hp o) (t':=0) ye9 rfl (fun _ _=>rfl) (fun _ _=>rfl) (hd.ob _ _ ho);rw [h.1];exact o.fzp this β
theorem LnL.p(hd:Den K C σ β s e):∀{l l':List LV} {vs:List Value},LnL K C σ l l'→All2 β s l vs→All2 β ⟨s.w,fun _=>0⟩ l' vs
 | [],[],_,_,h=>h
 | _::_,_::_,_,⟨h1,h2⟩,⟨v,us,g1,g2,e⟩=>⟨v,us,h1 _ _ _ hd _ g1,h2.p hd g2,e⟩
 | [],_::_,_,h,_=>h.elim
 | _::_,[],_,h,_=>h.elim
theorem Ln.q{i:Nat}{T:TypeId}{l l':List LV}(ho:aget σ.ob i=some (.bx T l))(h:LnL K C σ l l'):Ln K C σ (lP i off) (lQ T l' off):=fun β s e hd v ⟨b,h1,h2⟩=>by
 obtain⟨b',vs,h3,h4,h5⟩:=hd.ob _ _ ho;rw [h1] at h3;simp only [Value.pointer.injEq,yIj,Addr.mk.injEq,and_true] at h3;subst h3;exact⟨b,vs,⟨h4.heap,rfl⟩,h.p hd h5,h2⟩
theorem All3.of2 :∀{l:List LV} {vs:List Value},All2 β s l vs→All3 β s (l.map fun x=>⟨false,[x]⟩) vs
 | [],_,h=>h
 | _::_,_,⟨v,us,h1,h2,e⟩=>⟨v,us,h1,All3.of2 h2,e⟩
theorem Ln.z{B:Type}{args:A→List TV}{res:B→TV}{m:A→Option B}{f:FuncId}{l l':List LV}(hcf:Cf P f)(hF:∀x r,m x=some r→Fw P f ⟨0,[]⟩ (args x++l'.map fun x=>⟨false,[x]⟩) [] (.v (res r)) [])(hr:∀r,refsL (res r).l= [])(hc:refsT (l'.map fun x=>⟨false,[x]⟩)= [])(h:LnL K C σ l l'):Ln K C σ (lZ f l) (lW P args res m):=fun β s e hd v ⟨vs,h1,h2⟩=>by
 rw [h2];exact FVw.of hcf hF hr hc (All3.of2 (h.p hd h1))
theorem LnA.p(hd:Den K C σ β s e):∀{l l':List TV} {vs:List Value},LnA K C σ l l'→All3 β s l vs→All3 β ⟨s.w,fun _=>0⟩ l' vs
 | [],[],_,_,h=>h
 | ⟨false,[_]⟩::_,⟨false,[_]⟩::_,_,⟨⟨_,h1,_⟩,h2⟩,⟨v,us,g1,g2,e2⟩=>⟨v,us,h1 _ _ _ hd _ g1,h2.p hd g2,e2⟩
 | ⟨true,_⟩::_,⟨true,_⟩::_,_,⟨⟨_,h1⟩,h2⟩,⟨v,us,⟨ws,g1,e1⟩,g2,e2⟩=>⟨v,us,⟨ws,h1.p hd g1,e1⟩,h2.p hd g2,e2⟩
 | ⟨true,_⟩::_,⟨false,_⟩::_,_,⟨⟨h,_⟩,_⟩,_=>by cases h
 | ⟨false,_⟩::_,⟨true,_⟩::_,_,⟨⟨h,_⟩,_⟩,_=>by cases h
 | ⟨false,[]⟩::_,_::_,_,_,⟨_,_,g,_⟩=>g.elim
 | ⟨false,_::_::_⟩::_,_::_,_,_,⟨_,_,g,_⟩=>g.elim
 | ⟨false,[_]⟩::_,⟨false,[]⟩::_,_,⟨⟨_,h⟩,_⟩,_=>h.elim
 | ⟨false,[_]⟩::_,⟨false,_::_::_⟩::_,_,⟨⟨_,_,h⟩,_⟩,_=>h.elim
 | [],_::_,_,h,_=>h.elim
 | _::_,[],_,h,_=>h.elim
theorem O.caZ{f:FuncId}{xs:List Operand}{av ys:List TV}{c:Call}{r:SV}(hF:Fw P f ⟨0,[]⟩ av [] r [])(hcf:Cf P f)(hc:c.callee= .value (.func f))(hca:c.args=xs.toArray)(hg:Gu ops σ g)(hx:σ.evs xs=some ys)(hcv:LnA K C σ ys av)(hr:flatS r)(hb:Nat.blt d n=true):Ox K C P n ops ⟨some d,.call c,ty,pos,af,g⟩ σ (F1 d r):=fun Φ Q os β s e hd k=>by
 obtain⟨vs,h1,h2⟩:=hd.evs hx;have hcall:=hF.is [] β ⟨s.w,fun _=>0⟩ vs rfl (yNr _) (by simp) (by simp) (hcv.p hd h2) (fun i o h=>by simp at h);have h4:Calls P f vs.toArray s.w (RetS No s fun v _=>∃β s,r.p β s v):=Calls.lendG (s0:=⟨s.w,fun _=>0⟩) rfl (Calls.mono hcall fun en w' ⟨v,s',a1,a2,a3,a4⟩=>⟨v,s',a1,a2,a3.weak fun t ⟨i,hi,_⟩=>(by cases hi),a4⟩) fun v s' ⟨β',_,q,_⟩=>⟨β',s',q⟩;exact L.ca hcf hc hca (hd.gd hg) h1 h4 hb fun v s' m ⟨β',s2,q⟩=>k β s' _ (Aft.one m (hr _ _ _ _ _ q))
theorem O.fvZ{B:Type}{args:A→List TV}{res:B→TV}{m:A→Option B}{x:Operand}{xs:List Operand}{ys:List TV}{c:Call}{y:A}{r:B}(hx:σ.ev x=some (sL (lW P args res m)))(hc:c.callee= .value x)(hca:c.args=xs.toArray)(hg:Gu ops σ g)(hxs:σ.evs xs=some ys)(hcv:LnA K C σ ys (args y))(hm:m y=some r)(hr:flatS (.v (res r)))(hb:Nat.blt d n=true):Ox K C P n ops ⟨some d,.call c,ty,pos,af,g⟩ σ (F1 d (.v (res r))):=fun Φ Q os β s e hd k=>by
 obtain⟨v,h1,f,fst,cap,rfl,hcf,h2⟩:=hd.evv hx;obtain⟨vs,h3,h4⟩:=hd.evs hxs;have h5:=h2 y r hm ⟨s.w,fun _=>0⟩ ye9 β vs (hcv.p hd h4);have h6:Calls P f (fst++vs.toArray++cap) s.w (RetS No s fun v _=>∃β s,TV.p β s v (res r)):=Calls.lendG (s0:=⟨s.w,fun _=>0⟩) rfl h5 fun v s' h=>⟨β,s',h β⟩;exact L.fvc hcf hc hca (hd.gd hg) h1 h3 h6 hb fun v' s' m' ⟨β',s2,q⟩=>k β s' _ (Aft.one m' (hr _ _ _ _ _ q))
theorem Cnv.q{T:TypeId}{l l':List LV}{o:Nat}(h:CnvL l l'):Cnv (lQ T l o) (lQ T l' o):=fun _ _ _ ⟨b,vs,h1,h2,e⟩=>⟨b,vs,h1,h.p h2,e⟩
theorem O.b0O{r:Rep α}{T E m:Nat}{z:List Value}(i:Nat)(hi:Nat.ble σ.n i=true)(hB:Bs P T E m z)(hm:Nat.ble m 16777216=true)(hg:Gu ops σ g)(hb:Nat.blt d n=true):Ox K C P n ops ⟨some d,.buildSlice T 0 #[],ty,pos,af,g⟩ σ (FN d i (lH i) (ROW r E ([]:List α))):=fun Φ Q os β s e hd q=>
 L.bs0 (C.tg i) hB (yNl hm) (hd.gd hg) hb fun b s' m' h5=>q _ s' _ (Aft.new (h:= .slice (some ⟨b,0,none⟩) 0 0) hi m'.no (lH_at rfl) ⟨_,_,rfl,Bx.row (xs:=[]) h5 rfl (by simp)⟩)
theorem O.cac{f:FuncId}{xs:List Operand}{S':List Nat}{av ys:List TV}{ob':List Ob}{c:Call}{r r':SV}(ν:List Nat)(l:List (Nat×Ob))(nx:Option Nat)(hF:Fw P f ⟨0,S'⟩ av [] r ob')(hcf:Cf P f)(hc:c.callee= .value (.func f))(hca:c.args=xs.toArray)(hg:Gu ops σ g)(hx:σ.evs xs=some ys)
  (hok:y9L ⟨0,S'⟩ σ.n ν l ob' r=true) (hcv:CnvA ys av) (has:refsT av= []) (hO:OutL (fun i=>ν.getD i 0) ob' l) (hr:∀β s v,r.p (fun i=>β (ν.getD i 0)) s v→r'.p β s v) (hb:Nat.blt d n=true):
  Ox K C P n ops ⟨some d,.call c,ty,pos,af,g⟩ σ (callE (some (d,r')) ν l nx):=fun Φ Q os β s e hd k=>by
 obtain⟨vs,h1,h2⟩:=hd.evs hx;refine L.ca hcf hc hca (hd.gd hg) h1 (yfn hd hF hok (fun _ _ _ h=>(hcv.p h).mono (Le.refl _) fun i hi=>by rw [has] at hi;cases hi) trivial rfl h2) hb fun v s' m hp=>?_;obtain⟨β'',g1,g2,g2',g3,g4⟩:=yde (nx:=nx) hd.ok hok hO m hp;exact k β'' s' _ ⟨g2,g2',g3,fun d' hn=>Env.get_put fun e=>hn r' (by rw [e];rfl),fun d' x' ee=>(by cases ee;exact⟨v,by simp [Env.get],hr _ _ _ g1⟩),g4⟩
theorem Ln.hr{i:Nat}{r:Rep α}{T:TypeId}{xs:List α}(ho:aget σ.ob i=some (ROW r T xs)):Ln K C σ (lH i) (lF r xs):=Ln.h (o:=⟨_,lF r xs,_,_,_⟩) ho
end
abbrev oT :Bool:=true
abbrev oF :Bool:=false
def cD(f:Eff)(l:List (Nat×SV)):List (Nat×SV):=match f.dst with
 | some p=>p::l
 | none=>l
def muM :List Bool→List Eff→List (Nat×SV)→List (Nat×SV)
 | [],_,l=>l
 | b::m,fs,l=>match fs with
  | []=>l
  | f::fs=>cond b (cD f (muM m fs l)) (muM m fs l)
def muO :List Bool→List Eff→List (Nat×Ob)→List (Nat×Ob)
 | [],_,l=>l
 | b::m,fs,l=>match fs with
  | []=>l
  | f::fs=>cond b (f.ob++muO m fs l) (muO m fs l)
def muK :List Bool→List Eff→Nat→Nat
 | [],_,n=>n
 | b::m,fs,n=>match fs with
  | []=>n
  | f::fs=>cond b (Nat.max (f.n n) (muK m fs n)) (muK m fs n)
def ixs :List Bool→Nat→List Nat
 | [],_=> []
 | b::m,j=>cond b (j::ixs m (j+1)) (ixs m (j+1))
theorem yaj{all:List Eff}{l:List (Nat×SV)}:∀{m:List Bool} {j:Nat} {fs:List Eff},(∀i,all.getD (j+i) noE=fs.getD i noE)→muA all (ixs m j) l=muM m fs l
 | [],_,_,_=>rfl
 | b::m,j,[],h=>by
  have ih:=yaj (all:=all) (l:=l) (m:=m) (j:=j+1) (fs:=[]) fun i=>by
   have:=h (i+1);rw [show j+(i+1)=j+1+i by omega] at this;simpa using this
  have h0:=h 0;have e:muM m [] l=l:=by cases m <;> rfl
  rw [e] at ih;cases b
  ·exact ih
  ·simp only [ixs,cond_true,muA,muM];rw [Nat.add_zero] at h0;rw [h0];exact ih
 | b::m,j,f::fs,h=>by
  have ih:=yaj (all:=all) (l:=l) (m:=m) (j:=j+1) (fs:=fs) fun i=>by
   have:=h (i+1);rw [show j+(i+1)=j+1+i by omega] at this;simpa using this
  have h0:=h 0;cases b
  ·exact ih
  ·simp only [ixs,cond_true,muA,muM];rw [Nat.add_zero] at h0;rw [h0,ih];rfl
theorem yb7{A:List (List Nat)}{fs:List Eff}{k j:Nat}{l:List (Nat×Ob)}:∀{q:List (Nat×Ob)},(∀p,p∈q→okJ A fs N k j p.1=true)→muC A fs N k j q l=q++l
 | [],_=>rfl
 | p::q,h=>by
  simp only [muC];rw [h p (.head _),yb7 fun p hp=>h p (.tail _ hp)];rfl
theorem ygk{A:List (List Nat)}{fs:List Eff}{k:Nat}:∀{q:List (Nat×Ob)},(∀p,p∈q→okO A fs N k p.1=true)→muF A fs N k q=q
 | [],_=>rfl
 | p::q,h=>by
  simp only [muF];rw [h p (.head _),ygk fun p hp=>h p (.tail _ hp)];rfl
theorem ygl{A:List (List Nat)}{fs:List Eff}{k:Nat}:∀{q:List (Nat×SV)},(∀p,p∈q→okD A fs N k p.1=true)→muB A fs N k q=q
 | [],_=>rfl
 | p::q,h=>by
  simp only [muB];rw [h p (.head _),ygl fun p hp=>h p (.tail _ hp)];rfl
theorem yea{A:List (List Nat)}{k:Nat}{all:List Eff}{l:List (Nat×Ob)}(hj:∀j p,p∈(all.getD j noE).ob→okJ A all N k j p.1=true):∀{m:List Bool} {j:Nat} {fs:List Eff},(∀i,all.getD (j+i) noE=fs.getD i noE)→muE A all N k (ixs m j) l=muO m fs l
 | [],_,_,_=>rfl
 | b::m,j,[],h=>by
  have ih:=yea hj (l:=l) (m:=m) (j:=j+1) (fs:=[]) fun i=>by
   have:=h (i+1);rw [show j+(i+1)=j+1+i by omega] at this;simpa using this
  have h0:=h 0;have e:muO m [] l=l:=by cases m <;> rfl
  rw [e] at ih;cases b
  ·exact ih
  ·simp only [ixs,cond_true,muE,muO];rw [yb7 (hj j)];rw [Nat.add_zero] at h0;rw [h0,ih];rfl
 | b::m,j,f::fs,h=>by
  have ih:=yea hj (l:=l) (m:=m) (j:=j+1) (fs:=fs) fun i=>by
   have:=h (i+1);rw [show j+(i+1)=j+1+i by omega] at this;simpa using this
  have h0:=h 0;cases b
  ·exact ih
  ·simp only [ixs,cond_true,muE,muO];rw [yb7 (hj j)];rw [Nat.add_zero] at h0;rw [h0,ih];rfl
theorem y8k{all:List Eff}{n:Nat}:∀{m:List Bool} {j:Nat} {fs:List Eff},(∀i,all.getD (j+i) noE=fs.getD i noE)→muN all n (ixs m j)=muK m fs n
 | [],_,_,_=>rfl
 | b::m,j,[],h=>by
  have ih:=y8k (all:=all) (n:=n) (m:=m) (j:=j+1) (fs:=[]) fun i=>by
   have:=h (i+1);rw [show j+(i+1)=j+1+i by omega] at this;simpa using this
  have h0:=h 0;have e:muK m [] n=n:=by cases m <;> rfl
  rw [e] at ih;cases b
  ·exact ih
  ·simp only [ixs,cond_true,muN,muK];rw [Nat.add_zero] at h0;rw [h0,ih];exact Nat.max_self n
 | b::m,j,f::fs,h=>by
  have ih:=y8k (all:=all) (n:=n) (m:=m) (j:=j+1) (fs:=fs) fun i=>by
   have:=h (i+1);rw [show j+(i+1)=j+1+i by omega] at this;simpa using this
  have h0:=h 0;cases b
  ·exact ih
  ·simp only [ixs,cond_true,muN,muK];rw [Nat.add_zero] at h0;rw [h0,ih];rfl
def sgl :List Eff→Bool
 | []=>true
 | f::fs=>(f.ob.all fun p=>fs.all fun g=>!y5O g p.1)&&sgl fs
def smp(fs:List Eff)(σ:Sx):Bool:=(σ.sl.all fun p=>fs.all fun f=>!dstIs f p.1)&&((σ.ob.all fun p=>fs.all fun f=>!y5O f p.1)&&sgl fs)
theorem ydg{q:Eff→Bool}{fs:List Eff}(h:fs.all q=true)(h0:q noE=true)(m:Nat):q (fs.getD m noE)=true:=by
 by_cases hm:m<fs.length
 ·rw [yGd,yGe hm];exact yAt.1 h _ (yGm hm)
 ·rw [yGd,yGn (by omega)];exact h0
theorem yfo{p:Nat×Ob}:∀{fs:List Eff} {j m:Nat},sgl fs=true→j<m→p∈(fs.getD j noE).ob→y5O (fs.getD m noE) p.1=false
 | [],j,m,_,_,_=>rfl
 | f::fs,0,m+1,h,_,hp=>by
  simp only [sgl,yAe] at h;have:=ydg (yAt.1 h.1 p hp) rfl m;simpa using this
 | f::fs,j+1,m+1,h,hl,hp=>by
  simp only [sgl,yAe] at h;have:=yfo (fs:=fs) (j:=j) (m:=m) h.2 (by omega) (by simpa using hp);simpa using this
theorem yk8{p:Nat×Ob}{fs:List Eff}{j m:Nat}(h:sgl fs=true)(hne:m≠j)(hp:p∈(fs.getD j noE).ob):y5O (fs.getD m noE) p.1=false:=by
 rcases Nat.lt_or_ge j m with hl|hl
 ·exact yfo h hl hp
 ·cases h0:y5O (fs.getD m noE) p.1 with
  | false=>rfl
  | true=>
   obtain⟨q,hq,hq2⟩:=List.any_eq_true.1 h0;have:=yfo h (show m<j by omega) hq;rw [yNb hq2] at this;rw [yab (o:=p.2) (i:=p.1) hp] at this;cases this
section
variable{K:Kx}{C:Cx}{P:Program}{Φ:Fr}{Q:Exit→Act→World→Prop}{n:Nat}{σ:Sx}{fs:List Eff}
theorem yhG{A:List (List Nat)}{k:Nat}{m:List Bool}(h:smp fs σ=true):mu A fs N σ k (ixs m 0)=⟨muM m fs σ.sl,muO m fs σ.ob,muK m fs σ.n⟩:=by
 simp only [smp,yAe] at h;obtain⟨h1,h2,h3⟩:=h;have hz:∀i,fs.getD (0+i) noE=fs.getD i noE:=fun i=>by rw [yNz]
 unfold mu;rw [ygl fun p hp=>?_,ygk fun p hp=>?_,yaj hz,yea (fun j p hp=>?_) hz,y8k hz]
 ·refine yAt.2 fun i _=>?_;by_cases hi:i=j
  ·subst hi;rw [Nat.beq_refl];rfl
  ·rw [yk8 h3 hi hp];simp
 ·refine yAt.2 fun i _=>?_;have:=ydg (yAt.1 h2 p hp) rfl i;simp only [Bool.not_eq_true'] at this;rw [this];rfl
 ·refine yAt.2 fun i _=>?_;have:=ydg (yAt.1 h1 p hp) rfl i;simp only [Bool.not_eq_true'] at this;rw [this];rfl
def muS(σ:Sx)(fs:List Eff)(m:List Bool)(n:Nat):Sx:=⟨muM m fs σ.sl,muO m fs σ.ob,n⟩
def Wst(K:Kx)(C:Cx)(P:Program)(n:Nat)(ops:Array Oper)(all:List Eff)(σ:Sx):List (Nat×List Bool)→List Eff→List Oper→Prop
 | _,_,[]=>True
 | m::ms,f::fs,o::os=>Ox K C P n ops o (muS σ all m.2 m.1) f∧Wst K C P n ops all σ ms fs os
 | _,_,_::_=>False
def nsOk(fs:List Eff)(n:Nat)(ms:List (Nat×List Bool)):Bool:=ms.all fun m=>Nat.beq (muK m.2 fs n) m.1
theorem Wst.go{all:List Eff}{A:List (List Nat)}(h:smp all σ=true):∀{l:List Oper} {k:Nat} {ms:List (Nat×List Bool)} {fs:List Eff},nsOk all σ.n ms=true→Wst K C P n ops all σ ms fs l→(∀i,all.getD (k+i) noE=fs.getD i noE)→(∀i,A.getD (k+i) []=(ms.map fun m=>ixs m.2 0).getD i [])→y8U K C P n ops A all N σ k l
 | [],_,_,_,_,_,_,_=>trivial
 | o::os,k,m::ms,f::fs,hn,hw,hf,hA=>by
  simp only [nsOk,List.all_cons,yAe] at hn;refine⟨?_,Wst.go h hn.2 hw.2 (fun i=>?_) (fun i=>?_)⟩
  ·have h1:=hf 0;have h2:=hA 0;rw [Nat.add_zero] at h1 h2;rw [h1,h2,show(List.map (fun (m:Nat×List Bool)=>ixs m.2 0) (m::ms)).getD 0 []=ixs m.2 0 from rfl,yhG h,yNb hn.1];exact hw.1
  ·have:=hf (i+1);rw [show k+(i+1)=k+1+i by omega] at this;simpa using this
  ·have:=hA (i+1);rw [show k+(i+1)=k+1+i by omega] at this;simpa using this
 | _::_,_,[],_,_,hw,_,_=>by cases hw
 | _::_,_,_::_,[],_,hw,_,_=>by cases hw
theorem yb8 :∀{N j:Nat},ixs (List.replicate N true) j=List.range' j N
 | 0,_=>rfl
 | N+1,j=>by
  rw [List.replicate_succ,List.range'_succ];simp only [ixs,cond_true];rw [yb8]
theorem WE.drw{id:Nat}{l:List Oper}(ms:List (Nat×List Bool))(fs:List Eff)(τ:Sx)(hs:Wst K C P n l.toArray fs σ ms fs l)(hok:(smp fs σ&&(nsOk fs σ.n ms&&y8V P K (ms.map fun m=>ixs m.2 0) fs σ.n l.toArray))=true)(hτ:τ.is K (muS σ fs (List.replicate l.length true) (muK (List.replicate l.length true) fs σ.n)) [])(h0:WX K C Φ Q n .normal τ):WE K C Φ P Q n (.region id l.toArray true) σ:=by
 obtain⟨h1,h2⟩:=Bool.and_eq_true_iff.1 hok;obtain⟨h2,h3⟩:=Bool.and_eq_true_iff.1 h2;have hz:∀i,fs.getD (0+i) noE=fs.getD i noE:=fun i=>by rw [yNz]
 refine .draw (ms.map fun m=>ixs m.2 0) fs τ (hs.go h1 h2 hz fun i=>by rw [yNz]) h3 ?_ h0;rw [List.range_eq_range',←yb8,yhG h1];exact hτ
end
theorem y8E{x:α}{l1 l2:List (Nat×α)}:∀{pre:List (Nat×α)},((∀o,(d,o)∉pre)→∀x,aget l1 d=some x→aget l2 d=some x)→aget (pre++l1) d=some x→aget (pre++l2) d=some x
 | [],h,g=>h (fun _=>List.not_mem_nil) x g
 | (i,o)::pre,h,g=>by
  simp only [List.cons_append,aget] at g ⊢;cases hb:Nat.beq i d with
  | true=>rw [hb] at g;exact g
  | false=>
   rw [hb] at g;refine y8E (fun hn=>h fun o' hm=>?_) g;rcases yMo.1 hm with e|hm
   ·cases e;rw [Nat.beq_refl] at hb;cases hb
   ·exact hn _ hm
theorem y7Z{x:α}:∀{l:List (Nat×α)},aget l d=some x→(d,x)∈l
 | [],h=>by cases h
 | (i,o)::l,h=>by
  rcases yj h with ⟨rfl,rfl⟩|⟨_,h2⟩
  ·exact .head _
  ·exact .tail _ (y7Z h2)
theorem y9p{l:List (Nat×SV)}:∀{m:List Bool} {fs:List Eff},muM m fs l=muM m fs []++l
 | [],_=>rfl
 | _::_,[]=>rfl
 | b::m,f::fs=>by
  simp only [muM];rw [y9p (m:=m) (fs:=fs)];cases b
  ·rfl
  ·simp only [cond_true,cD];cases f.dst <;> rfl
theorem yb9{l:List (Nat×Ob)}:∀{m:List Bool} {fs:List Eff},muO m fs l=muO m fs []++l
 | [],_=>rfl
 | _::_,[]=>rfl
 | b::m,f::fs=>by
  simp only [muO];rw [yb9 (m:=m) (fs:=fs)];cases b
  ·rfl
  ·simp only [cond_true,yAa]
theorem ydh{A:List (List Nat)}{k:Nat}{all:List Eff}{l:List (Nat×Ob)}:∀{m:List Bool} {j:Nat} {fs:List Eff},(∀j',j'∈ixs m j→∀p,p∈(all.getD j' noE).ob→okJ A all N k j' p.1=true)→(∀i,all.getD (j+i) noE=fs.getD i noE)→muE A all N k (ixs m j) l=muO m fs l
 | [],_,_,_,_=>rfl
 | b::m,j,fs,hj,h=>by
  have ih:∀{fs':List Eff},(∀i,all.getD (j+1+i) noE=fs'.getD i noE)→muE A all N k (ixs m (j+1)) l=muO m fs' l:=fun h'=>ydh (fun j' hm=>hj j' (by
   cases b
   ·exact hm
   ·exact .tail _ hm)) h'
  have h0:=h 0;rw [Nat.add_zero] at h0;cases fs with
  | nil=>
   have ih:=ih (fs':=[]) fun i=>by
    have:=h (i+1);rw [show j+(i+1)=j+1+i by omega] at this;simpa using this
   have e:muO m [] l=l:=by cases m <;> rfl
   rw [e] at ih;cases b
   ·exact ih
   ·have hj:=hj j (.head _);simp only [ixs,cond_true,muE,muO];rw [yb7 hj,h0,ih];rfl
  | cons f fs=>
   have ih:=ih (fs':=fs) fun i=>by
    have:=h (i+1);rw [show j+(i+1)=j+1+i by omega] at this;simpa using this
   cases b
   ·exact ih
   ·have hj:=hj j (.head _);simp only [ixs,cond_true,muE,muO];rw [yb7 hj,h0,ih];rfl
theorem ydD{A:List (List Nat)}{fs:List Eff}{k:Nat}{x:Ob}(hd:okO A fs N k d=true):∀{l:List (Nat×Ob)},aget l d=some x→aget (muF A fs N k l) d=some x
 | [],h=>by cases h
 | (i,o)::l,h=>by
  simp only [muF,aget] at h ⊢;cases hb:Nat.beq i d with
  | true=>rw [hb] at h;rw [yNb hb,hd];exact h
  | false=>rw [hb] at h;exact ydD hd h
theorem ydE{A:List (List Nat)}{fs:List Eff}{k:Nat}{x:SV}(hd:okD A fs N k d=true):∀{l:List (Nat×SV)},aget l d=some x→aget (muB A fs N k l) d=some x
 | [],h=>by cases h
 | (i,o)::l,h=>by
  simp only [muB,aget] at h ⊢;cases hb:Nat.beq i d with
  | true=>rw [hb] at h;rw [yNb hb,hd];exact h
  | false=>rw [hb] at h;exact ydE hd h
section
variable{K:Kx}{C:Cx}{P:Program}{Φ:Fr}{Q:Exit→Act→World→Prop}{n:Nat}{σ:Sx}{fs:List Eff}{A:List (List Nat)}{N:Nat}
def okQ(A:List (List Nat))(fs:List Eff)(N:Nat)(σ:Sx)(k:Nat)(m:List Bool):Bool:=
  ((ixs m 0).all fun j=>(fs.getD j noE).ob.all fun p=>okJ A fs N k j p.1) &&
  ((σ.ob.all fun p=>(muO m fs []).any (fun q=>Nat.beq q.1 p.1)||okO A fs N k p.1) &&
   (σ.sl.all fun p=>(muM m fs []).any (fun q=>Nat.beq q.1 p.1)||okD A fs N k p.1))
def okKs(A:List (List Nat))(fs:List Eff)(N:Nat)(σ:Sx):Nat→List (Nat×List Bool)→Bool
 | _,[]=>true
 | k,m::ms=>okQ A fs N σ k m.2&&okKs A fs N σ (k+1) ms
theorem Den.okK{k:Nat}{m:List Bool}{j:Nat}{β:Nat→Value}{s:Sig}(hk:okQ A fs N σ k m=true)(hn:Nat.beq (muK m fs σ.n) j=true)(h:Den K C (mu A fs N σ k (ixs m 0)) β s e):Den K C (muS σ fs m j) β s e:=by
 have hj:(mu A fs N σ k (ixs m 0)).n=j:=by
  show muN fs σ.n (ixs m 0)=j;rw [y8k (fs:=fs) fun i=>by rw [yNz]];exact yNb hn
 simp only [okQ,yAe] at hk;obtain⟨k1,k2,k3⟩:=hk;have ho:∀i o,aget (muO m fs σ.ob) i=some o→aget (mu A fs N σ k (ixs m 0)).ob i=some o:=fun i o hx=>by
  show aget (muE A fs N k (ixs m 0) (muF A fs N k σ.ob)) i=some o;rw [ydh (fs:=fs) (fun j hj p hp=>yAt.1 (yAt.1 k1 j hj) p hp) fun i=>by rw [yNz],yb9];rw [yb9] at hx;refine y8E (fun hno x hx=>?_) hx;rcases Bool.or_eq_true_iff.1 (yAt.1 k2 _ (y7Z hx)) with g|g
  ·obtain ⟨q,hq,hq2⟩:=List.any_eq_true.1 g;have:q.1=i:=yNb hq2;exact absurd (show (i,q.2)∈_ from by rw [←this];exact hq) (hno q.2)
  ·exact ydD g hx
 have hs:∀d x,aget (muM m fs σ.sl) d=some x→aget (mu A fs N σ k (ixs m 0)).sl d=some x:=fun i o hx=>by
  show aget (muA fs (ixs m 0) (muB A fs N k σ.sl)) i=some o;rw [yaj (fs:=fs) fun i=>by rw [yNz],y9p];rw [y9p] at hx;refine y8E (fun hno x hx=>?_) hx;rcases Bool.or_eq_true_iff.1 (yAt.1 k3 _ (y7Z hx)) with g|g
  ·obtain ⟨q,hq,hq2⟩:=List.any_eq_true.1 g;have:q.1=i:=yNb hq2;exact absurd (show (i,q.2)∈_ from by rw [←this];exact hq) (hno q.2)
  ·exact ydE g hx
 exact⟨h.ok,h.mv,h.b0,hj▸h.m,fun d x hx=>h.sl d x (hs d x hx),fun i o hx=>h.ob i o (ho i o hx),fun d x hx=>hj▸h.fs d x (hs d x hx),fun i o hx=>hj▸h.fo i o (ho i o hx)⟩
theorem Wst.gg{all:List Eff}{A:List (List Nat)}{N:Nat}:∀{l:List Oper} {k:Nat} {ms:List (Nat×List Bool)} {fs:List Eff},okKs A all N σ k ms=true→nsOk all σ.n ms=true→Wst K C P n ops all σ ms fs l→(∀i,all.getD (k+i) noE=fs.getD i noE)→(∀i,A.getD (k+i) []=(ms.map fun m=>ixs m.2 0).getD i [])→y8U K C P n ops A all N σ k l
 | [],_,_,_,_,_,_,_,_=>trivial
 | o::os,k,m::ms,f::fs,hk,hn,hw,hf,hA=>by
  simp only [okKs,yAe] at hk;simp only [nsOk,List.all_cons,yAe] at hn;refine⟨?_,Wst.gg hk.2 hn.2 hw.2 (fun i=>?_) (fun i=>?_)⟩
  ·have h1:=hf 0;have h2:=hA 0;rw [Nat.add_zero] at h1 h2;rw [h1,h2,show(List.map (fun (m:Nat×List Bool)=>ixs m.2 0) (m::ms)).getD 0 []=ixs m.2 0 from rfl];intro Φ Q os β s e hd hc;have hj:(mu A all N σ k (ixs m.2 0)).n=m.1:=by
    show muN all σ.n (ixs m.2 0)=m.1;rw [y8k (fs:=all) fun i=>by rw [yNz]];exact yNb hn.1
   exact hw.1 Φ Q os β s e (hd.okK hk.1 hn.1) fun β' s' e' a=>hc β' s' e' (by rw [hj];exact a)
  ·have:=hf (i+1);rw [show k+(i+1)=k+1+i by omega] at this;simpa using this
  ·have:=hA (i+1);rw [show k+(i+1)=k+1+i by omega] at this;simpa using this
 | _::_,_,[],_,_,_,hw,_,_=>by cases hw
 | _::_,_,_::_,[],_,_,hw,_,_=>by cases hw
theorem WE.drg{id:Nat}{l:List Oper}(j:Nat)(ms:List (Nat×List Bool))(fs:List Eff)(τ:Sx)(hs:Wst K C P n l.toArray fs σ ms fs l)(hok:(okQ (ms.map fun m=>ixs m.2 0) fs l.length σ l.length (List.replicate l.length true)&&(Nat.beq (muK (List.replicate l.length true) fs σ.n) j&&(okKs (ms.map fun m=>ixs m.2 0) fs l.length σ 0 ms&&(nsOk fs σ.n ms&&y8V P K (ms.map fun m=>ixs m.2 0) fs σ.n l.toArray))))=true)(hτ:τ.is K (muS σ fs (List.replicate l.length true) j) [])(h0:WX K C Φ Q n .normal τ):WE K C Φ P Q n (.region id l.toArray true) σ:=by
 simp only [yAe] at hok;obtain⟨h1,h2,h3,h4,h5⟩:=hok;have hz:∀i,fs.getD (0+i) noE=fs.getD i noE:=fun i=>by rw [yNz]
 refine .draw' (ms.map fun m=>ixs m.2 0) fs (Wst.gg h3 h4 hs hz fun i=>by rw [yNz]) h5 ?_;rw [List.range_eq_range',←yb8];exact fun β s e hd=>h0.sub [] hτ β s e (hd.okK h1 h2)
end
def FlatR{α:Type}(r:Rep α):Prop:=∀s s' cs x,r.rd s cs x→r.rd s' cs x
def rVal :Rep Value:=⟨1,fun _ cs x=>cs= [x]∧x.oneCell'=true,fun h=>by rw [h.1];rfl,fun _ h=>h,fun h u hu=>by rw [h.1] at hu;rw [yMs.1 hu];exact h.2⟩
theorem y5C :FlatR rVal:=fun _ _ _ _ h=>h
section
variable{α:Type}{r:Rep α}{s s':Sig}{t t' u u':Nat}{T T':TypeId}{a:Option Addr}{c:Nat}{xs:List α}{τ:Nat→Nat}
theorem Cells.flat(hr:FlatR r):∀{cs:List Value} {xs:List α},Cells r s cs xs→Cells r s' cs xs
 | _,[],h=>h
 | _,_::_,⟨c,d,e,h1,h2⟩=>⟨c,d,e,hr _ _ _ _ h1,Cells.flat hr h2⟩
theorem RowT.fl(hr:FlatR r)(h:RowT r s u T a c xs)(hb:∀b,b<s.w.heap.size→s.tag b=u→s'.w.heap[b]? =s.w.heap[b]? ∧s'.tag b=u'):RowT r s' u' T a c xs:=by
 obtain⟨cs,h1,h2⟩:=h;refine⟨cs,⟨h1.1,h1.2.imp id fun⟨b,off,cap,cur,g1,g2,g3⟩=>⟨b,off,cap,cur,g1,?_,g3⟩⟩,h2.flat hr⟩;have hlt:b<s.w.heap.size:=(yAs.1 g2.heap).1;obtain⟨q1,q2⟩:=hb b hlt g2.htag;exact⟨q1.trans g2.heap,q2,g2.base⟩
theorem RowT.memAt{k b o:Nat}(h:RowT r s t T a c xs)(h2:Spot a r.sz k b o)(hk:k<xs.length):∃cs,Mem s t b o cs∧r.rd s cs xs[k]:=by
 obtain⟨cs,h4,h5⟩:=h;obtain⟨b',off',cap',e',hlt,_,htag⟩:=h4.addr (by omega);simp only [Value.slice.injEq,true_and] at e';obtain⟨rfl,rfl⟩:=e';obtain⟨o',e1,rfl⟩:=h2.is;cases e1;have hx2:=h5.at k hk;have hl2:=h4.1;have hm:=Nat.mul_le_mul_right r.sz (show k+1≤xs.length from hk);rw [Nat.succ_mul] at hm;refine⟨_,⟨fun _=>htag,fun j' hj=>?_⟩,hx2⟩;have hj':j'<r.sz:=by rw [r.len hx2] at hj;exact hj
 rw [Nat.add_assoc,h4.cellAt (k*r.sz+j') (by omega),List.getElem_take,List.getElem_drop,yGe]
def sp(s:Sig)(t:Nat)(τ:Nat→Nat):Sig:=⟨s.w,fun b=>if s.tag b=t then 2*τ b+1 else 2*s.tag b⟩
theorem y8a{b k:Nat}(h:(sp s t τ).tag b=2*k+1):s.tag b=t∧τ b=k:=by
 unfold sp at h;simp only at h;split at h
 ·exact ⟨‹_›,by omega⟩
 ·omega
theorem sp_at{b:Nat}(h:s.tag b=t):(sp s t τ).tag b=2*τ b+1:=iP h
structure TabP {α:Type} (r:Rep α) (T T':TypeId) (o:Option Nat) (xss:List (List α)) (s:Sig) (t:Nat) (h:Value) (hs:List Value) (τ:Nat→Nat) (a:Option Addr) (c:Nat):Prop where
 e:h= .slice a xss.length c
 out:RowT rVal (sp s t τ) (2*0+1) T a c hs
 len:hs.length=xss.length
 inn:∀i hd ys,hs[i]? =some hd→xss[i]? =some ys→o≠some i→∃a c,hd= .slice a ys.length c∧RowT r (sp s t τ) (2*(i+1)+1) T' a c ys
theorem TabP.to{o:Option Nat}{xss:List (List α)}{h:Value}(hr:FlatR r)(H:TabP r T T' o xss s t h hs τ a c)(hb:∀b,b<s.w.heap.size→s.tag b=t→s'.w.heap[b]? =s.w.heap[b]? ∧s'.tag b=t'):TabP r T T' o xss s' t' h hs τ a c:=by
 have key:∀k b,b<(sp s t τ).w.heap.size→(sp s t τ).tag b=2*k+1→(sp s' t' τ).w.heap[b]? =(sp s t τ).w.heap[b]? ∧(sp s' t' τ).tag b=2*k+1:=fun k b hb1 ht=>by
  obtain⟨q1,q2⟩:=y8a ht;obtain⟨g1,g2⟩:=hb b hb1 q1;exact⟨g1,by rw [sp_at g2,q2]⟩
 exact⟨H.e,H.out.fl y5C (key 0),H.len,fun i hd ys g1 g2 g3=>by
  obtain⟨a,c,e,h5⟩:=H.inn i hd ys g1 g2 g3;exact⟨a,c,e,h5.fl hr (key (i+1))⟩⟩
theorem yfp{s0:Sig}:∀{cs hs:List Value} {xss:List (List α)},Cells rVal s0 cs hs→hs.length=xss.length→(∀(i:Nat) (hd:Value) (ys:List α),hs[i]? =some hd→xss[i]? =some ys→∃a c,hd= .slice a ys.length c∧RdL r s a c ys)→Cells (rL r) s cs xss
 | _,[],[],h,_,_=>h
 | _,[],_::_,_,h,_=>by cases h
 | _,_::_,[],_,h,_=>by cases h
 | _,hd::hs,ys::xss,⟨c,d,e,h1,h2⟩,hl,h3=>⟨c,d,e,by
   obtain⟨a,k,e1,g⟩:=h3 0 hd ys rfl rfl;exact⟨a,k,by rw [h1.1,e1],g⟩,yfp h2 (by simpa using hl) fun i hd ys g1 g2=>h3 (i+1) hd ys (by simpa using g1) (by simpa using g2)⟩
def fzTb{α:Type}(r:Rep α)(xss:List (List α)):Option Nat→LV
 | none=>lF (rL r) xss
 | some _=>lU
theorem TabP.fz{o:Option Nat}{xss:List (List α)}{h:Value}{β:Nat→Value}(H:TabP r T T' o xss s 0 h hs τ a c):(fzTb r xss o).p β s h:=by
 cases o with
 | some _=>rw [H.e];rfl
 | none=>
  have hle:Le (sp s 0 τ) s:=⟨yNr _,fun b _ hb=>by
   unfold sp at hb;simp only at hb;split at hb
   ·omega
   ·rename_i g;exact absurd (by omega) g⟩
  obtain⟨cs,h1,h2⟩:=H.out;have h3:RowT (rL r) s 0 T a c xss:=by
   refine⟨cs,?_,yfp h2 H.len fun i hd ys g1 g2=>?_⟩
   ·rw [←H.len];exact⟨h1.1,h1.2.imp id fun⟨b,off,cap,cur,g1,g2,g3⟩=>⟨b,off,cap,cur,g1,⟨g2.heap,(y8a g2.htag).1,g2.base⟩,g3⟩⟩
   ·obtain ⟨a,c,e,h5⟩:=H.inn i hd ys g1 g2 nofun;exact⟨a,c,e,h5.rd hle rfl fun b hb=>(y8a hb).1⟩
  exact⟨a,c,H.e,h3.rd0⟩
def TAB{α:Type}{r:Rep α}(hr:FlatR r)(T T':TypeId)(o:Option Nat)(xss:List (List α)):Ob:= .hp ⟨fun s t h=>∃hs τ a c,TabP r T T' o xss s t h hs τ a c,fzTb r xss o,
 fun m ht _ ⟨hs,τ,a,c,h⟩=>⟨hs,τ,a,c,h.to hr fun b hb e=>by
  obtain⟨g1,g2⟩:=m.blk b hb (by rw [e];exact ht);exact⟨g1,g2.trans e⟩⟩,
 fun _ hw ht ⟨hs,τ,a,c,h⟩=>⟨hs,τ,a,c,h.to hr fun b _ e=>⟨by rw [hw],ht b e⟩⟩,fun⟨_,_,_,_,h⟩ _=>h.fz⟩
def tkS(s:Sig)(t u i:Nat)(τ:Nat→Nat):Sig:=⟨s.w,fun b=>if s.tag b=t∧τ b=i+1 then u else s.tag b⟩
theorem TabP.take{xss:List (List α)}{h hd:Value}{i:Nat}{ys:List α}(hr:FlatR r)(H:TabP r T T' none xss s t h hs τ a c)(h1:hs[i]? =some hd)(h2:xss[i]? =some ys)(hu:u≠t):
  TabP r T T' (some i) xss (tkS s t u i τ) t h hs τ a c∧(∃a c,hd= .slice a ys.length c∧RowT r (tkS s t u i τ) u T' a c ys)∧Mv (fun x=>x=u∨x=t) s (tkS s t u i τ):=by
 have key:∀k b,k≠i+1→b<(sp s t τ).w.heap.size→(sp s t τ).tag b=2*k+1→(sp (tkS s t u i τ) t τ).w.heap[b]? =(sp s t τ).w.heap[b]? ∧(sp (tkS s t u i τ) t τ).tag b=2*k+1:=fun k b hk _ ht=>by
  obtain⟨q1,q2⟩:=y8a ht;have:(tkS s t u i τ).tag b=t:=by
   show(if s.tag b=t∧τ b=i+1 then u else s.tag b)=t;rw [iN (fun g=>hk (q2.symm.trans g.2)),q1]
  exact⟨rfl,by rw [sp_at this,q2]⟩
 refine⟨⟨H.e,H.out.fl y5C (fun b=>key 0 b (by omega)),H.len,fun j hd ys g1 g2 g3=>?_⟩,?_,?_⟩
 ·obtain ⟨a,c,e,h5⟩:=H.inn j hd ys g1 g2 nofun;exact⟨a,c,e,h5.fl hr fun b=>key (j+1) b fun e=>g3 (by rw [Nat.succ.inj e])⟩
 ·obtain ⟨a,c,e,h5⟩:=H.inn i hd ys h1 h2 nofun;refine⟨a,c,e,h5.fl hr fun b _ ht=>⟨rfl,?_⟩⟩;obtain⟨q1,q2⟩:=y8a ht;exact iP ⟨q1,q2⟩
 ·exact ⟨rfl,rfl,rfl,yNr _,fun b _ hn=>⟨rfl,iN fun g=>hn (.inr g.1)⟩⟩
def ptS(s':Sig)(t u:Nat):Sig:=⟨s'.w,fun b=>if s'.tag b % 2=1 then t else if s'.tag b=2*u then t else s'.tag b/2⟩
def ptR(s':Sig)(i:Nat):Nat→Nat:=fun b=>if s'.tag b % 2=1 then s'.tag b/2 else i+1
theorem TabP.put{xss:List (List α)}{h:Value}{i:Nat}{ys:List α}{a':Option Addr}{c':Nat}{o:Option Nat}(hr:FlatR r)(H:TabP r T T' o xss s t h hs τ a c)(hy:RowT r s u T' a' c' ys)(hut:u≠t)(ho:∀k,o=some k→k=i)(m:Mv (One (2*0+1)) (sp s t τ) s')(hR:RowT rVal s' (2*0+1) T a c (hs.set i (.slice a' ys.length c'))):
  TabP r T T' none (xss.set i ys) (ptS s' t u) t h (hs.set i (.slice a' ys.length c')) (ptR s' i) a c∧Mv (fun x=>x=t∨x=u) s (ptS s' t u):=by
 have odd:∀k b,s'.tag b=2*k+1→(sp (ptS s' t u) t (ptR s' i)).tag b=2*k+1:=fun k b e=>by
  have h1:(ptS s' t u).tag b=t:=iP (by omega);rw [sp_at h1];have:ptR s' i b=s'.tag b/2:=iP (by omega);rw [this];omega
 refine⟨⟨by rw [List.length_set];exact H.e,hR.fl y5C fun b _ e=>⟨rfl,odd 0 b e⟩,by rw [List.length_set,List.length_set];exact H.len,fun j hd zs g1 g2 _=>?_⟩,?_⟩
 ·by_cases hj:i=j
  ·subst hj;have hl1:=(yGs.1 g1).1;have hl2:=(yGs.1 g2).1;rw [List.getElem?_set_self (by simpa using hl1)] at g1;rw [List.getElem?_set_self (by simpa using hl2)] at g2;cases g1;cases g2;refine⟨a',c',rfl,hy.fl hr fun b hb e=>?_⟩;have h1:(sp s t τ).tag b=2*u:=by
    show(if s.tag b=t then _ else 2*s.tag b)=_;rw [iN (by omega),e]
   obtain⟨q1,q2⟩:=m.blk b hb (by rw [h1];show ¬2*u=2*0+1;omega);rw [h1] at q2;refine⟨q1,?_⟩;have h2:(ptS s' t u).tag b=t:=by
    show(if s'.tag b % 2=1 then t else if s'.tag b=2*u then t else _)=t;rw [iN (by omega),iP q2]
   have h3:ptR s' i b=i+1:=iN (by omega);rw [sp_at h2,h3]
  ·rw [List.getElem?_set_ne hj] at g1 g2;obtain⟨a,c,e,h5⟩:=H.inn j hd zs g1 g2 fun e=>hj (ho j e).symm;refine⟨a,c,e,h5.fl hr fun b hb e=>?_⟩;obtain⟨q1,q2⟩:=m.blk b hb (by rw [e];show ¬2*(j+1)+1=2*0+1;omega);exact⟨q1,odd _ b (q2.trans e)⟩
 ·refine ⟨m.os,m.tape,m.output,m.size,fun b hb hn=>?_⟩;have h1:(sp s t τ).tag b=2*s.tag b:=iN fun e=>hn (.inl e);obtain⟨q1,q2⟩:=m.blk b hb (by rw [h1];show ¬2*s.tag b=2*0+1;omega);rw [h1] at q2;refine⟨q1,?_⟩;show(if s'.tag b % 2=1 then t else if s'.tag b=2*u then t else s'.tag b/2)=s.tag b;rw [iN (by omega),iN (fun e=>hn (.inr (by omega))),q2];omega
theorem TabP.made{zs:List Value}{xss:List (List α)}{n:Nat}(h:RowT rVal s t T a c zs)(h1:zs=List.replicate n (.slice none 0 0))(h2:xss=List.replicate n []):TabP r T T' none xss s t (.slice a zs.length c) zs (fun _=>0) a c:=by
 refine⟨by rw [h1,h2,List.length_replicate,List.length_replicate],h.fl y5C fun b _ e=>⟨rfl,sp_at e⟩,by rw [h1,h2,List.length_replicate,List.length_replicate],fun i hd ys g1 g2 _=>?_⟩;subst h1 h2;obtain⟨_,e1⟩:=yGs.1 g1;obtain⟨_,e2⟩:=yGs.1 g2;rw [List.getElem_replicate] at e1 e2;subst e1 e2;exact⟨none,0,rfl,RowT.nil⟩
end
abbrev FT(d i q:Nat)(x:LV)(o o2:Ob):Eff:=⟨some (d,sL x),[(i,o),(q,o2)],some (i+1)⟩
section
variable{K:Kx}{C:Cx}{P:Program}{n:Nat}{ops:Array Oper}{σ:Sx}{d q i:Nat}{ty:TypeId}{pos:String}{af:Array Edge}{g:Option (Nat×Bool)}{β:Nat→Value}{s s':Sig}{e:List (Nat×Value)}
variable{α:Type}{r:Rep α}{hr:FlatR r}{T1 T2:TypeId}{o:Option Nat}{xss zss:List (List α)}{ys:List α}
theorem Aft.tk{k:Nat}{x:LV}{o o2:Ob}{v h:Value}(hi:Nat.ble k i=true)(hq:q≠i)(m:Mv (fun t=>t=C.tg i∨t=C.tg q) s s')(hx:x.p (upB β i h) s' v)(ho:o.p (upB β i h) s' (C.tg i) h)(ho2:o2.p (upB β i h) s' (C.tg q) (β q)):Aft C (FT d i q x o o2) k β (upB β i h) s s' e ((d,v)::e) where
 hd j hj:=y7u (by have:=yNl hi;omega)
 hn j hj:=y7u fun e=>hj o (by rw [e];exact .head _)
 mv:=m.weak fun t ht=>ht.elim (fun ht=>⟨i,o,.head _,ht⟩) (fun ht=>⟨q,o2,.tail _ (.head _),ht⟩)
 sl d' hn:=Env.get_put fun e=>hn (sL x) (by rw [e])
 dst d' x' e:=by cases e;exact⟨v,by simp [Env.get],hx⟩
 ob j o' hm:=by
  rcases yMo.1 hm with e|hm
  ·cases e;rw [y7J];exact ho
  ·rcases yMo.1 hm with e|hm
   ·cases e;rw [y7u hq];exact ho2
   ·cases hm
theorem O.mkT{x:Operand}{T:TypeId}{k:IntKind}{j:Int}(hr:FlatR r)(T2:TypeId)(i:Nat)(hU:P.underlying T=some (.slice U))(hZ:Zr P rVal U by_ (.slice none 0 0))(hby:Nat.ble by_ 32768=true)(hi:Nat.ble σ.n i=true)(hg:Gu ops σ g)(hx:σ.ev x=some (VL (.int k j)))(hy:σ.ev y=some (VL (.int k' j)))(hl:mkL j []=some xss)(hb:Nat.blt d n=true):
  Ox K C P n ops ⟨some d,.makeSlice T x y,ty,pos,af,g⟩ σ (FN d i (lH i) (TAB hr U T2 none xss)):=fun Φ Q os β s e hd k=>by
 obtain⟨h0,h1,h2⟩:=yfg hl;exact L.mk (C.tg i) hU hZ hby (hd.gd hg) (hd.evl hx) (hd.evl hy) (y8R h0 h1) hb fun b s' m h5=>k _ s' _ (Aft.new hi m.no (lH_at rfl) ⟨_,_,_,_,TabP.made h5 rfl h2⟩)
theorem O.irT{x i:Operand}{T:TypeId}{k:IntKind}{j:Int}{y:List α}(hS:Sl P T U 1)(hg:Gu ops σ g)(hx:σ.ev x=some (sL (lH q)))(ho:aget σ.ob q=some (TAB hr T1 T2 o xss))(hi:σ.ev i=some (VL (.int k j)))(hy:idx xss j=some y)(hb:Nat.blt d n=true):Ox K C P n ops ⟨some d,.indexAddr T x i,ty,pos,af,g⟩ σ (F1 d (sL (lR q 1 j.toNat 0))):=
 Ox.pure fun _ _ _ β s e hd k=>by
  obtain⟨v,h1,h2,_⟩:=hd.evv hx;obtain⟨hs,τ,a,c,H⟩:=hd.ob q _ ho;obtain⟨h0,hk,_⟩:=y8D hy;have hk':j.toNat<hs.length:=by rw [H.len];exact hk
  exact L.ir (s:=sp s (C.tg q) τ) (r:=rVal) hS H.out (hd.gd hg) (show Env.ev e x=some (.slice a hs.length c) by rw [h1,h2,H.e,H.len]) (hd.evl hi) (show idx hs j=some hs[j.toNat] by unfold idx;rw [iP h0,yGe hk']) hb fun b o cs h3 h4 h5=>k _ ⟨b,o,a,_,c,H.e,h5,rfl⟩
theorem O.ldT{x:Operand}{T:TypeId}{j:Int}(i:Nat)(hT:NAg P T)(hi:Nat.ble σ.n i=true)(hg:Gu ops σ g)(hx:σ.ev x=some (sL (lR q 1 j.toNat 0)))(ho:aget σ.ob q=some (TAB hr T1 T2 none xss))(hy:idx xss j=some ys)(hb:Nat.blt d n=true):
  Ox K C P n ops ⟨some d,.load T x,ty,pos,af,g⟩ σ (FT d i q (lH i) (ROW r T2 ys) (TAB hr T1 T2 (some j.toNat) xss)):=fun Φ Q os β s e hd k=>by
 obtain⟨v,h1,b,o',a',n',c',h2,h3,rfl⟩:=hd.evv hx;obtain⟨hs,τ,a,c,H⟩:=hd.ob q _ ho;obtain⟨h0,hk,e0⟩:=y8D hy;have hk':j.toNat<hs.length:=by rw [H.len];exact hk
 have he:=H.e;rw [h2] at he;simp only [Value.slice.injEq] at he;obtain⟨rfl,rfl,rfl⟩:=he;obtain⟨cs,m1,m3,m4⟩:=H.out.memAt h3 hk';have hq:q<σ.n:=(hd.fo _ _ ho).1;have hqi:q≠i:=by have:=yNl hi;omega
 have hu:C.tg i≠C.tg q:=fun e=>hqi (hd.ok.inj e).symm;obtain⟨g1,⟨a2,c2,e2,g2⟩,g3⟩:=H.take (u:=C.tg i) hr (yGe hk') (show xss[j.toNat]? =some ys by rw [yGe hk,e0]) hu;exact L.ld (s:=sp s (C.tg q) τ) (j:=0) (v:=hs[j.toNat]) m1 hT (hd.gd hg) h1 rfl (by rw [m3];rfl) hb (k (upB β i hs[j.toNat]) (tkS s (C.tg q) (C.tg i) j.toNat τ) _ (Aft.tk hi hqi g3 (lH_at m4) ⟨a2,c2,e2,g2⟩ ⟨hs,τ,a',c',g1⟩))
theorem O.stT{x:Operand}{T:TypeId}{J:Int}(hT:∀w,(sizeOf T).run P w= .ok 1 w)(hg:Gu ops σ g)(hx:σ.ev x=some (sL (lR q 1 J.toNat 0)))(ho:aget σ.ob q=some (TAB hr T1 T2 o xss))(hu:upd xss J ys=some zss)(hy:σ.ev y=some (sL (lH i)))(hoi:aget σ.ob i=some (ROW r T2 ys))(hqi:Nat.beq q i=false)(hk:∀k,o=some k→k=J.toNat):
  Ox K C P n ops ⟨none,.store T x y,ty,pos,af,g⟩ σ ⟨none,[(q,TAB hr T1 T2 none zss),(i,.u)],none⟩:=fun Φ Q os β s e hd k=>by
 obtain⟨v,h1,b,o',a',n',c',h2,h3,rfl⟩:=hd.evv hx;obtain⟨a2,c2,h4,h5,h6⟩:=hd.row hy hoi;obtain⟨hs,τ,a,c,H⟩:=hd.ob q _ ho;have he:=H.e;rw [h2] at he;simp only [Value.slice.injEq] at he;obtain⟨rfl,rfl,rfl⟩:=he;obtain⟨h0,hk1,rfl⟩:=yda hu;have hk':J.toNat<hs.length:=by rw [H.len];exact hk1
 have hne:C.tg i≠C.tg q:=fun e=>by
  have:=hd.ok.inj e;rw [this,Nat.beq_refl] at hqi;cases hqi
 refine L.su (s:=sp s (C.tg q) τ) (r:=rVal) (fo:=0) (m:=1) H.out h3 (show idx hs J=some hs[J.toNat] by unfold idx;rw [iP h0,yGe hk']) (show upd hs J (.slice a2 ys.length c2)=some (hs.set J.toNat (.slice a2 ys.length c2)) by unfold upd;rw [iP ⟨h0,by omega⟩]) rfl hT (hd.gd hg) h1 h5 rfl rfl rfl rfl (fun c0 h0=>?_) fun s' m h8=>?_
 ·obtain ⟨e1,_⟩:=h0;rw [e1];exact⟨rfl,rfl⟩
 ·obtain ⟨g1,g2⟩:=H.put hr h6 hne hk m h8;refine k β (ptS s' (C.tg q) (C.tg i)) e ⟨fun _ _=>rfl,fun _ _=>rfl,g2.weak fun t ht=>ht.elim (fun ht=>⟨q,_,.head _,ht⟩) (fun ht=>⟨i,.u,.tail _ (.head _),ht⟩),fun _ _=>rfl,nofun,fun j o' hm=>?_⟩;rcases yMo.1 hm with e|hm
  ·cases e;rw [←h2] at *;exact⟨_,_,_,_,g1⟩
  ·rcases yMo.1 hm with e|hm
   ·cases e;trivial
   ·cases hm
theorem fTb :∀q,TAB hr T1 T2 none xss= .hp q→q.fz.refs= []:=fun q e=>by cases e;rfl
end
end
section
open Go.RowKit
theorem yco{α:Type}(xs:List α)(k:Nat)(h:k<xs.length):xs.take (k+1)=xs.take k++[xs[k]]:=by
 rw [yTs h]
structure Aut where
 al:LI
 n:Int
 ms:LI
 es:List Ed
def RdA(w:World)(v:Value)(a:Aut):Prop:=∃va vm ve,v= .agg #[va,.int .i64 a.n,vm,ve]∧RdI w va a.al∧RdI w vm a.ms∧RdE w ve a.es
theorem RdA.mono{w w':World}{v:Value}{a:Aut}(h:RdA w v a)(hb:Below w.heap.size w w'):RdA w' v a:=by
 obtain⟨va,vm,ve,rfl,h1,h2,h3⟩:=h;exact⟨va,vm,ve,rfl,h1.mono hb,h2.mono hb,h3.mono hb⟩
def edErr(al:LI)(n:Int):Option Ed→List Ed→Int
 | _,[]=>0
 | p,x::xs=>if(x.f<0∨n≤x.f∨x.t<0∨n≤x.t) then 2 else if hasB al x.e=false then 9 else if(∃q,p=some q∧(x.f<q.f∨(x.f=q.f∧x.e≤q.e))) then 5 else edErr al n (some x) xs
def Aut.err(a:Aut):Int:=
 if(yv 32 none a.al != 0)=true then yv 32 none a.al else if a.n<0 then 2 else if 4096<a.n then 3 else if(yv a.n none a.ms != 0)=true then yv a.n none a.ms else edErr a.al a.n none a.es
abbrev bools(xs:List Bool):List Value:=xs.map Value.bool
def RdB(w:World)(v:Value)(xs:List Bool):Prop:=∃a cap,v= .slice a xs.length cap∧RdS w 1 a xs.length cap (bools xs)
theorem RdB.mono{w w':World}{v:Value}{xs:List Bool}(h:RdB w v xs)(hb:Below w.heap.size w w'):RdB w' v xs:=by
 obtain⟨a,cap,rfl,hr⟩:=h;exact⟨a,cap,rfl,hr.mono hb⟩
end
section
def inL(es:List Ed)(s:Nat):LI:=(es.filter fun x=>decide (x.t=(s:Int))).map Ed.f
end
section
open Go.RowKit
structure BInv (w:World) (G:Array Value) (n:Nat) (wr:World) (tag:Nat→Nat) (ivs:List Value) (es:List Ed):Prop where
 below:Below w.heap.size w wr
 g:Own wr w.heap.size tag 0 w.heap.size G 315
 io:Row wr w.heap.size tag 1 26 1 (.slice (some ⟨w.heap.size+1,0,none⟩) n n) n ivs
 inn:∀s,s<n→Row wr w.heap.size tag (10+s) 3 1 (ivs.getD s undef) (inL es s).length (ints (inL es s))
section
variable{w:World}{G:Array Value}{n:Nat}{wr wr':World}{tag tag':Nat→Nat}{ivs:List Value}{es:List Ed}
theorem BInv.turn{k:Nat}(h:BInv w G n wr tag ivs es)(ht:Turn w.heap.size tag tag' k wr wr')(h1:1<k)(h2:k<10):BInv w G n wr' tag' ivs es:=
 ⟨ygg h.below ht h.below.size,h.g.turn ht (by omega),h.io.turn ht (by omega),fun s hs=>(h.inn s hs).turn ht (by omega)⟩
end
theorem yd4{n:Int}:∀{p:Option Int} {xs:LI},yv n p xs=0→∀x∈xs,0≤x∧x<n
 | _,[],_,x,hx=>by cases hx
 | p,y::ys,h,x,hx=>by
  rw [yv] at h;split at h
  ·cases h
  ·rename_i h1;split at h
   ·cases h
   ·rcases yMo.1 hx with rfl|h2
    ·omega
    ·exact yd4 h x h2
theorem ydF{al:LI}{n:Int}:∀{p:Option Ed} {xs:List Ed},edErr al n p xs=0→∀x∈xs,0≤x.f∧x.f<n∧0≤x.t∧x.t<n
 | _,[],_,x,hx=>by cases hx
 | p,y::ys,h,x,hx=>by
  rw [edErr] at h;split at h
  ·cases h
  ·rename_i h1;split at h
   ·cases h
   ·split at h
    ·cases h
    ·rcases yMo.1 hx with rfl|h2
     ·omega
     ·exact ydF h x h2
structure Aut.Ok (a:Aut):Prop where
 n0:0≤a.n
 n1:a.n≤4096
 ms:∀s∈a.ms,0≤s∧s<a.n
 es:∀x∈a.es,0≤x.f∧x.f<a.n∧0≤x.t∧x.t<a.n
theorem Aut.ok_of{a:Aut}(h:a.err=0):a.Ok:=by
 unfold Aut.err at h;split at h
 ·rename_i h1;rw [h] at h1;cases h1
 ·split at h
  ·cases h
  ·split at h
   ·cases h
   ·split at h
    ·rename_i h1;rw [h] at h1;cases h1
    ·rename_i h1 h2 h3 h4;have h5:yv a.n none a.ms=0:=by simpa using h4
     exact⟨by omega,by omega,yd4 h5,ydF h⟩
end
section
open Go Go.RowKit
abbrev AutT :=LI×Int×LI×(List (Int×Int×Int))
def toEd(x:Int×Int×Int):Ed:=⟨x.1,x.2.1,x.2.2⟩
def toAut(p:AutT):Aut:=⟨p.1,p.2.1,p.2.2.1,p.2.2.2.map toEd⟩
theorem ybG{s:Sig}:∀{xs:LI} {cs:List Value},Cells (rK .i64) s cs xs→cs=ints xs
 | [],cs,h=>h
 | x::xs,cs,h=>by
  obtain⟨c,d,rfl,h1,h2⟩:=h;have h1:c= [.int .i64 x]:=h1;rw [h1,ybG h2];rfl
theorem ydG{s:Sig}:∀(xs:LI),Cells (rK .i64) s (ints xs) xs
 | []=>rfl
 | x::xs=>⟨[.int .i64 x],ints xs,rfl,rfl,ydG xs⟩
theorem RdL.rdI{s:Sig}{a:Option Addr}{c:Nat}{xs:LI}(h:RdL (rK .i64) s a c xs):RdI s.w (.slice a xs.length c) xs:=by
 obtain⟨cs,h1,_,h3⟩:=h;rw [ybG h3] at h1;exact⟨a,c,rfl,h1⟩
def Sig.nw(s:Sig)(w':World):Sig:=⟨w',fun b=>if b<s.w.heap.size then s.tag b else 0⟩
theorem Sig.nw_mv{s:Sig}{w':World}(h:Below s.w.heap.size s.w w'):Mv No s (s.nw w'):=Below.mv h fun b hb=>iP hb
section
variable{K:Kx}{C:Cx}{P:Program}{n:Nat}{ops:Array Oper}{σ:Sx}{d:Nat}{ty:TypeId}{pos:String}{af:Array Edge}{g:Option (Nat×Bool)}
theorem O.ia{T:TypeId}{x i:Operand}{k m b off:Nat}{j:Int}{kd:IntKind}(hI:IA P T k m)(hg:Gu ops σ g)(hx:σ.ev x=some (sL (lP b off)))(hi:σ.ev i=some (VL (.int kd j)))(hj:rng j k=some ())(hb:Nat.blt d n=true):Ox K C P n ops ⟨some d,.indexAddr T x i,ty,pos,af,g⟩ σ (F1 d (sL (lP b (off+j.toNat*m)))):=
 Ox.pure fun _ _ _ _ _ _ hd k=>by
  obtain⟨v,h1,b,h2,rfl⟩:=hd.evv hx;exact L.ia hI (hd.gd hg) h1 (hd.evl hi) (yiW hj) hb (k _ ⟨b,h2,rfl⟩)
theorem yk9{f:Int→LV}{l:List LV}{cs:LI}{off m k:Nat}{v:Int}(hl:(l.drop off).take m=cs.map f)(hv:cs[k]? =some v):l[off+k]? =some (f v):=by
 have h:((l.drop off).take m)[k]? =some (f v):=by rw [hl,List.getElem?_map,hv];rfl
 rw [List.getElem?_take] at h;split at h
 ·rwa [List.getElem?_drop] at h
 ·cases h
theorem O.ldA{T:TypeId}{x:Operand}{l:List LV}{b off e k m:Nat}{v:Int}{kd:IntKind}{cs:LI}(hT:NAg P T)(hg:Gu ops σ g)(hx:σ.ev x=some (sL (lP b e)))(ho:aget σ.ob b=some (.bx ty l))(hl:(l.drop off).take m=cs.map fun z=>lV (.int kd z))(he:e=off+k)(hv:cs[k]? =some v)(hb:Nat.blt d n=true){ty':TypeId}:Ox K C P n ops ⟨some d,.load T x,ty',pos,af,g⟩ σ (F1 d (VL (.int kd v))):=
 O.ld hT hg hx (.B ho) (by rw [he];exact yk9 hl hv) hb
end
/-! Common operations, in short. -/
section
variable{K:Kx}{C:Cx}{P:Program}{Φ:Fr}{Q:Exit→Act→World→Prop}{n:Nat}{ops:Array Oper}{os:List Oper}{σ:Sx}{d:Nat}{ty:TypeId}{pos:String}{af:Array Edge}
theorem V.mv{x:Operand}{y:SV}(h:(σ.ev x,Nat.blt d n,(F1 d y).ok K σ.n)=(some y,true,true))(h2:V K C Φ P Q n ops os (σ.eff (F1 d y))):V K C Φ P Q n ops (⟨some d,.move x,ty,pos,af,none⟩::os) σ:=by
 simp only [Prod.mk.injEq] at h;exact .op (O.mv .no h.1 h.2.1) h.2.2 h2
theorem V.sa{x:Operand}{y:SV}(h:(σ.ev x,Nat.blt d n,(F1 d y).ok K σ.n)=(some y,true,true))(h2:V K C Φ P Q n ops os (σ.eff (F1 d y))):V K C Φ P Q n ops (⟨some d,.assign x,ty,pos,af,none⟩::os) σ:=by
 simp only [Prod.mk.injEq] at h;exact .op (O.as .no h.1 h.2.1) h.2.2 h2
theorem V.bi{op:BinOp}{T U:TypeId}{x y:Operand}{k:IntKind}{i j:Int}{v:Value}(h:(σ.ev x,σ.ev y,yar op k i j,Nat.blt d n,(F1 d (VL v)).ok K σ.n)=(some (VL (.int k i)),some (VL (.int k j)),some v,true,true))(h2:V K C Φ P Q n ops os (σ.eff (F1 d (VL v)))):V K C Φ P Q n ops (⟨some d,.binOp op T x y U,ty,pos,af,none⟩::os) σ:=by
 simp only [Prod.mk.injEq] at h;exact .op (O.bi .no h.1 h.2.1 h.2.2.1 h.2.2.2.1) h.2.2.2.2 h2
theorem V.sk{op:Op}{j q:Nat}{b b':Bool}(h:((ops[j]?).bind (·.dst),aget σ.sl q,b',Nat.blt d n,(F1 d (.tp [])).ok K σ.n)=(some q,some (VL (.bool b')),!b,true,true))(h2:V K C Φ P Q n ops os (σ.eff (F1 d (.tp [])))):V K C Φ P Q n ops (⟨some d,op,ty,pos,af,some (j,b)⟩::os) σ:=by
 simp only [Prod.mk.injEq] at h;exact .op (O.skip h.1 h.2.1 h.2.2.1 h.2.2.2.1) h.2.2.2.2 h2
end
def Sx.dr(σ:Sx)(d:List Nat):Sx:=⟨σ.sl,σ.ob.filter fun p=>!(d.any (Nat.beq p.1)),σ.n⟩
theorem ycF{d:List Nat}{i:Nat}{o:Ob}:∀{l:List (Nat×Ob)},aget (l.filter fun p=>!(d.any (Nat.beq p.1))) i=some o→aget l i=some o
 | [],h=>h
 | (j,x)::l,h=>by
  rw [List.filter_cons] at h;simp only [aget];split at h
  ·simp only [aget] at h;cases hb:Nat.beq j i with
   | true=>rw [hb] at h;exact h
   | false=>rw [hb] at h;exact ycF h
  ·rename_i hd;cases hb:Nat.beq j i with
   | true=>
    exfalso;have hm:=(List.mem_filter.1 (y7Z h)).2;rw [←yNb hb] at hm;exact hd hm
   | false=>exact ycF h
section
variable{K:Kx}{C:Cx}{P:Program}{Φ:Fr}{Q:Exit→Act→World→Prop}{n:Nat}{σ:Sx}{fs:List Eff}{A:List (List Nat)}{N:Nat}
theorem Den.okd{d:List Nat}{k:Nat}{m:List Bool}{j:Nat}{β:Nat→Value}{s:Sig}{e:List (Nat×Value)}(hk:okQ A fs N (σ.dr d) k m=true)(hn:Nat.beq (muK m fs σ.n) j=true)(h:Den K C (mu A fs N σ k (ixs m 0)) β s e):Den K C (muS (σ.dr d) fs m j) β s e:=by
 have hj:(mu A fs N σ k (ixs m 0)).n=j:=by
  show muN fs σ.n (ixs m 0)=j;rw [y8k (fs:=fs) fun i=>by rw [yNz]];exact yNb hn
 simp only [okQ,yAe] at hk;obtain⟨k1,k2,k3⟩:=hk;have ho:∀i o,aget (muO m fs (σ.dr d).ob) i=some o→aget (mu A fs N σ k (ixs m 0)).ob i=some o:=fun i o hx=>by
  show aget (muE A fs N k (ixs m 0) (muF A fs N k σ.ob)) i=some o;rw [ydh (fs:=fs) (fun j hj p hp=>yAt.1 (yAt.1 k1 j hj) p hp) fun i=>by rw [yNz],yb9];rw [yb9] at hx;refine y8E (fun hno x hx=>?_) hx;rcases Bool.or_eq_true_iff.1 (yAt.1 k2 _ (y7Z hx)) with g|g
  ·obtain ⟨q,hq,hq2⟩:=List.any_eq_true.1 g;have:q.1=i:=yNb hq2;exact absurd (show (i,q.2)∈_ from by rw [←this];exact hq) (hno q.2)
  ·exact ydD g (ycF hx)
 have hs:∀d' x,aget (muM m fs (σ.dr d).sl) d'=some x→aget (mu A fs N σ k (ixs m 0)).sl d'=some x:=fun i o hx=>by
  show aget (muA fs (ixs m 0) (muB A fs N k σ.sl)) i=some o;rw [yaj (fs:=fs) fun i=>by rw [yNz],y9p];rw [y9p] at hx;refine y8E (fun hno x hx=>?_) hx;rcases Bool.or_eq_true_iff.1 (yAt.1 k3 _ (y7Z hx)) with g|g
  ·obtain ⟨q,hq,hq2⟩:=List.any_eq_true.1 g;have:q.1=i:=yNb hq2;exact absurd (show (i,q.2)∈_ from by rw [←this];exact hq) (hno q.2)
  ·exact ydE g hx
 exact⟨h.ok,h.mv,h.b0,hj▸h.m,fun d x hx=>h.sl d x (hs d x hx),fun i o hx=>h.ob i o (ho i o hx),fun d x hx=>hj▸h.fs d x (hs d x hx),fun i o hx=>hj▸h.fo i o (ho i o hx)⟩
def Wsd(K:Kx)(C:Cx)(P:Program)(n:Nat)(ops:Array Oper)(all:List Eff)(σ:Sx):List (Nat×List Bool×List Nat)→List Eff→List Oper→Prop
 | _,_,[]=>True
 | m::ms,f::fs,o::os=>Ox K C P n ops o (muS (σ.dr m.2.2) all m.2.1 m.1) f∧Wsd K C P n ops all σ ms fs os
 | _,_,_::_=>False
def okKd(A:List (List Nat))(fs:List Eff)(N:Nat)(σ:Sx):Nat→List (Nat×List Bool×List Nat)→Bool
 | _,[]=>true
 | k,m::ms=>okQ A fs N (σ.dr m.2.2) k m.2.1&&okKd A fs N σ (k+1) ms
def nsOd(fs:List Eff)(n:Nat)(ms:List (Nat×List Bool×List Nat)):Bool:=ms.all fun m=>Nat.beq (muK m.2.1 fs n) m.1
theorem Wsd.gg{ops:Array Oper}{all:List Eff}:∀{l:List Oper} {k:Nat} {ms:List (Nat×List Bool×List Nat)} {fs:List Eff},okKd A all N σ k ms=true→nsOd all σ.n ms=true→Wsd K C P n ops all σ ms fs l→(∀i,all.getD (k+i) noE=fs.getD i noE)→(∀i,A.getD (k+i) []=(ms.map fun m=>ixs m.2.1 0).getD i [])→y8U K C P n ops A all N σ k l
 | [],_,_,_,_,_,_,_,_=>trivial
 | o::os,k,m::ms,f::fs,hk,hn,hw,hf,hA=>by
  simp only [okKd,yAe] at hk;simp only [nsOd,List.all_cons,yAe] at hn;refine⟨?_,Wsd.gg hk.2 hn.2 hw.2 (fun i=>?_) (fun i=>?_)⟩
  ·have h1:=hf 0;have h2:=hA 0;rw [Nat.add_zero] at h1 h2;rw [h1,h2,show(List.map (fun (m:Nat×List Bool×List Nat)=>ixs m.2.1 0) (m::ms)).getD 0 []=ixs m.2.1 0 from rfl];intro Φ Q os β s e hd hc;have hj:(mu A all N σ k (ixs m.2.1 0)).n=m.1:=by
    show muN all σ.n (ixs m.2.1 0)=m.1;rw [y8k (fs:=all) fun i=>by rw [yNz]];exact yNb hn.1
   exact hw.1 Φ Q os β s e (hd.okd hk.1 hn.1) fun β' s' e' a=>hc β' s' e' (by rw [hj];exact a)
  ·have:=hf (i+1);rw [show k+(i+1)=k+1+i by omega] at this;simpa using this
  ·have:=hA (i+1);rw [show k+(i+1)=k+1+i by omega] at this;simpa using this
 | _::_,_,[],_,_,_,hw,_,_=>by cases hw
 | _::_,_,_::_,[],_,_,hw,_,_=>by cases hw
theorem WE.drd{id:Nat}{l:List Oper}(j:Nat)(ms:List (Nat×List Bool×List Nat))(fs:List Eff)(τ:Sx)(hs:Wsd K C P n l.toArray fs σ ms fs l)(hok:(okQ (ms.map fun m=>ixs m.2.1 0) fs l.length σ l.length (List.replicate l.length true)&&(Nat.beq (muK (List.replicate l.length true) fs σ.n) j&&(okKd (ms.map fun m=>ixs m.2.1 0) fs l.length σ 0 ms&&(nsOd fs σ.n ms&&y8V P K (ms.map fun m=>ixs m.2.1 0) fs σ.n l.toArray))))=true)(hτ:τ.is K (muS σ fs (List.replicate l.length true) j) [])(h0:WX K C Φ Q n .normal τ):WE K C Φ P Q n (.region id l.toArray true) σ:=by
 simp only [yAe] at hok;obtain⟨h1,h2,h3,h4,h5⟩:=hok;have hz:∀i,fs.getD (0+i) noE=fs.getD i noE:=fun i=>by rw [yNz]
 refine .draw' (ms.map fun m=>ixs m.2.1 0) fs (Wsd.gg h3 h4 hs hz fun i=>by rw [yNz]) h5 ?_;rw [List.range_eq_range',←yb8];exact fun β s e hd=>h0.sub [] hτ β s e (hd.okK h1 h2)
end
end
end Go.Proofs.YtfdeiphkmjdifaaGreatDoor
