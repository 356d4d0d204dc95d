/- Lemmas for the card; no conditions. -/
import Derived.Still
import Derived.Laws.Sem
import Derived.Below
import Derived.Laws.Entries
import Derived.Laws.Rows
import Derived.Laws.BytesString
import Derived.Laws.StructEq
import Derived.Lib.ConvBytes
import Derived.Laws.CopyRow
import Derived.Laws.MakeOwn
import Derived.Laws.AppendOwn
import Derived.Deep.AppendSrc
set_option linter.all false
namespace Go
theorem aA:type_of% @Bool.and_eq_true:=@Bool.and_eq_true
theorem aB:type_of% @List.getElem?_eq_getElem:=@List.getElem?_eq_getElem
theorem aC:type_of% @List.mem_cons_of_mem:=@List.mem_cons_of_mem
theorem aD:type_of% @Nat.eq_of_beq_eq_true:=@Nat.eq_of_beq_eq_true
theorem aF:type_of% @decide_eq_true_eq:=@decide_eq_true_eq
theorem aG:type_of% @Option.map_eq_some_iff:=@Option.map_eq_some_iff
theorem aH:type_of% @if_neg:=@if_neg
theorem aI:type_of% @Option.some.injEq:=@Option.some.injEq
theorem aJ:type_of% @if_pos:=@if_pos
theorem aL:type_of% @Result.andThen_ok:=@Result.andThen_ok
theorem aO:type_of% @List.mem_cons_self:=@List.mem_cons_self
theorem aP:type_of% @List.all_eq_true:=@List.all_eq_true
theorem aQ:type_of% @List.getElem?_eq_some_iff:=@List.getElem?_eq_some_iff
theorem aR:type_of% @List.mem_singleton_self:=@List.mem_singleton_self
theorem aU:type_of% @List.length_append:=@List.length_append
theorem aW:type_of% @Sem.run_bind:=@Sem.run_bind
theorem aX:type_of% @Array.getElem?_eq_some_iff:=@Array.getElem?_eq_some_iff
theorem aY:type_of% @List.mem_cons:=@List.mem_cons
theorem aZ:type_of% @List.length_cons:=@List.length_cons
theorem bA:type_of% @List.getElem?_map:=@List.getElem?_map
theorem bB:type_of% @Nat.le_refl:=@Nat.le_refl
theorem bC:type_of% @List.getD_eq_getElem?_getD:=@List.getD_eq_getElem?_getD
theorem bD:type_of% @run_underlying:=@run_underlying
theorem bF:type_of% @Prod.mk.injEq:=@Prod.mk.injEq
theorem bG:type_of% @congrArg:=@congrArg
theorem bH:type_of% @Sem.run_pure:=@Sem.run_pure
theorem bI:type_of% @Bool.false_eq_true:=@Bool.false_eq_true
theorem bJ:type_of% @List.getElem?_take:=@List.getElem?_take
theorem bK:type_of% @List.mem_of_getElem?:=@List.mem_of_getElem?
theorem bL:type_of% @List.length_nil:=@List.length_nil
theorem bM:type_of% @Bool.and_true:=@Bool.and_true
theorem bN:type_of% @beq_iff_eq:=@beq_iff_eq
theorem bO:type_of% @Bool.or_eq_true:=@Bool.or_eq_true
theorem bP:type_of% @List.flatMap_cons:=@List.flatMap_cons
theorem bQ:type_of% @Bool.not_eq_true':=@Bool.not_eq_true'
theorem bR:type_of% @List.mem_singleton:=@List.mem_singleton
theorem bS:type_of% @List.mem_map:=@List.mem_map
theorem bT:type_of% @Array.getElem?_setIfInBounds_ne:=@Array.getElem?_setIfInBounds_ne
theorem bU:type_of% @decide_eq_true:=@decide_eq_true
theorem bV:type_of% @Option.some.inj:=@Option.some.inj
theorem bX:type_of% @List.getElem_of_mem:=@List.getElem_of_mem
theorem bZ:type_of% @List.mem_append:=@List.mem_append
theorem cA:type_of% @List.getElem?_eq_none:=@List.getElem?_eq_none
theorem cB:type_of% @if_true:=@if_true
theorem cC:type_of% @List.getElem_mem:=@List.getElem_mem
theorem cD:type_of% @List.getElem?_drop:=@List.getElem?_drop
theorem cG:type_of% @Nat.zero_add:=@Nat.zero_add
theorem cH:type_of% @of_decide_eq_true:=@of_decide_eq_true
theorem cJ:type_of% @List.getElem?_cons_zero:=@List.getElem?_cons_zero
theorem cK:type_of% @Option.map_some:=@Option.map_some
theorem cL:type_of% @Bool.true_and:=@Bool.true_and
theorem cM:type_of% @List.eq_nil_of_length_eq_zero:=@List.eq_nil_of_length_eq_zero
theorem cN:type_of% @if_false:=@if_false
theorem cO:type_of% @Classical.choose_spec:=@Classical.choose_spec
theorem cP:type_of% @List.length_drop:=@List.length_drop
theorem cQ:type_of% @Nat.le_of_not_lt:=@Nat.le_of_not_lt
theorem cT:type_of% @decide_eq_false:=@decide_eq_false
theorem cU:type_of% @List.getElem?_append_right:=@List.getElem?_append_right
theorem cW:type_of% @Array.length_toList:=@Array.length_toList
theorem cX:type_of% @Nat.lt_of_lt_of_le:=@Nat.lt_of_lt_of_le
theorem cY:type_of% @List.length_take:=@List.length_take
theorem cZ:type_of% @Nat.mul_le_mul_right:=@Nat.mul_le_mul_right
theorem dA:type_of% @Nat.succ_mul:=@Nat.succ_mul
theorem dB:type_of% @beq_eq_false_iff_ne:=@beq_eq_false_iff_ne
theorem dC:type_of% @List.take_of_length_le:=@List.take_of_length_le
theorem dD:type_of% @Array.getElem?_eq_none:=@Array.getElem?_eq_none
theorem dE:type_of% @List.getElem?_set_ne:=@List.getElem?_set_ne
theorem dF:type_of% @List.not_mem_nil:=@List.not_mem_nil
theorem dG:type_of% @List.flatMap_append:=@List.flatMap_append
theorem dH:type_of% @Array.getElem?_setIfInBounds_self:=@Array.getElem?_setIfInBounds_self
theorem dI:type_of% @List.getElem?_append_left:=@List.getElem?_append_left
theorem dJ:type_of% @Classical.byContradiction:=@Classical.byContradiction
theorem dK:type_of% @Nat.le_trans:=@Nat.le_trans
theorem dL:type_of% @List.getElem?_cons_succ:=@List.getElem?_cons_succ
theorem dM:type_of% @List.getElem?_set:=@List.getElem?_set
theorem dN:type_of% @List.map_cons:=@List.map_cons
theorem dP:type_of% @List.getElem?_append:=@List.getElem?_append
theorem dQ:type_of% @List.length_map:=@List.length_map
theorem dR:type_of% @List.cons_append:=@List.cons_append
theorem dS:type_of% @Nat.eq_or_lt_of_le:=@Nat.eq_or_lt_of_le
theorem dT:type_of% @Nat.add_assoc:=@Nat.add_assoc
theorem dU:type_of% @List.nodup_cons:=@List.nodup_cons
theorem dV:type_of% @ByteArray.size_data:=@ByteArray.size_data
theorem dW:type_of% @Array.getElem?_toList:=@Array.getElem?_toList
theorem dX:type_of% @Nat.le_of_ble_eq_true:=@Nat.le_of_ble_eq_true
theorem dY:type_of% @Array.getElem?_modify:=@Array.getElem?_modify
theorem eB:type_of% @Bool.eq_iff_iff:=@Bool.eq_iff_iff
theorem eC:type_of% @List.mem_of_mem_take:=@List.mem_of_mem_take
theorem eD:type_of% @Option.bind_some:=@Option.bind_some
theorem eE:type_of% @Bool.beq_comm:=@Bool.beq_comm
theorem eF:type_of% @List.drop_of_length_le:=@List.drop_of_length_le
theorem eG:type_of% @Nat.lt_or_ge:=@Nat.lt_or_ge
theorem eH:type_of% @List.mapM_toArray:=@List.mapM_toArray
theorem eJ:type_of% @List.append_assoc:=@List.append_assoc
theorem eL:type_of% @run_getObj_map:=@run_getObj_map
theorem eM:type_of% @List.mem_map_of_mem:=@List.mem_map_of_mem
theorem eN:type_of% @List.drop_eq_getElem_cons:=@List.drop_eq_getElem_cons
theorem eO:type_of% @List.mem_of_find?_eq_some:=@List.mem_of_find?_eq_some
theorem eP:type_of% @List.any_eq_true:=@List.any_eq_true
theorem eQ:type_of% @Option.isSome_iff_exists:=@Option.isSome_iff_exists
theorem eR:type_of% @List.mem_of_mem_drop:=@List.mem_of_mem_drop
theorem eT:type_of% @List.mem_range:=@List.mem_range
theorem eU:type_of% @List.length_eq_zero_iff:=@List.length_eq_zero_iff
theorem eV:type_of% @List.length_range:=@List.length_range
theorem eW:type_of% @List.nil_append:=@List.nil_append
theorem eX:type_of% @List.map_append:=@List.map_append
theorem eY:type_of% @List.length_eq_one_iff:=@List.length_eq_one_iff
theorem fB:type_of% @List.cons.inj:=@List.cons.inj
theorem fC:type_of% @List.range'_succ:=@List.range'_succ
theorem fD:type_of% @List.drop_zero:=@List.drop_zero
theorem fE:type_of% @List.mem_filterMap:=@List.mem_filterMap
theorem fH:type_of% @List.take_append_drop:=@List.take_append_drop
theorem fI:type_of% @Bool.or_eq_false_iff:=@Bool.or_eq_false_iff
theorem fJ:type_of% @Nat.beq_refl:=@Nat.beq_refl
theorem fL:type_of% @List.ext_getElem?:=@List.ext_getElem?
theorem fM:type_of% @Array.toArray_toList:=@Array.toArray_toList
theorem fN:type_of% @Array.getElem?_push:=@Array.getElem?_push
theorem fO:type_of% @List.flatMap_map:=@List.flatMap_map
theorem fP:type_of% @Option.getD_some:=@Option.getD_some
theorem fQ:type_of% @or_false:=@or_false
theorem fR:type_of% @Nat.add_mul:=@Nat.add_mul
theorem fT:type_of% @List.cons.injEq:=@List.cons.injEq
theorem fU:type_of% @List.range_succ:=@List.range_succ
theorem fV:type_of% @Sem.run_map:=@Sem.run_map
theorem fW:type_of% @Nat.add_zero:=@Nat.add_zero
theorem fX:type_of% @Nat.zero_mul:=@Nat.zero_mul
theorem fY:type_of% @Int.zero_add:=@Int.zero_add
end Go
namespace Go.Ps
noncomputable section
abbrev iC:=IntKind
abbrev gB:=TypeId
abbrev gH:=List UInt8
inductive T where
 |int (k:iC) (n:Int)
 |bool (b:Bool)
 |str (s:gH)
 |fS
 |ptr (l off:Nat)
 |ref (x:T) (off:Nat)
 |fp
 |sl (full:Bool) (xs:List T)
 |ac (full:Bool) (n:Nat) (f:Nat->T)
 |ge (l sz i len:Nat)
 |gg
 |fn (f:Fn) (first captured:List T)
 |gb
 |iface (t:gB) (x:T)
 |fw
 |mp (l:Nat)
 |yl (l:Nat)
 |agg (cs:List T)
 |fm (xs:List T)
instance:Inhabited T:=⟨.fS⟩
abbrev oS:T:= .fm []
def T.cells:T->List T
 | .agg c=>c|t=>[t]
def T.one:T->Bool
 | .agg _ | .fm _ =>false|_ =>true
def T.isAgg:T->Bool
 | .agg _ =>true|_ =>false
def XY:Value->Option T
 | .int k n=>some (.int k n)| .bool b=>some (.bool b)| .string s=>some (.str s.data.toList)| .pointer none=>some .fS| .slice none 0 0=>some .fp| .nilFunc=>some .gg| .nilIface=>some .gb| .map none=>some .fw|_ =>none
def FZ:List Value->Option (List T)
 |[]=>some []
 |v::c=>match XY v with
  |some t=>match FZ c with
   |some b=>some (t::b)|none=>none
  |none=>none
def ST:Value->Option T
 | .agg c=>match FZ c.toList with
  |some b=>some (.agg b)|none=>none
 | .tuple d=>match d.toList with
  |[]=>some (.fm [])|_ =>none
 |v=>XY v
inductive FT where
 |nl
 |nd (v:T) (l r:FT)
structure Lr where
 st:LoopState
 pe:Option Code
 fr:FT
 n:Nat
 ps:Array Tmp
 iF:Code
 bd:Code
 ow:Tmp->Bool
abbrev gS:=List (Nat×T×T)
abbrev gU:=List Nat
inductive Mo where
 |map (c:Nat) (es:gS)
 |loop (r:Lr)
 |aT (m since:Nat) (seen:gU) (last:Nat)
 |cz (s:gH) (pos:Nat)
 |cd
structure Ob where
 elem:TypeId
 sz:Nat
 cells:List T
 me:Option Mo:=none
abbrev jY:=Option Ob
inductive Ht where
 |nl
 |nd (o:jY) (l r:Ht)
noncomputable def Ht.val(t:Ht):Option Ob:=Ht.rec (motive:=λ_ =>Option Ob) none (λo _ _ _ _ =>o) t
noncomputable def Ht.lf(t:Ht):Ht:=Ht.rec (motive:=λ_ =>Ht) .nl (λ_ l _ _ _ =>l) t
noncomputable def Ht.rt(t:Ht):Ht:=Ht.rec (motive:=λ_ =>Ht) .nl (λ_ _ r _ _ =>r) t
noncomputable def aDz(k:Nat):Nat->List Bool:=Nat.rec (motive:=λ_ =>Nat->List Bool) (λ_ =>[]) (λ_ i n=>Nat.rec (motive:=λ_ =>List Bool) [] (λm _ =>Nat.rec (motive:=λ_ =>List Bool) (false::i (Nat.div m 2)) (λ_ _ =>true::i (Nat.div m 2)) (Nat.mod m 2)) n) k
noncomputable def Qt(n:Nat):List Bool:=aDz (Nat.succ n) n
abbrev gL:=List Bool
noncomputable def Ht.bj(p:gL):Ht->Option Ob:=List.rec (motive:=λ_ =>Ht->Option Ob) (λt=>t.val) (λb _ i t=>Bool.rec (motive:=λ_ =>Option Ob) (i t.lf) (i t.rt) b) p
noncomputable def Ht.az(v:jY)(p:gL):Ht->Ht:=List.rec (motive:=λ_ =>Ht->Ht) (λt=> .nd v t.lf t.rt) (λb _ i t=>Bool.rec (motive:=λ_ =>Ht) (.nd t.val (i t.lf) t.rt) (.nd t.val t.lf (i t.rt)) b) p
noncomputable def FT.val(t:FT):T:=FT.rec (motive:=λ_ =>T) oS (λv _ _ _ _ =>v) t
noncomputable def FT.lf(t:FT):FT:=FT.rec (motive:=λ_ =>FT) .nl (λ_ l _ _ _ =>l) t
noncomputable def FT.rt(t:FT):FT:=FT.rec (motive:=λ_ =>FT) .nl (λ_ _ r _ _ =>r) t
noncomputable def FT.gt(p:gL):FT->T:=List.rec (motive:=λ_ =>FT->T) (λt=>t.val) (λb _ i t=>Bool.rec (motive:=λ_ =>T) (i t.lf) (i t.rt) b) p
noncomputable def FT.st(v:T)(p:gL):FT->FT:=List.rec (motive:=λ_ =>FT->FT) (λt=> .nd v t.lf t.rt) (λb _ i t=>Bool.rec (motive:=λ_ =>FT) (.nd t.val (i t.lf) t.rt) (.nd t.val t.lf (i t.rt)) b) p
noncomputable def FT.view(t:FT)(n:Nat):List T:=(List.range n).map λi=>FT.gt (Qt i) t
def FT.Wf(n:Nat)(t:FT):Prop:=∀m,n<=m->FT.gt (Qt m) t=oS
def nA:List Bool->Nat
 |[]=>0|b::p=>2*nA p+(if b then 2 else 1)
theorem aEa(k m:Nat):aDz (k+1) (m+1)=(!(m%2==0))::aDz k (m/2):=by
 show Nat.rec (motive:=λ_ =>List Bool) (false::aDz k (m/2)) (λ_ _ =>true::aDz k (m/2)) (m%2)=_;cases m%2<;>rfl
theorem YB:∀(k n:Nat),n<k->nA (aDz k n)=n
 |0,_,h=>absurd h (Nat.not_lt_zero _)|k+1,0,_ =>rfl
 |k+1,m+1,h=>by
  rw[aEa,nA,YB k (m/2) (by omega)];by_cases b:m%2=0;simp[b];omega;have:(m%2==0)=false:=by simpa using b
  simp[this];omega
theorem aAo{m n:Nat}(h:Qt m=Qt n):m=n:=by
 have c:=YB (m+1) m (by omega);have b:=YB (n+1) n (by omega);rw[<-c,<-b];exact bG nA h
theorem Ht.ce(v:jY):∀(p q:gL) (t:Ht),Ht.bj q (Ht.az v p t)=if q=p then v else Ht.bj q t
 |[],[],t=>rfl
 |[],b::q,t=>by
  rw[aH (by simp)];show Ht.bj (b::q) (.nd v t.lf t.rt)=_;cases b<;>rfl
 |b::p,[],t=>by
  rw[aH (by simp)];cases b<;>rfl
 |b::p,c::q,t=>by
  cases b<;>cases c;show Ht.bj q (Ht.az v p t.lf)=_;rw[Ht.ce v p q];by_cases e:q=p;rw[aJ e,aJ (by rw[e])];rw[aH e,aH (by simpa using e)];rfl;rw[aH (by simp)];rfl;rw[aH (by simp)];rfl;show Ht.bj q (Ht.az v p t.rt)=_;rw[Ht.ce v p q];by_cases e:q=p;rw[aJ e,aJ (by rw[e])];rw[aH e,aH (by simpa using e)];rfl
noncomputable def Ht.get(t:Ht)(n:Nat):Option Ob:=Ht.bj (Qt n) t
noncomputable def Ht.put(x:jY)(t:Ht)(n:Nat):Ht:=Ht.az x (Qt n) t
theorem Ht.gw(x:jY)(t:Ht)(n m:Nat):(Ht.put x t n).get m=if m=n then x else t.get m:=by
 unfold Ht.put Ht.get;rw[Ht.ce];by_cases e:m=n;rw[aJ (by rw[e]),aJ e];rw[aH (λh=>e (aAo h)),aH e]
theorem Ht.ii(n:Nat):Ht.get .nl n=none:=by
 unfold Ht.get;have:∀p,Ht.bj p .nl=none:=by
  intro p
  induction p with
  |nil=>rfl|cons b p i=>cases b<;>exact i
 exact this _
structure Hp where
 next:Nat
 J:Ht
noncomputable def Hp.any(H:Hp)(l:Nat):Option Ob:=H.J.get l
def Ob.plain(o:Ob):Option Ob:=match o.me with
 |none=>some o|some _ =>none
noncomputable def Hp.get(H:Hp)(l:Nat):Option Ob:=match H.any l with
 |some o=>o.plain|none=>none
noncomputable def Hp.put(H:Hp)(l:Nat)(o:Ob):Hp:={H with J:=H.J.put (some o) l}
noncomputable def Hp.drop(H:Hp)(l:Nat):Hp:={H with J:=H.J.put none l}
noncomputable def Hp.new(H:Hp)(o:Ob):Hp:={next:=H.next+1,J:=H.J.put (some o) H.next}
def Hp.empty:Hp:={next:=0,J:= .nl}
theorem qP(H:Hp)(l:Nat)(o:Ob)(m:Nat):(H.put l o).any m=if m=l then some o else H.any m:=Ht.gw (some o) H.J l m
theorem qY(H:Hp)(l m:Nat):(H.drop l).any m=if m=l then none else H.any m:=Ht.gw none H.J l m
theorem rN(H:Hp)(o:Ob)(l:Nat):(H.new o).any l=if H.next=l then some o else H.any l:=by
 refine(Ht.gw (some o) H.J H.next l).trans ?_;by_cases h:l=H.next;rw[aJ h,aJ h.symm];rw[aH h,aH (λe=>h e.symm)];rfl
theorem pD{H:Hp}{l:Nat}{o:Ob}(h:H.get l=some o):H.any l=some o/\o.me=none:=by
 unfold Hp.get at h;split at h;rename_i d c;unfold Ob.plain at h;split at h;rename_i b;cases h;exact⟨c,b⟩;cases h;cases h
theorem yA{H:Hp}{l:Nat}{o:Ob}(h:H.any l=some o)(b:o.me=none):H.get l=some o:=by simp[Hp.get,h,Ob.plain,b]
theorem FP{H c:Hp}{l b:Nat}(h:H.any l=c.any b):H.get l=c.get b:=by unfold Hp.get;rw[h]
theorem uN(H:Hp)(l:Nat):H.get l=(H.any l).bind Ob.plain:=by unfold Hp.get;cases H.any l<;>rfl
theorem FI(H:Hp)(o:Ob)(l:Nat)(h:o.me=none:=by rfl):(H.new o).get l=if H.next=l then some o else H.get l:=by
 rw[uN,rN,uN];split;simp[Ob.plain,h];rfl
theorem gw(H:Hp)(l:Nat)(o:Ob)(m:Nat)(h:o.me=none):(H.put l o).get m=if m=l then some o else H.get m:=by
 rw[uN,qP,uN];split;simp[Ob.plain,h];rfl
theorem aIa(H:Hp)(l m:Nat):(H.drop l).get m=if m=l then none else H.get m:=by
 rw[uN,qY,uN];split<;>rfl
theorem vX(n l:Nat):Hp.any ⟨n,.nl⟩ l=none:=Ht.ii l
theorem ii(n l:Nat):Hp.get ⟨n,.nl⟩ l=none:=by unfold Hp.get;rw[vX]
abbrev gD:=Program
def KM(P:gD)(t:gB):Option Bool:=
 match P.underlying t with
 |some (.struct _)|some (.array _ _)=>some true|some _ =>some false|none=>none
def uI(P:gD)(t:gB):Option Nat:=(P.info? t).map (·.size)
def wM(P:gD)(t:gB):Option T:=
 match P.info? t with
 |some i=>match i.zero with
  |some v=>ST v|none=>none
 |none=>none
abbrev gC:=List T
noncomputable def rW(f:gC):Tmp->T:=List.rec (motive:=λ_ =>Nat->T) (λ_ =>oS) (λx _ i n=>Nat.rec (motive:=λ_ =>T) x (λm _ =>i m) n) f
noncomputable def aDh(v:T)(f:gC):Nat->List T:=List.rec (motive:=λ_ =>Nat->List T) (λ_ =>[]) (λx b i n=>Nat.rec (motive:=λ_ =>List T) (v::b) (λm _ =>x::i m) n) f
noncomputable def bGo(f:gC):Nat->Option T:=List.rec (motive:=λ_ =>Nat->Option T) (λ_ =>none) (λx _ i n=>Nat.rec (motive:=λ_ =>Option T) (some x) (λm _ =>i m) n) f
theorem uG:∀(f:gC) (t:Tmp),rW f t=f.getD t oS
 |[],_ =>rfl|_ ::_,0=>rfl|_ ::x,n+1=>(uG x n).trans rfl
theorem OY(v:T):∀(f:gC) (t:Nat),aDh v f t=f.set t v
 |[],_ =>rfl|_ ::_,0=>rfl|x::b,n+1=>bG (x:: ·) (OY v b n)
theorem Zf:∀(f:gC) (t:Nat),bGo f t=f[t]?
 |[],_ =>rfl|_ ::_,0=>rfl|_ ::x,n+1=>(Zf x n).trans rfl
abbrev gG:=Nat->Option T
def pQ(gl:gG)(b:gC):Operand->Option T
 | .tmp t=>some (rW b t)| .const v=>ST v| .global g=>gl g| .func f=>some (.fn (.func f) [] [])
def vN(gl:gG)(f:gC):List Operand->Option (List T)
 |[]=>some []
 |x::c=>match pQ gl f x with
  |some t=>match vN gl f c with
   |some b=>some (t::b)|none=>none
  |none=>none
def vM(H:Hp):T->Option (List T×Nat)
 | .ref x b=>some (x.cells,b)
 | .ptr l b=>match H.get l with
  |some o=>some (o.cells,b)|none=>none
 |_ =>none
def wK(P:gD)(t:gB)(c:gC)(o:Nat):Option T:=
 match KM P t with
 |some true=>match uI P t with
  |some n=>if o+n<=c.length then some (.agg ((c.drop o).take n))else none
  |none=>none
 |some false=>c[o]?|none=>none
def wI(P:gD)(H:Hp)(t:gB)(p:T):Option T:=
 match vM H p with
 |some (c,o)=>wK P t c o|none=>none
def aAu:T->Nat->Option T
 | .ref x o,n=>some (.ref x (o+n))| .ptr l o,n=>some (.ptr l (o+n))|_,_ =>none
abbrev jU:=BinOp
def xP(o:jU)(k:iC)(a b:Int):Option T:=
 match o with
 | .add=>some (.int k (k.wrap (a+b)))| .sub=>some (.int k (k.wrap (a-b)))| .mul=>some (.int k (k.wrap (a*b)))| .quo=>if b=0 then none else some (.int k (k.wrap (a.tdiv b)))
 | .rem=>if b=0 then none else some (.int k (a.tmod b))
 | .and=>some (.int k (k.wrap (BitVec.ofInt k.bits a&&&BitVec.ofInt k.bits b).toNat))| .or=>some (.int k (k.wrap (BitVec.ofInt k.bits a|||BitVec.ofInt k.bits b).toNat))| .xor=>some (.int k (k.wrap (BitVec.ofInt k.bits a^^^BitVec.ofInt k.bits b).toNat))| .andNot=>some (.int k (k.wrap (BitVec.ofInt k.bits a&&& ~~~BitVec.ofInt k.bits b).toNat))| .eql=>some (.bool (a==b))| .neq=>some (.bool (a !=b))| .lss=>some (.bool (decide (a<b)))| .leq=>some (.bool (decide (a<=b)))| .gtr=>some (.bool (decide (a>b)))| .geq=>some (.bool (decide (a>=b)))|_ =>none
def zF(o:jU)(k:iC)(a b:Int):Option T:=
 match o with
 | .shl=>if b<0 then none else some (.int k (k.wrap (a*2^(min b.toNat k.bits))))
 | .shr=>if b<0 then none else some (.int k (a.fdiv (2^(min b.toNat k.bits))))
 |_ =>none
def pK:Nat:=4611686018427387904
def GE(o:jU)(a b:gH):Option T:=
 match o with
 | .add=>if a.length+b.length<=pK then some (.str (a++b))else none
 | .eql=>some (.bool (a==b))| .neq=>some (.bool (!(a==b)))| .lss=>some (.bool (Op.bytesLess a b))| .leq=>some (.bool (Op.bytesLess a b||a==b))| .gtr=>some (.bool (!(Op.bytesLess a b||a==b)))| .geq=>some (.bool (!Op.bytesLess a b))|_ =>none
def PR(P:gD)(t:gB)(x y:T):Option Bool:=
 match P.underlying t,x,y with
 |some .bool,.bool a,.bool b=>some (a==b)|some (.slice _),.fp,.fp=>some true|some (.slice _),.fp,.sl .. =>some false|some (.slice _),.sl ..,.fp=>some false|some (.slice _),.fp,.ge .. =>some false|some (.slice _),.ge ..,.fp=>some false|some (.pointer _),.fS,.fS=>some true|some (.pointer _),.fS,.ptr .. =>some false|some (.pointer _),.ptr ..,.fS=>some false|some (.pointer _),.fS,.ref .. =>some false|some (.pointer _),.ref ..,.fS=>some false|some (.interface _),.gb,.gb=>some true|some (.interface _),.gb,.iface .. =>some false|some (.interface _),.iface ..,.gb=>some false|some (.func ..),.gg,.gg=>some true|some (.func ..),.gg,.fn .. =>some false|some (.func ..),.fn ..,.gg=>some false|some (.map ..),.fw,.fw=>some true|some (.map ..),.fw,.mp .. =>some false|some (.map ..),.mp ..,.fw=>some false|_,_,_ =>none
def ke(P:gD)(t:gB)(x y:T):Option Bool:=
 match P.underlying t,x,y with
 |some (.int _),.int k a,.int c b=>if k=c then some (a==b)else none
 |some .string,.str a,.str b=>some (a==b)|some .bool,.bool a,.bool b=>some (a==b)|_,_,_ =>none
def Ti(P:gD)(x y:gC):List Field->Option Bool
 |[]=>some true
 |f::r=>match x[f.offset]?,y[f.offset]? with
  |some a,some b=>if f.name= "_" then none else match ke P f.type a b with
   |some true=>Ti P x y r|q=>q
  |_,_ =>none
def Tj(P:gD)(t:gB)(x y:T):Option Bool:=
 match x,y with
 | .agg b,.agg c=>match P.underlying t with
  |some (.struct f)=>if P.stoodInHeld t then none else Ti P b c f.toList
  |_ =>none
 |x,y=>ke P t x y
def IL(P:gD)(t:gB)(x:T):Bool:=
 match P.underlying t,x with
 |some (.int _),.int .. |some .string,.str _ |some .bool,.bool _ =>true|_,_ =>false
def Yo(P:gD)(x:gC):List Field->Bool
 |[]=>true
 |f::r=>(match x[f.offset]? with
  |some a=> !(f.name== "_")&&IL P f.type a
  |none=>false)&&Yo P x r
def OG(P:gD)(t:gB)(x:T):Bool:=
 match x with
 | .agg b=>match P.underlying t with
  |some (.struct f)=> !(P.stoodInHeld t)&&Yo P b f.toList|_ =>false
 |x=>IL P t x
def zM(P:gD)(t:gB)(k:T):List (Nat×T×T)->Nat->Option (Option (Nat×Nat×T))
 |[],_ =>some none
 |(b,c,v)::r,i=>match Tj P t k c with
  |some true=>some (some (i,b,v))|some false=>zM P t k r (i+1)|none=>none
def NV(H:Hp):T->Option (List (Nat×T×T))
 | .fw=>some []
 | .mp l=>match H.any l with
  |some o=>match o.me with
   |some (.map _ e)=>some e|_ =>none
  |none=>none
 |_ =>none
def BK(P:gD)(H:Hp)(t:gB)(x k:T)(ok:Bool):Option T:=
 match P.underlying t with
 | some (.map b e)=>if OG P b k then match NV H x with
   |some c=>match zM P b k c 0 with
    |some (some (_,_,v))=>some (if ok then .fm [v,.bool true]else v)
    |some none=>match wM P e with
     |some z=>some (if ok then .fm [z,.bool false]else z)
     |none=>none
    |none=>none
   |none=>none
  else none
 |_ =>none
def HL:Operand->Bool
 | .const _ =>true|_ =>false
def TP:T->T->Bool
 | .gb,.gb=>true|_,_ =>false
abbrev jH:=Operand
def MC(X Y:jH)(a b:T):Bool:=HL X||(HL Y|| !TP a b)
def j5(P:gD)(t:gB)(x y:T):Option Bool:=
 match x,y with
 | .agg _,.agg _ =>if P.eqGuardType P.depth t then none else Tj P t x y
 |x,y=>PR P t x y
def BF(P:gD)(op:jU)(t:gB)(x y:T):Option T:=
 match op,x,y with
 | .shl,.int k a,.int _ b=>zF .shl k a b| .shr,.int k a,.int _ b=>zF .shr k a b|op,.int k a,.int c b=>if k=c then xP op k a b else none
 |op,.str a,.str b=>GE op a b| .eql,x,y=>(j5 P t x y).map .bool| .neq,x,y=>(j5 P t x y).map λb=> .bool (!b)|_,_,_ =>none
def nB(o:UnOp)(x:T):Option T:=
 match o,x with
 | .neg,.int k n=>some (.int k (k.wrap (0-n)))| .not,.bool b=>some (.bool (!b))|_,_ =>none
def KU(P:gD)(src d:gB)(x:T):Option T:=
 match P.underlying src,P.underlying d,x with
 |some _,some (.int k),.int _ n=>some (.int k (k.wrap n))|some _,some .string,.str s=>some (.str s)
 |some (.slice e),some .string,.sl _ [.int .u8 n]=>match P.underlying e with
  |some (.int .u8)=>some (.str [UInt8.ofNat n.toNat])|_ =>none
 |_,_,_ =>none
def VS(P:gD)(src d:gB)(x:T):Option T:=
 match P.underlying src,P.underlying d,x with
 |some _,some (.slice e),.str s=>match P.underlying e with
  |some (.int .u8)=>if s.length<=70368744177664 then some (.sl false (s.map λb=> .int .u8 b.toNat))else none
  |_ =>none
 |_,_,_ =>none
def SG(P:gD)(src d:gB)(x:T):Option T:=
 match KU P src d x with
 |some r=>some r|none=>VS P src d x
def BU:List T->Option (List UInt8)
 |[]=>some []
 | .int .u8 n::r=>match BU r with
  |some l=>if 0<=n/\n<256 then some (UInt8.ofNat n.toNat::l)else none
  |none=>none
 |_ =>none
def Al(P:gD)(H:Hp)(src d:gB)(x:T):Option T:=
 match x with
 | .ge l 1 0 n=>match P.underlying src,P.underlying d with
  |some (.slice e),some .string=>match P.underlying e,H.get l with
   | some (.int .u8),some o=>if o.sz=1/\n<=o.cells.length then match BU (o.cells.take n)with
     |some b=>some (.str b)|none=>none
    else none
   |_,_ =>none
  |_,_ =>none
 |_ =>none
def KT(P:gD)(H:Hp)(src d:gB)(x:T):Option T:=
 match SG P src d x with
 |some r=>some r|none=>Al P H src d x
theorem Lz{P:gD}{H b:Hp}{s d:gB}{a:T}(h:∀l c i n,a≠ .ge l c i n):KT P H s d a=KT P b s d a:=by
 have e:Al P H s d a=Al P b s d a:=by
  unfold Al;cases a<;>first|rfl|exact absurd rfl (h _ _ _ _)
 unfold KT;rw[e]
def PT(P:gD)(s:gB)(f:Nat):Option Field:=
 match P.underlying s with
 |some (.struct b)=>b[f]?|_ =>none
def CA(P:gD)(s:gB)(x:T)(f:Nat):Option T:=
 match PT P s f with
 |some b=>match uI P b.type with
  |some n=>if n=0 then none else aAu x b.offset
  |none=>none
 |none=>none
def sH(P:gD)(t:gB)(x i:T):Option T:=
 match i with
 | .int _ n=>
  match P.underlying t,x with
  | some (.slice e),.sl _ c=>if 0<=n then match c[n.toNat]? with
    |some y=>match uI P e with
     |some s=>if y.cells.length=s then some (.ref y 0)else none
     |none=>none
    |none=>none
   else none
  | some (.slice e),.ac _ len f=>if 0<=n/\n<len then match uI P e with
    |some s=>if(f n.toNat).cells.length=s then some (.ref (f n.toNat) 0)else none
    |none=>none
   else none
  | some (.slice e),.ge l b j len=>if 0<=n/\n<len then match uI P e with
    |some s=>if b=s then some (.ptr l ((j+n.toNat)*b))else none
    |none=>none
   else none
  | some (.array len e),x=>if 0<=n/\n<len then match uI P e with
    |some s=>aAu x (n.toNat*s)|none=>none
   else none
  |_,_ =>none
 |_ =>none
def FR(P:gD)(t:gB)(x i:T):Option T:=
 match i with
 | .int _ n=>
  match P.underlying t,x with
  | some (.array len e),.agg c=>if 0<=n/\n<len then match uI P e with
    |some s=>wK P e c (n.toNat*s)|none=>none
   else none
  |some .string,.str s=>if 0<=n then(s[n.toNat]?).map λb=> .int .u8 b.toNat else none
  |_,_ =>none
 |_ =>none
abbrev jE:=Option T
def tD(x:jE)(d b:Nat):Option Nat:=
 match x with
 |none=>some d|some (.int _ n)=>if 0<=n/\n<=b then some n.toNat else none
 |some _ =>none
def DD(s:Nat):List T->Bool
 |[]=>true|x::_ =>x.cells.length==s
def vY(P:gD)(t:gB)(x:T)(c d:jE):Option T:=
 match P.underlying t,x with
 |some .string,.str s=>
  match tD d s.length s.length with
  |some h=>match tD c 0 h with
   |some l=>some (.str ((s.take h).drop l))|none=>none
  |none=>none
 |some (.slice e),.sl b m=>
  match tD d m.length m.length with
  |some h=>match tD c 0 h with
   |some l=>match uI P e with
    |some s=>if DD s m then some (.sl (b&&h==m.length) ((m.take h).drop l))else none
    |none=>none
   |none=>none
  |none=>none
 |some (.slice e),.ac b n f=>
  match tD d n n with
  |some h=>match tD c 0 h with
   |some l=>match uI P e with
    |some s=>if l<h/\(f l).cells.length≠s then none else some (.ac (b&&h==n) (h-l) (λi=>f (l+i)))
    |none=>none
   |none=>none
  |none=>none
 |some (.slice e),.fp=>
  match tD d 0 0 with
  |some _ =>match tD c 0 0 with
   |some _ =>if(uI P e).isSome then some .fp else none
   |none=>none
  |none=>none
 |some (.slice e),.ge l o j len=>
  match tD d len len with
  |some h=>match tD c 0 h with
   |some k=>match uI P e with
    |some s=>if s=o then some (.ge l o (j+k) (h-k))else none
    |none=>none
   |none=>none
  |none=>none
 |_,_ =>none
def CD(P:gD)(t:gB)(x:T):Option T:=
 match P.underlying t,x with
 |some .string,.str s=>some (.int .i64 s.length)|some (.slice _),.sl _ b=>some (.int .i64 b.length)|some (.slice _),.fp=>some (.int .i64 0)|some (.slice _),.ac _ n _ =>some (.int .i64 n)|some (.slice _),.ge _ _ _ len=>some (.int .i64 len)|some (.array n _),_ =>some (.int .i64 n)|some (.map ..),.fw=>some (.int .i64 0)|_,_ =>none
def Og(P:gD)(H:Hp)(t:gB)(x:T):Option T:=
 match x with
 | .mp l=>match P.underlying t with
  |some (.map ..)=>match NV H (.mp l)with
   |some e=>some (.int .i64 e.length)|none=>none
  |_ =>CD P t (.mp l)
 |x=>CD P t x
theorem aRh{P:gD}{H:Hp}{t:gB}{x r:T}(h:CD P t x=some r):Og P H t x=some r:=by
 unfold Og;split;split;rename_i b;simp[CD,b]at h;exact h;exact h
def aRw:T->T->Option T
 | .int k x,.int _ y=>some (.int k (if y<x then y else x))
 |_,_ =>none
def aRs:T->T->Option T
 | .int k x,.int _ y=>some (.int k (if x<y then y else x))
 |_,_ =>none
def HR(f:T->T->Option T):T->List T->Option T
 |x,[]=>some x
 |x,y::r=>match f x y with
  |some z=>HR f z r|none=>none
def sC(c:gC)(o:Nat)(new:gC):List T:=c.take o++new++c.drop (o+new.length)
abbrev jM:=Nat->Option (Nat×Nat)
def KW(p:jM):List T->List (Nat×T)->Option (List T)
 |cs,[]=>some cs
 |cs,(i,v)::r=>
  match p i with
  |none=>none|some (o,b)=>if v.cells.length=b/\o+b<=cs.length then KW p (sC cs o v.cells) r else none
def KB(P:gD):List Field->Option (List (Nat×Nat))
 |[]=>some []
 |f::r=>match uI P f.type with
  |some s=>match KB P r with
   |some l=>some ((f.offset,s)::l)|none=>none
  |none=>none
def g9(gl:gG)(f:gC):List (Nat×Operand)->Option (List (Nat×T))
 |[]=>some []
 |(i,x)::r=>match pQ gl f x with
  |some t=>match g9 gl f r with
   |some l=>some ((i,t)::l)|none=>none
  |none=>none
abbrev iE:=List (Nat×T)
def VR(P:gD)(t:gB)(parts:iE):Option T:=
 match wM P t with
 |some z=>
  match P.underlying t with
  |some (.struct f)=>match KB P f.toList with
   |some p=>(KW (p[·]?) z.cells parts).map .agg|none=>none
  |some (.array _ e)=>match uI P e with
   |some s=>(KW (λi=>some (i*s,s)) z.cells parts).map .agg|none=>none
  |_ =>none
 |none=>none
def GR(c:Nat)(b:Bool):List T->List (Nat×T)->Option (List T)
 |xs,[]=>some xs|xs,(i,v)::r=>if v.cells.length=c/\v.isAgg=b/\i<xs.length then GR c b (xs.set i v) r else none
def sM(P:gD)(t:gB)(len:Nat)(parts:iE):Option T:=
 match P.underlying t with
 |some (.slice e)=>match uI P e,KM P e,wM P e with
  | some s,some b,some z=>if 0<s/\len*s<=65536/\z.cells.length=s/\z.isAgg=b then
    (GR s b (List.replicate len z) parts).map (.sl true)
   else none
  |_,_,_ =>none
 |_ =>none
def RE:T->Option T
 | .ptr l o=>some (.ptr l o)| .ref x o=>some (.ref x o)| .fn (.func f) a c=>some (.fn (.func f) a c)| .iface t x=>some (.iface t x)|_ =>none
structure uW where
 gl:Nat->Option T
 pe:Hp->FuncId->List T->Option T
def OP(ev:Operand->Option T):Option Operand->Option (Option T)
 |none=>some none
 |some x=>match ev x with
  |some t=>some (some t)|none=>none
def yT(P:gD)(E:uW)(H:Hp)(d:gC)(c:Call):Option T:=
 match c.callee with
 | .value f=>match pQ E.gl d f with
  |some (.fn (.func g) first h)=>match vN E.gl d c.args.toList with
   |some e=>E.pe H g (first++e++h)
   |none=>none
  |_ =>none
 | .invoke _ _ =>none
 | .builtin b=>match b with
  | .len=>match c.args.toList,c.argTypes.toList with
   |[x],t::_ =>match pQ E.gl d x with
    |some a=>Og P H t a|none=>none
   |_,_ =>none
  | .min=>match vN E.gl d c.args.toList with
   |some (x::r)=>HR aRw x r|_ =>none
  | .max=>match vN E.gl d c.args.toList with
   |some (x::r)=>HR aRs x r|_ =>none
  |_ =>none
def pS(P:gD)(E:uW)(own:Bool)(H:Hp)(j:gC)(o:Oper):Option T:=
 let ev:=pQ E.gl j
 match o.op with
 | .move x| .assign x=>ev x
 | .pick c a b=>match ev c with
  |some (.bool u)=>if u then ev a else ev b
  |_ =>none
 | .box _ x=>if own then none else(ev x).map (.ref · 0)
 | .build t parts=>match g9 E.gl j parts.toList with
  |some l=>VR P t l|none=>none
 | .buildSlice t len parts=>if own then none else match g9 E.gl j parts.toList with
  |some l=>sM P t len l|none=>none
 | .load t a=>match ev a with
  |some p=>wI P H t p|none=>none
 | .nilCheck x=>match ev x with
  |some p=>RE p|none=>none
 | .binOp k t x y _ =>match ev x,ev y with
  |some a,some b=>if MC x y a b then BF P k t a b else none
  |_,_ =>none
 | .unOp k _ x=>match ev x with
  |some a=>nB k a|none=>none
 | .convert s d x=>match ev x with
  |some a=>KT P H s d a|none=>none
 | .makeFunc f first e=>match vN E.gl j first.toList,vN E.gl j e.toList with
  |some a,some c=>some (.fn f a c)|_,_ =>none
 | .fieldAddr s x f=>match ev x with
  |some a=>CA P s a f|none=>none
 | .field t x f=>match ev x with
  |some (.agg q)=>match PT P t f with
   |some m=>wK P m.type q m.offset|none=>none
  |_ =>none
 | .indexAddr t x i=>match ev x,ev i with
  |some a,some b=>sH P t a b|_,_ =>none
 | .index t x i=>match ev x,ev i with
  |some a,some b=>FR P t a b|_,_ =>none
 | .slice t x z n mx=>match mx with
  |some _ =>none
  |none=>match ev x with
   |some a=>match OP ev z,OP ev n with
    |some l,some h=>vY P t a l h|_,_ =>none
   |none=>none
 | .extract x i=>match ev x with
  |some (.fm w)=>w[i]?|_ =>none
 | .lookup t x i ok=>match ev x,ev i with
  |some a,some b=>BK P H t a b ok|_,_ =>none
 | .call c=>yT P E H j c|_ =>none
abbrev jC:=Option Tmp
def pW(f:gC)(b:jC)(v:T):List T:=
 match b with
 |some d=>f.set d v|none=>f
noncomputable def aCs(f:gC)(b:jC)(v:T):List T:=
 match b with
 |some d=>aDh v f d|none=>f
theorem Zn(f:gC)(b:jC)(v:T):aCs f b v=pW f b v:=by
 cases b with
 |none=>rfl|some d=>exact OY v f d
abbrev gF:=Array Oper
def AJ(o:gF)(f:gC)(j:Nat):Option Bool:=
 match((o[j]?).bind (·.dst)).bind (λd=>f[d]?)with
 |some (.bool b)=>some b|_ =>none
def pX(b:gF)(f:gC)(o:Oper):Bool:=
 match o.guard with
 |none=>true|some (j,w)=>AJ b f j==some w
end
structure G where
 w:World
 S:Nat->Prop
 al:Nat->Prop
 loc:Nat->Nat
 cp:Nat->Nat
abbrev gZ:=Value
abbrev gV:=List Value
abbrev iK:=Nat->T
abbrev iL:=ByteArray
inductive DJ(g:G):Value->T->Prop
 |int (k:iC) (n:Int):DJ g (.int k n) (.int k n)
 |bool (b:Bool):DJ g (.bool b) (.bool b)
 |str (s:iL):DJ g (.string s) (.str s.data.toList)
 |fS:DJ g (.pointer none) .fS
 |fp:DJ g (.slice none 0 0) .fp
 |gg:DJ g .nilFunc .gg
 |gb:DJ g .nilIface .gb
 |fw:DJ g (.map none) .fw
 |ai (full:Bool) (f:iK) (p:Option Addr):DJ g (.slice p 0 0) (.ac full 0 f)
 | ac (full:Bool) (n:Nat) (f:iK) (sz b o cap:Nat) (vs:gV):(n≠0->g.S b)->(∀i,i<n->(f i).cells.length=sz)->n<=cap->cap<=maxLen->(full=true->cap=n)->
   vs.length=n*sz->(∀(j:Nat) (v:gZ),vs[j]? =some v->g.w.cell? ⟨b,o+j,none⟩=some v)->
   (∀(i j:Nat) (v:gZ) (c:T),i<n->j<sz->vs[i*sz+j]? =some v->(f i).cells[j]? =some c->DJ g v c)->DJ g (.slice (some ⟨b,o,none⟩) n cap) (.ac full n f)
 |agg (cs:gC) (vs:gV):vs.length=cs.length->(∀(j:Nat) (v:gZ) (c:T),vs[j]? =some v->cs[j]? =some c->DJ g v c)->DJ g (.agg vs.toArray) (.agg cs)
inductive Rd(g:G):Value->T->Prop
 |int (k:iC) (n:Int):Rd g (.int k n) (.int k n)
 |bool (b:Bool):Rd g (.bool b) (.bool b)
 |str (s:iL):Rd g (.string s) (.str s.data.toList)
 |fS:Rd g (.pointer none) .fS
 |ptr (l off:Nat):g.al l->Rd g (.pointer (some ⟨g.loc l,off,none⟩)) (.ptr l off)
 | ref (x:T) (off b o:Nat) (vs:gV):g.S b->vs.length=x.cells.length->(∀(j:Nat) (v:gZ),vs[j]? =some v->g.w.cell? ⟨b,o+j,none⟩=some v)->
   (∀(j:Nat) (v:gZ) (c:T),vs[j]? =some v->x.cells[j]? =some c->Rd g v c)->Rd g (.pointer (some ⟨b,o+off,none⟩)) (.ref x off)
 |fp:Rd g (.slice none 0 0) .fp
 |ai (full:Bool) (f:iK) (p:Option Addr):Rd g (.slice p 0 0) (.ac full 0 f)
 | sl (full:Bool) (xs:gC) (sz b o cap:Nat) (vs:gV):(xs≠[]->g.S b)->(∀x∈xs,x.cells.length=sz)->xs.length<=cap->cap<=maxLen->(full=true->cap=xs.length)->
   vs.length=xs.length*sz->(∀(j:Nat) (v:gZ),vs[j]? =some v->g.w.cell? ⟨b,o+j,none⟩=some v)->
   (∀(j:Nat) (v:gZ) (c:T),vs[j]? =some v->(xs.flatMap T.cells)[j]? =some c->Rd g v c)->Rd g (.slice (some ⟨b,o,none⟩) xs.length cap) (.sl full xs)
 | ac (full:Bool) (n:Nat) (f:iK) (sz b o cap:Nat) (vs:gV):(n≠0->g.S b)->(∀i,i<n->(f i).cells.length=sz)->n<=cap->cap<=maxLen->(full=true->cap=n)->
   vs.length=n*sz->(∀(j:Nat) (v:gZ),vs[j]? =some v->g.w.cell? ⟨b,o+j,none⟩=some v)->
   (∀(i j:Nat) (v:gZ) (c:T),i<n->j<sz->vs[i*sz+j]? =some v->(f i).cells[j]? =some c->DJ g v c)->Rd g (.slice (some ⟨b,o,none⟩) n cap) (.ac full n f)
 |ge (l sz i len b o cap:Nat):g.al l->len<=cap->i+cap<=g.cp l->(0<len\/i=0->b=g.loc l/\o=i*sz)->(i=0->cap=g.cp l)->Rd g (.slice (some ⟨b,o,none⟩) len cap) (.ge l sz i len)
 |gg:Rd g .nilFunc .gg
 | fn (f:Fn) (first captured:gC) (vs us:gV):vs.length=first.length->(∀(j:Nat) (v:gZ) (c:T),vs[j]? =some v->first[j]? =some c->Rd g v c)->
   us.length=captured.length->(∀(j:Nat) (v:gZ) (c:T),us[j]? =some v->captured[j]? =some c->Rd g v c)->Rd g (.func f vs.toArray us.toArray) (.fn f first captured)
 |gb:Rd g .nilIface .gb
 |iface (t:gB) (v:gZ) (x:T):Rd g v x->Rd g (.iface t v) (.iface t x)
 |fw:Rd g (.map none) .fw
 |mp (l:Nat):g.al l->Rd g (.map (some (g.loc l))) (.mp l)
 |yl (l:Nat):g.al l->Rd g (.func (.yield (g.loc l)) #[] #[]) (.yl l)
 |agg (cs:gC) (vs:gV):vs.length=cs.length->(∀(j:Nat) (v:gZ) (c:T),vs[j]? =some v->cs[j]? =some c->Rd g v c)->Rd g (.agg vs.toArray) (.agg cs)
 |fm (cs:gC) (vs:gV):vs.length=cs.length->(∀(j:Nat) (v:gZ) (c:T),vs[j]? =some v->cs[j]? =some c->Rd g v c)->Rd g (.tuple vs.toArray) (.fm cs)
def fv(g:G)(d:gV)(b:gC):Prop:=d.length=b.length/\∀(j:Nat) (v:gZ) (c:T),d[j]? =some v->b[j]? =some c->Rd g v c
section fv
variable{g:G}
theorem fv.nil:fv g [] []:=⟨rfl,λj v c h=>by simp at h⟩
theorem fv.cons{v:gZ}{t:T}{i:gV}{e:gC}(h:Rd g v t)(f:fv g i e):fv g (v::i) (t::e):=by
 refine⟨by simp[f.1],λj u c b d=> ?_⟩;cases j with
 |zero=>simp at b d;subst b;subst d;exact h|succ j=>simp at b d;exact f.2 j u c b d
theorem fv.I{v:gZ}{t:T}{d:gV}{b:gC}(h:fv g (v::d) (t::b)):Rd g v t/\fv g d b:=
 ⟨h.2 0 v t rfl rfl,by simpa using h.1,λj u c e f=>h.2 (j+1) u c (by simpa using e) (by simpa using f)⟩
theorem fv.append{f i:gV}{n m:gC}(h:fv g f n)(k:fv g i m):fv g (f++i) (n++m):=by
 refine⟨by simp[h.1,k.1],λj u c b d=> ?_⟩;rw[dP]at b d;by_cases e:j<f.length;rw[aJ e]at b;rw[aJ (h.1▸e)]at d;exact h.2 j u c b d;rw[aH e]at b;rw[aH (h.1▸e),<-h.1]at d;exact k.2 _ u c b d
theorem fv.take{f:gV}{e:gC}(h:fv g f e)(n:Nat):fv g (f.take n) (e.take n):=by
 refine⟨by simp[h.1],λj u c b d=> ?_⟩;rw[bJ]at b d;split at b;rename_i i;rw[aJ i]at d;exact h.2 j u c b d;cases b
theorem fv.drop{e:gV}{b:gC}(h:fv g e b)(n:Nat):fv g (e.drop n) (b.drop n):=by
 refine⟨by simp[h.1],λj u c d f=> ?_⟩;rw[cD]at d f;exact h.2 _ u c d f
theorem fv.at_ {b:gV}{c:gC}(h:fv g b c){j:Nat}{t:T}(d:c[j]? =some t):∃v,b[j]? =some v/\Rd g v t:=by
 have f:j<c.length:=(aQ.1 d).1;have e:b[j]? =some (b[j]'(by rw[h.1];exact f)):=aB _;exact⟨_,e,h.2 j _ t e d⟩
theorem fv.set{k:gV}{f:gC}(h:fv g k f)(i:Nat){v:gZ}{t:T}(m:Rd g v t):fv g (k.set i v) (f.set i t):=by
 refine⟨by simp[h.1],λj u c b d=> ?_⟩;rw[dM]at b d;by_cases e:i=j;rw[aJ e]at b d;split at b;split at d;simp at b d;subst b;subst d;exact m;cases d;cases b;rw[aH e]at b d;exact h.2 j u c b d
theorem fv.replicate{v:gZ}{t:T}(n:Nat)(h:Rd g v t):fv g (List.replicate n v) (List.replicate n t):=by
 induction n with
 |zero=>exact fv.nil|succ n i=>exact fv.cons h i
end fv
structure fx(g g':G):Prop where
 os:g'.w.os=g.w.os
 tape:g'.w.tape=g.w.tape
 output:g'.w.output=g.w.output
 size:g.w.heap.size<=g'.w.heap.size
 block:∀b,b<g.w.heap.size->g'.w.heap[b]? =g.w.heap[b]?
 sub:∀b,g.S b->g'.S b
 fresh:∀b,g'.S b->g.S b\/g.w.heap.size<=b
 al:g'.al=g.al
 loc:g'.loc=g.loc
 cp:g'.cp=g.cp
theorem fx.refl(g:G):fx g g:=⟨rfl,rfl,rfl,bB _,λ_ _ =>rfl,λ_ h=>h,λ_ h=> .inl h,rfl,rfl,rfl⟩
theorem fx.trans{a b c:G}(h:fx a b)(k:fx b c):fx a c:=
 ⟨k.os.trans h.os,k.tape.trans h.tape,k.output.trans h.output,dK h.size k.size,λi d=>(k.block i (cX d h.size)).trans (h.block i d),
  λi d=>k.sub i (h.sub i d),λi d=>(k.fresh i d).elim (h.fresh i) (λq=> .inr (dK h.size q)),k.al.trans h.al,k.loc.trans h.loc,k.cp.trans h.cp⟩
abbrev iG:=World
theorem FX{w:iG}{a:Addr}{v:gZ}(h:w.cell? a=some v):a.block<w.heap.size:=by
 unfold World.cell? at h;split at h;rename_i b;exact(aX.1 b).1;cases h
theorem fx.cell{g b:G}(h:fx g b){a:Addr}{v:gZ}(c:g.w.cell? a=some v):b.w.cell? a=some v:=
 (World.cell?_of_block (w:=g.w) (h.block _ (FX c))).trans c
theorem DJ.keep{g m:G}(z:∀b,g.S b->m.S b)(N:∀b o v,g.S b->g.w.cell? ⟨b,o,none⟩=some v->m.w.cell? ⟨b,o,none⟩=some v){v:gZ}{t:T}(C:DJ g v t):DJ m v t:=by
 induction C with
 |int k n=>exact .int k n|bool b=>exact .bool b|str s=>exact .str s|fS=>exact .fS|fp=>exact .fp|ai c f p=>exact .ai c f p|gg=>exact .gg|gb=>exact .gb|fw=>exact .fw
 |ac c n f K b o u d h J I y B e L _ i=>
  refine .ac c n f K b o u d (λq=>z b (h q)) J I y B e (λj v x=> ?_) i;have M:n≠0:=by
   rintro rfl;simp at e;subst e;simp at x
  exact N b _ v (h M) (L j v x)
 |agg D d h _ i=>exact .agg D d h i
theorem DJ.rd{g:G}{v:gZ}{t:T}(h:DJ g v t):Rd g v t:=by
 induction h with
 |int k n=>exact .int k n|bool b=>exact .bool b|str s=>exact .str s|fS=>exact .fS|fp=>exact .fp|ai c f p=>exact .ai c f p|gg=>exact .gg|gb=>exact .gb|fw=>exact .fw|ac c n f y b o i e d x w j m C B z _ =>exact .ac c n f y b o i e d x w j m C B z|agg u e d _ q=>exact .agg u e d q
theorem DJ.ad{g b:G}(h:fx g b){v:gZ}{t:T}(d:DJ g v t):DJ b v t:=d.keep h.sub (λ_ _ _ _ c=>h.cell c)
theorem Rd.ay{g g':G}(x:∀b,g.S b->g'.S b)(D:∀b o v,g.S b->g.w.cell? ⟨b,o,none⟩=some v->g'.w.cell? ⟨b,o,none⟩=some v){d:Bool}{n:Nat}{f:iK}{h b o e:Nat}{k:gV}(q:n≠0->g.S b)(p:∀i,i<n->(f i).cells.length=h)(m:n<=e)(u:e<=maxLen)(y:d=true->e=n)
  (C:k.length=n*h) (B:∀(j:Nat) (v:gZ),k[j]? =some v->g.w.cell? ⟨b,o+j,none⟩=some v)
  (z:∀(i j:Nat) (v:gZ) (c:T),i<n->j<h->k[i*h+j]? =some v->(f i).cells[j]? =some c->DJ g v c):Rd g' (.slice (some ⟨b,o,none⟩) n e) (.ac d n f):=
 ((DJ.ac d n f h b o e k q p m u y C B z).keep x D).rd
theorem Rd.ad{g S:G}(h:fx g S){v:gZ}{t:T}(W:Rd g v t):Rd S v t:=by
 induction W with
 |int k n=>exact .int k n|bool b=>exact .bool b|str s=>exact .str s|fS=>exact .fS|ptr l z C=>rw[<-h.loc];exact .ptr l z (h.al▸C)|ref x z b o u N m I _ w=>exact .ref x z b o u (h.sub b N) m (λj v M=>h.cell (I j v M)) w|fp=>exact .fp|ai c f p=>exact .ai c f p|sl c xs J b o y u N K e B D m I _ w=>exact .sl c xs J b o y u (λY=>h.sub b (N Y)) K e B D m (λj v M=>h.cell (I j v M)) w|ac c n f J b o y u e B D L U h6 h7 Z=>exact Rd.ay h.sub (λ_ _ _ _ I=>h.cell I) e B D L U h6 h7 Z|ge l J i len b o y C e B D L=>exact .ge l J i len b o y (h.al▸C) e (h.cp▸B) (λq=>h.loc▸D q) (λq=>h.cp▸L q)|gg=>exact .gg|fn f first d u V e _ B _ O Q=>exact .fn f first d u V e O B Q
 |gb=>exact .gb|iface t v x _ w=>exact .iface t v x w|fw=>exact .fw|mp l C=>rw[<-h.loc];exact .mp l (h.al▸C)|yl l C=>rw[<-h.loc];exact .yl l (h.al▸C)|agg R u e _ w=>exact .agg R u e w|fm R u e _ w=>exact .fm R u e w
theorem fv.ad{g b:G}(h:fx g b){e:gV}{d:gC}(f:fv g e d):fv b e d:=⟨f.1,λj v c i k=>(f.2 j v c i k).ad h⟩
def sJ(g:G):Prop:=∀b,g.S b->b<g.w.heap.size
abbrev iH:=List MapEntry
def sK(g:G)(m:iH)(e:gS):Prop:=
 m.map (·.born)=e.map (·.1)/\fv g (m.map (·.key)) (e.map (·.2.1))/\fv g (m.map (·.val)) (e.map (·.2.2))
theorem sK.mono{g f:G}(h:∀v t,Rd g v t->Rd f v t){m:iH}{e:gS}(k:sK g m e):sK f m e:=
 ⟨k.1,⟨k.2.1.1,λj v c b d=>h v c (k.2.1.2 j v c b d)⟩,⟨k.2.2.1,λj v c b d=>h v c (k.2.2.2 j v c b d)⟩⟩
abbrev hP:=Array Value
abbrev gX:=FuncId
def lP(g:G):Mo->Obj->Prop
 | .map c h,b=>∃f:Array MapEntry,b= .map f c/\sK g f.toList h| .loop r,b=>∃(fn:gX) (tmps:hP) (D:Nat),b= .loop {state:=r.st,pending:=r.pe,fn,tmps,params:=r.ps,assign:=r.iF,body:=r.bd,defers:=D}/\fv g tmps.toList (r.fr.view r.n)/\r.fr.Wf r.n| .aT m d seen e,b=>g.al m/\b= .mapIter (some (g.loc m)) d seen.toArray e| .cz s p,b=>∃u:ByteArray,u.data.toList=s/\b= .stringIter u p| .cd,b=>b= .mapIter none 0 #[] 0
theorem lP.mono{g f:G}(h:∀v t,Rd g v t->Rd f v t)(o:∀l,g.al l->f.al l/\f.loc l=g.loc l){m:Mo}{b:Obj}(k:lP g m b):lP f m b:=by
 cases m with
 |map c z=>obtain⟨q,e,k⟩:=k;exact⟨q,e,k.mono h⟩
 |loop r=>
  obtain⟨p,d,D,e,k,w⟩:=k;exact⟨p,d,D,e,⟨k.1,λj v c u y=>h v c (k.2 j v c u y)⟩,w⟩
 |aT m i seen n=>exact⟨(o m k.1).1,by rw[(o m k.1).2];exact k.2⟩|cz s x=>exact k|cd=>exact k
structure St(g:G)(H:Hp):Prop where
 own:∀l o,H.get l=some o->g.al l/\¬g.S (g.loc l)/\∃cs:Array Value,g.w.heap[g.loc l]? =some (.cells cs o.elem (0,0))/\o.cells.length<=cs.size/\
  (o.sz=0->cs.size=o.cells.length)/\(o.sz≠0->cs.size=g.cp l*o.sz/\g.cp l<=maxLen)/\fv g (cs.toList.take o.cells.length) o.cells
 ap:∀l o m,H.any l=some o->o.me=some m->g.al l/\¬g.S (g.loc l)/\∃b:Obj,g.w.heap[g.loc l]? =some b/\lP g m b
 sep:∀l l' o o',H.any l=some o->H.any l'=some o'->g.loc l=g.loc l'->l=l'
 new:∀l,H.next<=l->¬g.al l
theorem St.at_ {g:G}{H:Hp}(e:St g H){l:Nat}{o:Ob}(h:H.any l=some o):g.al l/\¬g.S (g.loc l)/\g.loc l<g.w.heap.size:=by
 cases hm:o.me with
 |none=>
  obtain⟨d,c,f,b,_⟩:=e.own l o (yA h hm);exact⟨d,c,(aX.1 b).1⟩
 |some p=>
  obtain⟨d,c,m,b,_⟩:=e.ap l o p h hm;exact⟨d,c,(aX.1 b).1⟩
theorem St.ad{g u:G}{H:Hp}(h:fx g u)(f:St g H):St u H:=by
 refine⟨λl o n=> ?_,λl o m n x=> ?_,λl J o I d k e=>f.sep l J o I d k (by rw[h.loc]at e;exact e),λl p=>by rw[h.al];exact f.new l p⟩;obtain⟨i,j,C,c,d,k,D,y⟩:=f.own l o n;have b:g.loc l<g.w.heap.size:=(aX.1 c).1;refine⟨h.al▸i,?_,C,?_,d,k,?_,y.ad h⟩;rw[h.loc];exactλq=>(h.fresh _ q).elim j (λB=>by omega);rw[h.loc,h.block _ b];exact c;rw[h.cp];exact D;obtain⟨i,j,z,c,d⟩:=f.ap l o m n x;have b:g.loc l<g.w.heap.size:=(aX.1 c).1;refine⟨h.al▸i,?_,z,?_,d.mono (λ_ _ q=>q.ad h) (λl p=>⟨h.al▸p,by rw[h.loc]⟩)⟩;rw[h.loc];exactλq=>(h.fresh _ q).elim j (λB=>by omega);rw[h.loc,h.block _ b];exact c
theorem St.nl(g:G)(N:Nat)(h:∀l,N<=l->¬g.al l):St g ⟨N,.nl⟩:=
 ⟨λl o b=>(by rw[ii]at b;cases b),λl o m b=>(by rw[vX]at b;cases b),λl c o d b=>(by rw[vX]at b;cases b),h⟩
theorem St.empty(g:G)(h:∀l,¬g.al l):St g Hp.empty:=St.nl g 0 (λl _ =>h l)
theorem Ea(g:G){v:gZ}{t:T}(h:XY v=some t):Rd g v t:=by
 unfold XY at h;split at h<;>first|cases h|skip
 exact .int _ _;exact .bool _;exact .str _;exact .fS;exact .fp;exact .gg;exact .gb;exact .fw
theorem YR(g:G):∀{d:gV} {b:gC},FZ d=some b->fv g d b
 |[],b,h=>by simp[FZ]at h;subst h;exact fv.nil
 |v::d,b,h=>by
  simp only[FZ]at h;split at h;rename_i t e;split at h;rename_i f c;cases h;exact fv.cons (Ea g e) (YR g c);cases h;cases h
theorem EN(g:G){v:gZ}{t:T}(h:ST v=some t):Rd g v t:=by
 unfold ST at h;split at h;rename_i i;split at h;rename_i k b;cases h;have:=YR g b;exact Rd.agg k i.toList this.1 this.2;cases h;rename_i f;split at h;rename_i d;cases h;have e:f=([]:List Value).toArray:=by cases f;simp at d;simp[d]
 rw[e];exact Rd.fm [] [] rfl (λj v c h=>by simp at h);cases h;exact Ea g h
section inv
variable{g:G}{v:gZ}
theorem Rd.gm{k:iC}{n:Int}(h:Rd g v (.int k n)):v= .int k n:=by cases h;rfl
theorem Rd.a8{b:Bool}(h:Rd g v (.bool b)):v= .bool b:=by cases h;rfl
theorem Rd.aj{s:gH}(h:Rd g v (.str s)):∃b:ByteArray,v= .string b/\b.data.toList=s:=by cases h;exact⟨_,rfl,rfl⟩
theorem Rd.aq{c:gC}(h:Rd g v (.agg c)):∃b:List Value,v= .agg b.toArray/\fv g b c:=by cases h with|agg _ b e d=>exact⟨b,rfl,e,d⟩
theorem Rd.di{c:gC}(h:Rd g v (.fm c)):∃b:List Value,v= .tuple b.toArray/\fv g b c:=by cases h with|fm _ b e d=>exact⟨b,rfl,e,d⟩
theorem Rd.cx{f:Fn}{a c:gC}(h:Rd g v (.fn f a c)):∃b u:List Value,v= .func f b.toArray u.toArray/\fv g b a/\fv g u c:=by
 cases h with|fn _ _ _ b u i e d j=>exact⟨b,u,rfl,⟨i,e⟩,⟨d,j⟩⟩
theorem Rd.br{c:gC}{b:gV}(h:fv g b c):Rd g (.agg b.toArray) (.agg c):= .agg c b h.1 h.2
theorem Rd.ak{c:gC}{vs:gV}(h:fv g vs c):Rd g (.tuple vs.toArray) (.fm c):= .fm c vs h.1 h.2
theorem Rd.bx{f:Fn}{a c:gC}{b u:gV}(h:fv g b a)(k:fv g u c):Rd g (.func f b.toArray u.toArray) (.fn f a c):= .fn f a c b u h.1 h.2 k.1 k.2
theorem Rd.undef:Rd g Go.undef oS:= .fm [] [] rfl (λj v c h=>by simp at h)
theorem Rd.cells{t:T}(h:Rd g v t):fv g v.cells.toList t.cells:=by
 cases h with
 |agg K q j e=>exact⟨by simpa [Value.cells,T.cells]using j,by simpa [Value.cells,T.cells]using e⟩|fm K q j e=>exact fv.cons (.fm K q j e) fv.nil|int k n=>exact fv.cons (.int k n) fv.nil|bool b=>exact fv.cons (.bool b) fv.nil|str s=>exact fv.cons (.str s) fv.nil|fS=>exact fv.cons .fS fv.nil|ptr l y C=>exact fv.cons (.ptr l y C) fv.nil|ref x y b o q j e w u=>exact fv.cons (.ref x y b o q j e w u) fv.nil|fp=>exact fv.cons .fp fv.nil|ai d f p=>exact fv.cons (.ai d f p) fv.nil|sl d N B b o m q j e w u z J I D=>exact fv.cons (.sl d N B b o m q j e w u z J I D) fv.nil|ac d n f B b o m q j e w u z J I D=>exact fv.cons (.ac d n f B b o m q j e w u z J I D) fv.nil|ge l B i len b o m j e w u z=>exact fv.cons (.ge l B i len b o m j e w u z) fv.nil|gg=>exact fv.cons .gg fv.nil|fn f a c q L j e w u=>exact fv.cons (.fn f a c q L j e w u) fv.nil|gb=>exact fv.cons .gb fv.nil|iface t v x M=>exact fv.cons (.iface t v x M) fv.nil|fw=>exact fv.cons .fw fv.nil|mp l C=>exact fv.cons (.mp l C) fv.nil|yl l C=>exact fv.cons (.yl l C) fv.nil
theorem Rd.dj{t:T}(h:Rd g v t)(b:t.one=true):v.oneCell'=true:=by
 cases h<;>simp_all [T.one,Value.oneCell']
end inv
def uQ(P:gD)(f:gX):Bool:=
 match P.funcs[f]? with
 |some b=>b.body.isSome&& !(b.name== "runtime.NumGoroutine")
 |none=>false
def T.bm:T->Nat
 | .ref x _ =>x.cells.length|_ =>0
def KL(g:G)(k:Nat)(t:T):Prop:=Rd g (.pointer (some ⟨k,0,none⟩)) t/\g.S k/\∃c e f,g.w.heap[k]? =some (.cells c e f)/\c.size=t.bm
def gn(gl:gG)(g:G):Prop:=∀k t,gl k=some t->KL g k t
abbrev gM:=Hp->FuncId->List T->Option T
def rV(P:gD)(gl:gG)(p:gM):Prop:=
 ∀H f c r,p H f c=some r->uQ P f=true/\∀(g:G) (d:gV),sJ g->St g H->gn gl g->fv g d c->
  Calls P f d.toArray g.w λe h=>∃v b,e= .returned v/\b.w=h/\fx g b/\sJ b/\Rd b v r
theorem gn.ad{gl:gG}{g c:G}(h:fx g c)(o:gn gl g):gn gl c:=λk t f=>by
 obtain⟨j,i,d,e,m,b,n⟩:=o k t f;exact⟨j.ad h,h.sub k i,d,e,m,by rw[h.block k (aX.1 b).1];exact b,n⟩
abbrev gJ:=Exit->Act->World->Prop
abbrev iJ:=Act->World->Prop
def nC(P:gD)(o:Oper)(a:Act)(g:G)(t:T):Prop:=
 ∀(K:iJ) (Q:gJ),(∀v b,fx g b->sJ b->Rd b v t->K (a.put o.dst v) b.w)->o.wp P a g.w K Q
theorem rH{P:gD}{o:Oper}{a:Act}{g:G}{t:T}{v:gZ}(b:sJ g)(d:(execOp a.eval o).run P g.w= .ok (.value v) g.w)(h:Rd g v t):nC P o a g t:=by
 intro K Q c;unfold Oper.wp;rw[d];exact c v g (fx.refl g) b h
def G.add(g:G)(o:Obj):G:={g with w:={g.w with heap:=g.w.heap.push o},S:=λb=>g.S b\/b=g.w.heap.size}
theorem G.ba(g:G)(o:Obj):fx g (g.add o):=
 ⟨rfl,rfl,rfl,by simp[G.add],λb c=>by simp only[G.add];rw[fN,aH (by omega)],λ_ h=> .inl h,λb h=>h.elim .inl (λe=> .inr (by omega)),rfl,rfl,rfl⟩
theorem G.ix{g:G}(h:sJ g)(o:Obj):sJ (g.add o):=by
 intro b hb;simp only[G.add,Array.size_push];rcases hb with hb|hb
 have:=h b hb;omega;omega
theorem G.bz(g:G)(c:hP)(e:gB)(j:Nat):(g.add (.cells c e)).w.cell? ⟨g.w.heap.size,j,none⟩=c[j]? :=by
 have h:(g.add (.cells c e)).w.heap[g.w.heap.size]? =some (.cells c e (0,0)):=by simp only[G.add];exact Array.getElem?_push_size
 simp[World.cell?,h]
theorem Du{P:gD}{o:Oper}{a:Act}{g:G}{t:T}{v:gZ}{ob:Obj}(b:sJ g)
  (d:(execOp a.eval o).run P g.w= .ok (.value v) (g.add ob).w) (h:Rd (g.add ob) v t):nC P o a g t:=by
 intro K Q c;unfold Oper.wp;rw[d];exact c v _ (g.ba ob) (g.ix b ob) h
theorem CZ(P:gD)(w:iG)(b o:Nat):∀(n i:Nat) (c:hP) (d:gV),d.length=n->
  (∀j v,d[j]? =some v->w.cell? ⟨b,o+(i+j),none⟩=some v)->(loadCellsFrom ⟨b,o,none⟩ i n c).run P w= .ok (c++d.toArray) w
 |0,i,c,d,h,_ =>by
  have:d=[]:=cM h;subst this;simp[loadCellsFrom]
 |n+1,i,c,v::d,h,e=>by
  have f:=e 0 v rfl
  have k:=CZ P w b o n (i+1) (c.push v) d (by simpa using h) (λj u m=>by
   have:=e (j+1) u (by simpa using m);rw[show o+(i+1+j)=o+(i+(j+1)) by omega]
   exact this)
  simp only[loadCellsFrom,aW,Addr.add_lit,run_load];simp only[fW]at f;simp[f,k]
theorem DG(P:gD)(w:iG)(b o n:Nat)(c:gV)(h:c.length=n)(e:∀j v,c[j]? =some v->w.cell? ⟨b,o+j,none⟩=some v):
  (loadCells ⟨b,o,none⟩ n).run P w= .ok c.toArray w:=by
 have:=CZ P w b o n 0 #[] c h (λj v d=>by simpa using e j v d);simpa [loadCells]using this
theorem VU{g:G}{H:Hp}(q:St g H){p:T}{v:gZ}{k:gC}{d:Nat}(h:vM H p=some (k,d))(y:Rd g v p):
  ∃(b o:Nat) (f:gV),v= .pointer (some ⟨b,o+d,none⟩)/\fv g f k/\∀j u,f[j]? =some u->g.w.cell? ⟨b,o+j,none⟩=some u:=by
 cases y<;>simp only[vM]at h<;>try cases h
 case ref b o f hS hl hc hx=>exact⟨b,o,f,rfl,⟨hl,hx⟩,hc⟩
 case ptr l off' hl=>
  split at h;rename_i m i;cases h;obtain⟨_,_,c,x,z,_,_,n⟩:=q.own l m i;refine⟨g.loc l,0,c.toList.take m.cells.length,by simp,n,λj u e=> ?_⟩;rw[bJ]at e;split at e;simp[World.cell?,x]at e⊢;exact e;cases e;cases h
theorem OQ{P:gD}{g:G}{t:gB}{c:gC}{o:Nat}{r:T}(h:wK P t c o=some r){j:gV}(B:fv g j c):
  ∃u,(part t j.toArray o).run P g.w= .ok u g.w/\Rd g u r:=by
 unfold wK KM uI at h;unfold part isAgg sizeOf typeInfo;cases hu:P.underlying t with
 |none=>simp[hu]at h
 |some d=>
  have b:(c[o]? =some r)->∃u,(match j.toArray[o]? with|some v=>(pure v:Sem Value)|none=>stuck "part: no such cell").run P g.w= .ok u g.w/\Rd g u r:=by
   intro C;obtain⟨u,z,p⟩:=B.at_ C;exact⟨u,by simp[z],p⟩
  have q:(match Option.map (λx=>x.size) (P.info? t)with|some n=>if o+n<=c.length then some (T.agg (List.take n (List.drop o c)))else none|none=>none)=some r->
    ∃i,P.info? t=some i/\o+i.size<=c.length/\r= .agg ((c.drop o).take i.size):=by
   intro y;cases m:P.info? t with
   |none=>simp[m]at y|some i=>simp[m]at y;exact⟨i,rfl,y.1,y.2.symm⟩
  have f:∀i,P.info? t=some i->o+i.size<=c.length->r= .agg ((c.drop o).take i.size)->Rd g (.agg (j.toArray.extract o (o+i.size))) r:=by
   intro i _ k p;subst p;have e:j.toArray.extract o (o+i.size)=((j.drop o).take i.size).toArray:=by
    simp[List.extract_eq_take_drop]
   rw[e];exact Rd.br ((B.drop o).take i.size)
  cases d<;>simp only[hu]at h<;>simp only[aW,bD hu,aL,bH,bI,cN,cB]<;>
   first
    |exact b h
    |(obtain⟨i,m,k,p⟩:=q h;exact⟨_,by simp[m],f i m k p⟩)
theorem Yx{P:gD}{g:G}{H:Hp}(L:St g H){t:gB}{p r:T}{v:gZ}(h:wI P H t p=some r)(m:Rd g v p):
  ∃u,(Instr.loadAt t v).run P g.w= .ok u g.w/\Rd g u r:=by
 unfold wI at h;split at h;rename_i q c J;obtain⟨b,o,K,rfl,I,f⟩:=VU L J m;unfold wK KM uI at h;unfold Instr.loadAt Instr.sureAddr loadVar isAgg sizeOf typeInfo;cases hu:P.underlying t with
 |none=>simp[hu]at h
 |some d=>
  have k:(q[c]? =some r)->∃u,(load ⟨b,o+c,none⟩).run P g.w= .ok u g.w/\Rd g u r:=by
   intro J;obtain⟨u,e,m⟩:=I.at_ J;exact⟨u,by simp[f c u e],m⟩
  have C:(match Option.map (λx=>x.size) (P.info? t)with|some n=>if c+n<=q.length then some (T.agg (List.take n (List.drop c q)))else none|none=>none)=some r->
    ∃i,P.info? t=some i/\c+i.size<=q.length/\r= .agg ((q.drop c).take i.size):=by
   intro D;cases B:P.info? t with
   |none=>simp[B]at D|some i=>simp[B]at D;exact⟨i,rfl,D.1,D.2.symm⟩
  have y:∀i,P.info? t=some i->c+i.size<=q.length->r= .agg ((q.drop c).take i.size)->
    (loadCells ⟨b,o+c,none⟩ i.size).run P g.w= .ok ((K.drop c).take i.size).toArray g.w/\Rd g (.agg ((K.drop c).take i.size).toArray) r:=by
   intro i _ z m;subst m;refine⟨DG P g.w b (o+c) i.size _ (by have:=I.1;simp;omega) (λj u e=> ?_),Rd.br ((I.drop c).take i.size)⟩;rw[bJ]at e;split at e;rw[cD]at e;rw[dT];exact f _ u e;cases e
  cases d<;>simp only[hu]at h<;>simp only[aW,bD hu,aL,bH,bI,cN,cB]<;>
   first
    |exact k h
    |(obtain⟨i,B,z,m⟩:=C h;obtain⟨M,N⟩:=y i B z m;exact⟨_,by simp[B,M],N⟩)
 cases h
theorem Gd(s:iL):s.toList=s.data.toList:=by
 have loop:∀(n i:Nat) (r:gH),s.size-i=n->ByteArray.toList.loop s i r=r.reverse++s.data.toList.drop i:=by
  intro n
  induction n with
  |zero=>
   intro i r h;rw[ByteArray.toList.loop,aH (by omega)];have:s.data.toList.length<=i:=by have:=dV (a:=s);simp;omega
   rw[eF this];simp
  |succ n d=>
   intro i r h;have f:i<s.size:=by omega
   rw[ByteArray.toList.loop,aJ f,d (i+1) _ (by omega)];have c:i<s.data.toList.length:=by have:=dV (a:=s);simp;omega
   rw[eN c];have b:i<s.data.size:=by simpa using c
   have e:s.get! i=s.data.toList[i]:=by
    show s.data[i]! =s.data.toList[i];rw[Array.getElem_toList,getElem!_pos s.data i b]
   simp[e]
 have h:=loop (s.size-0) 0 [] rfl;simp only[List.reverse_nil,eW,fD]at h;exact h
theorem Fv(a b:iL):(a++b).data.toList=a.data.toList++b.data.toList:=by
 rw[ByteArray.data_append,Array.toList_append]
section
variable{P:gD}{g:G}
theorem aBx{o:jU}{k:iC}{a b:Int}{r:T}(h:xP o k a b=some r)(t:gB):∃q,(binOp o t (.int k a) (.int k b)).run P g.w= .ok q g.w/\Rd g q r:=by
 cases o
 case quo=>
  simp only[xP]at h;split at h;cases h;rename_i c;cases h;exact⟨.int k (k.wrap (a.tdiv b)),by simp[binOp_quo,Op.intDiv,c],.int _ _⟩
 case rem=>
  simp only[xP]at h;split at h;cases h;rename_i c;cases h;exact⟨.int k (a.tmod b),by simp[binOp_rem,Op.intDiv,c],.int _ _⟩
 case add=>cases h;exact⟨_,by rw[binOp_add];rfl,.int _ _⟩
 case sub=>cases h;exact⟨_,by rw[binOp_sub];rfl,.int _ _⟩
 case mul=>cases h;exact⟨_,by rw[binOp_mul];rfl,.int _ _⟩
 case and=>cases h;exact⟨_,by rw[binOp_and];rfl,.int _ _⟩
 case or=>cases h;exact⟨_,by rw[binOp_or];rfl,.int _ _⟩
 case xor=>cases h;exact⟨_,by rw[binOp_xor];rfl,.int _ _⟩
 case andNot=>cases h;exact⟨_,by rw[binOp_andNot];rfl,.int _ _⟩
 case eql=>cases h;exact⟨_,by rw[binOp_eql];rfl,.bool _⟩
 case neq=>cases h;exact⟨_,by rw[binOp_neq];rfl,.bool _⟩
 case lss=>cases h;exact⟨_,by rw[binOp_lss];rfl,.bool _⟩
 case leq=>cases h;exact⟨_,by rw[binOp_leq];rfl,.bool _⟩
 case gtr=>cases h;exact⟨_,by rw[binOp_gtr];rfl,.bool _⟩
 case geq=>cases h;exact⟨_,by rw[binOp_geq];rfl,.bool _⟩
 case shl=>cases h
 case shr=>cases h
theorem TB{o:jU}{k d:iC}{a b:Int}{r:T}(h:zF o k a b=some r)(t:gB):∃q,(binOp o t (.int k a) (.int d b)).run P g.w= .ok q g.w/\Rd g q r:=by
 cases o
 case shl=>
  simp only[zF]at h;split at h;cases h;rename_i c;cases h;exact⟨_,by rw[binOp_shl];simp only[Op.shift,aH c];rfl,.int _ _⟩
 case shr=>
  simp only[zF]at h;split at h;cases h;rename_i c;cases h;exact⟨_,by rw[binOp_shr];simp only[Op.shift,aH c];rfl,.int _ _⟩
 all_goals cases h
theorem aDv{o:jU}{a b:iL}{r:T}(h:GE o a.data.toList b.data.toList=some r)(t:gB):∃q,(binOp o t (.string a) (.string b)).run P g.w= .ok q g.w/\Rd g q r:=by
 cases o<;>simp only[GE]at h<;>try cases h
 case add=>
  split at h;rename_i d;cases h;have f:a.data.toList.length=a.size:=by simp[dV]
  have e:b.data.toList.length=b.size:=by simp[dV]
  rw[f,e]at d;have c:¬(((a.size+b.size:Nat):Int)>IntKind.i64.max):=by simp[pK]at d⊢;omega
  refine⟨.string (a++b),by simp only[binOp,Op.stringOp,aH c];rfl,?_⟩;rw[<-Fv];exact .str _;cases h
 all_goals
  refine⟨_,by simp only[binOp,Op.stringOp];rfl,?_⟩;simp only[Gd];exact .bool _
theorem aHg{t:gB}{x y:T}{r:Bool}(h:PR P t x y=some r){u v:gZ}(c:Rd g u x)(b:Rd g v y):(Op.equal t u v).run P g.w= .ok r g.w:=by
 have k:∀d:Nat,(Op.equalIn (d+1) t u v).run P g.w= .ok r g.w:=by
  intro d;unfold PR at h;split at h<;>try cases h
  all_goals
   rename_i e;cases c;cases b;simp[Op.equalIn,bD e]
 have:=k 9999;simpa only[Op.equal,Op.maxDepth]using this
theorem WI{op:jU}{t:gB}{x y:T}{r:Bool}(h:PR P t x y=some r){u v:gZ}(c:Rd g u x)(b:Rd g v y)(X Y:jH)(hn:MC X Y x y=true):eqGuard op t X Y u v=pure ():=by
 unfold PR at h;split at h<;>try cases h
 all_goals
  cases c
  first
   |exact eqGuard_at_bool ..
   |exact eqGuard_at_slice ..
   |exact eqGuard_at_pointer ..
   |exact eqGuard_at_func ..
   |exact eqGuard_at_nilFunc ..
   |exact eqGuard_at_iface ..
   |(cases b;cases op<;>rfl)
   |(cases b;simp only[MC,TP,Bool.not_true,Bool.or_false,bO]at hn;cases op<;>first|rfl|(rcases hn with hn|hn<;>(first|(cases X<;>simp[HL]at hn<;>rfl)|(cases Y<;>simp[HL]at hn<;>cases X<;>rfl))))
theorem aHe{t:gB}{x y:T}{r:Bool}(h:ke P t x y=some r){u v:gZ}(f:Rd g u x)(e:Rd g v y)(d:Nat):(Op.equalIn (d+1) t u v).run P g.w= .ok r g.w:=by
 unfold ke at h;split at h;rename_i c;split at h;rename_i i;cases h;subst i;cases f;cases e;rw[run_equalIn_int _ d t _ _ _ _ c];cases h;rename_i c;cases h;obtain⟨a,rfl,rfl⟩:=f.aj;obtain⟨b,rfl,rfl⟩:=e.aj;rw[run_equalIn_string _ d t _ _ c,ByteArray.toList_eq,ByteArray.toList_eq];rename_i c;cases h;cases f;cases e;rw[run_equalIn_bool' _ d t _ _ c];cases h
theorem Mp{t:gB}{x y:T}{r:Bool}(h:ke P t x y=some r){e:gC}{o:Nat}{c:T}(d:e[o]? =some c):wK P t e o=some c:=by
 unfold ke at h;unfold wK KM;split at h;rename_i b;rw[b];exact d;rename_i b;rw[b];exact d;rename_i b;rw[b];exact d;cases h
theorem Xp{x y:gC}{e i:gV}(p:fv g e x)(o:fv g i y)(d:Nat):∀(c:List Field) (r:Bool),Ti P x y c=some r->(Op.eqFields (d+1) e.toArray i.toArray c).run P g.w= .ok r g.w
 |[],r,h=>by simp only[Ti,aI]at h;subst h;simp[Op.eqFields]
 |f::c,r,h=>by
  simp only[Ti]at h;split at h;rename_i a b z C;split at h;cases h;rename_i m;simp only[Op.eqFields,aJ (show f.name≠ "_" from m),aW];have two:∀q,ke P f.type a b=some q->(Op.eqFields (d+1) e.toArray i.toArray (f::c)).run P g.w=(if(!q)=true then .ok false g.w else(Op.eqFields (d+1) e.toArray i.toArray c).run P g.w):=by
   intro q j;obtain⟨u,D,B⟩:=OQ (Mp j z) p;obtain⟨v,J,I⟩:=OQ (Mp j C) o;simp only[Op.eqFields,aJ (show f.name≠ "_" from m),aW,D,J,aL,aHe j B I];cases q<;>simp
  have n:(Op.eqFields (d+1) e.toArray i.toArray (f::c)).run P g.w= .ok r g.w:=by
   split at h;rename_i j;rw[two _ j];exact Xp p o d c r h;rename_i k;rw[two _ h];cases r with
   |true=>exact absurd h k|false=>rfl
  simp only[Op.eqFields,aJ (show f.name≠ "_" from m),aW]at n;exact n;cases h
theorem SI{t:gB}{f:Array Field}(h:P.underlying t=some (.struct f)):P.fieldsOf t=f:=by simp[Program.fieldsOf,h]
theorem Gu{t:gB}{x y:T}{r:Bool}(h:Tj P t x y=some r){u v:gZ}(i:Rd g u x)(f:Rd g v y)(d:Nat):(Op.equalIn (d+2) t u v).run P g.w= .ok r g.w:=by
 unfold Tj at h;split at h;split at h;rename_i m e;split at h;cases h;rename_i j;obtain⟨k,rfl,c⟩:=i.aq;obtain⟨n,rfl,b⟩:=f.aq;rw[run_equalIn_agg _ (d+1) t _ _ (by rw[SI e];exact e) (by simpa using j),SI e];exact Xp c b d _ _ h;cases h;exact aHe h i f (d+1)
theorem aXh{o:jU}{t:gB}{x y r:T}(h:BF P o t x y=some r){u v:gZ}(e:Rd g u x)(d:Rd g v y)(X Y:jH)(n:MC X Y x y=true):
  ∃q,(do eqGuard o t X Y u v;binOp o t u v).run P g.w= .ok q g.w/\Rd g q r:=by
 unfold BF at h;split at h;cases e;cases d;obtain⟨q,i,f⟩:=TB (P:=P) (g:=g) h t;exact⟨q,by simp only[eqGuard_at_int,aW,bH,aL];exact i,f⟩;cases e;cases d;obtain⟨q,i,f⟩:=TB (P:=P) (g:=g) h t;exact⟨q,by simp only[eqGuard_at_int,aW,bH,aL];exact i,f⟩;split at h;rename_i B;subst B;cases e;cases d;obtain⟨q,i,f⟩:=aBx (P:=P) (g:=g) h t;exact⟨q,by simp only[eqGuard_at_int,aW,bH,aL];exact i,f⟩;cases h;obtain⟨a,rfl,rfl⟩:=e.aj;obtain⟨b,rfl,rfl⟩:=d.aj;obtain⟨q,i,f⟩:=aDv (P:=P) (g:=g) h t;exact⟨q,by simp only[eqGuard_at_string,aW,bH,aL];exact i,f⟩
 .simp only[aG]at h;obtain⟨b,c,rfl⟩:=h;unfold j5 at c;split at c
  split at c;cases c;rename_i k;obtain⟨z,rfl,m⟩:=e.aq;obtain⟨p,rfl,j⟩:=d.aq;refine⟨.bool b,?_,.bool _⟩;rw[aW,run_eqGuard_agg _ _ _ _ _ _ _ (by simpa using k),aL,run_eql_struct,Gu c e d 9998,aL]
  .have i:=aHg c e d;have f:=WI (op:= .eql) (v:=v) c e d X Y n;refine⟨.bool b,?_,.bool _⟩;rw[f];unfold PR at c;split at c<;>try cases c
   all_goals
    cases e;cases d;simp only[binOp,aW,bH,aL,i]
 .simp only[aG]at h;obtain⟨b,c,rfl⟩:=h;unfold j5 at c;split at c
  split at c;cases c;rename_i k;obtain⟨z,rfl,m⟩:=e.aq;obtain⟨p,rfl,j⟩:=d.aq;refine⟨.bool (!b),?_,.bool _⟩;rw[aW,run_eqGuard_agg _ _ _ _ _ _ _ (by simpa using k),aL,run_neq_struct,Gu c e d 9998,aL]
  .have i:=aHg c e d;have f:=WI (op:= .neq) (v:=v) c e d X Y n;refine⟨.bool (!b),?_,.bool _⟩;rw[f];unfold PR at c;split at c<;>try cases c
   all_goals
    cases e;cases d;simp only[binOp,aW,bH,aL,i]
 cases h
theorem bJe{o:UnOp}{x r:T}(h:nB o x=some r){u:gZ}(b:Rd g u x):∃q,(Op.unary o u).run P g.w= .ok q g.w/\Rd g q r:=by
 unfold nB at h;split at h<;>try cases h
 cases b;exact⟨_,by simp[Op.unary,Op.intArith],.int _ _⟩;cases b;exact⟨_,by simp[Op.unary],.bool _⟩
theorem aPf{s d:gB}{x r:T}(h:KU P s d x=some r){u:gZ}(j:Rd g u x):∃q,(convert s d u).run P g.w= .ok q g.w/\Rd g q r:=by
 unfold KU at h;split at h<;>try cases h
 rename_i f c;cases j;exact⟨_,by simp[convert,bD f,bD c,Conv.intToInt],.int _ _⟩;rename_i f c;obtain⟨a,rfl,rfl⟩:=j.aj;exact⟨_,by simp[convert,bD f,bD c],.str _⟩;rename_i e m n f c;split at h;rename_i p;cases h;cases j with
 |sl _ _ J b o k D O I M L N C z B=>
  have i:1=J:=I (.int .u8 n) (by simp);subst i
  match D,C with
  |[v],_ =>
   have y:=B 0 v (.int .u8 n) rfl rfl;cases y;have K:=DG P g.w b o 1 [.int .u8 n] rfl z;refine⟨.string (ByteArray.empty.push (UInt8.ofNat n.toNat)),?_,?_⟩;rw[run_convert_bytes_string g.w s d e _ _ _ f p c];exact run_bytesToString g.w ⟨b,o,none⟩ 1 k [n] K;exact .str (ByteArray.empty.push (UInt8.ofNat n.toNat))
 cases h
theorem ix{x r:T}{n:Nat}(h:aAu x n=some r){u:gZ}(c:Rd g u x):∃b o,u= .pointer (some ⟨b,o,none⟩)/\Rd g (.pointer (some ⟨b,o+n,none⟩)) r:=by
 unfold aAu at h;split at h<;>try cases h
 cases c with
 |ref _ _ b o k f e d i=>exact⟨b,_,rfl,by rw[dT];exact .ref _ _ b o k f e d i⟩
 cases c with
 |ptr _ _ j=>exact⟨_,_,rfl,.ptr _ _ j⟩
theorem Gx{s:gB}{x r:T}{f:Nat}(h:CA P s x f=some r){u:gZ}(k:Rd g u x):∃q,(Instr.fieldAt s u f).run P g.w= .ok q g.w/\Rd g q r:=by
 unfold CA PT uI at h;split at h;rename_i y c;split at c;rename_i z j;split at h;rename_i n e;split at h;cases h;rename_i d;simp only[aG]at e;obtain⟨i,m,rfl⟩:=e;obtain⟨b,o,rfl,p⟩:=ix h k;exact⟨_,by simp[Instr.fieldAt,bD j,c,Instr.sureAddr,fieldPlace,sizeOf,typeInfo,m,d,Addr.add_lit],p⟩;cases h;cases c;cases h
theorem KD{e:gC}{b:Nat}(d:∀x∈e,x.cells.length=b):∀{i:Nat} {y:T},e[i]? =some y->∀j c,y.cells[j]? =some c->(e.flatMap T.cells)[i*b+j]? =some c:=by
 induction e with
 |nil=>intro i y h;simp at h
 |cons x e m=>
  intro i y h j c k;have f:=d x (by simp);cases i with
  |zero=>
   simp at h;subst h;have n:j<x.cells.length:=(aQ.1 k).1;simp only[bP,fX,cG];rw[dI n];exact k
  |succ i=>
   simp at h;have:=m (λx f=>d x (by simp[f])) h j c k;simp only[bP];rw[cU (by rw[f,dA];omega),f];rw[show(i+1)*b+j-b=i*b+j by rw[dA];omega];exact this
theorem tH{b:gC}{c:Nat}(h:∀x∈b,x.cells.length=c):(b.flatMap T.cells).length=b.length*c:=by
 induction b with
 |nil=>simp
 |cons x b i=>
  simp only[bP,aU,aZ,i (λy d=>h y (by simp[d])),h x (by simp),dA];omega
theorem Ho{t:gB}{x i r:T}(h:sH P t x i=some r){u v:gZ}(Q:Rd g u x)(hv:Rd g v i):∃q,(Instr.indexAt t u v).run P g.w= .ok q g.w/\Rd g q r:=by
 unfold sH uI at h;split at h;rename_i k n;cases hv;split at h;rename_i e N xs J;split at h;rename_i C;split at h;rename_i y U;split at h;rename_i s B;split at h;rename_i I;cases h;simp only[aG]at B;obtain⟨i,D,rfl⟩:=B;cases Q with
 |sl _ _ m b o O W K L h3 S h5 h6 Z Y=>
  have z:n.toNat<xs.length:=(aQ.1 U).1;have R:=L y (bK U);have V:i.size=m:=by omega
  have M:n.toNat*m+m<=xs.length*m:=by rw[<-dA];exact cZ _ z
  refine⟨.pointer (some ⟨b,o+n.toNat*m,none⟩),?_,?_⟩;simp[Instr.indexAt,asIntOf,bD J,sizeOf,typeInfo,D,V,Addr.add_lit,C];omega;rw[show(⟨b,o+n.toNat*m,none⟩:Addr)=⟨b,(o+n.toNat*m)+0,none⟩from rfl];refine .ref y 0 b (o+n.toNat*m) ((W.drop (n.toNat*m)).take m) (K (by intro e;simp[e]at z)) ?_ ?_ ?_;simp[h6];omega;intro j w d;rw[bJ]at d;split at d;rw[cD]at d;rw[dT];exact Z _ w d;cases d;intro j w c d hc;rw[bJ]at d;split at d;rw[cD]at d;exact Y _ w c d (KD L U j c hc);cases d
 cases h;cases h;cases h;cases h;rename_i e N len f J;split at h;rename_i C;split at h;rename_i s B;split at h;rename_i I;cases h;simp only[aG]at B;obtain⟨i,D,rfl⟩:=B;cases Q with
 |ai _ _ p=>exact absurd C.2 (by simp;omega)
 |ac _ _ _ m b o O W K L h3 S h5 h6 Z Y=>
  have z:n.toNat<len:=by omega
  have R:=L n.toNat z;have V:i.size=m:=by omega
  have M:n.toNat*m+m<=len*m:=by rw[<-dA];exact cZ _ z
  refine⟨.pointer (some ⟨b,o+n.toNat*m,none⟩),?_,?_⟩;simp[Instr.indexAt,asIntOf,bD J,sizeOf,typeInfo,D,V,Addr.add_lit,C];rw[show(⟨b,o+n.toNat*m,none⟩:Addr)=⟨b,(o+n.toNat*m)+0,none⟩from rfl];refine .ref (f n.toNat) 0 b (o+n.toNat*m) ((W.drop (n.toNat*m)).take m) (K (by omega)) ?_ ?_ ?_;simp[h6];omega;intro j w d;rw[bJ]at d;split at d;rw[cD]at d;rw[dT];exact Z _ w d;cases d;intro j w c d hc;rw[bJ]at d;split at d;rename_i hj;rw[cD]at d;exact(Y n.toNat j w c z hj d hc).rd;cases d
 cases h;cases h;cases h;rename_i e l m j len J;split at h;rename_i C;split at h;rename_i s B;split at h;rename_i I;cases h;simp only[aG]at B;obtain⟨i,D,rfl⟩:=B;cases Q with
 |ge _ _ _ _ b o O K L h3 S h5=>
  obtain⟨rfl,rfl⟩:=S (.inl (by omega));refine⟨.pointer (some ⟨g.loc l,(j+n.toNat)*m,none⟩),?_,.ptr _ _ K⟩;simp[Instr.indexAt,asIntOf,bD J,sizeOf,typeInfo,D,Addr.add_lit,C,I,fR]
 cases h;cases h;cases h;rename_i len e J;split at h;rename_i C;split at h;rename_i s B;simp only[aG]at B;obtain⟨i,D,rfl⟩:=B;obtain⟨b,o,rfl,hr⟩:=ix h Q;refine⟨_,?_,hr⟩;simp[Instr.indexAt,asIntOf,bD J,Instr.sureAddr,sizeOf,typeInfo,D,Addr.add_lit,C];cases h;cases h;cases h;cases h
theorem aIk{t:gB}{x i r:T}(h:FR P t x i=some r){u v:gZ}(z:Rd g u x)(d:Rd g v i):∃q,(Instr.index t u v).run P g.w= .ok q g.w/\Rd g q r:=by
 unfold FR uI at h;split at h;rename_i k n;cases d;split at h;rename_i len e I o;split at h;rename_i m;split at h;rename_i s p;simp only[aG]at p;obtain⟨i,B,rfl⟩:=p;obtain⟨J,rfl,d⟩:=z.aq;obtain⟨q,C,D⟩:=OQ (P:=P) h d;exact⟨q,by simp[Instr.index,asIntOf,bD o,sizeOf,typeInfo,B,m,C],D⟩;cases h;cases h;rename_i s o;obtain⟨a,rfl,rfl⟩:=z.aj;split at h;rename_i m;simp only[aG]at h;obtain⟨b,y,rfl⟩:=h;refine⟨_,?_,.int _ _⟩;have f:a[n.toNat]? =some b:=by
  have j:n.toNat<a.data.toList.length:=(aQ.1 y).1;have c:n.toNat<a.size:=by simpa [dV]using j
  have e:=(aQ.1 y).2;rw[getElem?_pos a n.toNat c];congr 1
 simp[Instr.index,asIntOf,bD o,m,f];cases h;cases h;cases h
theorem aZf{t:gB}{x r:T}(h:CD P t x=some r){u:gZ}(f:Rd g u x)(i:Array TypeId)(c:i[0]? =some t)(j:gB):
  ∃q,(Builtin.len_ i j #[u]).run P g.w= .ok q g.w/\Rd g q r:=by
 unfold CD at h;split at h<;>try cases h
 all_goals rename_i d
 obtain⟨a,rfl,rfl⟩:=f.aj;refine⟨.int .i64 a.size,by simp[Builtin.len_,c,bD d,goInt],?_⟩;have e:a.data.toList.length=a.size:=by simp[dV]
 rw[e];exact .int _ _;cases f;exact⟨_,by simp[Builtin.len_,c,bD d,goInt],.int _ _⟩;cases f;exact⟨_,by simp[Builtin.len_,c,bD d,goInt],.int _ _⟩;cases f with
 |ai _ _ p=>exact⟨_,by simp[Builtin.len_,c,bD d,goInt],.int _ _⟩|ac _ _ _ D b o k C B z y m n K J I=>exact⟨_,by simp[Builtin.len_,c,bD d,goInt],.int _ _⟩
 cases f;exact⟨_,by simp[Builtin.len_,c,bD d,goInt],.int _ _⟩;exact⟨_,by simp[Builtin.len_,c,bD d,goInt],.int _ _⟩;cases f;exact⟨_,by simp[Builtin.len_,c,bD d,goInt],.int _ _⟩
theorem NY:∀{e:gC} {x r:T},HR aRw x e=some r->∀{u:gZ} {d:gV},Rd g u x->fv g d e->∃q,(d.foldlM Builtin.min2 u).run P g.w= .ok q g.w/\Rd g q r
 |[],x,r,h,u,d,f,b=>by
  simp[HR]at h;subst h;have:d=[]:=cM b.1;subst this;exact⟨u,by simp,f⟩
 |y::e,x,r,h,u,[],f,b=>by simp[fv]at b
 |y::e,x,r,h,u,v::d,f,b=>by
  obtain⟨m,c⟩:=b.I;clear b;simp only[HR]at h;split at h;rename_i z i;unfold aRw at i;split at i<;>cases i;cases f;cases m;obtain⟨q,k,j⟩:=NY h (.int _ _) c;exact⟨q,by simp[Builtin.min2,k],j⟩;cases h
theorem NX:∀{e:gC} {x r:T},HR aRs x e=some r->∀{u:gZ} {d:gV},Rd g u x->fv g d e->∃q,(d.foldlM Builtin.max2 u).run P g.w= .ok q g.w/\Rd g q r
 |[],x,r,h,u,d,f,b=>by
  simp[HR]at h;subst h;have:d=[]:=cM b.1;subst this;exact⟨u,by simp,f⟩
 |y::e,x,r,h,u,[],f,b=>by simp[fv]at b
 |y::e,x,r,h,u,v::d,f,b=>by
  obtain⟨m,c⟩:=b.I;clear b;simp only[HR]at h;split at h;rename_i z i;unfold aRs at i;split at i<;>cases i;cases f;cases m;obtain⟨q,k,j⟩:=NX h (.int _ _) c;exact⟨q,by simp[Builtin.max2,k],j⟩;cases h
end
theorem ZY(s:iL)(l h:Nat):(s.extract l h).data.toList=(s.data.toList.take h).drop l:=by
 rw[ByteArray.data_extract,Array.toList_extract,List.extract_eq_take_drop,List.drop_take]
section
variable{P:gD}{g:G}
def kr(g:G):Option Value->Option T->Prop
 |none,none=>True|some v,some t=>Rd g v t|_,_ =>False
theorem vS{x:jE}{d b r:Nat}(h:tD x d b=some r){v:Option Value}(c:kr g v x):
  (v=none/\r=d)\/∃k n,v=some (.int k n)/\0<=n/\n<=b/\n.toNat=r:=by
 unfold tD at h;split at h;cases h;left;cases v with
 |none=>exact⟨rfl,rfl⟩|some v=>simp[kr]at c
 rename_i k n;split at h;rename_i e;cases h;cases v with
 |none=>simp[kr]at c|some v=>simp only[kr]at c;cases c;exact .inr ⟨k,n,rfl,e.1,e.2,rfl⟩
 cases h;cases h
theorem zO{jh:Bool}{len cap:Nat}{b c:Option Value}{l h:Nat}
  (d:(c=none/\h=len)\/∃k n,c=some (.int k n)/\0<=n/\n<=(cap:Int)/\n.toNat=h)
  (e:(b=none/\l=0)\/∃k n,b=some (.int k n)/\0<=n/\n<=(h:Int)/\n.toNat=l):
  (Instr.sliceBounds jh len cap b c none).run P g.w= .ok (l,h,cap) g.w:=by
 rcases d with⟨rfl,rfl⟩|⟨k,n,rfl,i,o,rfl⟩<;>rcases e with⟨rfl,rfl⟩|⟨j,f,rfl,m,b1,rfl⟩<;>simp_all [Instr.sliceBounds,Instr.sliceBound,asIntOf]
theorem Cu{c:gC}{b:Nat}(h:∀x∈c,x.cells.length=b)(n:Nat):(c.take n).flatMap T.cells=(c.flatMap T.cells).take (n*b):=by
 induction c generalizing n with
 |nil=>simp
 |cons x c i=>
  have d:=h x (by simp);cases n with
  |zero=>simp
  |succ n=>
   simp only[List.take_succ_cons,bP,i (λy e=>h y (by simp[e]))];rw[List.take_append,d,dC (l:=x.cells) (by rw[d,dA];omega),show(n+1)*b-b=n*b by rw[dA];omega]
theorem Cs{c:gC}{b:Nat}(h:∀x∈c,x.cells.length=b)(n:Nat):(c.drop n).flatMap T.cells=(c.flatMap T.cells).drop (n*b):=by
 induction c generalizing n with
 |nil=>simp
 |cons x c i=>
  have d:=h x (by simp);cases n with
  |zero=>simp
  |succ n=>
   simp only[List.drop_succ_cons,bP,i (λy e=>h y (by simp[e]))];rw[List.drop_append,d,eF (l:=x.cells) (by rw[d,dA];omega),show(n+1)*b-b=n*b by rw[dA];omega];simp
theorem aHu{b:gC}{e l f:Nat}(h:∀x∈b,x.cells.length=e)(_hle:f<=b.length)(j:Nat)(c:T)(d:(((b.take f).drop l).flatMap T.cells)[j]? =some c):(b.flatMap T.cells)[l*e+j]? =some c:=by
 rw[Cs (λx i=>h x (eC i)),Cu h,cD,bJ]at d;split at d;exact d;cases d
theorem aLn{t:gB}{x r:T}{lo S:jE}(h:vY P t x lo S=some r){u:gZ}{vlo K:Option Value}(hu:Rd g u x)(Q:kr g vlo lo)(O:kr g K S):
  ∃q,(Instr.sliceAt t u vlo K none).run P g.w= .ok q g.w/\Rd g q r:=by
 unfold vY at h;split at h;rename_i s hd;obtain⟨a,rfl,rfl⟩:=hu.aj;have es:a.data.toList.length=a.size:=by simp[dV]
 split at h;rename_i y eh;split at h;rename_i l el;cases h;have b1:=vS eh O;have b2:=vS el Q;rw[es]at b1;have U:=zO (P:=P) (g:=g) (jh:=false) (len:=a.size) (cap:=a.size) b1 b2;refine⟨.string (a.extract l y),by simp[Instr.sliceAt,Instr.slice,bD hd,U],?_⟩;rw[<-ZY];exact .str _;cases h;cases h;rename_i e J N hd;split at h;rename_i y eh;split at h;rename_i l el;split at h;rename_i s W;split at h;rename_i hok;cases h;simp only[uI,aG]at W;obtain⟨i,S,rfl⟩:=W;cases hu with
 |sl _ _ z b o d vs h1 h2 h3 h4 h5 h6 h7 h8=>
  have b1:=vS eh O;have b2:=vS el Q;have Z:(K=none/\y=N.length)\/∃k n,K=some (.int k n)/\0<=n/\n<=(d:Int)/\n.toNat=y:=by
   rcases b1 with b1|⟨k,n,D,I,R,M⟩;exact .inl b1;exact .inr ⟨k,n,D,I,by omega,M⟩
  have Y:y<=N.length:=by rcases b1 with⟨_,b1⟩|⟨k,n,D,I,R,M⟩<;>omega
  have hl:l<=y:=by rcases b2 with⟨_,b2⟩|⟨k,n,D,I,R,M⟩<;>omega
  have U:=zO (P:=P) (g:=g) (jh:=true) (len:=N.length) (cap:=d) Z b2;have L:((N.take y).drop l).length=y-l:=by simp;omega
  refine⟨.slice (some (if d=l then⟨b,o,none⟩else⟨b,o+l*i.size,none⟩)) (y-l) (d-l),?_,?_⟩;simp only[Instr.sliceAt,Instr.slice,aW,bD hd,aL,U,sizeOf,typeInfo,run_program,S,bH,cK,Addr.add_lit];split<;>rfl;rw[<-L];have B:(J&&y==N.length)=true->d-l=((N.take y).drop l).length:=λq=>by
   simp only[aA,bN]at q;have:=h5 q.1;rw[L];omega
  by_cases V:(N.take y).drop l=[];rw[V]at B⊢;have:∀(b' o':Nat),Rd g (.slice (some ⟨b',o',none⟩) ([]:List T).length (d-l)) (.sl (J&&y==N.length) []):=λb' o'=>
   .sl _ [] 0 _ _ _ [] (λq=>absurd rfl q) (by simp) (by simp) (by omega) B (by simp) (by simp) (by simp)
  split;exact this _ _;exact this _ _;have hx0:N≠[]:=by rintro rfl;simp at V
  have hlt:l<y:=by
   rcases eG l y with q|q;exact q;exact absurd (cM (by rw[L];omega)) V
  have esz:i.size=z:=by
   cases N with
   |nil=>exact absurd rfl hx0|cons x N=>simp only[DD,bN]at hok;rw[<-hok];exact h2 x (by simp)
  rw[aH (by omega),esz];have hm1:l*z<=y*z:=cZ _ (by omega);have hm2:y*z<=N.length*z:=cZ _ Y;have hsub:∀x∈(N.take y).drop l,x.cells.length=z:=λx hx=>h2 x (eC (eR hx));refine .sl _ _ z b (o+l*z) (d-l) ((vs.take (y*z)).drop (l*z)) (λ_ =>h1 hx0) hsub (by rw[L];omega) (by omega) B ?_ ?_ ?_;rw[L];simp only[cP,cY,h6,Nat.sub_mul];omega;intro j w C;rw[cD,bJ]at C;split at C;rw[dT];exact h7 _ w C;cases C;intro j w c C hc;rw[cD,bJ]at C;split at C;refine h8 _ w c C ?_;exact aHu h2 Y j c hc;cases C
 cases h;cases h;cases h;cases h;rename_i e J n f hd;split at h;rename_i y eh;split at h;rename_i l el;split at h;rename_i s W;split at h;cases h;rename_i hok;cases h;simp only[uI,aG]at W;obtain⟨i,S,rfl⟩:=W;cases hu with
 |ai _ _ p=>
  have b1:=vS eh O;have b2:=vS el Q;have D:y=0:=by rcases b1 with⟨_,b1⟩|⟨k,n,D,I,R,M⟩<;>omega
  have I:l=0:=by rcases b2 with⟨_,b2⟩|⟨k,n,D,I,R,M⟩<;>omega
  subst D;subst I;have U:=zO (P:=P) (g:=g) (jh:=true) (len:=0) (cap:=0) b1 b2;exact⟨.slice p 0 0,by cases p<;>simp[Instr.sliceAt,Instr.slice,bD hd,U,sizeOf,typeInfo,S],.ai _ _ p⟩
 |ac _ _ _ z b o d vs h1 h2 h3 h4 h5 h6 h7 h8=>
  have b1:=vS eh O;have b2:=vS el Q;have Z:(K=none/\y=n)\/∃k m,K=some (.int k m)/\0<=m/\m<=(d:Int)/\m.toNat=y:=by
   rcases b1 with b1|⟨k,m,D,I,R,M⟩;exact .inl b1;exact .inr ⟨k,m,D,I,by omega,M⟩
  have Y:y<=n:=by rcases b1 with⟨_,b1⟩|⟨k,m,D,I,R,M⟩<;>omega
  have hl:l<=y:=by rcases b2 with⟨_,b2⟩|⟨k,m,D,I,R,M⟩<;>omega
  have U:=zO (P:=P) (g:=g) (jh:=true) (len:=n) (cap:=d) Z b2;refine⟨.slice (some (if d=l then⟨b,o,none⟩else⟨b,o+l*i.size,none⟩)) (y-l) (d-l),?_,?_⟩;simp only[Instr.sliceAt,Instr.slice,aW,bD hd,aL,U,sizeOf,typeInfo,run_program,S,bH,cK,Addr.add_lit];split<;>rfl;have B:(J&&y==n)=true->d-l=y-l:=λq=>by
   simp only[aA,bN]at q;have:=h5 q.1;omega
  by_cases hlt:l<y;have esz:i.size=z:=by
   have q:¬(f l).cells.length≠i.size:=λq=>hok ⟨hlt,q⟩;have:=h2 l (by omega);omega
  rw[aH (by omega),esz];have hm1:l*z<=y*z:=cZ _ (by omega);have hm2:y*z<=n*z:=cZ _ Y;refine .ac _ _ _ z b (o+l*z) (d-l) ((vs.take (y*z)).drop (l*z)) (λ_ =>h1 (by omega)) (λk hk=>h2 (l+k) (by omega)) (by omega) (by omega) B ?_ ?_ ?_;simp only[cP,cY,h6,Nat.sub_mul];omega;intro j w C;rw[cD,bJ]at C;split at C;rw[dT];exact h7 _ w C;cases C;intro k j w c hk hj C hc;rw[cD,bJ]at C;split at C;refine h8 (l+k) j w c (by omega) hj ?_ hc;rw[fR,dT];exact C;cases C;have hz:y-l=0:=by omega
  rw[hz]at B⊢;have:∀(b' o':Nat),Rd g (.slice (some ⟨b',o',none⟩) 0 (d-l)) (.ac (J&&y==n) 0 (λk=>f (l+k))):=λb' o'=>
   .ac _ 0 _ 0 _ _ _ [] (λq=>absurd rfl q) (λk hk=>by omega) (by omega) (by omega) B (by simp) (by simp) (λk j w c hk=>by omega)
  split;exact this _ _;exact this _ _
 cases h;cases h;cases h;rename_i e hd;split at h;rename_i y eh;split at h;rename_i l el;split at h;rename_i hsz;cases h;obtain⟨s,W⟩:=eQ.1 hsz;simp only[uI,aG]at W;obtain⟨i,S,rfl⟩:=W;cases hu;have b1:=vS eh O;have b2:=vS el Q;have D:y=0:=by rcases b1 with⟨_,b1⟩|⟨k,n,D,I,R,M⟩<;>omega
 have I:l=0:=by rcases b2 with⟨_,b2⟩|⟨k,n,D,I,R,M⟩<;>omega
 subst D;subst I;have U:=zO (P:=P) (g:=g) (jh:=true) (len:=0) (cap:=0) b1 b2;exact⟨.slice none 0 0,by simp[Instr.sliceAt,Instr.slice,bD hd,U,sizeOf,typeInfo,S],.fp⟩;cases h;cases h;cases h;rename_i e l' z j len hd;split at h;rename_i y eh;split at h;rename_i k el;split at h;rename_i s W;split at h;rename_i es;cases h;simp only[uI,aG]at W;obtain⟨i,S,rfl⟩:=W;cases hu with
 |ge _ _ _ _ b o d h1 h2 h3 h4 h5=>
  have b1:=vS eh O;have b2:=vS el Q;have Z:(K=none/\y=len)\/∃k n,K=some (.int k n)/\0<=n/\n<=(d:Int)/\n.toNat=y:=by
   rcases b1 with b1|⟨k,n,D,I,R,M⟩;exact .inl b1;exact .inr ⟨k,n,D,I,by omega,M⟩
  have Y:y<=len:=by rcases b1 with⟨_,b1⟩|⟨k,n,D,I,R,M⟩<;>omega
  have hl:k<=y:=by rcases b2 with⟨_,b2⟩|⟨k,n,D,I,R,M⟩<;>omega
  have U:=zO (P:=P) (g:=g) (jh:=true) (len:=len) (cap:=d) Z b2;refine⟨.slice (some (if d=k then⟨b,o,none⟩else⟨b,o+k*i.size,none⟩)) (y-k) (d-k),?_,?_⟩;simp only[Instr.sliceAt,Instr.slice,aW,bD hd,aL,U,sizeOf,typeInfo,run_program,S,bH,cK,Addr.add_lit];split<;>rfl;by_cases hck:d=k;rw[aJ hck];refine .ge l' z (j+k) (y-k) b o (d-k) h1 (by omega) (by omega) (λq=> ?_) (λq=> ?_);have:j=0/\k=0:=by omega
  obtain⟨rfl,rfl⟩:=this;simpa using h4 (.inr rfl);have:j=0/\k=0:=by omega
  obtain⟨rfl,rfl⟩:=this;simpa using h5 rfl;rw[aH hck,es];refine .ge l' z (j+k) (y-k) b (o+k*z) (d-k) h1 (by omega) (by omega) (λq=> ?_) (λq=> ?_);have:=h4 (by omega);refine⟨this.1,?_⟩;rw[this.2,fR];have:j=0/\k=0:=by omega
  obtain⟨rfl,rfl⟩:=this;simpa using h5 rfl
 cases h;cases h;cases h;cases h;cases h
end
section
variable{P:gD}{g:G}
theorem Db{t:gB}{x:T}(h:IL P t x=true){u:gZ}(c:Rd g u x)(e:Bool)(d:Nat):(Instr.checkKey e (d+1) t u).run P g.w= .ok () g.w:=by
 unfold IL at h;split at h;rename_i b;cases c;simp[Instr.checkKey,bD b];rename_i b;cases c;simp[Instr.checkKey,bD b];rename_i b;cases c;simp[Instr.checkKey,bD b];cases h
theorem Nv{t:gB}{x:T}(h:IL P t x=true){d:gC}{o:Nat}(c:d[o]? =some x):wK P t d o=some x:=by
 unfold IL at h;unfold wK KM;split at h;rename_i b;rw[b];exact c;rename_i b;rw[b];exact c;rename_i b;rw[b];exact c;cases h
theorem Nu{x:gC}{i:gV}(j:fv g i x)(e:Bool)(d:Nat):∀(c:List Field),Yo P x c=true->
  (forIn c PUnit.unit (λf (_ :PUnit)=>if f.name≠ "_" then do
    let v<-part f.type i.toArray f.offset
    Instr.checkKey e (d+1) f.type v
    pure (ForInStep.yield PUnit.unit)
   else pure (ForInStep.yield PUnit.unit)):Sem PUnit).run P g.w= .ok PUnit.unit g.w
 |[],_ =>by simp
 |f::c,h=>by
  simp only[Yo,aA]at h;obtain⟨b,m⟩:=h;split at b;rename_i a n;simp only[aA,bQ,dB]at b;obtain⟨u,o,p⟩:=OQ (Nv b.2 n) j;have k:=Nu j e d c m;simp only[List.forIn_cons,aW,aJ b.1,o,aL,Db b.2 p e d,bH];exact k;cases b
theorem Nw{t:gB}{x:T}(h:OG P t x=true){u:gZ}(c:Rd g u x)(e:Bool):(Instr.checkKey e 10000 t u).run P g.w= .ok () g.w:=by
 unfold OG at h;split at h;split at h;rename_i f d;simp only[aA,bQ]at h;obtain⟨i,rfl,b⟩:=c.aq;have:=Nu b e 9998 f.toList h.2;rw[Instr.checkKey];simp only[aW,bD d,aL];rw[<-Array.forIn_toList];simp only[Nat.reduceAdd]at this;rw[this];rfl;cases h;exact Db h c e 9999
theorem GG{t:gB}{z:T}(h:wM P t=some z):∃v,(zeroValue t).run P g.w= .ok v g.w/\Rd g v z:=by
 unfold wM at h;split at h;rename_i i c;split at h;rename_i v b;exact⟨v,by simp[zeroValue,typeInfo,c,b],EN g h⟩;cases h;cases h
def xO(P:gD)(t:gB)(k:T)(f:iH)(e:gS)(c:Nat):Option (Nat×Nat×T)->Option (Nat×Value)->Prop
 |none,none=>True|some (i,b,x),some (j,v)=>j=i/\c<=i/\∃m d,f[i-c]? =some m/\e[i-c]? =some (b,d,x)/\m.val=v/\Tj P t k d=some true|_,_ =>False
abbrev jN:=Nat×T×T
theorem sK.I{m:MapEntry}{i:iH}{t:jN}{f:gS}(h:sK g (m::i) (t::f)):m.born=t.1/\Rd g m.key t.2.1/\Rd g m.val t.2.2/\sK g i f:=by
 obtain⟨e,k,j⟩:=h;simp only[dN,fT]at e;obtain⟨a,b⟩:=k.I;obtain⟨c,d⟩:=j.I;exact⟨e.1,a,c,e.2,b,d⟩
theorem sK.len{m:iH}{e:gS}(h:sK g m e):m.length=e.length:=by have:=bG List.length h.1;simpa using this
abbrev jX:=Option (Nat×Value)
abbrev jI:=Option (Nat×Nat×T)
theorem xO.up{t:gB}{k:T}{m:MapEntry}{d:iH}{e:jN}{f:gS}{c:Nat}{r:jI}{q:jX}(h:xO P t k d f (c+1) r q):xO P t k (m::d) (e::f) c r q:=by
 unfold xO at h⊢;split at h;trivial;rename_i i b x j v;obtain⟨o,B,w,y,n,p,u,z⟩:=h;refine⟨o,by omega,w,y,?_,?_,u,z⟩;rw[show i-c=(i-(c+1))+1 by omega];exact n;rw[show i-c=(i-(c+1))+1 by omega];exact p;exact h.elim
theorem Bv{t:gB}{k:T}{u:gZ}(n:Rd g u k):∀(c:iH) (d:gS) (i:Nat) (r:jI),zM P t k d i=some r->sK g c d->
  ∃q,(Instr.findAsking t u c i).run P g.w= .ok q g.w/\xO P t k c d i r q
 |[],[],i,r,h,_ =>by simp only[zM,aI]at h;subst h;exact⟨none,by simp[Instr.findAsking],trivial⟩|[],e::d,_,_,_,f=>by have:=f.len;simp at this|m::c,[],_,_,_,f=>by have:=f.len;simp at this
 |m::c,(b,B,x)::d,i,r,h,f=>by
  obtain⟨D,o,C,p⟩:=f.I;simp only[zM]at h;split at h;rename_i j;cases h;have:=Gu j n o 9998;refine⟨some (i,m.val),?_,rfl,bB _,m,B,by simp,by simp,rfl,j⟩;simp only[Instr.findAsking,aW,Op.equal,Op.maxDepth,this,aL,cB,bH];rename_i j;have:=Gu j n o 9998;obtain⟨q,y,z⟩:=Bv n c d (i+1) r h p;refine⟨q,?_,z.up⟩;simp only[Instr.findAsking,aW,Op.equal,Op.maxDepth,this,aL,bI,cN,y];cases h
theorem ZA{t:gB}{d:TypeDesc}(o:P.underlying t=some d){k n:T}{b m:Bool}(h:Tj P t k n=some b){u v:gZ}(j:Rd g u k)(i:Rd g v n)(e:Instr.sameNow d u v=some m):m=b:=by
 unfold Tj at h;split at h;obtain⟨w,rfl,_⟩:=j.aq;obtain⟨q,rfl,_⟩:=i.aq;simp[Instr.sameNow]at e;unfold ke at h;rw[o]at h;split at h;have f:=bV ‹some d=some _›;subst f;split at h;rename_i p;cases h;subst p;cases j;cases i;simp[Instr.sameNow]at e;exact e.symm;cases h;have f:=bV ‹some d=some _›;subst f;cases h;obtain⟨a,rfl,rfl⟩:=j.aj;obtain⟨c,rfl,rfl⟩:=i.aj;simp only[Instr.sameNow,aI]at e;rw[<-e,beq_toListBytes,ByteArray.toList_eq,ByteArray.toList_eq];have f:=bV ‹some d=some _›;subst f;cases h;cases j;cases i;simp[Instr.sameNow]at e;exact e.symm;cases h
theorem aJr{t:gB}{d:TypeDesc}(p:P.underlying t=some d){k:T}{u:gZ}(y:Rd g u k):∀(f:iH) (j:gS) (i:Nat) (r:jI) (q:jX),zM P t k j i=some r->sK g f j->
  Instr.findNow d u f i=some q->xO P t k f j i r q
 |[],[],i,r,q,h,_,c=>by
  simp only[zM,aI]at h;subst h;simp only[Instr.findNow,aI]at c;subst c;trivial
 |[],e::j,_,_,_,_,n,_ =>by have:=n.len;simp at this|m::f,[],_,_,_,_,n,_ =>by have:=n.len;simp at this
 |m::f,(b,C,x)::j,i,r,q,h,n,c=>by
  obtain⟨I,z,D,B⟩:=n.I;simp only[zM]at h;simp only[Instr.findNow]at c;split at h;rename_i o;cases h;split at c;cases c;exact⟨rfl,bB _,m,C,by simp,by simp,rfl,o⟩;rename_i w;have:=ZA p o y z w;cases this;cases c;rename_i o;split at c;rename_i w;have:=ZA p o y z w;cases this;exact(aJr p y f j (i+1) r q h B c).up;cases c;cases h
theorem LQ{t:gB}{d:TypeDesc}(f:P.underlying t=some d){k:T}{u:gZ}(c:Rd g u k){m:iH}{e:gS}{r:jI}(h:zM P t k e 0=some r)(b:sK g m e):
  ∃q,(Instr.findKey t u m).run P g.w= .ok q g.w/\xO P t k m e 0 r q:=by
 unfold Instr.findKey;simp only[aW,bD f,aL];split;rename_i q i;exact⟨q,by simp,aJr f c m e 0 r q h b i⟩;exact Bv c m e 0 r h b
theorem Dc{t:gB}{x:T}(h:OG P t x=true):∃d,P.underlying t=some d:=by
 unfold OG IL at h;split at h;split at h;rename_i b;exact⟨_,b⟩;cases h
 .split at h<;>first|(cases h;done)|exact⟨_,by assumption⟩
theorem Xn{H:Hp}(j:St g H){x:T}{e:gS}(h:NV H x=some e){v:gZ}(b:Rd g v x):
  (v= .map none/\e=[])\/∃l m c,v= .map (some (g.loc l))/\x= .mp l/\g.w.heap[g.loc l]? =some (.map m c)/\sK g m.toList e:=by
 unfold NV at h;split at h;cases h;cases b;exact .inl ⟨rfl,rfl⟩;rename_i l;split at h;rename_i o n;split at h;rename_i c i f;cases h;obtain⟨_,_,_,d,m,rfl,k⟩:=j.ap l o _ n f;cases b;exact .inr ⟨l,m,c,rfl,rfl,d,k⟩;cases h;cases h;cases h
abbrev jO:=Array MapEntry
theorem eL{w:iG}{r:Nat}{m:jO}{c:Nat}(h:w.heap[r]? =some (.map m c)):(getObj r).run P w= .ok (.map m c) w:=by
 simp only[getObj,Sem.run,h]
theorem aCb{H:Hp}(Y:St g H){t:gB}{x k r:T}{ok:Bool}(h:BK P H t x k ok=some r){u v:gZ}(W:Rd g v x)(N:Rd g u k):
  ∃q,(Instr.lookup t v u ok).run P g.w= .ok q g.w/\Rd g q r:=by
 unfold BK at h;split at h;rename_i O et S;split at h;rename_i U;split at h;rename_i es K;obtain⟨d,D⟩:=Dc U
 have I:∀(n:jO),sK g n.toList es->(Instr.lookup t v u ok).run P g.w=((do
   Instr.checkKey n.isEmpty 10000 O u
   let(v,o)<-match<-Instr.findKey O u n.toList with
    |some (_,v)=>pure (v,true)|none=>do pure (<-zeroValue et,false)
   pure (if ok then .tuple #[v,.bool o]else v)):Sem Value).run P g.w->
   ∃q,(Instr.lookup t v u ok).run P g.w= .ok q g.w/\Rd g q r:=by
  intro n B C;rw[C];simp only[aW,Nw U N,aL];split at h;rename_i i b y J;cases h;obtain⟨q,L,f⟩:=LQ D N J B;unfold xO at f;split at f;rename_i V;cases V;rename_i i' b' x' j w p;cases p;obtain⟨_,_,m,k',Q,R,h3,h4⟩:=f;simp only[Nat.sub_zero]at Q R;have e:Rd g w y:=by
   rw[<-h3];exact B.2.2.2 i m.val y (by rw[bA,Q];rfl) (by rw[bA,R];rfl)
  simp only[L,aL,bH];cases ok with
  |true=>exact⟨_,rfl,Rd.ak (vs:=[w,.bool true]) (fv.cons e (fv.cons (.bool true) fv.nil))⟩|false=>exact⟨_,rfl,e⟩
  exact f.elim;rename_i J;obtain⟨q,L,f⟩:=LQ D N J B;unfold xO at f;split at f;split at h;rename_i z hz;cases h;obtain⟨zv,M,p⟩:=GG (g:=g) hz;simp only[L,aL,aW,M,bH];cases ok with
  |true=>exact⟨_,rfl,Rd.ak (vs:=[zv,.bool false]) (fv.cons p (fv.cons (.bool false) fv.nil))⟩|false=>exact⟨_,rfl,p⟩
  cases h;rename_i p;cases p;exact f.elim;cases h
 rcases Xn Y K W with⟨rfl,rfl⟩|⟨l,n,c,rfl,rfl,Z,B⟩
 refine I #[] ⟨rfl,fv.nil,fv.nil⟩ ?_;simp only[Instr.lookup,aW,bD S,aL,bH];rfl;refine I n B ?_;simp only[Instr.lookup,aW,bD S,aL,eL Z,bH];rfl;cases h;cases h;cases h
theorem aRi{H:Hp}(p:St g H){t:gB}{x r:T}(h:Og P H t x=some r){v:gZ}(f:Rd g v x)(b:Array TypeId)(j:b[0]? =some t)(o:gB):
  CD P t x=some r\/∃u,(Builtin.len_ b o #[v]).run P g.w= .ok u g.w/\Rd g u r:=by
 unfold Og at h;split at h;rename_i l;split at h;rename_i k e z;split at h;rename_i y d;cases h;rcases Xn p d f with⟨i,_⟩|⟨B,m,c,rfl,e,q,n⟩
 subst i;cases f;right;refine⟨.int .i64 m.size,?_,?_⟩;simp[Builtin.len_,j,bD z,eL q,goInt];have:=n.len;rw[show(m.size:Int)=(y.length:Int) by rw[<-this];simp];exact .int _ _;cases h;exact .inl h;exact .inl h
end
section
variable{P:gD}{g:G}
theorem TC(o:Nat):∀(l:gV) (k:Nat) (b:hP),o+k+l.length<=b.size->
  ((l.zipIdx k).foldl (λ(b:hP) (p:Value×Nat)=>b.setIfInBounds (o+p.2) p.1) b).toList=b.toList.take (o+k)++l++b.toList.drop (o+k+l.length)
 |[],k,b,_ =>by simp
 |c::l,k,b,h=>by
  simp only[aZ]at h;have d:o+k<b.toList.length:=by simp;omega
  rw[List.zipIdx_cons,List.foldl_cons,TC o l (k+1) _ (by simp;omega)];simp only[Array.toList_setIfInBounds,aZ];rw[show o+(k+1)=o+k+1 by omega,show o+k+1+l.length=o+k+(l.length+1) by omega];rw[List.drop_set_of_lt (by omega)];rw[List.take_set,List.take_succ_eq_append_getElem d];have:((b.toList.take (o+k))++[b.toList[o+k]]).set (o+k) c=b.toList.take (o+k)++[c]:=by
   rw[List.set_append];have e:(b.toList.take (o+k)).length=o+k:=by simp at d⊢;omega
   rw[aH (by omega),e];simp
  rw[this];simp
theorem Kb(o:Nat)(b c:hP)(h:o+b.size<=c.size):
  (b.zipIdx.foldl (λ(c:hP) (p:Value×Nat)=>c.setIfInBounds (o+p.2) p.1) c).toList=c.toList.take o++b.toList++c.toList.drop (o+b.size):=by
 have:=TC o b.toList 0 c (by simpa using h);rw[<-Array.foldl_toList];simpa using this
def lQ(g:G):List (Nat×Value)->List (Nat×T)->Prop
 |[],[]=>True|(i,v)::c,(j,t)::b=>i=j/\Rd g v t/\lQ g c b|_,_ =>False
theorem TU{b:jM}:∀{x:iE} {f c:gC},KW b f x=some c->∀{m:List (Nat×Value)} {d:hP},lQ g m x->fv g d.toList f->
  ∃e,Instr.fill b d m=some e/\fv g e.toList c
 |[],f,c,h,m,d,k,n=>by
  simp[KW]at h;subst h;cases m with
  |nil=>exact⟨d,rfl,n⟩|cons q m=>simp[lQ]at k
 |(i,t)::x,f,c,h,[],d,k,n=>by simp[lQ]at k
 |(i,t)::x,f,c,h,(N,v)::m,d,k,n=>by
  obtain⟨rfl,D,k⟩:=k;simp only[KW]at h;split at h;cases h;rename_i o w J;split at h;rename_i j;obtain⟨B,M⟩:=j;have u:=D.cells;have z:v.cells.size=w:=by rw[<-B,<-u.1];simp
  have O:d.size=f.length:=by rw[<-n.1];simp
  have y:o+v.cells.size<=d.size:=by omega
  have I:=Kb o v.cells d y;have K:fv g (v.cells.zipIdx.foldl (λ(f:hP) (p:Value×Nat)=>f.setIfInBounds (o+p.2) p.1) d).toList (sC f o t.cells):=by
   rw[I];unfold sC;rw[B,<-z];exact((n.take o).append u).append (n.drop _)
  obtain⟨e,L,C⟩:=TU h k K;refine⟨e,?_,C⟩;simp only[Instr.fill,J];rw[aH (by simp[z];omega)];exact L;cases h
theorem Dt:∀{b:List Field} {p:List (Nat×Nat)},KB P b=some p->(b.mapM (λf=>do pure (f.offset,<-sizeOf f.type)):Sem (List (Nat×Nat))).run P g.w= .ok p g.w
 |[],p,h=>by simp[KB]at h;subst h;simp
 |f::b,p,h=>by
  simp only[KB]at h;split at h;rename_i s d;split at h;rename_i l e;cases h;simp only[uI,aG]at d;obtain⟨i,j,rfl⟩:=d;have c:=Dt e;simp only[List.mapM_cons,aW,sizeOf,typeInfo,run_program,aL,j,bH];simp only[sizeOf,typeInfo]at c;rw[c];simp;cases h;cases h
theorem aGe{t:gB}{L:iE}{r:T}(h:VR P t L=some r){d:List (Nat×Value)}(K:lQ g d L):
  ∃q,(Instr.build t d.toArray).run P g.w= .ok q g.w/\Rd g q r:=by
 unfold VR at h;split at h;rename_i z N;obtain⟨v,B,J⟩:=GG (g:=g) N;split at h;rename_i y u;split at h;rename_i D p;simp only[aG]at h;obtain⟨O,b,rfl⟩:=h;obtain⟨c,k,j⟩:=TU b K J.cells;have I:=Dt (g:=g) p;refine⟨.agg c,?_,by have:=Rd.br j;simpa using this⟩;have m:(y.mapM (λf=>do pure (f.offset,<-sizeOf f.type)):Sem (Array (Nat×Nat))).run P g.w= .ok D.toArray g.w:=by
  obtain⟨Q⟩:=y;rw[eH];simp only[fV];simp only at I;rw[I];rfl
 have o:Instr.fill (λx=>D.toArray[x]?) v.cells d=some c:=by simpa using k
 simp only[Instr.build,aW,B,aL,bD u,m,o,bH];cases h;rename_i n e u;split at h;rename_i s C;simp only[aG]at h;obtain⟨O,b,rfl⟩:=h;simp only[uI,aG]at C;obtain⟨i,M,rfl⟩:=C;obtain⟨c,k,j⟩:=TU b K J.cells;refine⟨.agg c,?_,by have:=Rd.br j;simpa using this⟩;simp only[Instr.build,aW,B,aL,bD u,sizeOf,typeInfo,run_program,M,bH,k];cases h;cases h;cases h
theorem Ej{s:Nat}{q:Bool}:∀{p:iE} {e d:gC},GR s q e p=some d->(∀x∈e,x.cells.length=s)->
  KW (λi=>some (i*s,s)) (e.flatMap T.cells) p=some (d.flatMap T.cells)/\(∀x∈d,x.cells.length=s)/\d.length=e.length
 |[],e,d,h,f=>by simp[GR]at h;subst h;exact⟨rfl,f,rfl⟩
 |(i,t)::p,e,d,h,f=>by
  simp only[GR]at h;split at h;rename_i u;obtain⟨k,w,o⟩:=u;have n:∀x∈e.set i t,x.cells.length=s:=λx m=>by
   rcases List.mem_or_eq_of_mem_set m with m|rfl;exact f x m;exact k
  obtain⟨a,b,c⟩:=Ej h n;refine⟨?_,b,by simpa using c⟩;have j:i*s+s<=e.length*s:=by rw[<-dA];exact cZ _ o
  simp only[KW];rw[aJ ⟨k,by rw[tH f];exact j⟩];rw[show sC (e.flatMap T.cells) (i*s) t.cells=(e.set i t).flatMap T.cells from ?_];exact a;unfold sC;rw[List.set_eq_take_append_cons_drop,aJ o];simp only[dG,bP,Cu f,Cs f,k,dA,eJ];cases h
theorem Rl{z:T}{v:gZ}(B:Rd g v z){n s:Nat}(o:z.cells.length=s)(p:0<s):
  fv g ((Array.range (n*s)).map (v.cells[· %v.cells.size]!)).toList ((List.replicate n z).flatMap T.cells):=by
 have q:=B.cells;have w:v.cells.size=s:=by rw[<-o,<-q.1];simp
 have h:∀x∈List.replicate n z,x.cells.length=s:=λx i=>by rw[(List.mem_replicate.1 i).2];exact o
 refine⟨by simp[tH h],λj u c e d=> ?_⟩;have m:j<n*s:=by
  have:=(aQ.1 d).1;rw[tH h]at this;simpa using this
 have y:j/s<n:=(Nat.div_lt_iff_lt_mul p).2 m;have C:j%s<s:=Nat.mod_lt _ p;have b:z.cells[j%s]? =some (z.cells[j%s]'(by omega)):=aB _;have i:(List.replicate n z)[j/s]? =some z:=by simp[y]
 have f:=KD h i (j%s) _ b;rw[show j/s*s+j%s=j by rw[Nat.mul_comm];exact Nat.div_add_mod j s]at f;rw[d]at f;cases f;simp[m]at e;rw[w]at e;have k:v.cells.toList[j%s]? =some (v.cells[j%s]'(by omega)):=by simp
 rw[getElem!_pos v.cells (j%s) (by omega)]at e;subst e;exact q.2 (j%s) _ _ k b
theorem DB{t:gB}{len:Nat}{S:iE}{r:T}(h:sM P t len S=some r){R:List (Nat×Value)}(hq:lQ g R S):
  ∃(f:hP) (e:gB),(Instr.buildSlice t len R.toArray).run P g.w= .ok (.slice (some ⟨g.w.heap.size,0,none⟩) len len) (g.add (.cells f e)).w/\
   Rd (g.add (.cells f e)) (.slice (some ⟨g.w.heap.size,0,none⟩) len len) r/\
   ∃(d:gC) (s:Nat),r= .sl true d/\P.underlying t=some (.slice e)/\uI P e=some s/\0<s/\len*s<=65536/\(d.flatMap T.cells).length=len*s/\fv g f.toList (d.flatMap T.cells):=by
 unfold sM at h;split at h;rename_i e O;split at h;rename_i s ag z Q Y Z;split at h;rename_i hc;obtain⟨y,b,m,V⟩:=hc;simp only[aG]at h;obtain⟨d,B,rfl⟩:=h;simp only[uI,aG]at Q;obtain⟨i,K,rfl⟩:=Q;obtain⟨v,W,hr⟩:=GG (g:=g) Z;have p:∀x∈List.replicate len z,x.cells.length=i.size:=λx hx=>by rw[(List.mem_replicate.1 hx).2];exact m
 obtain⟨h1,L,h3⟩:=Ej B p;have J:=Rl hr (n:=len) m y;obtain⟨f,C,D⟩:=TU h1 hq J;have c:d.length=len:=by simpa using h3
 refine⟨f,e,?_,?_,d,i.size,rfl,O,by simp[uI,K],y,b,by rw[tH L,c],D⟩;have o:¬(len*i.size>2^24):=by omega
 by_cases I:len*i.size=0;have k:len=0:=by
  rcases Nat.eq_zero_or_pos len with q|q;exact q;have:=Nat.mul_pos q y;omega
 subst k;have U:((Array.range 0).map (λx=>v.cells[x%v.cells.size]!))= #[]:=by simp
 simp only[fX,U]at C;simp[Instr.buildSlice,bD O,sizeOf,typeInfo,K,C,newRow,G.add,Array.range_zero'];simp only[Instr.buildSlice,aW,bD O,aL,sizeOf,typeInfo,run_program,K,bH,aH o,aH I,W,C];simp[newRow,G.add];have M:=g.ba (.cells f e);have N:=D.ad M;rw[<-c];refine .sl true d i.size g.w.heap.size 0 d.length f.toList (λ_ => .inr rfl) L (bB _) ?_ (λ_ =>rfl) ?_ ?_ N.2;have:len<=len*i.size:=Nat.le_mul_of_pos_right _ y;simp only[maxLen];omega;have:=D.1;rw[tH L]at this;simpa using this;intro j u hu;rw[cG,G.bz];simpa using hu;cases h;cases h;cases h
theorem aXm{x:T}{v:gZ}(c:Rd g v x)(e:gB):
  (Instr.box e v).run P g.w= .ok (.pointer (some ⟨g.w.heap.size,0,none⟩)) (g.add (.cells v.cells e)).w/\Rd (g.add (.cells v.cells e)) (.pointer (some ⟨g.w.heap.size,0,none⟩)) (.ref x 0):=by
 have h:=g.ba (.cells v.cells e);have b:=(c.ad h).cells;refine⟨by simp[Instr.box,newVar,newRow,G.add],?_⟩;exact .ref x 0 g.w.heap.size 0 v.cells.toList (.inr rfl) b.1 (λj u d=>by rw[cG,G.bz];simpa using d) b.2
theorem wS{gl:gG}{f:gC}{a:Act}:∀{c:List Operand} {b:gC},vN gl f c=some b->(∀x∈c,∀t,pQ gl f x=some t->Rd g (a.eval x) t)->fv g (c.map a.eval) b
 |[],b,h,_ =>by simp[vN]at h;subst h;exact fv.nil
 |x::c,b,h,e=>by
  simp only[vN]at h;split at h;rename_i t i;split at h;rename_i j d;cases h;exact fv.cons (e x (by simp) t i) (wS d (λy k=>e y (by simp[k])));cases h;cases h
theorem IW{gl:gG}{f:gC}{a:Act}:∀{c:List (Nat×Operand)} {b:iE},g9 gl f c=some b->
  (∀p∈c,∀t,pQ gl f p.2=some t->Rd g (a.eval p.2) t)->lQ g (c.map λp=>(p.1,a.eval p.2)) b
 |[],b,h,_ =>by simp[g9]at h;subst h;trivial
 |(i,x)::c,b,h,e=>by
  simp only[g9]at h;split at h;rename_i t j;split at h;rename_i k d;cases h;exact⟨rfl,e (i,x) (by simp) t j,IW d (λy m=>e y (by simp[m]))⟩;cases h;cases h
theorem RF{f:gX}(h:uQ P f=true)(b:hP):(callFunc f b).run P g.w= .ok (.enter f b) g.w:=by
 unfold uQ at h;unfold callFunc;split at h;rename_i c d;simp only[aA,bQ,Option.isSome_iff_ne_none]at h;obtain⟨j,i⟩:=h;have e:c.body.isNone=false:=by cases hb:c.body<;>simp_all
 simp only[aW,run_program,aL,d,i,e];simp;cases h
theorem sF(f:Operand->Value)(x:Array Operand):x.map f=(x.toList.map f).toArray:=by
 cases x;simp
theorem Ca{g:G}:∀{i:gC} {e:gH} {c:gV},BU i=some e->fv g c i->∃d:List Int,c=d.map (Value.int .u8)/\e=d.map λn=>UInt8.ofNat n.toNat
 |[],e,c,h,b=>by
  simp only[BU,aI]at h;subst h;have:c=[]:=by have:=b.1;simp at this;exact this
  exact⟨[],by simp[this],rfl⟩
 |t::r,e,c,h,b=>by
  unfold BU at h;split at h;rename_i f;cases f;rename_i n x f;cases f;split at h;rename_i l u;split at h;cases h
  obtain⟨p,k⟩:(∃v w,c=v::w/\Rd g v (.int .u8 n)/\fv g w r)/\True:=⟨by
   match c,b with
   |v::w,b=>exact⟨v,w,rfl,b.I⟩|[],b=>exact absurd b.1 (by simp),trivial⟩
  obtain⟨v,w,rfl,o,m⟩:=p;cases o;obtain⟨d,j,q⟩:=Ca u m;exact⟨n::d,by rw[j];rfl,by rw[q];rfl⟩;cases h;cases h;cases h
abbrev gN:=List Int
theorem WU:∀(b:gN) (a:iL),(b.foldl (λr n=>r.push (UInt8.ofNat n.toNat)) a).data.toList=a.data.toList++b.map λn=>UInt8.ofNat n.toNat
 |[],a=>by simp
 |n::b,a=>by
  rw[List.foldl_cons,WU b];simp[ByteArray.push]
theorem aTg{P:gD}{g:G}{H:Hp}(I:St g H){s d:gB}{x r:T}(h:Al P H s d x=some r){u:gZ}(U:Rd g u x):∃q,(convert s d u).run P g.w= .ok q g.w/\Rd g q r:=by
 unfold Al at h;split at h
 .rename_i l n;split at h
  case h_2=>cases h
  rename_i e O Q;split at h
  .rename_i o D R;split at h
   .rename_i hc;split at h
    .rename_i Z p;cases h;obtain⟨_,_,N,K,M,_,_,B⟩:=I.own l o R;cases U with
     |ge _ _ _ _ b L y C W V J Y=>
     obtain⟨rfl,rfl⟩:=J (.inr rfl)
     obtain⟨k,z,S⟩:=Ca p (show fv g ((N.toList.take o.cells.length).take n) (o.cells.take n)from⟨by simp only[cY];have:=B.1;simp only[cY]at this;omega,λj v c f i=>B.2 j v c (by
      rw[bJ]at f;split at f;exact f
      cases f) (by
      rw[bJ]at i;split at i;exact i
      cases i)⟩)
     have m:k.length=n:=by
      have:=bG List.length z;simp only[cY,dQ,cW]at this;omega
     have C:=DG P g.w (g.loc l) 0 n (k.map (Value.int .u8)) (by simpa using m) (λj v f=>by
      rw[<-z,bJ]at f;split at f;rw[bJ]at f;split at f;simp[World.cell?,K]at f⊢;exact f;cases f
      cases f)
     refine⟨.string (k.foldl (λr n=>r.push (UInt8.ofNat n.toNat)) ByteArray.empty),?_,?_⟩;rw[fX,run_convert_bytes_string g.w s d e _ _ _ O D Q];exact run_bytesToString g.w ⟨g.loc l,0,none⟩ n y k C;have:=Rd.str (g:=g) (k.foldl (λr n=>r.push (UInt8.ofNat n.toNat)) ByteArray.empty);rw[WU]at this;rw[S];simpa using this
    cases h
   cases h
  cases h
 cases h
theorem aGg{P:gD}{g:G}{a:Act}{I:jC}{s d i:gB}{u:String}{f:Array Edge}{guard:Option (Nat×Bool)}{x:jH}(hg:sJ g){t r:T}(h:VS P s d t=some r)(W:Rd g (a.eval x) t):
  nC P ⟨I,.convert s d x,i,u,f,guard⟩ a g r:=by
 unfold VS at h;split at h
 .rename_i u1 e l J N;split at h
  .rename_i Z;split at h
   .rename_i hl;cases h;generalize hv:a.eval x=v at W;cases W with
    |str b=>
    have o:=Lib.run_convert_string_bytes g.w s d e b J N Z;intro K Q hK;unfold Oper.wp;have M:(execOp a.eval ⟨I,.convert s d x,i,u,f,guard⟩).run P g.w= .ok (.value (.slice (some ⟨g.w.heap.size,0,none⟩) b.size (grownCap g.w b.size 0 e))) (Lib.bytesWorld g.w e b):=by
     simp only[execOp,hv,aW,o,aL,bH]
    rw[M]
    let R:G:={g with w:=Lib.bytesWorld g.w e b,S:=λk=>g.S k\/k=g.w.heap.size}
    have Y:=Lib.bytesWorld_size g.w e b;have C:=grownCap_ge g.w b.size 0 e;have p:b.size=b.data.toList.length:=(cW).symm;have B:=grownCap_le_maxLen g.w b.size 0 e (by simp only[maxLen];omega);refine hK _ R ⟨rfl,?_,?_,by show _ <=(Lib.bytesWorld g.w e b).heap.size;omega,λk hk=>Lib.bytesWorld_at_old g.w e b k hk,λk hk=> .inl hk,λk hk=> ?_,rfl,rfl,rfl⟩ ?_ ?_;simp[R,Lib.bytesWorld,World.freeze,World.alloc,World.drew,-World.alloc_eq,-World.drew_eq];simp[R,Lib.bytesWorld,World.freeze,World.alloc,World.drew,-World.alloc_eq,-World.drew_eq];rcases hk with hk|hk;exact .inl hk;exact .inr (by omega);intro k hk;show k<(Lib.bytesWorld g.w e b).heap.size;rcases hk with hk|hk
    have:=hg k hk;omega;omega;have D:b.size=(b.data.toList.map λc=>T.int .u8 c.toNat).length:=by rw[dQ];exact p
    generalize grownCap g.w b.size 0 e=cp at C B⊢
    conv=>arg 2;rw[D]
    refine .sl false _ 1 g.w.heap.size 0 _ (b.data.toList.map λc=>Value.int .u8 c.toNat) (λ_ => .inr rfl) (λy hy=> ?_) (by rw[<-D];exact C) B (λq=>by cases q) (by simp) (λj v n=> ?_) (λj v c n m=> ?_);obtain⟨c,_,rfl⟩:=bS.1 hy;rfl;rw[bA]at n;obtain⟨c,m,rfl⟩:=aG.1 n;have L:=(aQ.1 m).1;have:=Lib.bytesWorld_cell g.w e b j (by rw[p];exact L);rw[cG];show(Lib.bytesWorld g.w e b).cell? _ =_;rw[this,bC,m];rfl;have O:((b.data.toList.map λc=>T.int .u8 c.toNat).flatMap T.cells)=b.data.toList.map λc=>T.int .u8 c.toNat:=by
     rw[fO]
     induction b.data.toList with
     |nil=>rfl|cons z zs U=>simp only[bP,dN,T.cells]at U⊢;rw[U];rfl
    rw[O]at m;rw[bA]at n m;obtain⟨c1,h1,rfl⟩:=aG.1 n;obtain⟨c2,V,rfl⟩:=aG.1 m;rw[h1]at V;cases V;exact .int _ _
   cases h
  cases h
 cases h
theorem HP{E:uW}(hE:rV P E.gl E.pe)(hgl:gn E.gl g){own:Bool}{H:Hp}(hH:St g H)(D:sJ g){fr:gC}{a:Act}{o:Oper}{t:T}
  (h:pS P E own H fr o=some t) (j:∀x∈o.op.operands,∀t,pQ E.gl fr x=some t->Rd g (a.eval x) t):nC P o a g t:=by
 obtain⟨dst,op,type,pos,after,guard⟩:=o;cases op<;>simp only[pS]at h<;>simp only[Op.operands]at j<;>try(cases h;done)
 case move x=>exact rH D (by simp[execOp]) (j x (by simp) t h)
 case assign x=>exact rH D (by simp[execOp]) (j x (by simp) t h)
 case pick c x y=>
  split at h;rename_i b Z;have hc:=(j c (by simp) _ Z).a8;cases b with
  |true=>exact rH D (v:=a.eval x) (by simp[execOp,hc,asBool]) (j x (by simp) t (by simpa using h))|false=>exact rH D (v:=a.eval y) (by simp[execOp,hc,asBool]) (j y (by simp) t (by simpa using h))
  cases h
 case box e x=>
  split at h;cases h;simp only[aG]at h;obtain⟨y,hy,rfl⟩:=h;obtain⟨n,C⟩:=aXm (P:=P) (j x (by simp) y hy) e;exact Du D (by simp only[execOp,aW,n,aL,bH]) C
 case build ty parts=>
  split at h;rename_i l M;have B:=IW (g:=g) (a:=a) M (λp B t ht=>j p.2 (by simp;exact⟨p.1,by simpa using B⟩) t ht);obtain⟨q,n,C⟩:=aGe h B;refine rH D (v:=q) ?_ C;have e:(parts.map λx=>(x.1,a.eval x.2))=(parts.toList.map λp=>(p.1,a.eval p.2)).toArray:=by cases parts;simp
  simp only[execOp,aW,e,n,aL,bH];cases h
 case buildSlice ty len parts=>
  split at h;cases h;split at h;rename_i l M;have B:=IW (g:=g) (a:=a) M (λp B t ht=>j p.2 (by simp;exact⟨p.1,by simpa using B⟩) t ht);obtain⟨ca,e,n,C,_⟩:=DB h B;refine Du D (ob:= .cells ca e) ?_ C;have e:(parts.map λx=>(x.1,a.eval x.2))=(parts.toList.map λp=>(p.1,a.eval p.2)).toArray:=by cases parts;simp
  simp only[execOp,aW,e,n,aL,bH];cases h
 case load ty x=>
  split at h;rename_i p B;obtain⟨u,n,C⟩:=Yx hH h (j x (by simp) p B);exact rH D (by simp only[execOp,aW,n,aL,bH]) C;cases h
 case nilCheck x=>
  split at h;rename_i p B;have I:=j x (by simp) p B;unfold RE at h;split at h<;>cases h;refine rH D (v:=a.eval x) ?_ I;generalize Y:a.eval x=u at I;cases I;simp[execOp,Y];refine rH D (v:=a.eval x) ?_ I;generalize Y:a.eval x=u at I;cases I;simp[execOp,Y];refine rH D (v:=a.eval x) ?_ I;generalize Y:a.eval x=u at I;cases I;simp[execOp,Y];refine rH D (v:=a.eval x) ?_ I;generalize Y:a.eval x=u at I;cases I;simp[execOp,Y];cases h
 case binOp op ty x y ty'=>
  split at h;rename_i p q B U;split at h;rename_i hn;obtain⟨u,n,C⟩:=aXh (P:=P) h (j x (by simp) p B) (j y (by simp) q U) x y hn;refine rH D (v:=u) ?_ C;simp only[execOp,aW]at n⊢;simp only[n,aL,bH];cases h;cases h
 case unOp op ty x=>
  split at h;rename_i p B;obtain⟨u,n,C⟩:=bJe (P:=P) h (j x (by simp) p B);exact rH D (by simp only[execOp,aW,n,aL,bH]) C;cases h
 case convert s d x=>
  split at h;rename_i p B;unfold KT at h;split at h;rename_i r Z;cases h;unfold SG at Z;split at Z;rename_i r I;cases Z;obtain⟨u,n,C⟩:=aPf (P:=P) I (j x (by simp) p B);exact rH D (by simp only[execOp,aW,n,aL,bH]) C;exact aGg D Z (j x (by simp) p B);obtain⟨u,n,C⟩:=aTg (P:=P) hH h (j x (by simp) p B);exact rH D (by simp only[execOp,aW,n,aL,bH]) C;cases h
 case makeFunc f first captured=>
  split at h;rename_i p q B U;cases h;have n:=wS (g:=g) (a:=a) B (λx L=>j x (by simp at L;simp[L]));have C:=wS (g:=g) (a:=a) U (λx L=>j x (by simp at L;simp[L]));exact rH D (by simp only[execOp,aW,Instr.makeFunc,sF,bH,aL]) (Rd.bx n C);cases h
 case slice ty x lo hi mx=>
  cases mx with
  |some m=>cases h
  |none=>
   simp only at h;split at h;rename_i p B;split at h;rename_i l hh M N;have hlo:kr g (lo.map a.eval) l:=by
    cases lo with
    |none=>simp[OP]at M;subst M;trivial
    |some y=>
     simp only[OP]at M;split at M;rename_i z hz;cases M;exact j y (by simp) z hz;cases M
   have hhi':kr g (hi.map a.eval) hh:=by
    cases hi with
    |none=>simp[OP]at N;subst N;trivial
    |some y=>
     simp only[OP]at N;split at N;rename_i z hz;cases N;exact j y (by simp) z hz;cases N
   obtain⟨u,n,C⟩:=aLn (P:=P) h (j x (by simp) p B) hlo hhi';exact rH D (by simp only[execOp,aW,Option.map_none,n,aL,bH]) C;cases h;cases h
 case fieldAddr s x f=>
  split at h;rename_i p B;obtain⟨u,n,C⟩:=Gx (P:=P) h (j x (by simp) p B);exact rH D (by simp only[execOp,aW,n,aL,bH]) C;cases h
 case field ty x f=>
  split at h;rename_i cs B;split at h;rename_i fd S;unfold PT at S;split at S;rename_i fs hd;obtain⟨vs,hv,I⟩:=(j x (by simp) _ B).aq;obtain⟨u,n,C⟩:=OQ (P:=P) h I;exact rH D (v:=u) (by simp only[execOp,Instr.field,aW,bD hd,aL,S,hv,asAgg,bH,n]) C;cases S;cases h;cases h
 case indexAddr ty x i=>
  split at h;rename_i p q B U;obtain⟨u,n,C⟩:=Ho (P:=P) h (j x (by simp) p B) (j i (by simp) q U);exact rH D (by simp only[execOp,aW,n,aL,bH]) C;cases h
 case index ty x i=>
  split at h;rename_i p q B U;obtain⟨u,n,C⟩:=aIk (P:=P) h (j x (by simp) p B) (j i (by simp) q U);exact rH D (by simp only[execOp,aW,n,aL,bH]) C;cases h
 case lookup ty x i ok=>
  split at h;rename_i p q B U;obtain⟨u,n,C⟩:=aCb (P:=P) hH h (j x (by simp) p B) (j i (by simp) q U);exact rH D (by simp only[execOp,aW,n,aL,bH]) C;cases h
 case extract x i=>
  split at h;rename_i cs B;obtain⟨vs,hv,I⟩:=(j x (by simp) _ B).di;obtain⟨u,n,C⟩:=I.at_ h;exact rH D (v:=u) (by simp[execOp,Instr.extract,hv,n]) C;cases h
 case call c=>
  obtain⟨V,J,O⟩:=c;unfold yT at h;cases V with
  |invoke r m=>cases h
  |value f=>
   simp only[Call.operands]at j;simp only at h;split at h;rename_i k first cap hf
   split at h;rename_i ars has;obtain⟨vs,us,hv,hr1,hr2⟩:=(j f (by simp) _ hf).cx;have R:=wS (g:=g) (a:=a) has (λx L=>j x (by simp at L;simp[L]));obtain⟨hk,hc⟩:=hE H k _ t h;have W:=hc g _ D hH hgl ((hr1.append R).append hr2);intro K Q hK;have hrun:(execOp a.eval {dst,op:= .call ⟨.value f,J,O⟩,type,pos,after,guard}).run P g.w= .ok (.enter k (vs++J.toList.map a.eval++us).toArray) g.w:=by
    simp only[execOp,resolve,hv,Deferred.ofValue,aW,bH,aL,invoke,sF];rw[RF hk];simp
   unfold Oper.wp;rw[hrun];exact W.mono λe w' ⟨v,g',he,hw,hst,hok,hrd⟩=>by
    subst he;subst hw;exact hK v g' hst hok hrd
   cases h;cases h
  |builtin b=>
   simp only[Call.operands]at j;cases b<;>try(cases h;done)
   case len=>
    simp only at h;split at h;rename_i x t0 ts L hts;split at h;rename_i p B
    have I := j x (by have:x∈J.toList:=by rw[L];simp
                      simpa using this) p B
    have e1:J.map a.eval= #[a.eval x]:=by rw[sF,L];rfl
    have e2:O[0]? =some t0:=by rw[<-dW,hts];rfl
    obtain⟨u,n,C⟩:∃u,(Builtin.len_ O type #[a.eval x]).run P g.w= .ok u g.w/\Rd g u t:=by
     rcases aRi hH h I O e2 type with h|h;exact aZf (P:=P) h I O e2 type;exact h
    exact rH D (v:=u) (by simp only[execOp,resolve,aW,bH,aL,invoke,builtin,e1,n]) C;cases h;cases h
   case min=>
    simp only at h;split at h;rename_i x r L;have R:=wS (g:=g) (a:=a) L (λx L=>j x (by simpa using L));cases M:J.toList.map a.eval with
    |nil=>rw[M]at R;simp[fv]at R
    |cons v vs=>
     rw[M]at R;obtain⟨h4,h5⟩:=R.I;obtain⟨u,n,C⟩:=NY (P:=P) h h4 h5;refine rH D (v:=u) ?_ C;simp only[execOp,resolve,aW,bH,aL,invoke,builtin,sF,M,Builtin.min_,n]
    cases h
   case max=>
    simp only at h;split at h;rename_i x r L;have R:=wS (g:=g) (a:=a) L (λx L=>j x (by simpa using L));cases M:J.toList.map a.eval with
    |nil=>rw[M]at R;simp[fv]at R
    |cons v vs=>
     rw[M]at R;obtain⟨h4,h5⟩:=R.I;obtain⟨u,n,C⟩:=NX (P:=P) h h4 h5;refine rH D (v:=u) ?_ C;simp only[execOp,resolve,aW,bH,aL,invoke,builtin,sF,M,Builtin.max_,n]
    cases h
end
noncomputable section
structure Fc where
 own:Tmp->Bool
 ed:FuncId->List T->Hp->Option (T×Hp×List Bool)
def oU:List Bool->Bool
 |[]=>true|c::b=>c&&oU b
def aDy:Option (T×Hp)->Option (T×Hp×List Bool)
 |some (v,b)=>some (v,b,[])|none=>none
def Fc.ee(F:Fc)(f:gX)(d:gC)(H:Hp):Option (T×Hp):=
 match F.ed f d H with
 |some (r,b,c)=>if oU c then some (r,b)else none
 |none=>none
structure Fx where
 fr:List T
 H:Hp
 fq:Option (Tmp×TypeId)
def CH(F:Fc)(o:Oper):Bool:=
 match o.dst with
 |some d=>F.own d|none=>false
def rQ(b:gF)(o:Oper)(d:Tmp):Bool:=(o.looksAt b).contains d||o.dst==some d
def qO:List T->Bool
 |[]=>true|t::b=>t.one&&qO b
def vZ(P:gD)(H:Hp)(t:gB)(p x:T):Option Hp:=
 match p with
 | .ptr l b=>match H.get l,uI P t with
  |some o,some n=>if x.cells.length=n/\b+n<=o.cells.length/\qO x.cells=true then some (H.put l {o with cells:=sC o.cells b x.cells})else none
  |_,_ =>none
 |_ =>none
def rA(H:Hp):T->Option (List T)
 | .fp=>some []| .sl _ x=>some (x.flatMap T.cells)| .ac _ n f=>some ((List.range n).flatMap λi=>(f i).cells)
 | .ge l c i len=>match H.get l with
  |some o=>if(i+len)*c<=o.cells.length then some ((o.cells.drop (i*c)).take (len*c))else none
  |none=>none
 | .str s=>some (s.map λb=> .int .u8 b.toNat)|_ =>none
def vO:T->Option Nat
 | .fp=>some 0| .sl _ x=>some x.length| .ac _ n _ =>some n| .ge _ _ _ len=>some len| .str s=>some s.length|_ =>none
def zG(P:gD)(d:gB)(c:Nat)(x:T):Bool:=
 match P.underlying d,x with
 |some (.slice _),.fp|some (.slice _),.sl .. |some (.slice _),.ac .. =>true|some (.slice _),.ge _ b _ _ =>b==c|some .string,.str _ =>c==1|_,_ =>false
def AI(m bytes:Nat):Bool:=decide (m*bytes<=70368744177664)&&decide (m<=70368744177664)
def rO(P:gD)(H:Hp)(t d:gB)(s x:T):Option (T×Hp):=
 match P.underlying t with
 |some (.slice e)=>
  match P.info? e,rA H x,vO x with
  |some i,some new,some m=>
   if i.size=0\/new.length≠m*i.size\/qO new=false\/(i.zero.map λz=>z.cells.size)≠some i.size\/zG P d i.size x=false then none else
   match s with
   | .fp=>if m=0 then some (.fp,H)else if AI m i.bytes then
     some (.ge H.next i.size 0 m,H.new {elem:=e,sz:=i.size,cells:=new})else none
   | .sl true b=>if m=0 then some (.sl true b,H)else if AI (b.length+m) i.bytes&&DD i.size b then
     some (.ge H.next i.size 0 (b.length+m),H.new {elem:=e,sz:=i.size,cells:=b.flatMap T.cells++new})else none
   | .ge l c 0 len=>if m=0 then some (.ge l c 0 len,H)else match H.get l with
    | some o=>if c=i.size/\o.sz=i.size/\o.elem=e/\o.cells.length=len*i.size/\AI (len+m) i.bytes=true then
      some (.ge H.next i.size 0 (len+m),(H.drop l).new {elem:=e,sz:=i.size,cells:=o.cells++new})else none
    |none=>none
   |_ =>none
  |_,_,_ =>none
 |_ =>none
def bBn:T->Option (List T)
 | .sl _ x=>some x| .ac _ n f=>some ((List.range n).map f)|_ =>none
def CP(P:gD)(H:Hp)(t c:gB)(s x:T):Option (T×Hp):=
 match P.underlying t,s,bBn x with
 |some (.slice e),.fp,some b=>match P.info? e with
  |some i=>if i.size=0\/b.isEmpty=true\/(b.all λy=>Nat.beq y.cells.length i.size)=false\/qO (b.flatMap T.cells)=false\/(i.zero.map λz=>z.cells.size)≠some i.size\/zG P c i.size x=false\/AI b.length i.bytes=false then none
   else some (.sl false b,H)
  |none=>none
 |_,_,_ =>none
abbrev hJ:=Tmp->Bool
def GB(own:hJ):Option Tmp->Bool
 |some d=>own (7000000+d)&& !(own (8000000+d))|none=>false
def TG(P:gD)(p:Bool)(H:Hp)(t b:gB)(s x:T):Option (T×Hp):=if p then CP P H t b s x else rO P H t b s x
def sX(P:gD)(H:Hp)(t:gB)(l c:T):Option (T×Hp):=
 match P.underlying t,l,c with
 |some (.slice e),.int .i64 n,.int .i64 m=>
  match uI P e,(P.info? e).map (·.bytes),wM P e with
  | some sz,some bytes,some z=>if 0<sz/\z.cells.length=sz/\0<=n/\n=m/\n.toNat*bytes<=70368744177664/\n<=70368744177664 then
    some (.ge H.next sz 0 n.toNat,H.new {elem:=e,sz:=sz,cells:=(List.replicate n.toNat z).flatMap T.cells})else none
  |_,_,_ =>none
 |_,_,_ =>none
def Ju(k x:T):List (Nat×T×T)->Nat->List (Nat×T×T)
 |[],_ =>[]|(b,_,_)::r,0=>(b,k,x)::r|e::r,i+1=>e::Ju k x r i
def Jo:T->T->Bool
 | .int k a,.int c b=>decide (k=c)&&a==b| .str a,.str b=>a==b| .bool a,.bool b=>a==b|_,_ =>false
def Jp:List T->List T->Bool
 |[],[]=>true|x::b,y::c=>Jo x y&&Jp b c|_,_ =>false
def Zw:T->T->Bool
 | .agg b,.agg c=>Jp b c|x,y=>Jo x y
def Jm:List (Nat×T×T)->Nat->T->Bool
 |[],_,_ =>false|(_,b,_)::_,0,k=>Zw b k|_ ::r,i+1,k=>Jm r i k
def hD(H:Hp)(l:Nat)(o:Ob)(c:Nat)(e:gS):Hp:=H.put l {o with me:=some (.map c e)}
def GQ(P:gD)(H:Hp)(t:gB)(m k:T):Option (Nat×Ob×Nat×List (Nat×T×T)×TypeId×Option (Nat×Nat×T)):=
 match P.underlying t with
 |some (.map b d)=>match m with
  | .mp l=>match H.any l with
   |some o=>match o.me with
    | some (.map c e)=>if OG P b k then match zM P b k e 0 with
      |some r=>some (l,o,c,e,d,r)|none=>none
     else none
    |_ =>none
   |none=>none
  |_ =>none
 |_ =>none
def Aq(P:gD)(H:Hp)(t:gB)(m k x:T):Option Hp:=
 match GQ P H t m k with
 |some (l,o,c,e,_,some (i,_,_))=>if Jm e i k then some (hD H l o c (Ju k x e i))else none
 |some (l,o,c,e,_,none)=>some (hD H l o (c+1) (e++[(c,k,x)]))|none=>none
def HO(P:gD)(H:Hp)(t:gB)(m k:T):Option (T×Hp):=
 match GQ P H t m k with
 |some (l,o,c,e,_,some (i,b,v))=>if Jm e i k then some (.fm [v,.int .i64 b],hD H l o c (Ju k v e i))else none
 |some (l,o,c,e,d,none)=>match wM P d with
  |some z=>some (.fm [z,.int .i64 c],hD H l o (c+1) (e++[(c,k,z)]))|none=>none
 |none=>none
def Xy(b:Int):List (Nat×T×T)->Nat->Option (Nat×T)
 |[],_ =>none|(c,k,_)::r,i=>if(c:Int)==b then some (i,k)else Xy b r (i+1)
def vH(H:Hp)(m s x:T):Option Hp:=
 match m,s with
 | .mp l,.int _ b=>match H.any l with
  |some o=>match o.me with
   |some (.map c e)=>match Xy b e 0 with
    |some (i,k)=>some (hD H l o c (Ju k x e i))|none=>none
   |_ =>none
  |none=>none
 |_,_ =>none
def Mf(P:gD)(H:Hp)(t:gB)(m k:T):Option Hp:=
 match GQ P H t m k with
 |some (l,o,c,e,_,some (i,_,_))=>some (hD H l o c (e.eraseIdx i))|some (l,o,c,e,_,none)=>some (hD H l o c e)|none=>none
def Hh(P:gD)(t:gB):Option T->Bool
 |none=>true
 |some (.int ..)=>match P.underlying t with
  |some (.map ..)=>true|_ =>false
 |some _ =>false
def T.i1:T->Bool
 | .int .. | .bool _ | .str _ | .fS| .fp| .gg| .gb| .fw| .ac .. =>true|_ =>false
def T.i2:T->Bool
 | .agg c=>c.all T.i1|t=>t.i1
def je:T->T
 | .sl f x=>if x.all T.i2 then .ac f x.length (λi=>x.getD i oS)else .sl f x
 |t=>t
def xW(P:gD)(E:uW)(F:Fc)(H:Hp)(i:gC)(o:Oper):Option (T×Hp):=
 let ev:=pQ E.gl i
 match o.op with
 | .alloc t=>match wM P t with
  |some z=>some (.ptr H.next 0,H.new {elem:=t,sz:=0,cells:=z.cells})|none=>none
 | .box t x=>match ev x with
  |some y=>some (.ptr H.next 0,H.new {elem:=t,sz:=0,cells:=y.cells})|none=>none
 | .buildSlice t len parts=>match g9 E.gl i parts.toList with
  |some l=>match P.underlying t,sM P t len l with
   |some (.slice e),some (.sl f w)=>if GB F.own o.dst then some (je (.sl f w),H)else match uI P e with
    |some s=>some (.ge H.next s 0 len,H.new {elem:=e,sz:=s,cells:=w.flatMap T.cells})|none=>none
   |_,_ =>none
  |none=>none
 | .store t p x=>match ev p,ev x with
  |some q,some y=>match vZ P H t q y with
   |some d=>some (oS,d)|none=>none
  |_,_ =>none
 | .makeSlice t l c=>match ev l,ev c with
  |some n,some m=>sX P H t n m|_,_ =>none
 | .makeMap t r=>match OP ev r with
  |some h=>if Hh P t h then some (.mp H.next,H.new {elem:=t,sz:=0,cells:=[],me:=some (.map 0 [])})else none
  |none=>none
 | .mapUpdate t m k x| .insert t m k x=>match ev m,ev k,ev x with
  |some a,some b,some v=>match Aq P H t a b v with
   |some d=>some (oS,d)|none=>none
  |_,_,_ =>none
 | .mapEntry t m k=>match ev m,ev k with
  |some a,some b=>HO P H t a b|_,_ =>none
 | .entryStore _ m s x=>match ev m,ev s,ev x with
  |some a,some b,some v=>match vH H a b v with
   |some d=>some (oS,d)|none=>none
  |_,_,_ =>none
 | .call c=>match c.callee with
  | .value f=>match ev f with
   |some (.fn (.func g) first u)=>match vN E.gl i c.args.toList with
    |some j=>F.ee g (first++j++u) H
    |none=>none
   |_ =>none
  | .builtin .delete=>match c.args.toList,c.argTypes.toList with
   |[m,k],t::_ =>match ev m,ev k with
    |some a,some b=>match Mf P H t a b with
     |some d=>some (oS,d)|none=>none
    |_,_ =>none
   |_,_ =>none
  | .builtin .append=>match c.args.toList,c.argTypes.toList with
   |[s,x],[t,B]=>match ev s,ev x with
    |some a,some b=>TG P (GB F.own o.dst) H t B a b|_,_ =>none
   |_,_ =>none
  |_ =>none
 |_ =>none
def zE:Operand->Tmp->Bool
 | .tmp y,d=>y !=d|_,_ =>true
def wA(F:Fc)(o:Oper):Option (Tmp×TypeId):=
 match o.op with
 | .alloc t=>match o.dst with
  |some d=>if F.own d then none else some (d,t)
  |none=>none
 |_ =>none
def vP(P:gD)(E:uW)(F:Fc)(b:gF)(s:Fx)(o:Oper):Option Fx:=
 if pX b s.fr o then
  match pS P E (CH F o) s.H s.fr o with
  |some v=>some {s with fr:=pW s.fr o.dst v}
  |none=>
   match wA F o with
   |some (d,t)=>if s.fq.isSome then none else match uI P t,wM P t with
    |some n,some z=>if z.cells.length=n/\d<s.fr.length then some {s with fr:=s.fr.set d oS,fq:=some (d,t)}else none
    |_,_ =>none
   |none=>match xW P E F s.H s.fr o with
    |some (v,c)=>some {s with fr:=pW s.fr o.dst v,H:=c}
    |none=>none
 else some {s with fr:=pW s.fr o.dst oS}
def YJ(F:Fc)(s:Fx)(d:Tmp)(t:gB)(y:T):Fx:=
 if F.own (d+1000)then{fr:=s.fr.set d (.ptr s.H.next 0),H:=s.H.new {elem:=t,sz:=0,cells:=y.cells},fq:=none}else{s with fr:=s.fr.set d (.ref y 0),fq:=none}
def wL(P:gD)(E:uW)(F:Fc)(b:gF)(s:Fx)(o:Oper):Option Fx:=
 match s.fq with
 |none=>vP P E F b s o
 |some (d,t)=>
  match o.op,o.dst,o.guard with
  | .store e (.tmp c) x,none,none=>
   if c=d then
    if e=t/\zE x d=true then
     match pQ E.gl s.fr x,uI P t with
     |some y,some n=>if y.cells.length=n/\qO y.cells=true then some (YJ F s d t y)else none
     |_,_ =>none
    else none
   else if rQ b o d then none else vP P E F b s o
  |_,_,_ =>if rQ b o d then none else vP P E F b s o
def pU(P:gD)(E:uW)(F:Fc)(c:gF):List Oper->Fx->Option Fx
 |[],s=>some s
 |o::b,s=>match wL P E F c s o with
  |some d=>pU P E F c b d|none=>none
def xZ(acc:gU)(o:Oper):Nat:=o.after.toList.foldl (λs e=>if Region.binds .any e then s|||(2^e.on|||acc.getD e.on 0)else s) 0
def tU:List Oper->List Nat->List Nat
 |[],b=>b|o::c,b=>tU c (b++[xZ b o])
def uU(A:gU)(i j:Nat):Bool:=(A.getD i 0).testBit j
def yZ(b:gF)(o:Oper):List Tmp:=o.dst.toList++o.looksAt b
def Vv(o:gF)(A:gU):Bool:=
 o.toList.zipIdx.all λp=>o.toList.zipIdx.all λq=>
  p.2==q.2||(match q.1.dst with
   |some d=> !(yZ o p.1).contains d||(if q.2<p.2 then uU A p.2 q.2 else uU A q.2 p.2)
   |none=>true)
def DW(o:gF):Bool:=o.toList.zipIdx.all λp=>p.1.after.toList.all λe=> !Region.binds .any e||decide (e.on<p.2)
def zQ(o:gF):Bool:=DW o&&Region.noSelect o&&Vv o (tU o.toList [])
def rG(A:gU)(m n:Nat):Bool:=(List.range' m (n-m)).all λi=>(List.range i).all λj=>uU A i j
def KA(b:gF)(s:Fx)(o:Oper):Bool:=
 match s.fq with
 |some (d,_)=>rQ b o d|none=>false
def yR(s:Fx)(o:Oper):Bool:=
 match o.dst with
 |some d=>decide (d<s.fr.length)|none=>true
def qI(P:gD)(E:uW)(F:Fc)(b:gF):List Oper->Nat->Fx->Option Fx
 |[],_,s=>match s.fq with
  |none=>some s|some _ =>none
 |o::c,m,s=>
  if KA b s o then
   if rG (tU b.toList []) m b.size then pU P E F b (o::c) s else none
  else if yR s o=false then none
  else if pX b s.fr o then
   match pS P E (CH F o) s.H s.fr o with
   |some v=>qI P E F b c (m+1) {s with fr:=pW s.fr o.dst v}
   |none=>match wA F o with
    |some (d,t)=>if s.fq.isSome then none else match uI P t,wM P t with
     |some n,some z=>if z.cells.length=n then qI P E F b c (m+1) {s with fr:=s.fr.set d oS,fq:=some (d,t)}else none
     |_,_ =>none
    |none=>if rG (tU b.toList []) m b.size then pU P E F b (o::c) s else none
  else qI P E F b c (m+1) {s with fr:=pW s.fr o.dst oS}
def OD(o:Oper):Bool:=
 match o.op,o.dst,o.guard with
 | .store ..,none,none=>true|_,_,_ =>false
def uM:List Oper->Nat->Option Nat
 |[],_ =>none|o::r,k=>if OD o then some k else uM r (k+1)
def aZc(o:gF):Bool:=
 match uM o.toList 0 with
 |some p=> !(rG (tU o.toList []) p o.size)|none=>false
def aPm(b:gF)(t:Tmp):Bool:=b.toList.any λo=>o.dst==some t
def aKx(b:gF):Nat->Tmp->Option Tmp
 |0,_ =>none
 | k+1,x=>if aPm b x then match b.toList.find? λo=>o.dst==some x with
   |some o=>match o.op with
    | .fieldAddr _ (.tmp y) _ | .indexAddr _ (.tmp y) _ | .move (.tmp y)=>aKx b k y|_ =>none
   |none=>none
  else some x
def KG(o:gF):Option Tmp:=
 match uM o.toList 0 with
 |some p=>match o[p]? with
  |some q=>match q.op with
   | .store _ (.tmp x) _ =>aKx o 5 x|_ =>none
  |none=>none
 |none=>none
def bGp:T->Option Nat
 | .ptr l _ | .ge l _ _ _ =>some l|_ =>none
def lS(gl:gG)(l:Nat)(f:gC)(o:Oper):Bool:=
 match o.op with
 | .load _ a=>match pQ gl f a with
  |some (.ref ..)=>true|some (.ptr b _)=>b !=l|_ =>false
 | .convert _ _ x=>match pQ gl f x with
  |some (.ge ..)=>false|_ =>true
 | .call c=>match c.callee with
  | .builtin .len=>c.args.toList.all λx=>match pQ gl f x with
   |some (.mp _)=>false|_ =>true
  | .builtin _ =>true|_ =>false
 | .lookup .. =>false|_ =>true
def sW(P:gD)(E:uW)(F:Fc)(c:gF)(A:gU)(p l:Nat):List Oper->Nat->Bool->Fx->Option Fx
 |[],_,d,s=>if d then some s else none
 |o::b,m,d,s=>
  if(d&&rG A m c.size)=true then pU P E F c (o::b) s
  else if yR s o=false then none
  else if OD o then(if d then none else match o.op with
   | .store t x y=>match pQ E.gl s.fr x,pQ E.gl s.fr y with
    | some (.ptr f e),some v=>if f=l then match vZ P s.H t (.ptr f e) v with
      |some h=>sW P E F c A p l b (m+1) true {s with H:=h}
      |none=>none
     else none
    |_,_ =>none
   |_ =>none)
  else if pX c s.fr o then
   if(if d then uU A m p else uU A p m)||lS E.gl l s.fr o then match pS P E (CH F o) s.H s.fr o with
    |some v=>sW P E F c A p l b (m+1) d {s with fr:=pW s.fr o.dst v}
    |none=>none
   else none
  else sW P E F c A p l b (m+1) d {s with fr:=pW s.fr o.dst oS}
def rR(P:gD)(E:uW)(F:Fc)(o:gF)(f:gC)(H:Hp):Option Fx:=
 if aZc o then match KG o,uM o.toList 0 with
  |some b,some p=>match bGp (rW f b)with
   |some l=>sW P E F o (tU o.toList []) p l o.toList 0 false ⟨f,H,none⟩|none=>none
  |_,_ =>none
 else qI P E F o o.toList 0 ⟨f,H,none⟩
inductive X where
 |normal
 |exit (id:Nat)
 |ret
def oW(P:gD)(E:uW)(F:Fc)(n:Nat):Code->List T->Hp->Option (X×List T×Hp)
 | .skip,fr,H| .label _,fr,H=>some (.normal,fr,H)
 | .region _ ops draw,fr,H=>
  match(if draw then rR P E F ops fr H else pU P E F ops ops.toList ⟨fr,H,none⟩)with
  |some ⟨fr',H',none⟩=>some (.normal,fr',H')|_ =>none
 | .seq a b,fr,H=>match oW P E F n a fr H with
  |some (.normal,fr',H')=>oW P E F n b fr' H'|r=>r
 | .cond c a b,fr,H=>match pQ E.gl fr c with
  |some (.bool t)=>if t then oW P E F n a fr H else oW P E F n b fr H
  |_ =>none
 | .block id c,fr,H=>match oW P E F n c fr H with
  |some (.exit id',fr',H')=>if id'=id then some (.normal,fr',H')else some (.exit id',fr',H')
  |r=>r
 | .loop c,fr,H=>gx (λfr H=>oW P E F n c fr H) n fr H| .scope c,fr,H=>oW P E F n c fr H| .exit id,fr,H=>some (.exit id,fr,H)| .ret,fr,H=>some (.ret,fr,H)|_,_,_ =>none
 where
 gx (f:List T->Hp->Option (X×List T×Hp)):Nat->List T->Hp->Option (X×List T×Hp)
  |0,_,_ =>none
  |k+1,fr,H=>match f fr H with
   |some (.normal,fr',H')=>gx f k fr' H'|r=>r
def Pn(P:gD)(f:gC)(H:Hp):ResultVar->Option T
 | .tmp t=>some (rW f t)| .cell a t=>wI P H t (rW f a)
def rJ(P:gD)(f:gC)(H:Hp):List ResultVar->Option (List T)
 |[]=>some []
 |r::c=>match Pn P f H r with
  |some t=>match rJ P f H c with
   |some b=>some (t::b)|none=>none
  |none=>none
def Gw(P:gD)(E:uW)(F:Fc)(n:Nat)(f:gX)(b:gC)(H:Hp):Option (T×Hp):=
 match P.funcs[f]? with
 |some e=>match e.body with
  |some c=>match oW P E F n c (b++List.replicate (e.ntmps-b.length) oS) H with
   |some (.normal,h,d)|some (.ret,h,d)=>match rJ P h d e.results.toList with
    |some [t]=>some (t,d)|some i=>some (.fm i,d)|none=>none
   |_ =>none
  |none=>none
 |none=>none
def codeOk:Code->Bool
 | .region _ o true=>zQ o| .seq a b| .cond _ a b=>codeOk a&&codeOk b| .block _ c| .loop c| .scope c=>codeOk c|_ =>true
def aYh(P:gD)(f:gX):Bool:=
 match P.funcs[f]? with
 |some b=>match b.body with
  |some c=>codeOk c|none=>false
 |none=>false
structure pP(H:Hp)(g:G)(H':Hp)(g':G):Prop where
 os:g'.w.os=g.w.os
 tape:g'.w.tape=g.w.tape
 output:g'.w.output=g.w.output
 size:g.w.heap.size<=g'.w.heap.size
 block:∀b,b<g.w.heap.size->(∀l o,H.any l=some o->g.loc l≠b)->g'.w.heap[b]? =g.w.heap[b]?
 sub:∀b,g.S b->g'.S b
 fresh:∀b,g'.S b->g.S b\/g.w.heap.size<=b\/∃l o,H.any l=some o/\g.loc l=b
 al:∀l,g.al l->g'.al l
 loc:∀l,g.al l->g'.loc l=g.loc l
 cp:∀l,g.al l->g'.cp l=g.cp l
 live:∀l o,H'.any l=some o->(∃l0 o0,H.any l0=some o0/\g.loc l0=g'.loc l)\/g.w.heap.size<=g'.loc l
theorem fx.bi{g d:G}{H:Hp}(h:fx g d):pP H g H d:=
 ⟨h.os,h.tape,h.output,h.size,λb c _ =>h.block b c,h.sub,λb c=>(h.fresh b c).imp id .inl,λl e=>h.al▸e,λl _ =>by rw[h.loc],λl _ =>by rw[h.cp],λl o f=> .inl ⟨l,o,f,by rw[h.loc]⟩⟩
theorem pP.refl(H:Hp)(g:G):pP H g H g:=(fx.refl g).bi
theorem St.lt{g:G}{H:Hp}(b:St g H){l:Nat}{o:Ob}(h:H.any l=some o):g.loc l<g.w.heap.size:=(b.at_ h).2.2
theorem pP.trans{H y p:Hp}{a b c:G}(h:pP H a y b)(k:pP y b p c):pP H a p c:=by
 have q:∀i,i<a.w.heap.size->(∀l o,H.any l=some o->a.loc l≠i)->∀l o,y.any l=some o->b.loc l≠i:=by
  intro i hi x l o n e;rcases h.live l o n with⟨u,j,m,f⟩|hge
  exact x u j m (f.trans e);omega
 refine⟨k.os.trans h.os,k.tape.trans h.tape,k.output.trans h.output,dK h.size k.size,λi hi x=> ?_,λi hi=>k.sub i (h.sub i hi),λi hi=> ?_,
  λl d=>k.al l (h.al l d),λl d=>(k.loc l (h.al l d)).trans (h.loc l d),λl d=>(k.cp l (h.al l d)).trans (h.cp l d),λl o n=> ?_⟩
 rw[k.block i (cX hi h.size) (q i hi x),h.block i hi x];rcases k.fresh i hi with hi|hi|⟨l,o,n,e⟩;exact h.fresh i hi;exact .inr (.inl (dK h.size hi));rcases h.live l o n with⟨u,j,m,f⟩|hge
 exact .inr (.inr ⟨u,j,m,f.trans e⟩);exact .inr (.inl (by omega));rcases k.live l o n with⟨u,j,m,f⟩|hge
 rcases h.live u j m with⟨C,D,z,B⟩|hge
 exact .inl ⟨C,D,z,B.trans f⟩;exact .inr (by omega);exact .inr (dK h.size hge)
theorem pP.cell{H f:Hp}{g c:G}(k:St g H)(h:pP H g f c){b o:Nat}{v:gZ}(j:g.S b)(d:g.w.cell? ⟨b,o,none⟩=some v):c.w.cell? ⟨b,o,none⟩=some v:=
 (World.cell?_of_block (w:=g.w) (a:=⟨b,o,none⟩) (h.block b (FX d) (λl m i e=>(k.at_ i).2.1 (e▸j)))).trans d
theorem Rd.af{H H':Hp}{g V:G}(Q:St g H)(h:pP H g H' V){v:gZ}{t:T}(hr:Rd g v t):Rd V v t:=by
 induction hr with
 |int k n=>exact .int k n|bool b=>exact .bool b|str s=>exact .str s|fS=>exact .fS|ptr l C e=>rw[<-h.loc l e];exact .ptr l C (h.al l e)|ref x C b o w B c J _ y=>exact .ref x C b o w (h.sub b B) c (λj v K=>h.cell Q B (J j v K)) y|fp=>exact .fp|ai d f p=>exact .ai d f p
 |sl d W L b o z w B M u D I c J _ y=>
  refine .sl d W L b o z w (λU=>h.sub b (B U)) M u D I c (λj v K=> ?_) y;have U:W≠[]:=by
   rintro rfl;simp at c;subst c;simp at K
  exact h.cell Q (B U) (J j v K)
 |ac d n f L b o z w u D I N Y h6 h7 h8=>exact Rd.ay h.sub (λ_ _ _ B J=>h.cell Q B J) u D I N Y h6 h7 h8|ge l L i len b o z e u D I N=>exact .ge l L i len b o z (h.al l e) u (h.cp l e▸D) (λq=>h.loc l e▸I q) (λq=>h.cp l e▸N q)|gg=>exact .gg|fn f first m w Z u _ D _ O R=>exact .fn f first m w Z u O D R
 |gb=>exact .gb|iface t v x _ y=>exact .iface t v x y|fw=>exact .fw|mp l e=>rw[<-h.loc l e];exact .mp l (h.al l e)|yl l e=>rw[<-h.loc l e];exact .yl l (h.al l e)|agg S w u _ y=>exact .agg S w u y|fm S w u _ y=>exact .fm S w u y
theorem fv.af{H i:Hp}{g b:G}(m:St g H)(h:pP H g i b){e:gV}{d:gC}(f:fv g e d):fv b e d:=⟨f.1,λj v c k n=>(f.2 j v c k n).af m h⟩
theorem gn.af{gl:gG}{H w:Hp}{g f:G}(d:St g H)(h:pP H g w f)(n:gn gl g):gn gl f:=λk t j=>by
 obtain⟨m,c,i,e,u,b,p⟩:=n k t j;refine⟨m.af d h,h.sub k c,i,e,u,?_,p⟩;rw[h.block k (aX.1 b).1 (λl o q e=>(d.at_ q).2.1 (e▸c))];exact b
def G.own(g:G)(l:Nat)(o:Obj)(c:Nat):G:=
 {w:={g.w with heap:=g.w.heap.push o},S:=g.S,al:=λm=>g.al m\/m=l,loc:=λm=>if m=l then g.w.heap.size else g.loc m,cp:=λm=>if m=l then c else g.cp m}
theorem wY{g:G}{H:Hp}(m:St g H)(j:Obj)(c:Nat)(o:Ob):pP H g (H.new o) (g.own H.next j c):=by
 have n:=m.new H.next (bB _);have f:∀l,g.al l->l≠H.next:=λl d e=>n (e▸d)
 refine⟨rfl,rfl,rfl,by simp[G.own],λb p _ =>by simp only[G.own];rw[fN,aH (by omega)],λ_ h=>h,λb h=> .inl h,λl d=> .inl d,
  λl d=>by simp[G.own,f l d],λl d=>by simp[G.own,f l d],λl k i=> ?_⟩
 rw[rN]at i;split at i;rename_i e;subst e;right;simp[G.own];rename_i e;left;exact⟨l,k,i,by simp[G.own,Ne.symm e]⟩
theorem DF{g:G}(h:sJ g)(l:Nat)(o:Obj)(c:Nat):sJ (g.own l o c):=by
 intro b d;have:=h b d;simp only[G.own,Array.size_push];omega
theorem JX{g:G}{H:Hp}(j:St g H)(hg:sJ g){i:Obj}{c:Nat}{o:Ob}
  (L:g.w.heap.size=g.w.heap.size->(∀v t,Rd g v t->Rd (g.own H.next i c) v t)->(o.me=none->∃C:Array Value,i= .cells C o.elem (0,0)/\o.cells.length<=C.size/\(o.sz=0->C.size=o.cells.length)/\(o.sz≠0->C.size=c*o.sz/\c<=maxLen)/\fv (g.own H.next i c) (C.toList.take o.cells.length) o.cells)/\
   (∀m,o.me=some m->lP (g.own H.next i c) m i)):St (g.own H.next i c) (H.new o):=by
 have f:=wY j i c o;have hn:=j.new H.next (bB _);obtain⟨hc,Y⟩:=L rfl (λv t h=>h.af j f);have d:(g.own H.next i c).loc H.next=g.w.heap.size:=by simp[G.own]
 have y:(g.own H.next i c).w.heap[g.w.heap.size]? =some i:=by simp only[G.own];exact Array.getElem?_push_size
 have I:¬(g.own H.next i c).S g.w.heap.size:=λD=>by
  have:=hg _ D;omega
 have b:∀l z,H.any l=some z->(g.own H.next i c).loc l=g.loc l/\(g.own H.next i c).w.heap[g.loc l]? =g.w.heap[g.loc l]? :=λl z x=>by
  obtain⟨u,p,W⟩:=j.at_ x;exact⟨f.loc l u,by simp only[G.own];rw[fN,aH (by omega)]⟩
 refine⟨λl z x=> ?_,λl z m x J=> ?_,λl R O U u p e=> ?_,λl M=> ?_⟩;obtain⟨n,K⟩:=pD x;rw[rN]at n;split at n;rename_i e;subst e;cases n;obtain⟨C,k,u,p,W,Z⟩:=hc K;refine⟨.inr rfl,by rw[d];exact I,C,by rw[d,y,k],u,p,?_,Z⟩;simpa [G.own]using W;rename_i e;obtain⟨ha,D,Q,N,V,q2,q3,q4⟩:=j.own l z (yA n K);obtain⟨k,B⟩:=b l z n;refine⟨.inl ha,by rw[k];exact D,Q,by rw[k,B];exact N,V,q2,?_,q4.af j f⟩;rw[f.cp l ha];exact q3;rw[rN]at x;split at x;rename_i e;subst e;cases x;exact⟨.inr rfl,by rw[d];exact I,i,by rw[d,y],Y m J⟩;rename_i e;obtain⟨ha,D,ms,N,V⟩:=j.ap l z m x J;obtain⟨k,B⟩:=b l z x;exact⟨.inl ha,by rw[k];exact D,ms,by rw[k,B];exact N,V.mono (λ_ _ q=>q.af j f) (λl M=>⟨f.al l M,f.loc l M⟩)⟩;rw[rN]at u p;split at u;rename_i k;split at p;rename_i B;rw[<-k,<-B];rename_i B;rw[<-k,d,(b R U p).1]at e;have:=j.lt p;omega;rename_i k;split at p;rename_i B;rw[<-B,d,(b l O u).1]at e;have:=j.lt u;omega;rw[(b l O u).1,(b R U p).1]at e;exact j.sep l R O U u p e;simp only[Hp.new]at M;simp only[G.own];rintro(ha|ha);exact j.new l (by omega) ha;omega
theorem YI{g:G}{H:Hp}(u:St g H)(k:sJ g){b:hP}{c:Nat}{o:Ob}(n:o.cells.length<=b.size)(i:o.sz=0->b.size=o.cells.length)
  (f:o.sz≠0->b.size=c*o.sz/\c<=maxLen) (h:fv g (b.toList.take o.cells.length) o.cells) (p:o.me=none:=by rfl):St (g.own H.next (.cells b o.elem) c) (H.new o):=
 JX u k λ_ keep=>⟨λ_ =>⟨b,rfl,n,i,f,⟨h.1,λj v t q d=>keep v t (h.2 j v t q d)⟩⟩,λm e=>by rw[p]at e;cases e⟩
theorem aSk{g:G}{H:Hp}(b:St g H)(h:sJ g)(t:gB):St (g.own H.next (.map #[] 0) 0) (H.new {elem:=t,sz:=0,cells:=[],me:=some (.map 0 [])}):=
 JX b h λ_ _ =>⟨λe=>(by cases e),λm e=>(by cases e;exact⟨#[],rfl,rfl,fv.nil,fv.nil⟩)⟩
theorem YH{g:G}(l:Nat)(o:Obj)(c:Nat):Rd (g.own l o c) (.pointer (some ⟨g.w.heap.size,0,none⟩)) (.ptr l 0):=by
 have h:=Rd.ptr (g:=g.own l o c) l 0 (.inr rfl);simpa [G.own]using h
def G.setRow(g:G)(b:Nat)(c:hP):G:={g with w:=g.w.setRow b c}
theorem OZ{g:G}{H:Hp}{l:Nat}{o:Ob}(d:H.any l=some o)(f:hP)(i:Ob):pP H g (H.put l i) (g.setRow (g.loc l) f):=by
 refine⟨rfl,rfl,rfl,by simp[G.setRow,World.setRow],λb _ j=>setRow_other _ _ _ _ (λe=>j l o d e.symm),λ_ h=>h,λb h=> .inl h,λ_ h=>h,λ_ _ =>rfl,λ_ _ =>rfl,λm q c=> ?_⟩;rw[qP]at c;left;split at c;rename_i e;subst e;exact⟨m,o,d,rfl⟩;exact⟨m,q,c,rfl⟩
theorem jj{g:G}{H:Hp}(c:St g H){l:Nat}{o:Ob}(S:H.get l=some o){i D:hP}(d:g.w.heap[g.loc l]? =some (.cells D o.elem (0,0)))(u:i.size=D.size){cells:gC}(I:cells.length=o.cells.length)
  (Y:fv g (i.toList.take cells.length) cells):St (g.setRow (g.loc l) i) (H.put l {o with cells:=cells}):=by
 obtain⟨k,C⟩:=pD S;have b:=OZ (g:=g) k i {o with cells:=cells};have f:∀m q,m≠l->H.any m=some q->(g.w.setRow (g.loc l) i).heap[g.loc m]? =g.w.heap[g.loc m]? :=λm q K h=>
  setRow_other _ _ _ _ (λe'=>K (c.sep m l q o h k e'))
 refine⟨λm q h=> ?_,λm q Z h j=> ?_,λm U q q' h1 h2 e=> ?_,λm W=>c.new m W⟩;rw[gw H l {o with cells:=cells} m C]at h;split at h;rename_i e;subst e;cases h;obtain⟨x,y,R,n,p,N,J,Q⟩:=c.own m o S;rw[d]at n;cases n;refine⟨x,y,i,setRow_heap _ _ _ _ _ _ d,by simp only;omega,λz=>by simp only at z⊢;rw[u,I];exact N z,λz=>by rw[u];exact J z,Y.af c b⟩;rename_i e;obtain⟨x,y,R,n,p,N,J,Q⟩:=c.own m q h;refine⟨x,y,R,?_,p,N,J,Q.af c b⟩;show(g.w.setRow (g.loc l) i).heap[g.loc m]? =_;rw[f m q e (pD h).1];exact n;rw[qP]at h;split at h;cases h;rw[C]at j;cases j;rename_i e;obtain⟨x,y,ms,n,p⟩:=c.ap m q Z h j;refine⟨x,y,ms,?_,p.mono (λ_ _ z=>z.af c b) (λl V=>⟨b.al l V,b.loc l V⟩)⟩;show(g.w.setRow (g.loc l) i).heap[g.loc m]? =_;rw[f m q e h];exact n;have B:∀m q,(H.put l {o with cells:=cells}).any m=some q->∃O,H.any m=some O:=λm q h=>by
  rw[qP]at h;split at h;rename_i e;subst e;exact⟨o,k⟩;exact⟨q,h⟩
 obtain⟨O,L⟩:=B m q h1;obtain⟨p,M⟩:=B U q' h2;exact c.sep m U O p L M e
def G.ah(g:G)(b:Nat)(o:Obj):G:={g with w:={g.w with heap:=g.w.heap.setIfInBounds b o}}
abbrev G.ao(g:G)(b:Nat)(m:jO)(c:Nat):G:=g.ah b (.map m c)
theorem yE{g:G}{H:Hp}{l:Nat}{o:Ob}(d:H.any l=some o)(f:Obj)(i:Ob):pP H g (H.put l i) (g.ah (g.loc l) f):=by
 refine⟨rfl,rfl,rfl,by simp[G.ah],λb _ j=> ?_,λ_ h=>h,λb h=> .inl h,λ_ h=>h,λ_ _ =>rfl,λ_ _ =>rfl,λm q c=> ?_⟩;simp only[G.ah];rw[bT (j l o d)];rw[qP]at c;left;split at c;rename_i e;subst e;exact⟨m,o,d,rfl⟩;exact⟨m,q,c,rfl⟩
theorem JD{g:G}{H:Hp}(d:St g H){l:Nat}{o:Ob}(B:H.any l=some o){f:Obj}{m':Mo}{I:Ob}(x:I.me=some m')(Z:lP g m' f):
  St (g.ah (g.loc l) f) (H.put l I):=by
 have h:=yE (g:=g) B f I;have K:=d.lt B;have i:∀m q,m≠l->H.any m=some q->(g.ah (g.loc l) f).w.heap[g.loc m]? =g.w.heap[g.loc m]? :=λm q J b=>by
  simp only[G.ah];rw[bT (λW=>J (d.sep m l q o b B W.symm))]
 have n:(g.ah (g.loc l) f).w.heap[g.loc l]? =some f:=by
  simp only[G.ah];rw[dH,aJ K]
 refine⟨λm q b=> ?_,λm q U b k=> ?_,λm m' q Y h1 h2 e=> ?_,λm S=>d.new m S⟩;obtain⟨c,j⟩:=pD b;rw[qP]at c;split at c;cases c;rw[x]at j;cases j;rename_i e;obtain⟨p,u,c0,L,C,q2,V,R⟩:=d.own m q (yA c j);exact⟨p,u,c0,by rw[show(g.ah (g.loc l) f).loc m=g.loc m from rfl,i m q e c];exact L,C,q2,V,R.af d h⟩;rw[qP]at b;split at b;rename_i e;subst e;cases b;rw[x]at k;cases k;obtain⟨p,u,_⟩:=d.at_ B;exact⟨p,u,f,n,Z.mono (λ_ _ z=>z.af d h) (λl D=>⟨h.al l D,h.loc l D⟩)⟩;rename_i e;obtain⟨p,u,N,L,C⟩:=d.ap m q U b k;exact⟨p,u,N,by rw[show(g.ah (g.loc l) f).loc m=g.loc m from rfl,i m q e b];exact L,C.mono (λ_ _ z=>z.af d h) (λl D=>⟨h.al l D,h.loc l D⟩)⟩;have y:∀m q,(H.put l I).any m=some q->∃Q,H.any m=some Q:=λm q b=>by
  rw[qP]at b;split at b;rename_i e;subst e;exact⟨o,B⟩;exact⟨q,b⟩
 obtain⟨Q,M⟩:=y m q h1;obtain⟨C,O⟩:=y m' Y h2;exact d.sep m m' Q C M O e
theorem xA{g:G}{H:Hp}{l:Nat}{o:Ob}(h:H.any l=some o)(m:jO)(c:Nat)(b:Ob):pP H g (H.put l b) (g.ao (g.loc l) m c):=yE h _ _
theorem AA{g:G}{H:Hp}(h:St g H){l:Nat}{o:Ob}(d:H.any l=some o){m:jO}{c:Nat}{e:gS}(b:sK g m.toList e):
  St (g.ao (g.loc l) m c) (hD H l o c e):=JD h d (m':= .map c e) rfl ⟨m,rfl,b⟩
theorem SC:∀{b:gC},qO b=true->∀t∈b,t.one=true
 |[],_,t,h=>by cases h
 |x::c,h,t,ht=>by
  simp only[qO,aA]at h;rcases aY.1 ht with rfl|ht
  exact h.1;exact SC h.2 t ht
theorem RI{g:G}{f:gV}{c:gC}(h:fv g f c)(m:qO c=true):∀v∈f,v.oneCell'=true:=by
 intro v k;obtain⟨j,i,e⟩:=bX k;have d:f[j]? =some v:=by rw[aB i,e]
 have b:c[j]? =some (c[j]'(by rw[<-h.1];exact i)):=aB _;exact(h.2 j v _ d b).dj (SC m _ (bK b))
theorem aLy{P:gD}{g:G}{H y:Hp}(J:St g H){t:gB}{p x:T}(h:vZ P H t p x=some y){u v:gZ}(R:Rd g u p)(M:Rd g v x):
  ∃m,(Instr.storeAt t u v).run P g.w= .ok () m.w/\pP H g y m/\St m y/\(sJ g->sJ m):=by
 unfold vZ at h;split at h;rename_i l c;split at h;rename_i o n C L;split at h;rename_i S;cases h;obtain⟨K,Y,O⟩:=S;simp only[uI,aG]at L;obtain⟨i,N,rfl⟩:=L;cases R;obtain⟨U,W,e,k,q1,Z,V,I⟩:=J.own l o C;have j:=M.cells;have d:v.cells.toList.length=i.size:=by rw[j.1,K]
 have q:v.cells.size=i.size:=by simpa using d
 have B:=run_storeCells_at (P:=P) (g.loc l) c o.elem v.cells.toList 0 e g.w k (by simp only[cW]at d⊢;omega) (RI j O);refine⟨g.setRow (g.loc l) (e.toList.take (c+0)++v.cells.toList++e.toList.drop (c+0+v.cells.toList.length)).toArray,?_,OZ (pD C).1 _ _,?_,λQ b k=>by simpa [G.setRow,World.setRow]using Q b k⟩;simp[Instr.storeAt,Instr.sureAddr,storeVar,sizeOf,typeInfo,N,q,B,G.setRow];have f:(sC o.cells c x.cells).length=o.cells.length:=by simp[sC];omega
 refine jj J C k (by simp;omega) f ?_;rw[f];have D:(e.toList.take (c+0)++v.cells.toList++e.toList.drop (c+0+v.cells.toList.length)).take o.cells.length
   =(e.toList.take o.cells.length).take c++v.cells.toList++(e.toList.take o.cells.length).drop (c+x.cells.length):=by
  rw[fW,List.take_append,List.take_append];have z:(e.toList.take c).length=c:=by simp;omega
  rw[dC (l:=e.toList.take c) (by rw[z];omega),dC (l:=v.cells.toList) (by rw[z,d];omega)];rw[List.take_take,show min c o.cells.length=c by omega];congr 1;rw[List.drop_take,aU,z,d,K]
 show fv g (List.take o.cells.length (e.toList.take (c+0)++v.cells.toList++e.toList.drop (c+0+v.cells.toList.length)).toArray.toList) _;rw[List.toList_toArray,D];unfold sC;exact((I.take c).append j).append (I.drop _);cases h;cases h;cases h
section
variable{P:gD}{g:G}
theorem Ef{x y:T}(h:Jo x y=true){u v:gZ}(d:Rd g u x)(c:Rd g v y)(n:Nat):Instr.sameBits n u v=true:=by
 unfold Jo at h;split at h;simp only[aA,aF,bN]at h;obtain⟨rfl,rfl⟩:=h;cases d;cases c;cases n<;>simp[Instr.sameBits];have e:=beq_iff_eq.1 h;subst e;obtain⟨a,rfl,i⟩:=d.aj;obtain⟨b,rfl,f⟩:=c.aj;have:a=b:=by
  obtain⟨⟨a⟩⟩:=a;obtain⟨⟨b⟩⟩:=b;simp only at i f;rw[i,f]
 subst this;cases n<;>simp[Instr.sameBits,beq_toListBytes];have e:=beq_iff_eq.1 h;subst e;cases d;cases c;cases n<;>simp[Instr.sameBits];cases h
theorem Eg(n:Nat):∀{k m:gC} {e f:gV},Jp k m=true->fv g e k->fv g f m->e.length=f.length/\((e.zip f).all λp=>Instr.sameBits n p.1 p.2)=true
 |[],[],e,f,_,j,i=>by
  have o:e=[]:=cM j.1;have z:f=[]:=cM i.1;subst o;subst z;simp
 |x::k,y::m,u::e,v::f,h,j,i=>by
  simp only[Jp,aA]at h;obtain⟨a,b⟩:=j.I;obtain⟨c,d⟩:=i.I;obtain⟨w,q⟩:=Eg n h.2 b d;simp[w,q,Ef h.1 a c n]
 |x::k,y::m,[],f,h,j,i=>by have:=j.1;simp at this|x::k,y::m,u::e,[],h,j,i=>by have:=i.1;simp at this|[],_ ::_,_,_,h,_,_ =>by cases h|_ ::_,[],_,_,h,_,_ =>by cases h
theorem Qa{x y:T}(h:Zw x y=true){u v:gZ}(e:Rd g u x)(d:Rd g v y):Instr.sameBits 10000 u v=true:=by
 unfold Zw at h;split at h;obtain⟨j,rfl,c⟩:=e.aq;obtain⟨k,rfl,b⟩:=d.aq;obtain⟨i,f⟩:=Eg 9999 h c b;show Instr.sameBits (9999+1) _ _ =true;simp only[Instr.sameBits,aA];exact⟨by simp[i],f⟩;exact Ef h e d 10000
theorem JB:∀{es:gS} {i:Nat} {k:T},Jm es i k=true->∃e,es[i]? =some e/\Zw e.2.1 k=true
 |(b,f,x)::es,0,k,h=>⟨_,rfl,h⟩
 |e::es,i+1,k,h=>by
  obtain⟨q,d,c⟩:=JB (es:=es) (i:=i) (k:=k) h;exact⟨q,by simpa using d,c⟩
theorem sK.at_ {b:iH}{f:gS}(h:sK g b f){i:Nat}{t:jN}(c:f[i]? =some t):∃m,b[i]? =some m/\m.born=t.1/\Rd g m.key t.2.1/\Rd g m.val t.2.2:=by
 have j:i<b.length:=by rw[h.len];exact(aQ.1 c).1
 have d:b[i]? =some b[i]:=aB j;refine⟨b[i],d,?_,?_,?_⟩;have e:=bG (·[i]?) h.1;simp only[bA,d,c,cK,aI]at e;exact e;exact h.2.1.2 i _ _ (by rw[bA,d];rfl) (by rw[bA,c];rfl);exact h.2.2.2 i _ _ (by rw[bA,d];rfl) (by rw[bA,c];rfl)
theorem sK.cons{m:MapEntry}{b:iH}{t:jN}{e:gS}(f:m.born=t.1)(d:Rd g m.key t.2.1)(c:Rd g m.val t.2.2)(h:sK g b e):sK g (m::b) (t::e):=
 ⟨by simp[f,h.1],fv.cons d h.2.1,fv.cons c h.2.2⟩
theorem sK.modify(f:MapEntry->MapEntry)(u:∀e,(f e).born=e.born){k x:T}:∀{d:iH} {j:gS} {i:Nat} {e:MapEntry},sK g d j->d[i]? =some e->Rd g (f e).key k->Rd g (f e).val x->sK g (d.modify i f) (Ju k x j i)
 |[],j,i,e,_,c,_,_ =>by simp at c|m::d,[],i,e,h,_,_,_ =>by have:=h.len;simp at this
 |m::d,(b,z,B)::j,0,e,h,c,o,n=>by
  obtain⟨p,y,w,q⟩:=h.I;simp at c;subst c;exact sK.cons (t:=(b,k,x)) (by rw[u];exact p) o n q
 |m::d,(b,z,B)::j,i+1,e,h,c,o,n=>by
  obtain⟨p,y,w,q⟩:=h.I;exact sK.cons (t:=(b,z,B)) p y w (sK.modify f u q (by simpa using c) o n)
theorem sK.push{m:iH}{e:gS}(h:sK g m e){c:Nat}{u v:gZ}{k x:T}(d:Rd g u k)(b:Rd g v x):sK g (m++[{key:=u,val:=v,born:=c}]) (e++[(c,k,x)]):=by
 refine⟨by simp[h.1],?_,?_⟩;rw[eX,eX];exact h.2.1.append (fv.cons d fv.nil);rw[eX,eX];exact h.2.2.append (fv.cons b fv.nil)
theorem sK.erase:∀{c:iH} {b:gS} (i:Nat),sK g c b->sK g (c.eraseIdx i) (b.eraseIdx i)
 |[],[],i,h=>by simpa using h|[],e::b,i,h=>by have:=h.len;simp at this|m::c,[],i,h=>by have:=h.len;simp at this|m::c,e::b,0,h=>by obtain⟨d,j,f,q⟩:=h.I;exact q
 |m::c,e::b,i+1,h=>by obtain⟨d,j,f,q⟩:=h.I;exact sK.cons d j f (sK.erase i q)
theorem KE{H:Hp}(I:St g H){t:gB}{m k:T}{l:Nat}{o:Ob}{c:Nat}{j:gS}{y:gB}{r:jI}(h:GQ P H t m k=some (l,o,c,j,y,r)){v u:gZ}(D:Rd g v m)(z:Rd g u k):
  ∃f b q,P.underlying t=some (.map f y)/\v= .map (some (g.loc l))/\H.any l=some o/\o.me=some (.map c j)/\g.w.heap[g.loc l]? =some (.map b c)/\sK g b.toList j/\(∀e,(Instr.checkKey e 10000 f u).run P g.w= .ok () g.w)/\(Instr.findKey f u b.toList).run P g.w= .ok q g.w/\xO P f k b.toList j 0 r q:=by
 unfold GQ at h;split at h;rename_i f K O;split at h;rename_i S;split at h;rename_i R x;split at h;rename_i Q M i;split at h;rename_i B;split at h;rename_i U C;simp only[aI,bF]at h;obtain⟨rfl,rfl,rfl,rfl,rfl,rfl⟩:=h;obtain⟨_,_,_,J,b,rfl,p⟩:=I.ap _ _ _ x i;obtain⟨d,n⟩:=Dc B;obtain⟨q,L,N⟩:=LQ n z C p;cases D;exact⟨f,b,q,O,rfl,x,i,J,p,λe=>Nw B z e,L,N⟩;cases h;cases h;cases h;cases h;cases h;cases h
theorem tR{w:iG}{r:Nat}{m:jO}{c:Nat}(o:Obj)(h:w.heap[r]? =some (.map m c)):(setObj r o).run P w= .ok () {w with heap:=w.heap.setIfInBounds r o}:=by
 simp only[setObj,Sem.run,h]
theorem xO.bE{t:gB}{k:T}{f:iH}{d:gS}{i b:Nat}{x:T}{q:jX}(h:xO P t k f d 0 (some (i,b,x)) q):∃m c,q=some (i,m.val)/\f[i]? =some m/\d[i]? =some (b,c,x):=by
 unfold xO at h;split at h;rename_i e;cases e;rename_i e;cases e;obtain⟨rfl,_,m,c,n,j,rfl,_⟩:=h;exact⟨m,c,rfl,by simpa using n,by simpa using j⟩;exact h.elim
theorem xO.bY{t:gB}{k:T}{m:iH}{b:gS}{q:jX}(h:xO P t k m b 0 none q):q=none:=by
 unfold xO at h;split at h;rfl;rename_i e;cases e;exact h.elim
theorem Qk{o new:gZ}(h:Instr.sameBits 10000 o new=true){w:iG}:(Instr.keyThatStays o new).run P w= .ok new w:=by
 simp[Instr.keyThatStays,h]
theorem aMs{H R:Hp}(M:St g H){t:gB}{m k x:T}(h:Aq P H t m k x=some R){v u z:gZ}(Z:Rd g v m)(L:Rd g u k)(hz:Rd g z x):
  ∃O,(Instr.mapUpdate t v u z).run P g.w= .ok () O.w/\pP H g R O/\St O R/\(sJ g->sJ O):=by
 unfold Aq at h;split at h;rename_i l o c S et i b y d;split at h;rename_i p;cases h;obtain⟨kt,D,q,Y,rfl,K,U,I,N,C,f,n⟩:=KE M d Z L;obtain⟨e,k',rfl,W,h2⟩:=n.bE;obtain⟨e',h3,h4⟩:=JB p;rw[h2]at h3;cases h3;obtain⟨e2,h5,_,h6,_⟩:=N.at_ h2;rw[W]at h5;cases h5;have J:=Qa h4 h6 L;have B:sK g (D.modify i λe=>{e with key:=u,val:=z}).toList (Ju k x S i):=by
  rw[Array.toList_modify];exact sK.modify (λe=>{e with key:=u,val:=z}) (λ_ =>rfl) N W L hz
 refine⟨g.ao (g.loc l) (D.modify i λe=>{e with key:=u,val:=z}) c,?_,xA K _ _ _,AA M K B,λV b j=>by simpa [G.ao,G.ah]using V b j⟩;have Q:D[i]? =some e:=by simpa using W
 simp only[Instr.mapUpdate,aW,bD Y,aL,eL I,C,f,Q,cK,fP,Qk J,tR _ I];rfl;cases h;rename_i l o c S et d;cases h;obtain⟨kt,D,q,Y,rfl,K,U,I,N,C,f,n⟩:=KE M d Z L;have:=n.bY;subst this;have B:sK g (D.push {key:=u,val:=z,born:=c}).toList (S++[(c,k,x)]):=by
  rw[Array.toList_push];exact N.push L hz
 refine⟨g.ao (g.loc l) (D.push {key:=u,val:=z,born:=c}) (c+1),?_,xA K _ _ _,AA M K B,λV b j=>by simpa [G.ao,G.ah]using V b j⟩;simp only[Instr.mapUpdate,aW,bD Y,aL,eL I,C,f,tR _ I];rfl;cases h
theorem aHc{H U:Hp}(I:St g H){t:gB}{m k r:T}(h:HO P H t m k=some (r,U)){v u:gZ}(hv:Rd g v m)(Q:Rd g u k):
  ∃q O,(Instr.mapEntry t v u).run P g.w= .ok q O.w/\pP H g U O/\St O U/\(sJ g->sJ O)/\Rd O q r:=by
 unfold HO at h;split at h;rename_i l o c L et i b y j;split at h;rename_i B;cases h;obtain⟨kt,f,q,hd,rfl,N,V,K,R,D,n,x⟩:=KE I j hv Q;obtain⟨e,k',rfl,Y,h2⟩:=x.bE;obtain⟨e',h3,h4⟩:=JB B;rw[h2]at h3;cases h3;obtain⟨e2,h5,h8,h6,h7⟩:=R.at_ h2;rw[Y]at h5;cases h5;have M:=Qa h4 h6 Q;have C:sK g (f.modify i λe=>{e with key:=u}).toList (Ju k y L i):=by
  rw[Array.toList_modify];exact sK.modify (λe=>{e with key:=u}) (λ_ =>rfl) R Y Q h7
 have d:=xA (g:=g) N (f.modify i λe=>{e with key:=u}) c {o with me:=some (.map c (Ju k y L i))};refine⟨.tuple #[e.val,goInt e.born],g.ao (g.loc l) (f.modify i λe=>{e with key:=u}) c,?_,d,AA I N C,λW b p=>by simpa [G.ao,G.ah]using W b p,?_⟩;have S:f[i]? =some e:=by simpa using Y
 simp only[Instr.mapEntry,aW,bD hd,aL,eL K,D,n,S,cK,fP,Qk M,tR _ K];rfl;exact Rd.ak (vs:=[e.val,goInt e.born]) (fv.cons (h7.af I d) (fv.cons (by rw[h8];exact .int _ _) fv.nil));cases h;rename_i l o c L et j;split at h;rename_i zt hzt;cases h;obtain⟨kt,f,q,hd,rfl,N,V,K,R,D,n,x⟩:=KE I j hv Q;have:=x.bY;subst this;obtain⟨z,Z,J⟩:=GG (g:=g) hzt;have C:sK g (f.push {key:=u,val:=z,born:=c}).toList (L++[(c,k,zt)]):=by
  rw[Array.toList_push];exact R.push Q J
 have d:=xA (g:=g) N (f.push {key:=u,val:=z,born:=c}) (c+1) {o with me:=some (.map (c+1) (L++[(c,k,zt)]))};refine⟨.tuple #[z,goInt c],g.ao (g.loc l) (f.push {key:=u,val:=z,born:=c}) (c+1),?_,d,AA I N C,λW b p=>by simpa [G.ao,G.ah]using W b p,?_⟩;simp only[Instr.mapEntry,aW,bD hd,aL,eL K,D,n,Z,tR _ K];rfl;exact Rd.ak (vs:=[z,goInt c]) (fv.cons (J.af I d) (fv.cons (.int _ _) fv.nil));cases h;cases h
theorem WP{b:Int}:∀{d:gS} {f i:Nat} {k:T},Xy b d f=some (i,k)->∀{n:iH},sK g n d->∃j x e,i=f+j/\n.findIdx? (λe=>(e.born:Int)==b)=some j/\d[j]? =some (e,k,x)
 |[],_,_,_,h,_,_ =>by cases h|(c,C,x)::d,f,i,k,h,[],o=>by have:=o.len;simp at this
 |(c,C,x)::d,f,i,k,h,m::n,o=>by
  obtain⟨q,J,D,u⟩:=o.I;simp only at q;simp only[Xy]at h;split at h;rename_i p;cases h;exact⟨0,x,c,rfl,by simp[List.findIdx?_cons,q,p],rfl⟩;rename_i p;obtain⟨j,B,w,I,z,y⟩:=WP h u;exact⟨j+1,B,w,by omega,by simp[List.findIdx?_cons,q,p,z],by simpa using y⟩
theorem ZX{H q:Hp}(I:St g H){m s x:T}(h:vH H m s x=some q)(t:gB){v u z:gZ}(L:Rd g v m)(V:Rd g u s)(O:Rd g z x):
  ∃f,(Instr.entryStore t v u z).run P g.w= .ok () f.w/\pP H g q f/\St f q/\(sJ g->sJ f):=by
 unfold vH at h;split at h;rename_i l W b;split at h;rename_i o D;split at h;rename_i c N y;split at h;rename_i i k K;cases h;obtain⟨_,_,_,J,d,rfl,B⟩:=I.ap _ _ _ D y;obtain⟨j,x',Y,rfl,R,Q⟩:=WP K B;simp only[cG]at*;obtain⟨e,M,Z,U,h7⟩:=B.at_ Q;cases L;cases V;have C:sK g (d.modify j λe=>{e with val:=z}).toList (Ju k x N j):=by
  rw[Array.toList_modify];exact sK.modify (λe=>{e with val:=z}) (λ_ =>rfl) B M U O
 refine⟨g.ao (g.loc l) (d.modify j λe=>{e with val:=z}) c,?_,xA D _ _ _,AA I D C,λS b p=>by simpa [G.ao,G.ah]using S b p⟩;have n:d.findIdx? (λe=>(e.born:Int)==b)=some j:=by
  have:d=d.toList.toArray:=by simp
  rw[this,List.findIdx?_toArray];exact R
 simp only[Instr.entryStore,aW,eL J,aL,asInt,asIntOf,bH,n,tR _ J];rfl;cases h;cases h;cases h;cases h
theorem aXr{H J:Hp}(D:St g H){t:gB}{m k:T}(h:Mf P H t m k=some J){v u:gZ}(Q:Rd g v m)(U:Rd g u k)(B:Array TypeId)(S:B[0]? =some t)(V:gB):
  ∃I,(Builtin.delete_ B V #[v,u]).run P g.w= .ok (.tuple #[]) I.w/\pP H g J I/\St I J/\(sJ g->sJ I):=by
 unfold Mf at h;split at h;rename_i l o c R Y i b y d;cases h;obtain⟨W,x,q,O,rfl,C,K,z,L,p,f,n⟩:=KE D d Q U;obtain⟨e,k',rfl,h1,Z⟩:=n.bE;have N:sK g (x.eraseIdxIfInBounds i).toList (R.eraseIdx i):=by
  have:(x.eraseIdxIfInBounds i).toList=x.toList.eraseIdx i:=by simp
  rw[this];exact L.erase i
 refine⟨g.ao (g.loc l) (x.eraseIdxIfInBounds i) c,?_,xA C _ _ _,AA D C N,λM b j=>by simpa [G.ao,G.ah]using M b j⟩;simp only[Builtin.delete_,S,List.getElem?_toArray,cJ,dL,aW,bD O,aL,eL z,p,f,tR _ z,bH];rfl;rename_i l o c R Y d;cases h;obtain⟨W,x,q,O,rfl,C,K,z,L,p,f,n⟩:=KE D d Q U;have:=n.bY;subst this;refine⟨g.ao (g.loc l) x c,?_,xA C _ _ _,AA D C L,λM b j=>by simpa [G.ao,G.ah]using M b j⟩;simp only[Builtin.delete_,S,List.getElem?_toArray,cJ,dL,aW,bD O,aL,eL z,p,f,tR _ z,bH];rfl;cases h
theorem Ok{H:Hp}{t:gB}{h:jE}(b:Hh P t h=true){v:Option Value}(c:kr g v h):(Instr.makeMap t v).run P g.w= .ok (.map (some g.w.heap.size)) (g.own H.next (.map #[] 0) 0).w:=by
 cases h with
 |none=>
  cases v with
  |some v=>exact c.elim|none=>simp only[Instr.makeMap,aW,run_newObj,aL,bH];rfl
 |some x=>
  cases v with
  |none=>exact c.elim
  |some v=>
   have c:Rd g v x:=c;unfold Hh at b;split at b;rename_i e;cases e;rename_i k n e;cases e;cases c;split at b;rename_i d;simp only[Instr.makeMap,aW,bD d,asInt,asIntOf,run_newObj,aL,bH];rfl;cases b;cases b
end
section
variable{P:gD}{g:G}{H:Hp}
theorem aRq(Q:St g H)(R:sJ g){t:gB}{l c r:T}{K:Hp}(h:sX P H t l c=some (r,K)){u v:gZ}(Z:Rd g u l)(S:Rd g v c):
  ∃q I,(Instr.makeSlice t u v).run P g.w= .ok q I.w/\pP H g K I/\St I K/\sJ I/\Rd I q r:=by
 unfold sX at h;split at h;rename_i e n m hd;cases Z;cases S;split at h;rename_i sz bytes z j C f;split at h;rename_i hc;cases h;obtain⟨U,k,D,rfl,hb,hn⟩:=hc;simp only[uI,aG]at j C;obtain⟨i,M,rfl⟩:=j;obtain⟨i',p,rfl⟩:=C;rw[M]at p;cases p;have W:=f;unfold wM at f;rw[M]at f;simp only at f;split at f;rename_i J N;have L:=EN g f;have O:(i.bytes:Int)*n<=281474976710656:=by
  have e:(i.bytes:Int)*n=((n.toNat*i.bytes:Nat):Int):=by
   rw[Int.natCast_mul,Int.toNat_of_nonneg D,Int.mul_comm]
  rw[e];omega
 have V:=run_make (P:=P) g.w t e i J hd M N .i64 .i64 n n D (Int.le_refl _) O (by omega);have b:fv g (madeCells J.cells (n.toNat*i.size)).toList ((List.replicate n.toNat z).flatMap T.cells):=Rl L k U;have B:∀x∈List.replicate n.toNat z,x.cells.length=i.size:=λx Y=>by rw[(List.mem_replicate.1 Y).2];exact k
 have y:((List.replicate n.toNat z).flatMap T.cells).length=n.toNat*i.size:=by rw[tH B];simp
 have d:(madeCells J.cells (n.toNat*i.size)).size=n.toNat*i.size:=size_madeCells _ _;refine⟨_,g.own H.next (.cells (madeCells J.cells (n.toNat*i.size)) e) n.toNat,V,wY Q _ _ _,?_,DF R _ _ _,?_⟩;refine YI (o:={elem:=e,sz:=i.size,cells:=(List.replicate n.toNat z).flatMap T.cells}) Q R (by simp only[y,d];omega) (λq=>by simp only at q;omega) (λ_ =>⟨d,by simp only[maxLen];omega⟩) ?_;simp only[y];rw[dC (by simp[d])];exact b;refine .ge H.next i.size 0 n.toNat g.w.heap.size 0 n.toNat (.inr rfl) (bB _) (by simp[G.own]) (λ_ =>by simp[G.own]) (λ_ =>by simp[G.own]);cases f;cases h;cases h;cases h
theorem aLr(hs:St g H){x:T}{new:gC}{m M:Nat}(q:rA H x=some new)(C:vO x=some m)(L:new.length=m*M)(Y:qO new=true){tx:gB}(K:zG P tx M x=true)
  {v:gZ} (U:Rd g v x) (h0:0<M):∃I,Src P M tx v m I g.w/\fv g I new:=by
 unfold zG at K;split at K;rename_i e B;simp only[rA,vO]at q C;cases q;cases C;cases U;exact⟨[],Src.ofNil g.w B 0,fv.nil⟩;rename_i e Q xs B;simp only[rA,vO]at q C;cases q;cases C;cases U with
 |sl _ _ d b o z D q1 W q3 q4 q5 Z q7 q8=>
  have O:D.length=xs.length*M:=by rw[<-L,tH W];exact Z
  have k:fv g D (xs.flatMap T.cells):=⟨by rw[L];exact O,q8⟩;exact⟨D,Src.ofSlice g.w B ⟨b,o,none⟩ xs.length z D O (λj u h=>by rw[Addr.add_lit];exact q7 j u h) (RI k Y),k⟩
 rename_i e Q n f B;simp only[rA,vO]at q C;cases q;cases C;cases U with
 |ai _ _ p=>
  cases p with
  |none=>exact⟨[],Src.ofNil g.w B 0,fv.nil⟩|some a=>exact⟨[],Src.ofSlice g.w B a 0 0 [] (by simp) (λj u h=>by simp at h) (λu h=>by simp at h),fv.nil⟩
 |ac _ _ _ d b o z D q1 W q3 q4 q5 Z q7 q8=>
  have S:((List.range m).flatMap λi=>(f i).cells)=((List.range m).map f).flatMap T.cells:=by rw[fO]
  have J:∀x∈(List.range m).map f,x.cells.length=d:=λx V=>by
   obtain⟨i,N,rfl⟩:=bS.1 V;exact W i (by simpa using N)
  rw[S]at L Y⊢;have O:D.length=m*M:=by
   rw[<-L,tH J];simpa using Z
  have k:fv g D (((List.range m).map f).flatMap T.cells):=by
   refine⟨by rw[L];exact O,λj u c h hc=> ?_⟩;have hjl:j<D.length:=(aQ.1 h).1;rcases Nat.eq_zero_or_pos d with hz|hz
   rw[Z,hz]at hjl;omega;have hjn:j<m*d:=by omega
   have N:j/d<m:=(Nat.div_lt_iff_lt_mul hz).2 hjn;have hr:j%d<d:=Nat.mod_lt _ hz;have hj:j/d*d+j%d=j:=by rw[Nat.mul_comm];exact Nat.div_add_mod j d
   have hfi:=W _ N;have R:(f (j/d)).cells[j%d]? =some ((f (j/d)).cells[j%d]'(by omega)):=aB _;have V:((List.range m).map f)[j/d]? =some (f (j/d)):=by simp[N]
   have q:=KD J V (j%d) _ R;rw[hj,hc]at q;cases q;exact(q8 _ _ u _ N hr (by rw[hj];exact h) R).rd
  exact⟨D,Src.ofSlice g.w B ⟨b,o,none⟩ m z D O (λj u h=>by rw[Addr.add_lit];exact q7 j u h) (RI k Y),k⟩
 rename_i e l d i len B;simp only[rA,vO]at q C;cases C;simp only[bN]at K;subst K;split at q;rename_i o ho;split at q;rename_i hle;cases q;obtain⟨ha,hS,cs,hb,q1,W,q3,q4⟩:=hs.own l o ho;cases U with
 |ge _ _ _ _ b' o' z p1 p2 p3 p4 p5=>
  by_cases hm:m=0;subst hm;have hn:((o.cells.drop (i*d)).take (0*d))=[]:=by simp
  rw[hn];exact⟨[],Src.ofSlice g.w B ⟨b',o',none⟩ 0 z [] (by simp) (by simp) (by simp),fv.nil⟩;obtain⟨rfl,rfl⟩:=p4 (.inl (by omega));have hmul:(i+m)*d=i*d+m*d:=fR _ _ _;have k:fv g (((cs.toList.take o.cells.length).drop (i*d)).take (m*d)) ((o.cells.drop (i*d)).take (m*d)):=(q4.drop _).take _;refine⟨_,Src.ofSlice g.w B ⟨g.loc l,i*d,none⟩ m z _ (by rw[k.1];exact L) (λj u h=> ?_) (RI k Y),k⟩;rw[Addr.add_lit];rw[bJ]at h;split at h;rw[cD,bJ]at h;split at h;simp[World.cell?,hb]at h⊢;exact h;cases h;cases h
 cases q;cases q;rename_i s B;simp only[rA,vO]at q C;cases q;cases C;simp only[bN]at K;subst K;obtain⟨a,rfl,rfl⟩:=U.aj;refine⟨byteCells a,?_,?_⟩;have e:a.data.toList.length=a.size:=by simp[dV]
 rw[e];exact Src.ofString g.w B a;refine⟨by simp[byteCells],λj u c h hc=> ?_⟩;simp only[byteCells,bA,aG]at h hc;obtain⟨x,V,rfl⟩:=h;obtain⟨y,hy,rfl⟩:=hc;rw[V]at hy;cases hy;exact .int _ _;cases K
theorem Hf(B:St g H)(S:sJ g){H0:Hp}(J:H0.next=H.next)(b:∀l o,H0.any l=some o->H.any l=some o){e:gB}{sz need c:Nat}{cells:gC}{j:gV}{rest:hP}(K:fv g j cells)(d:cells.length=need*sz)
  (i:rest.size=(c-need)*sz) (n:need<=c) (p:c<=maxLen) (D:sz≠0):
  ∃z,z.w=g.w.drew.alloc (.cells (j.toArray++rest) e)/\pP H g (H0.new {elem:=e,sz:=sz,cells:=cells}) z/\St z (H0.new {elem:=e,sz:=sz,cells:=cells})/\sJ z/\
   Rd z (.slice (some ⟨g.w.heap.size,0,none⟩) need c) (.ge H0.next sz 0 need):=by
 have I:St g H0:=⟨λl o k=>B.own l o (yA (b l o (pD k).1) (pD k).2),λl o m k=>B.ap l o m (b l o k),λl O o M R Q=>B.sep l O o M (b l o R) (b O M Q),λl U=>B.new l (J▸U)⟩
 let C:G:={g with w:=g.w.drew}
 have L:fx g C:=⟨rfl,rfl,rfl,bB _,λ_ _ =>rfl,λ_ h=>h,λ_ h=> .inl h,rfl,rfl,rfl⟩;have x:=I.ad L;have u:sJ C:=S;have f:pP H g H0 C:=⟨rfl,rfl,rfl,bB _,λ_ _ _ =>rfl,λ_ h=>h,λ_ h=> .inl h,λ_ h=>h,λ_ _ =>rfl,λ_ _ =>rfl,λl o k=> .inl ⟨l,o,b l o k,rfl⟩⟩;have y:j.length=need*sz:=by rw[K.1];exact d
 have N:c*sz=need*sz+(c-need)*sz:=by rw[<-fR];congr 1;omega
 refine⟨C.own H0.next (.cells (j.toArray++rest) e) c,rfl,f.trans (wY x _ _ _),?_,DF u _ _ _,?_⟩;refine YI (o:={elem:=e,sz:=sz,cells:=cells}) x u (by simp;omega) (λq=>absurd q D) (λ_ =>⟨by simp[y,i];omega,p⟩) ?_;have:(j.toArray++rest).toList.take cells.length=j:=by
  rw[Array.toList_append,d,<-y];simp
 simp only at this⊢;rw[this];exact K.ad L;refine .ge H0.next sz 0 need g.w.heap.size 0 c (.inr rfl) n (by simp[G.own]) (λ_ =>⟨by simp only[G.own,cB];rfl,by simp⟩) (λ_ =>by simp[G.own])
theorem CK(z:hP)(n:Nat):(Builtin.zeroCells z n).size=n*z.size:=by simp[Builtin.zeroCells]
theorem Sc(hs:St g H)(hg:sJ g){t Q ty:gB}{s x r:T}{V:Hp}(h:CP P H t Q s x=some (r,V)){u v:gZ}(B:Rd g u s)(hv:Rd g v x):
  ∃q N,(Builtin.append_ #[t,Q] ty #[u,v]).run P g.w= .ok q N.w/\pP H g V N/\St N V/\sJ N/\Rd N q r:=by
 unfold CP at h;split at h;rename_i e b hd d;split at h;rename_i i hi;split at h;cases h;rename_i R;simp only[not_or]at R;obtain⟨h0,hx,S,h2,h3,h4,h5⟩:=R;have hx:b≠[]:=λe=>hx (by rw[e];rfl);have C:rA H x=some (b.flatMap T.cells)/\vO x=some b.length:=by
  unfold bBn at d;split at d;cases d;exact⟨rfl,rfl⟩;cases d;exact⟨by simp[rA,fO],by simp[vO]⟩;cases d
 cases h;have U:0<i.size:=Nat.pos_of_ne_zero h0;have k:∀y∈b,y.cells.length=i.size:=λy hy=>by
  have:(b.all λy=>Nat.beq y.cells.length i.size)=true:=by simpa using S
  exact aD (aP.1 this y hy)
 have Y:(b.flatMap T.cells).length=b.length*i.size:=tH k;have Z:qO (b.flatMap T.cells)=true:=by simpa using h2
 have h4':zG P Q i.size x=true:=by simpa using h4
 have p:∃z,i.zero=some z/\z.cells.size=i.size:=by
  cases p:i.zero with
  |none=>simp[p]at h3|some z=>exact⟨z,rfl,by simpa [p]using h3⟩
 obtain⟨z,p,hzs⟩:=p;have hr:b.length*i.bytes<=70368744177664/\b.length<=70368744177664:=by
  have:AI b.length i.bytes=true:=by simpa using h5
  simpa [AI]using this
 obtain⟨n,I,O⟩:=aLr (P:=P) hs (m:=b.length) C.1 C.2 Y Z h4' hv U;have hnl:n.length=b.length*i.size:=I.newsLen;have hl0:0<b.length:=List.length_pos_iff.2 hx;cases B;have f:=run_append_grow_src (P:=P) g.w t Q ty e i z hd hi p none 0 0 [] (by simp[Builtin.firstCells]) v b.length n I (by omega) (by omega) (growslice_fits (by omega) (by rw[cG];omega));have L:=grownCap_ge g.w (0+b.length) 0 e;have K:=grownCap_le_maxLen g.w (0+b.length) 0 e (by simp only[maxLen];omega);simp only[cG,eW]at f L K
 let M:G:={g with w:=g.w.drew}
 have hp:fx g M:=⟨rfl,rfl,rfl,bB _,λ_ _ =>rfl,λ_ h=>h,λ_ h=> .inl h,rfl,rfl,rfl⟩;have W:sJ M:=hg;obtain⟨D,J⟩:∃D,n.toArray++Builtin.zeroCells z.cells (grownCap g.w b.length 0 e-b.length)=D:=⟨_,rfl⟩;rw[J]at f;have o:=hp.trans (G.ba M (.cells D e));refine⟨_,M.add (.cells D e),by rw[f];rfl,o.bi,hs.ad o,G.ix W _,?_⟩;refine .sl false b i.size g.w.heap.size 0 _ n (λ_ => .inr rfl) k L K (by simp) hnl (λj u B=> ?_) (λj u c B R=> ?_);rw[cG];have:=G.bz M D e j;refine this.trans ?_;rw[<-J,Array.getElem?_append_left (by have:=(aQ.1 B).1;simpa using this)];simpa using B;exact(O.2 j u c B R).ad o;cases h;cases h
theorem aAx(N:St g H)(hg:sJ g){t tx ty:gB}{s x r:T}{H':Hp}(h:rO P H t tx s x=some (r,H')){u v:gZ}(hu:Rd g u s)(hv:Rd g v x):
  ∃q B,(Builtin.append_ #[t,tx] ty #[u,v]).run P g.w= .ok q B.w/\pP H g H' B/\St B H'/\sJ B/\Rd B q r:=by
 unfold rO at h;split at h;rename_i e hd;split at h;rename_i i new m hi hsrc hm;split at h;cases h;rename_i hc;simp only[not_or]at hc;obtain⟨h0,h1,h2,h3,h4⟩:=hc;have h0':0<i.size:=Nat.pos_of_ne_zero h0;have Z:new.length=m*i.size:=by omega
 have h2':qO new=true:=by simpa using h2
 have h4':zG P tx i.size x=true:=by simpa using h4
 have hz:∃z,i.zero=some z/\z.cells.size=i.size:=by
  cases hz:i.zero with
  |none=>simp[hz]at h3|some z=>exact⟨z,rfl,by simpa [hz]using h3⟩
 obtain⟨z,hz,hzs⟩:=hz;obtain⟨f,c,U⟩:=aLr (P:=P) N hsrc hm Z h2' h4' hv h0';have hnl:f.length=m*i.size:=c.newsLen;have room:∀{n b:Nat},AI n b=true->n*b<=70368744177664/\n<=70368744177664:=λq=>by simpa [AI]using q
 split at h;cases hu;split at h;rename_i K;cases h;subst K;refine⟨.slice none 0 0,g,?_,.refl _ _,N,hg,.fp⟩;rcases c.kind with⟨e',hk⟩|hk<;>simp[Builtin.append_,bD hd,bD hk,sizeOf,typeInfo,hi,c.len,c.cells]
 rename_i K;split at h;rename_i hr;cases h;obtain⟨r1,r2⟩:=room hr;have M:=run_append_grow_src (P:=P) g.w t tx ty e i z hd hi hz none 0 0 [] (by simp[Builtin.firstCells]) v m f c (by omega) (by omega) (growslice_fits (by omega) (by rw[cG];omega));have Y:=grownCap_ge g.w (0+m) 0 e;have W:=grownCap_le_maxLen g.w (0+m) 0 e (by simp only[maxLen];omega);simp only[cG,eW]at M Y W;obtain⟨B,e1,e2,e3,e4,e5⟩:=Hf (e:=e) N hg (H0:=H) rfl (λ_ _ q=>q) U Z (rest:=Builtin.zeroCells z.cells (grownCap g.w m 0 e-m)) (by rw[CK,hzs]) Y W h0;exact⟨_,B,by rw[M,e1],e2,e3,e4,e5⟩;cases h;rename_i I;cases hu with
 |sl _ _ sz' b o cap vs q1 q2 q3 q4 q5 q6 q7 q8=>
  have hcap:=q5 rfl;subst hcap;split at h;rename_i K;cases h;subst K;have hn0:f=[]:=cM (by omega);subst hn0;refine⟨_,g,?_,.refl _ _,N,hg,.sl true I sz' b o I.length vs q1 q2 q3 q4 q5 q6 q7 q8⟩;rcases c.kind with⟨e',hk⟩|hk<;>simp[Builtin.append_,bD hd,bD hk,sizeOf,typeInfo,hi,c.len,c.cells,storeCells]
  rename_i K;split at h;rename_i hr;cases h;simp only[aA]at hr;obtain⟨r1,r2⟩:=room hr.1;have hszz:I=[]\/sz'=i.size:=by
   cases I with
   |nil=>exact .inl rfl|cons y ys=>right;have h5:=hr.2;simp only[DD,bN]at h5;rw[<-h5];exact(q2 y (by simp)).symm
  have hvl:vs.length=I.length*i.size:=by
   rcases hszz with rfl|rfl;simpa using q6;exact q6
  have hxl:(I.flatMap T.cells).length=I.length*i.size:=by
   rcases hszz with rfl|rfl;simp;exact tH q2
  have hold:(Builtin.firstCells i.size I.length (.slice (some ⟨b,o,none⟩) I.length I.length)).run P g.w.drew= .ok vs.toArray g.w.drew:=
   run_firstCells_some (P:=P) g.w.drew i.size I.length ⟨b,o,none⟩ I.length I.length vs hvl (λj u hu=>by rw[Addr.add_lit];exact q7 j u hu)
  have M:=run_append_grow_src (P:=P) g.w t tx ty e i z hd hi hz (some ⟨b,o,none⟩) I.length I.length vs hold v m f c (by omega) (by omega) (growslice_fits (by omega) (by omega));have Y:=grownCap_ge g.w (I.length+m) I.length e;have W:=grownCap_le_maxLen g.w (I.length+m) I.length e (by simp only[maxLen];omega);have hvs:fv g vs (I.flatMap T.cells):=⟨by rw[hxl];exact hvl,q8⟩;obtain⟨B,e1,e2,e3,e4,e5⟩:=Hf (e:=e) N hg (H0:=H) rfl (λ_ _ q=>q) (hvs.append U) (need:=I.length+m) (by rw[aU,hxl,Z,fR]) (rest:=Builtin.zeroCells z.cells (grownCap g.w (I.length+m) I.length e-(I.length+m))) (by rw[CK,hzs]) Y W h0;exact⟨_,B,by rw[M,e1],e2,e3,e4,e5⟩;cases h
 rename_i l sz' len;cases hu with
 |ge _ _ _ _ b o cap p1 p2 p3 p4 p5=>
  obtain⟨rfl,rfl⟩:=p4 (.inr rfl);have hcp:=p5 rfl;subst hcp;simp only[fX]at*;split at h;rename_i K;cases h;subst K;have hn0:f=[]:=cM (by omega);subst hn0;refine⟨.slice (some ⟨g.loc l,0,none⟩) len (g.cp l),g,?_,.refl _ _,N,hg,.ge l sz' 0 len (g.loc l) 0 (g.cp l) p1 p2 (by omega) (λ_ =>⟨rfl,by simp⟩) (λ_ =>rfl)⟩;rcases c.kind with⟨e',hk⟩|hk<;>simp[Builtin.append_,bD hd,bD hk,sizeOf,typeInfo,hi,c.len,c.cells,storeCells,p2]
  rename_i K;split at h;rename_i L hob;split at h;rename_i hcc;cases h;obtain⟨c1,c2,c3,c4,c5⟩:=hcc;obtain⟨r1,r2⟩:=room c5;subst c3;obtain⟨ha,hS,cs,hb,o1,o2,o3,o4⟩:=N.own l L hob;obtain⟨o3,o5⟩:=o3 (by omega);rw[c2]at o3;obtain⟨Q,hobm⟩:=pD hob;have D:∀l' C,(H.drop l).any l'=some C->H.any l'=some C:=λl' C q=>by
   rw[qY]at q;split at q;cases q;exact q
  have hnl':∀l' C,(H.drop l).any l'=some C->l'≠l:=λl' C q e=>by
   rw[qY,aJ e]at q;cases q
  by_cases R:len+m<=g.cp l;have hle:len*i.size+m*i.size<=cs.size:=by rw[o3,<-fR];exact cZ _ R
  have hone:=c.one;have hstc:=run_storeCells_at (P:=P) (g.loc l) (len*i.size) L.elem f 0 cs g.w hb (by omega) hone;simp only[fW]at hstc
  let J:=(cs.toList.take (len*i.size)++f++cs.toList.drop (len*i.size+f.length)).toArray
  have hcs':J.size=cs.size:=by simp[J];omega
  let B:G:={w:=g.w.setRow (g.loc l) J,S:=g.S,al:=λk=>g.al k\/k=H.next,loc:=λk=>if k=H.next then g.loc l else g.loc k,cp:=λk=>if k=H.next then g.cp l else g.cp k}
  have hn:=N.new H.next (bB _);have hne:∀k,g.al k->k≠H.next:=λk hk q=>hn (q▸hk);have p:pP H g ((H.drop l).new {elem:=L.elem,sz:=i.size,cells:=L.cells++new}) B:=by
   refine⟨rfl,rfl,rfl,by simp[B,World.setRow],λk _ hk=>setRow_other _ _ _ _ (λq=>hk l L Q q.symm),λ_ q=>q,λ_ q=> .inl q,λk hk=> .inl hk,λk hk=>by simp[B,hne k hk],λk hk=>by simp[B,hne k hk],λk C d=> ?_⟩;rw[rN]at d;split at d;rename_i q;exact .inl ⟨l,L,Q,by simp only[Hp.drop]at q;simp[B,q]⟩;rename_i q;have:=D k C d;simp only[Hp.drop]at q;exact .inl ⟨k,C,this,by simp[B,Ne.symm q]⟩
  refine⟨.slice (some ⟨g.loc l,0,none⟩) (len+m) (g.cp l),B,?_,p,?_,λk hk=>by simpa [B,World.setRow]using hg k hk,?_⟩;rcases c.kind with⟨e',hk⟩|hk<;>simp[Builtin.append_,bD hd,bD hk,sizeOf,typeInfo,hi,c.len,c.cells,R,Addr.add_lit,hstc,B,J]
  have hrow:fv g (J.toList.take (L.cells++new).length) (L.cells++new):=by
   have e1:(L.cells++new).length=len*i.size+m*i.size:=by rw[aU,c4,Z]
   have e2:J.toList.take (L.cells++new).length=cs.toList.take (len*i.size)++f:=by
    simp only[J];have e3:(cs.toList.take (len*i.size)++f).length=len*i.size+m*i.size:=by simp;omega
    rw[e1,<-e3,List.take_left]
   rw[e2];rw[c4]at o4;exact o4.append U
  have hothr:∀k C,¬(H.drop l).next=k->(H.drop l).any k=some C->B.loc k=g.loc k/\(g.w.setRow (g.loc l) J).heap[g.loc k]? =g.w.heap[g.loc k]? :=λk C q d=>by
   have hk:=D k C d;exact⟨p.loc k (N.at_ hk).1,setRow_other _ _ _ _ (λq'=>hnl' k C d (N.sep k l C L hk Q q'))⟩
  refine⟨λk C d=> ?_,λk C kc d hme=> ?_,λk k' o1' o2' hk1 V q=> ?_,λk hk=> ?_⟩;obtain⟨ha0,K⟩:=pD d;rw[rN]at ha0;split at ha0;rename_i q;cases ha0;simp only[Hp.drop]at q;subst q;refine⟨.inr rfl,by simpa [B]using hS,J,?_,?_,λq=>by simp only at q;omega,λ_ =>⟨by simp[B,hcs',o3],by simpa [B]using o5⟩,hrow.af N p⟩;simp only[B,cB];exact setRow_heap _ _ _ _ _ _ hb;rw[hcs'];simp only[aU,c4,Z];omega;rename_i q;have hk:=D k C ha0;obtain⟨ha',hS',cs'',hb',p1',p2',p3',p4'⟩:=N.own k C (yA hk K);obtain⟨O,hbk⟩:=hothr k C q ha0;have hcp':B.cp k=g.cp k:=p.cp k ha';refine⟨.inl ha',by rw[O];exact hS',cs'',?_,p1',p2',by rw[hcp'];exact p3',p4'.af N p⟩;rw[O];show(g.w.setRow (g.loc l) J).heap[g.loc k]? =_;rw[hbk];exact hb';rw[rN]at d;split at d;cases d;cases hme;rename_i q;have hk:=D k C d;obtain⟨ha',hS',ms',hb',p1'⟩:=N.ap k C kc hk hme;obtain⟨O,hbk⟩:=hothr k C q d;refine⟨.inl ha',by rw[O];exact hS',ms',?_,p1'.mono (λ_ _ z=>z.af N p) (λl hl=>⟨p.al l hl,p.loc l hl⟩)⟩;rw[O];show(g.w.setRow (g.loc l) J).heap[g.loc k]? =_;rw[hbk];exact hb';rw[rN]at hk1 V;have hnx:(H.drop l).next=H.next:=rfl;rw[hnx]at hk1 V;have hex:∀k C,¬H.next=k->(H.drop l).any k=some C->H.any k=some C/\k≠l/\B.loc k=g.loc k:=λk C q d=>by
   have:=D k C d;exact⟨this,hnl' k C d,by simp[B,Ne.symm q]⟩
  split at hk1;rename_i q1;split at V;rename_i q2;rw[<-q1,<-q2];rename_i q2;obtain⟨a1,a2,a3⟩:=hex k' o2' q2 V;rw[a3]at q;simp only[B,aJ q1.symm]at q;exact absurd (N.sep k' l o2' L a1 Q q.symm) a2;rename_i q1;obtain⟨a1,a2,a3⟩:=hex k o1' q1 hk1;split at V;rename_i q2;rw[a3]at q;simp only[B,aJ q2.symm]at q;exact absurd (N.sep k l o1' L a1 Q q) a2;rename_i q2;obtain⟨b1,b2,b3⟩:=hex k' o2' q2 V;rw[a3,b3]at q;exact N.sep k k' o1' o2' a1 b1 q;simp only[Hp.new,Hp.drop]at hk;rintro(q|q);exact N.new k (by omega) q;omega;refine .ge H.next i.size 0 (len+m) (g.loc l) 0 (g.cp l) (.inr rfl) R (by simp[B]) (λ_ =>by simp[B]) (λ_ =>by simp[B]);have hold:(Builtin.firstCells i.size len (.slice (some ⟨g.loc l,0,none⟩) len (g.cp l))).run P g.w.drew= .ok (cs.toList.take L.cells.length).toArray g.w.drew:=
   run_firstCells_some (P:=P) g.w.drew i.size len ⟨g.loc l,0,none⟩ len (g.cp l) _ (by rw[o4.1];exact c4) (λj u hu=>by
    rw[Addr.add_lit,cG];rw[bJ]at hu;split at hu;have hb':g.w.drew.heap[g.loc l]? =some (.cells cs L.elem (0,0)):=hb;simp[World.cell?,hb']at hu⊢;exact hu
    cases hu)
  have M:=run_append_grow_src (P:=P) g.w t tx ty L.elem i z hd hi hz (some ⟨g.loc l,0,none⟩) len (g.cp l) _ hold v m f c (by omega) (by omega) (growslice_fits (by omega) (by omega));have Y:=grownCap_ge g.w (len+m) (g.cp l) L.elem;have W:=grownCap_le_maxLen g.w (len+m) (g.cp l) L.elem (by simp only[maxLen];omega);obtain⟨B,e1,e2,e3,e4,e5⟩:=Hf (e:=L.elem) N hg (H0:=H.drop l) rfl D (o4.append U) (need:=len+m) (by rw[aU,c4,Z,fR]) (rest:=Builtin.zeroCells z.cells (grownCap g.w (len+m) (g.cp l) L.elem-(len+m))) (by rw[CK,hzs]) Y W h0;exact⟨_,B,by rw[M,e1],e2,e3,e4,e5⟩;cases h;cases h
 cases h;cases h;cases h
abbrev gK:=FuncId->List T->Hp->Option (T×Hp)
def sD(P:gD)(gl:gG)(ee:gK):Prop:=
 ∀f d H r c,ee f d H=some (r,c)->uQ P f=true/\∀(g:G) (h:gV),sJ g->St g H->gn gl g->fv g h d->
  Calls P f h.toArray g.w λe i=>∃v b,e= .returned v/\b.w=i/\pP H g c b/\sJ b/\St b c/\Rd b v r
def mN(P:gD)(o:Oper)(a:Act)(g:G)(H:Hp)(t:T)(c:Hp):Prop:=
 ∀(K:iJ) (Q:gJ),(∀v b,pP H g c b->sJ b->St b c->Rd b v t->K (a.put o.dst v) b.w)->o.wp P a g.w K Q
theorem aOe(f:St g H)(d:sJ g){p:Bool}{t i ty:gB}{s x r:T}{c:Hp}(h:TG P p H t i s x=some (r,c)){u v:gZ}(j:Rd g u s)(e:Rd g v x):
  ∃q b,(Builtin.append_ #[t,i] ty #[u,v]).run P g.w= .ok q b.w/\pP H g c b/\St b c/\sJ b/\Rd b q r:=by
 unfold TG at h;split at h;exact Sc f d h j e;exact aAx f d h j e
theorem yB{o:Oper}{a:Act}{t:T}{v:gZ}{b:Hp}{g':G}(i:(execOp a.eval o).run P g.w= .ok (.value v) g'.w)(e:pP H g b g')(d:St g' b)(c:sJ g')(h:Rd g' v t):mN P o a g H t b:=by
 intro K Q f;unfold Oper.wp;rw[i];exact f v g' e c d h
theorem NW{o:Oper}{a:Act}{b:Hp}{g':G}(f:(execOp a.eval o).run P g.w= .ok .skip g'.w)(d:pP H g b g')(c:St g' b)(h:sJ g'):mN P o a g H oS b:=by
 intro K Q e;unfold Oper.wp;rw[f];exact e undef g' d h c Rd.undef
theorem Rd.i1{v:gZ}{t:T}(h:Rd g v t)(j:t.i1=true):DJ g v t:=by
 cases h with
 |int k n=>exact .int k n|bool b=>exact .bool b|str s=>exact .str s|fS=>exact .fS|fp=>exact .fp|ai c f p=>exact .ai c f p|ac c n f x b o d w u q m e i B z y=>exact .ac c n f x b o d w u q m e i B z y|gg=>exact .gg|gb=>exact .gb|fw=>exact .fw|_ =>cases j
theorem aIi{x c:T}(h:x.i2=true){j:Nat}(b:x.cells[j]? =some c):c.i1=true:=by
 cases x with
 |agg d=>exact aP.1 h c (bK b)
 |_ =>
  cases j with
  |zero=>simp[T.cells]at b;subst b;exact h|succ j=>simp[T.cells]at b
theorem Rd.je{v:gZ}{t:T}(h:Rd g v t):Rd g v (je t):=by
 cases h with
 |sl d z K b o q y w m D C M Q O N=>
  show Rd g _ (if z.all T.i2=true then T.ac d z.length (λi=>z.getD i oS)else T.sl d z);by_cases B:z.all T.i2=true;rw[aJ B];have L:∀i,i<z.length->∃x,z[i]? =some x/\z.getD i oS=x/\x∈z:=λi J=>⟨z[i],by simp[J],by simp[J],cC J⟩;refine .ac d z.length _ K b o q y (λhn=>w λe=>hn (by rw[e];rfl)) (λi J=> ?_) D C M Q O (λi j u c J hj hu V=> ?_);obtain⟨x,_,e,R⟩:=L i J;rw[e];exact m x R;obtain⟨x,U,e,R⟩:=L i J;simp only[e]at V;exact(N _ u c hu (KD m U j c V)).i1 (aIi (aP.1 B x R) V);rw[aH B];exact .sl d z K b o q y w m D C M Q O N
 |int k n=>exact .int k n|bool b=>exact .bool b|str s=>exact .str s|fS=>exact .fS|ptr l I h=>exact .ptr l I h|ref x I b o y w m D C=>exact .ref x I b o y w m D C|fp=>exact .fp|ai d f p=>exact .ai d f p|ac d n f K b o q y w m D C M Q O N=>exact .ac d n f K b o q y w m D C M Q O N|ge l K i len b o q p1 p2 Z W p5=>exact .ge l K i len b o q p1 p2 Z W p5|gg=>exact .gg|fn f a c y Y w m D C=>exact .fn f a c y Y w m D C|gb=>exact .gb|iface t v x U=>exact .iface t v x U|fw=>exact .fw|mp l h=>exact .mp l h|yl l h=>exact .yl l h|agg S y w m=>exact .agg S y w m|fm S y w m=>exact .fm S y w m
theorem TR{E:uW}{F:Fc}(hF:sD P E.gl F.ee)(hgl:gn E.gl g)(I:St g H)(D:sJ g){fr:gC}{a:Act}{o:Oper}{t:T}{H':Hp}
  (h:xW P E F H fr o=some (t,H')) (b:∀x∈o.op.operands,∀t,pQ E.gl fr x=some t->Rd g (a.eval x) t):mN P o a g H t H':=by
 obtain⟨dst,op,type,pos,after,guard⟩:=o;cases op<;>simp only[xW]at h<;>simp only[Op.operands]at b<;>try(cases h;done)
 case alloc e=>
  split at h;rename_i z Y;cases h;obtain⟨v,hv,R⟩:=GG (g:=g) Y;have hc:=R.cells;have W:v.cells.size=z.cells.length:=by rw[<-hc.1];simp
  refine yB (g':=g.own H.next (.cells v.cells e) 0) (v:= .pointer (some ⟨g.w.heap.size,0,none⟩)) ?_ (wY I _ _ _) ?_ (DF D _ _ _) (YH _ _ _);simp only[execOp,Instr.alloc,aW,hv,aL,newVar,newRow,run_newObj,bH];rfl;refine YI (o:={elem:=e,sz:=0,cells:=z.cells}) I D (by simp only;omega) (λ_ =>W) (λq=>absurd rfl q) ?_;simp only;rw[dC (by rw[hc.1];exact bB _)];exact hc;cases h
 case box e x=>
  split at h;rename_i y S;cases h;have R:=b x (by simp) y S;have hc:=R.cells;have W:(a.eval x).cells.size=y.cells.length:=by rw[<-hc.1];simp
  refine yB (g':=g.own H.next (.cells (a.eval x).cells e) 0) (v:= .pointer (some ⟨g.w.heap.size,0,none⟩)) ?_ (wY I _ _ _) ?_ (DF D _ _ _) (YH _ _ _);simp only[execOp,Instr.box,aW,aL,newVar,newRow,run_newObj,bH];rfl;refine YI (o:={elem:=e,sz:=0,cells:=y.cells}) I D (by simp only;omega) (λ_ =>W) (λq=>absurd rfl q) ?_;simp only;rw[dC (by rw[hc.1];exact bB _)];exact hc;cases h
 case buildSlice ty len parts=>
  split at h;rename_i l hl;split at h;rename_i e f xs hd hb;split at h;cases h;have V:=IW (g:=g) (a:=a) hl (λp V t ht=>b p.2 (by simp;exact⟨p.1,by simpa using V⟩) t ht);obtain⟨ca,e',B,J,_⟩:=DB hb V;have e1:(parts.map λx=>(x.1,a.eval x.2))=(parts.toList.map λp=>(p.1,a.eval p.2)).toArray:=by cases parts;simp
  exact yB (g':=g.add (.cells ca e')) (by simp only[execOp,aW,e1,B,aL,bH]) (g.ba _).bi (I.ad (g.ba _)) (g.ix D _) J.je;split at h;rename_i s hsz;cases h;have V:=IW (g:=g) (a:=a) hl (λp V t ht=>b p.2 (by simp;exact⟨p.1,by simpa using V⟩) t ht);obtain⟨ca,e',B,_,xs',s',R,hd',hs',h0,hsm,hfl,Z⟩:=DB hb V;cases R;rw[hd]at hd';cases hd';rw[hsz]at hs';cases hs';have hca:ca.size=len*s:=by rw[<-hfl,<-Z.1];simp
  have e1:(parts.map λx=>(x.1,a.eval x.2))=(parts.toList.map λp=>(p.1,a.eval p.2)).toArray:=by cases parts;simp
  have hle:len<=len*s:=Nat.le_mul_of_pos_right _ h0;refine yB (g':=g.own H.next (.cells ca e) len) (v:= .slice (some ⟨g.w.heap.size,0,none⟩) len len) ?_ (wY I _ _ _) ?_ (DF D _ _ _) ?_;simp only[execOp,aW,e1,B,aL,bH];rfl;refine YI (o:={elem:=e,sz:=s,cells:=xs.flatMap T.cells}) I D (by simp only[hfl,hca];omega) (λq=>by simp only at q;omega) (λ_ =>⟨hca,by simp only[maxLen];omega⟩) ?_;simp only[hfl];rw[dC (by simp[hca])];exact Z;exact .ge H.next s 0 len g.w.heap.size 0 len (.inr rfl) (bB _) (by simp[G.own]) (λ_ =>by simp[G.own]) (λ_ =>by simp[G.own]);cases h;cases h;cases h
 case store e p x=>
  split at h;rename_i q y O S;split at h;rename_i H1 C;cases h;obtain⟨d,B,J,L,M⟩:=aLy (P:=P) I C (b p (by simp) q O) (b x (by simp) y S);exact NW (g':=d) (by simp only[execOp,aW,B,aL,bH]) J L (M D);cases h;cases h
 case makeSlice e l c=>
  split at h;rename_i n m hn hm;obtain⟨q,d,B,J,L,M,h5⟩:=aRq (P:=P) I D h (b l (by simp) n hn) (b c (by simp) m hm);exact yB (g':=d) (v:=q) (by simp only[execOp,aW,B,aL,bH]) J L M h5;cases h
 case makeMap e r=>
  split at h;rename_i hh R;split at h;rename_i hok;cases h;have hro:kr g (r.map a.eval) hh:=by
   cases r with
   |none=>simp[OP]at R;subst R;trivial
   |some y=>
    simp only[OP]at R;split at R;rename_i z Y;cases R;exact b y (by simp) z Y;cases R
  refine yB (g':=g.own H.next (.map #[] 0) 0) (v:= .map (some g.w.heap.size)) ?_ (wY I _ _ _) (aSk I D e) (DF D _ _ _) ?_;simp only[execOp,aW,Ok (P:=P) (g:=g) (H:=H) hok hro,aL,bH];have:=Rd.mp (g:=g.own H.next (.map #[] 0) 0) H.next (.inr rfl);simpa [G.own]using this;cases h;cases h
 case mapUpdate e m k x=>
  split at h;rename_i q y z O S Y;split at h;rename_i H1 C;cases h;obtain⟨d,B,J,L,M⟩:=aMs (P:=P) I C (b m (by simp) q O) (b k (by simp) y S) (b x (by simp) z Y);exact NW (g':=d) (by simp only[execOp,aW,B,aL,bH]) J L (M D);cases h;cases h
 case insert e m k x=>
  split at h;rename_i q y z O S Y;split at h;rename_i H1 C;cases h;obtain⟨d,B,J,L,M⟩:=aMs (P:=P) I C (b m (by simp) q O) (b k (by simp) y S) (b x (by simp) z Y);exact NW (g':=d) (by simp only[execOp,aW,B,aL,bH]) J L (M D);cases h;cases h
 case mapEntry e m k=>
  split at h;rename_i q y O S;obtain⟨u,d,B,J,L,M,h5⟩:=aHc (P:=P) I h (b m (by simp) q O) (b k (by simp) y S);exact yB (g':=d) (v:=u) (by simp only[execOp,aW,B,aL,bH]) J L (M D) h5;cases h
 case entryStore e m s x=>
  split at h;rename_i q y z O S Y;split at h;rename_i H1 C;cases h;obtain⟨d,B,J,L,M⟩:=ZX (P:=P) I C e (b m (by simp) q O) (b s (by simp) y S) (b x (by simp) z Y);exact NW (g':=d) (by simp only[execOp,aW,B,aL,bH]) J L (M D);cases h;cases h
 case call c=>
  obtain⟨callee,j,U⟩:=c;simp only[Call.operands]at b;simp only at h;split at h;rename_i f;split at h;rename_i k first cap hf
  split at h;rename_i ars has;obtain⟨vs,us,hv,hr1,hr2⟩:=(b f (by simp) _ hf).cx;have L:=wS (g:=g) (a:=a) has (λx hx=>b x (by simp at hx;simp[hx]));obtain⟨hk,hc⟩:=hF k _ H t H' h;have hcall:=hc g _ D I hgl ((hr1.append L).append hr2);intro K Q hK;have hrun:(execOp a.eval {dst,op:= .call ⟨.value f,j,U⟩,type,pos,after,guard}).run P g.w= .ok (.enter k (vs++j.toList.map a.eval++us).toArray) g.w:=by
   simp only[execOp,resolve,hv,Deferred.ofValue,aW,bH,aL,invoke,sF];rw[RF hk];simp
  unfold Oper.wp;rw[hrun];exact hcall.mono λe w' ⟨v,d,he,hw,hst,hok,hst',Z⟩=>by
   subst he;subst hw;exact hK v d hst hok hst' Z
  cases h;cases h;split at h;rename_i m k t0 ts i N;split at h;rename_i p q V O;split at h;rename_i H1 C;cases h;have e1:j= #[m,k]:=by cases j;simp at i;simp[i]
  have e2:U[0]? =some t0:=by rw[<-dW,N];rfl
  subst e1;obtain⟨d,B,J,L,M⟩:=aXr (P:=P) I C (b m (by simp) p V) (b k (by simp) q O) U e2 type;exact yB (g':=d) (v:= .tuple #[]) (by simp[execOp,resolve,invoke,builtin,B]) J L (M D) Rd.undef;cases h;cases h;cases h;split at h;rename_i s x t0 t1 i N;split at h;rename_i p q V O;have e1:j= #[s,x]:=by cases j;simp at i;simp[i]
  have e2:U= #[t0,t1]:=by cases U;simp at N;simp[N]
  subst e1;subst e2;obtain⟨u,d,B,J,L,M,h5⟩:=aOe (P:=P) (ty:=type) I D h (b s (by simp) p V) (b x (by simp) q O);exact yB (g':=d) (v:=u) (by simp[execOp,resolve,invoke,builtin,B]) J L M h5;cases h;cases h;cases h
end
end
def EX(g:G)(a:Act)(f:gC)(b:jC):Prop:=
 a.tmps.size=f.length/\∀(j:Nat) (v:gZ) (c:T),b≠some j->a.tmps[j]? =some v->f[j]? =some c->Rd g v c
theorem EX.of{g:G}{a:Act}{f:gC}(h:fv g a.tmps.toList f)(b:jC):EX g a f b:=⟨by simpa using h.1,λj v c _ d e=>h.2 j v c (by simpa using d) e⟩
theorem EX.all{g:G}{a:Act}{f:gC}(h:EX g a f none):fv g a.tmps.toList f:=⟨by simpa using h.1,λj v c b d=>h.2 j v c (by simp) (by simpa using b) d⟩
section
variable{g:G}{a:Act}{fr:gC}{sk:jC}
theorem EX.get(h:EX g a fr sk){t:Tmp}(d:sk≠some t):Rd g (a.tmps.getD t undef) (rW fr t):=by
 rw[uG];by_cases c:t<fr.length;have b:t<a.tmps.size:=by rw[h.1];exact c
 have:=h.2 t (a.tmps[t]'b) (fr[t]'c) d (by simp[b]) (by simp[c]);simpa [c,b]using this;have b:¬t<a.tmps.size:=by rw[h.1];exact c
 have f:a.tmps.getD t undef=undef:=by simp[dD (cQ b)]
 have e:fr.getD t oS=oS:=by simp[cA (cQ c)]
 rw[f,e];exact Rd.undef
theorem EX.eval{gl:gG}(h:EX g a fr sk)(c:gn gl g){x:jH}(d:∀t,x= .tmp t->sk≠some t){r:T}(b:pQ gl fr x=some r):Rd g (a.eval x) r:=by
 cases x with
 |tmp t=>simp only[pQ,aI]at b;subst b;exact h.get (d t rfl)|const v=>exact EN g b|global k=>exact(c k r b).1|func f=>simp only[pQ,aI]at b;subst b;exact Rd.bx fv.nil fv.nil
theorem EX.put(h:EX g a fr sk){f:jC}{v:gZ}{t:T}(m:Rd g v t):EX g (a.put f v) (pW fr f t) sk:=by
 cases f with
 |none=>exact h
 |some d=>
  refine⟨by simp[Act.put,pW,h.1],λj u c k b e=> ?_⟩;simp only[Act.put,pW]at b e;rw[Array.getElem?_setIfInBounds]at b;rw[dM]at e;by_cases i:d=j;rw[aJ i]at b e;split at b;split at e;cases b;cases e;exact m;cases e;cases b;rw[aH i]at b e;exact h.2 j u c k b e
theorem EX.step{b:G}(h:EX g a fr sk)(f:∀v t,Rd g v t->Rd b v t):EX b a fr sk:=⟨h.1,λj v c d e i=>f _ _ (h.2 j v c d e i)⟩
theorem EX.skip(h:EX g a fr none)(d:Tmp):EX g a fr (some d):=⟨h.1,λj v c _ b e=>h.2 j v c (by simp) b e⟩
theorem Wc{o:gF}(h:EX g a fr sk)(j:Nat)(m:∀d,(o[j]?).bind (·.dst)=some d->sk≠some d):yielded o a.tmps j=AJ o fr j:=by
 unfold yielded AJ;cases hd:(o[j]?).bind (·.dst)with
 |none=>rfl
 |some d=>
  simp only[eD];have f:=m d hd;by_cases e:d<fr.length;have b:d<a.tmps.size:=by rw[h.1];exact e
  have i:a.tmps[d]? =some a.tmps[d]:=by simp[b]
  have k:fr[d]? =some fr[d]:=by simp[e]
  have:=h.2 d _ _ f i k;rw[i,k];generalize a.tmps[d]=u at this;generalize fr[d]=c at this;cases this<;>rfl;have b:¬d<a.tmps.size:=by rw[h.1];exact e
  rw[dD (cQ b),cA (cQ e)]
theorem wX{b:gF}{o:Oper}{t:Tmp}(h:(Operand.tmp t)∈o.op.operands):t∈o.looksAt b:=by
 unfold Oper.looksAt;refine bZ.2 (.inl ?_);exact fE.2 ⟨.tmp t,by simpa using h,rfl⟩
theorem wJ{b:gF}{o:Oper}{j:Nat}{w:Bool}(c:o.guard=some (j,w)){d:Tmp}(h:(b[j]?).bind (·.dst)=some d):d∈o.looksAt b:=by
 unfold Oper.looksAt;refine bZ.2 (.inr ?_);rw[c];simp[h]
theorem Fa{b:gF}(h:EX g a fr sk){o:Oper}(c:∀d∈o.looksAt b,sk≠some d):Region.wanted o (yielded b a.tmps)=pX b fr o:=by
 unfold Region.wanted pX;cases hg:o.guard with
 |none=>rfl
 |some p=>
  obtain⟨j,w⟩:=p;simp only;rw[Wc h j (λd e=>c d (wJ hg e))]
end
def HF(P:gD)(e g:G)(H:Hp)(a:Act)(d:Tmp)(t:gB):Prop:=
 ∃(b:Nat) (c:hP),a.tmps[d]? =some (.pointer (some ⟨b,0,none⟩))/\e.w.heap.size<=b/\¬g.S b/\(∀l o,H.any l=some o->g.loc l≠b)/\g.w.heap[b]? =some (.cells c t (0,0))/\uI P t=some c.size
structure Inv(P:gD)(E:uW)(g0:G)(H0:Hp)(g:G)(a:Act)(s:Fx):Prop where
 ok:sJ g
 st:St g s.H
 gl:gn E.gl g
 df:a.defers=[]
 fr:EX g a s.fr (s.fq.map (·.1))
 pd:∀d t,s.fq=some (d,t)->HF P g0 g s.H a d t
 step:pP H0 g0 s.H g
theorem HF.ad{P:gD}{i g j:G}{H:Hp}{a:Act}{d:Tmp}{t:gB}(h:HF P i g H a d t)(e:fx g j):HF P i j H a d t:=by
 obtain⟨b,k,p,n,m,u,f,y⟩:=h;have c:b<g.w.heap.size:=(aX.1 f).1;exact⟨b,k,p,n,λq=>(e.fresh b q).elim m (λq=>by omega),λl o x=>by rw[e.loc];exact u l o x,by rw[e.block b c];exact f,y⟩
theorem HF.af{P:gD}{p g u:G}{H n:Hp}{a:Act}{d:Tmp}{t:gB}(h:HF P p g H a d t)(k:pP H g n u):HF P p u n a d t:=by
 obtain⟨b,x,B,z,y,c,m,I⟩:=h;have f:b<g.w.heap.size:=(aX.1 m).1;refine⟨b,x,B,z,λq=> ?_,λl o D e=> ?_,by rw[k.block b f c];exact m,I⟩;rcases k.fresh b q with q|q|⟨l,o,j,i⟩;exact y q;omega;exact c l o j i;rcases k.live l o D with⟨J,C,j,i⟩|q
 exact c J C j (i.trans e);omega
theorem HF.put{P:gD}{i g:G}{H:Hp}{a:Act}{d:Tmp}{t:gB}(h:HF P i g H a d t){c:jC}(m:c≠some d)(v:gZ):HF P i g H (a.put c v) d t:=by
 obtain⟨b,j,f,k⟩:=h;refine⟨b,j,?_,k⟩;cases c with
 |none=>exact f
 |some e=>
  have:e≠d:=λq=>m (by rw[q]);simp only[Act.put,bT this];exact f
theorem sY(a:Act)(d:jC)(v:gZ):(a.put d v).defers=a.defers:=by cases d<;>rfl
section
variable{P:gD}{E:uW}{F:Fc}{g0 g:G}{H0:Hp}{a:Act}{s:Fx}
theorem Inv.iz(h:Inv P E g0 H0 g a s){f:G}(e:fx g f)(i:sJ f){b:jC}{v:gZ}{t:T}(k:Rd f v t)(m:∀d,s.fq.map (·.1)=some d->b≠some d):
  Inv P E g0 H0 f (a.put b v) {s with fr:=pW s.fr b t}:=
 ⟨i,h.st.ad e,h.gl.ad e,by rw[sY];exact h.df,(h.fr.step λ_ _ q=>q.ad e).put k,λd j c=>((h.pd d j c).ad e).put (m d (by rw[c];rfl)) v,h.step.trans e.bi⟩
theorem Inv.dO(h:Inv P E g0 H0 g a s){e:G}{k:Hp}(f:pP s.H g k e)(i:sJ e)(j:St e k){b:jC}{v:gZ}{t:T}(n:Rd e v t)(o:∀d,s.fq.map (·.1)=some d->b≠some d):
  Inv P E g0 H0 e (a.put b v) {s with fr:=pW s.fr b t,H:=k}:=
 ⟨i,j,h.gl.af h.st f,by rw[sY];exact h.df,(h.fr.step λ_ _ q=>q.af h.st f).put n,λd m c=>((h.pd d m c).af f).put (o d (by rw[c];rfl)) v,h.step.trans f⟩
theorem yF{b:gF}{o:Oper}{d:Tmp}(h:rQ b o d=false):d∉o.looksAt b/\o.dst≠some d:=by
 simp only[rQ,fI]at h;exact⟨by simpa using h.1,by simpa using h.2⟩
theorem Lh(h:sJ g){H:Hp}(m:St g H)(j:g0.w.heap.size<=g.w.heap.size){o:Oper}{t:gB}{d:Tmp}{n:Nat}{z:T}(D:o.op= .alloc t)(f:o.dst=some d)(J:uI P t=some n)(y:wM P t=some z)(k:z.cells.length=n)(p:d<a.tmps.size)
  {K:iJ} {Q:gJ} (C:∀c v,fx g c->sJ c->HF P g0 c H (a.put o.dst v) d t->K (a.put o.dst v) c.w):o.wp P a g.w K Q:=by
 obtain⟨v,u,B⟩:=GG (g:=g) y
 let c:G:={g with w:={g.w with heap:=g.w.heap.push (.cells v.cells t)}}
 have x:fx g c:=⟨rfl,rfl,rfl,by simp[c],λb j=>by simp only[c];rw[fN,aH (by omega)],λ_ q=>q,λ_ q=> .inl q,rfl,rfl,rfl⟩;have i:sJ c:=λb j=>by have:=h b j;simp only[c,Array.size_push];omega
 have e:(execOp a.eval o).run P g.w= .ok (.value (.pointer (some ⟨g.w.heap.size,0,none⟩))) c.w:=by
  simp only[execOp,D,Instr.alloc,aW,u,aL,newVar,newRow,run_newObj,bH];rfl
 unfold Oper.wp;rw[e];show K (a.put o.dst (.pointer (some ⟨g.w.heap.size,0,none⟩))) c.w;have L:=B.cells;refine C c _ x i ⟨g.w.heap.size,v.cells,?_,j,λq=> ?_,λl M I=> ?_,?_,?_⟩;simp only[f,Act.put];rw[dH,aJ p];exact absurd (h _ q) (by omega);have:=m.lt I;show g.loc l≠_;omega;simp only[c];exact Array.getElem?_push_size;rw[J,<-k,<-L.1];simp
theorem Rz(h:Inv P E g0 H0 g a s)(x:s.fq=none){o:Oper}{t:gB}{d:Tmp}{n:Nat}{z:T}(O:o.op= .alloc t)(b:o.dst=some d)(R:uI P t=some n)(M:wM P t=some z)(B:z.cells.length=n)(L:d<s.fr.length)
  {K:iJ} {Q:gJ} (N:∀D k,fx g k->Inv P E g0 H0 k D {s with fr:=s.fr.set d oS,fq:=some (d,t)}->K D k.w):o.wp P a g.w K Q:=by
 have m:EX g a s.fr none:=by have:=h.fr;rw[x]at this;exact this
 have e:a.tmps.size=s.fr.length:=m.1;refine Lh h.ok h.st h.step.size O b R M B (by rw[e];exact L) (λk v i p y=>N _ k i ⟨p,h.st.ad i,h.gl.ad i,by rw[sY];exact h.df,?_,λU S q=> ?_,h.step.trans i.bi⟩);refine⟨by simp[b,Act.put,e],λj u c J I C=> ?_⟩;have f:d≠j:=λq=>J (by simp[q]);simp only[b,Act.put,bT f]at I;simp only[dE f]at C;exact(m.2 j u c (by simp) I C).ad i;simp only[aI,bF]at q;obtain⟨rfl,rfl⟩:=q;exact y
theorem Qp{H:Hp}(hok:sJ g)(J:St g H)(V:gn E.gl g)(m:pP H0 g0 H g){o:Oper}{t:gB}{d:Tmp}{x:jH}{y:T}{n:Nat}(hpd0:HF P g0 g H a d t)(ho:o.op= .store t (.tmp d) x)(hdst:o.dst=none)(hr:Rd g (a.eval x) y)(hn:uI P t=some n)(hyl:y.cells.length=n)(h1:qO y.cells=true)
  {K:iJ} {Q:gJ} (hK:∀h,(∀v t,Rd g v t->Rd h v t)->sJ h->St h H->gn E.gl h->pP H0 g0 H h->(∀v,a.tmps[d]? =some v->Rd h v (.ref y 0))->K a h.w):o.wp P a g.w K Q:=by
 obtain⟨b,U,p1,p2,p3,p4,p5,p6⟩:=hpd0;have Z:=hr.cells;rw[hn]at p6;have hcs:U.size=n:=by simpa using p6.symm
 have hvs:(a.eval x).cells.size=n:=by rw[<-hyl,<-Z.1];simp
 have hlt:b<g.w.heap.size:=(aX.1 p5).1;have hst:=run_storeCells_at (P:=P) b 0 t (a.eval x).cells.toList 0 U g.w p5 (by simp;omega) (RI Z h1);have hall:(U.toList.take (0+0)++(a.eval x).cells.toList++U.toList.drop (0+0+(a.eval x).cells.toList.length)).toArray=(a.eval x).cells:=by
  have:U.toList.drop (0+0+(a.eval x).cells.toList.length)=[]:=eF (by simp;omega);rw[this];simp
 rw[hall]at hst
 let h:G:={g with w:=g.w.setRow b (a.eval x).cells,S:=λk=>g.S k\/k=b}
 have B:∀k,k≠b->h.w.heap[k]? =g.w.heap[k]? :=λk hk=>setRow_other _ _ _ _ hk;have hbb:h.w.heap[b]? =some (.cells (a.eval x).cells t (0,0)):=setRow_heap _ _ _ _ _ _ p5;have D:∀k o v,g.S k->g.w.cell? ⟨k,o,none⟩=some v->h.w.cell? ⟨k,o,none⟩=some v:=λk o v hk M=>
  (World.cell?_of_block (w:=g.w) (a:=⟨k,o,none⟩) (B k (λe=>p3 (e▸hk)))).trans M
 have keep:∀v t,Rd g v t->Rd h v t:=by
  intro v t M
  induction M with
  |int k n=>exact .int k n|bool b=>exact .bool b|str s=>exact .str s|fS=>exact .fS|ptr l off z=>exact .ptr (g:=h) l off z|ref x off b o O W C Z _ R=>exact .ref x off b o O (.inl W) C (λj v M=>D _ _ _ W (Z j v M)) R|fp=>exact .fp|ai I f p=>exact .ai I f p
  |sl I xs sz b o Y O W hsz N q2 q3 C Z _ R=>
   refine .sl I xs sz b o Y O (λhx=> .inl (W hx)) hsz N q2 q3 C (λj v M=> ?_) R;have hx:xs≠[]:=by
    rintro rfl;simp at C;subst C;simp at M
   exact D _ _ _ (W hx) (Z j v M)
  |ac I n f sz b o Y O h1 h2 h3 h4 h5 h6 h7 h8=>exact Rd.ay (g:=g) (g':=h) (λ_ q=>Or.inl q) D h1 h2 h3 h4 h5 h6 h7 h8|ge l sz i len b o Y z N q2 q3 q4=>exact .ge (g:=h) l sz i len b o Y z N q2 q3 q4|gg=>exact .gg|fn f first L O us N _ q2 _ ih1 ih2=>exact .fn f first L O us N ih1 q2 ih2
  |gb=>exact .gb|iface t v x _ R=>exact .iface t v x R|fw=>exact .fw|mp l z=>exact .mp (g:=h) l z|yl l z=>exact .yl (g:=h) l z|agg U O N _ R=>exact .agg U O N R|fm U O N _ R=>exact .fm U O N R
 have hpd:a.eval (.tmp d)= .pointer (some ⟨b,0,none⟩):=by simp[Act.eval,p1]
 obtain⟨i,hi,hin⟩:∃i,P.info? t=some i/\i.size=n:=by simpa [uI]using hn
 have hrun:(execOp a.eval o).run P g.w= .ok .skip h.w:=by
  simp[execOp,ho,Instr.storeAt,hpd,Instr.sureAddr,storeVar,sizeOf,typeInfo,hi,hin,hvs,hst,h]
 unfold Oper.wp;rw[hrun];show K (a.put o.dst undef) h.w;rw[hdst];show K a h.w;refine hK h keep (λk hk=> ?_) ⟨λl ob z=> ?_,λl ob kc z hme=> ?_,λl l' q q' e1 e2 e3=>J.sep l l' q q' e1 e2 e3,λl z=>J.new l z⟩ (λk r hk=>⟨keep _ _ (V k r hk).1,.inl (V k r hk).2.1,by rw[B k (λe=>p3 (e▸(V k r hk).2.1))];exact(V k r hk).2.2⟩) ?_ (λv M=> ?_);have:h.w.heap.size=g.w.heap.size:=by simp[h,World.setRow]
 rw[this];rcases hk with hk|hk
 exact hok k hk;omega;obtain⟨ha,W,c0,hb,N,q2,q3,q4⟩:=J.own l ob z;refine⟨ha,λq=>q.elim W (p4 l ob (pD z).1),c0,?_,N,q2,q3,⟨q4.1,λj v c M Z=>keep _ _ (q4.2 j v c M Z)⟩⟩;rw[B _ (p4 l ob (pD z).1)];exact hb;obtain⟨ha,W,ms,hb,N⟩:=J.ap l ob kc z hme;refine⟨ha,λq=>q.elim W (p4 l ob z),ms,?_,N.mono keep (λl z=>⟨z,rfl⟩)⟩;rw[B _ (p4 l ob z)];exact hb;refine⟨m.os,m.tape,m.output,by simp[h,World.setRow];exact m.size,λk hk hno=> ?_,λk hk=> .inl (m.sub k hk),λk hk=> ?_,m.al,m.loc,m.cp,m.live⟩;rw[B k (by omega)];exact m.block k hk hno;rcases hk with hk|hk;exact m.fresh k hk;exact .inr (.inl (by omega));rw[p1]at M;cases M;have hc':=(keep _ _ hr).cells;exact .ref y 0 b 0 (a.eval x).cells.toList (.inr rfl) hc'.1 (λk u hu=>by simp[World.cell?,hbb]at hu⊢;exact hu) hc'.2
theorem Vt(h:Inv P E g0 H0 g a s){o:Oper}{t:gB}{d:Tmp}{x:jH}{y:T}{n:Nat}(i:s.fq=some (d,t))(V:o.op= .store t (.tmp d) x)(m:o.dst=none)(M:zE x d=true)(O:pQ E.gl s.fr x=some y)(W:uI P t=some n)(C:y.cells.length=n)(S:qO y.cells=true)
  {K:iJ} {Q:gJ} (U:∀L z,Inv P E g0 H0 z L {s with fr:=s.fr.set d (.ref y 0),fq:=none}->K L z.w):o.wp P a g.w K Q:=by
 have f:EX g a s.fr (some d):=by have:=h.fr;rw[i]at this;exact this
 have R:Rd g (a.eval x) y:=f.eval h.gl (λk e=>by subst e;simp only[zE,bne_iff_ne]at M;intro q;cases q;exact M rfl) O;refine Qp h.ok h.st h.gl h.step (h.pd d t i) V m R W C S (λz keep B D J I N=>U a z ⟨B,D,J,h.df,?_,λZ Y q=>by simp at q,I⟩);refine⟨by simp[f.1],λj v c _ p b=> ?_⟩;rw[dM]at b;by_cases u:d=j;rw[aJ u]at b;split at b;cases b;subst u;exact N v p;cases b;rw[aH u]at b;exact keep _ _ (f.2 j v c (by simpa using u) p b)
theorem aDu(h:Inv P E g0 H0 g a s){o:Oper}{t:gB}{d:Tmp}{x:jH}{y:T}{n:Nat}(hpn:s.fq=some (d,t))(ho:o.op= .store t (.tmp d) x)(hdst:o.dst=none)(hx:zE x d=true)(hy:pQ E.gl s.fr x=some y)(hn:uI P t=some n)(hyl:y.cells.length=n)(h1:qO y.cells=true)
  {K:iJ} {Q:gJ} (hK:∀a' z,Inv P E g0 H0 z a' {fr:=s.fr.set d (.ptr s.H.next 0),H:=s.H.new {elem:=t,sz:=0,cells:=y.cells},fq:=none}->K a' z.w):o.wp P a g.w K Q:=by
 obtain⟨b,cs,p1,p2,p3,p4,p5,p6⟩:=h.pd d t hpn;have hfr:EX g a s.fr (some d):=by have:=h.fr;rw[hpn]at this;exact this
 have hr:Rd g (a.eval x) y:=hfr.eval h.gl (λk e=>by subst e;simp only[zE,bne_iff_ne]at hx;intro q;cases q;exact hx rfl) hy;have hc:=hr.cells;rw[hn]at p6;have hcs:cs.size=n:=by simpa using p6.symm
 have hvs:(a.eval x).cells.size=n:=by rw[<-hyl,<-hc.1];simp
 have hlt:b<g.w.heap.size:=(aX.1 p5).1;have hst:=run_storeCells_at (P:=P) b 0 t (a.eval x).cells.toList 0 cs g.w p5 (by simp;omega) (RI hc h1);have hall:(cs.toList.take (0+0)++(a.eval x).cells.toList++cs.toList.drop (0+0+(a.eval x).cells.toList.length)).toArray=(a.eval x).cells:=by
  have:cs.toList.drop (0+0+(a.eval x).cells.toList.length)=[]:=eF (by simp;omega);rw[this];simp
 rw[hall]at hst
 let z:G:={w:=g.w.setRow b (a.eval x).cells,S:=g.S,al:=λl=>g.al l\/l=s.H.next,loc:=λl=>if l=s.H.next then b else g.loc l,cp:=g.cp}
 have hnl:∀l,g.al l->l≠s.H.next:=λl u e=>h.st.new l (by omega) u;have m:∀l,g.al l->z.loc l=g.loc l:=λl u=>aH (hnl l u);have D:∀k,k≠b->z.w.heap[k]? =g.w.heap[k]? :=λk Y=>setRow_other _ _ _ _ Y;have hbb:z.w.heap[b]? =some (.cells (a.eval x).cells t (0,0)):=setRow_heap _ _ _ _ _ _ p5;have N:∀k o v,g.S k->g.w.cell? ⟨k,o,none⟩=some v->z.w.cell? ⟨k,o,none⟩=some v:=λk o v Y L=>
  (World.cell?_of_block (w:=g.w) (a:=⟨k,o,none⟩) (D k (λe=>p3 (e▸Y)))).trans L
 have keep:∀v t,Rd g v t->Rd z v t:=by
  intro v t L
  induction L with
  |int k n=>exact .int k n|bool b=>exact .bool b|str s=>exact .str s|fS=>exact .fS|ptr l off u=>rw[<-m l u];exact .ptr (g:=z) l off (.inl u)|ref x off b o vs hS J hc _ ih=>exact .ref x off b o vs hS J (λj v L=>N _ _ _ hS (hc j v L)) ih|fp=>exact .fp|ai O f p=>exact .ai O f p
  |sl O xs sz b o cap vs hS hsz V q2 q3 J hc _ ih=>
   refine .sl O xs sz b o cap vs hS hsz V q2 q3 J (λj v L=> ?_) ih;have hx:xs≠[]:=by
    rintro rfl;simp at J;subst J;simp at L
   exact N _ _ _ (hS hx) (hc j v L)
  |ac O n f sz b o cap vs h1 h2 h3 h4 h5 h6 h7 h8=>exact Rd.ay (g:=g) (g':=z) (λ_ q=>q) N h1 h2 h3 h4 h5 h6 h7 h8|ge l sz i len b o cap u V q2 q3 q4=>exact .ge (g:=z) l sz i len b o cap (.inl u) V q2 (λq=>by rw[m l u];exact q3 q) q4|gg=>exact .gg|fn f first U vs us V _ q2 _ ih1 ih2=>exact .fn f first U vs us V ih1 q2 ih2
  |gb=>exact .gb|iface t v x _ ih=>exact .iface t v x ih|fw=>exact .fw|mp l u=>rw[<-m l u];exact .mp (g:=z) l (.inl u)|yl l u=>rw[<-m l u];exact .yl (g:=z) l (.inl u)|agg cs vs V _ ih=>exact .agg cs vs V ih|fm cs vs V _ ih=>exact .fm cs vs V ih
 have hpd:a.eval (.tmp d)= .pointer (some ⟨b,0,none⟩):=by simp[Act.eval,p1]
 obtain⟨i,hi,hin⟩:∃i,P.info? t=some i/\i.size=n:=by simpa [uI]using hn
 have hrun:(execOp a.eval o).run P g.w= .ok .skip z.w:=by
  simp[execOp,ho,Instr.storeAt,hpd,Instr.sureAddr,storeVar,sizeOf,typeInfo,hi,hin,hvs,hst,z]
 unfold Oper.wp;rw[hrun];show K (a.put o.dst undef) z.w;rw[hdst];show K a z.w;have hsz:z.w.heap.size=g.w.heap.size:=by simp[z,World.setRow]
 have B:∀l M,(s.H.new {elem:=t,sz:=0,cells:=y.cells}).any l=some M->(l=s.H.next/\M={elem:=t,sz:=0,cells:=y.cells})\/(l≠s.H.next/\s.H.any l=some M):=by
  intro l M u;rw[rN]at u;split at u;rename_i e;cases u;exact .inl ⟨e.symm,rfl⟩;rename_i e;exact .inr ⟨λq=>e q.symm,u⟩
 have R:z.loc s.H.next=b:=aJ rfl;refine hK a z ⟨λk Y=>by rw[hsz];exact h.ok k Y,⟨λl M u=> ?_,λl M kc u hme=> ?_,λl l' q q' e1 e2 e3=> ?_,λl u=> ?_⟩,λk r Y=>⟨keep _ _ (h.gl k r Y).1,(h.gl k r Y).2.1,by rw[D k (λe=>p3 (e▸(h.gl k r Y).2.1))];exact(h.gl k r Y).2.2⟩,h.df,?_,λd' t' q=>by simp at q,?_⟩;rcases B l M (pD u).1 with⟨rfl,rfl⟩|⟨hne,I⟩
 have hc':fv z (a.eval x).cells.toList y.cells:=⟨hc.1,λj v c L C=>keep _ _ (hc.2 j v c L C)⟩;refine⟨.inr rfl,by rw[R];exact p3,(a.eval x).cells,by rw[R];exact hbb,?_,λ_ => ?_,λq=>absurd rfl q,?_⟩;show y.cells.length<=_;omega;show _ =y.cells.length;omega;have:(a.eval x).cells.toList.take y.cells.length=(a.eval x).cells.toList:=dC (by simp;omega);show fv z ((a.eval x).cells.toList.take y.cells.length) y.cells;rw[this];exact hc';obtain⟨ha,hS,c0,hb,V,q2,q3,q4⟩:=h.st.own l M (yA I (pD u).2);have e:=m l ha;refine⟨.inl ha,by rw[e];exact hS,c0,?_,V,q2,q3,⟨q4.1,λj v c L hc=>keep _ _ (q4.2 j v c L hc)⟩⟩;rw[e,D _ (p4 l M I)];exact hb;rcases B l M u with⟨rfl,rfl⟩|⟨hne,I⟩
 cases hme;obtain⟨ha,hS,ms,hb,V⟩:=h.st.ap l M kc I hme;have e:=m l ha;refine⟨.inl ha,by rw[e];exact hS,ms,?_,V.mono keep (λl u=>⟨.inl u,m l u⟩)⟩;rw[e,D _ (p4 l M I)];exact hb;rcases B l q e1 with⟨rfl,rfl⟩|⟨hne,e1'⟩
 rcases B l' q' e2 with⟨rfl,rfl⟩|⟨hne',Z⟩
 rfl;rw[R,m l' (h.st.at_ Z).1]at e3;exact absurd e3.symm (p4 l' q' Z);rcases B l' q' e2 with⟨rfl,rfl⟩|⟨hne',Z⟩
 rw[R,m l (h.st.at_ e1').1]at e3;exact absurd e3 (p4 l q e1');rw[m l (h.st.at_ e1').1,m l' (h.st.at_ Z).1]at e3;exact h.st.sep l l' q q' e1' Z e3;rintro(ha|ha);exact h.st.new l (by simp only[Hp.new]at u;omega) ha;simp only[Hp.new]at u;omega;refine⟨by simp[hfr.1],λj v c _ L C=> ?_⟩;rw[dM]at C;by_cases hj:d=j;rw[aJ hj]at C;split at C;cases C;subst hj;rw[p1]at L;cases L;rw[<-R];exact .ptr (g:=z) s.H.next 0 (.inr rfl);cases C;rw[aH hj]at C;exact keep _ _ (hfr.2 j v c (by simpa using hj) L C);have W:=h.step;refine⟨W.os,W.tape,W.output,by rw[hsz];exact W.size,λk Y hno=> ?_,W.sub,W.fresh,λl u=> .inl (W.al l u),λl u=>by rw[m l (W.al l u)];exact W.loc l u,W.cp,λl M u=> ?_⟩;rw[D k (by omega)];exact W.block k Y hno;rcases B l M u with⟨rfl,rfl⟩|⟨hne,I⟩
 exact .inr (by rw[R];omega);rw[m l (h.st.at_ I).1];exact W.live l M I
theorem NB{o:Oper}{d:Tmp}{t:gB}(h:wA F o=some (d,t)):o.op= .alloc t/\o.dst=some d:=by
 unfold wA at h;split at h;rename_i f c;split at h;rename_i e b;split at h;cases h;cases h;exact⟨c,b⟩;cases h;cases h
theorem ZJ(hE:rV P E.gl E.pe)(hF:sD P E.gl F.ee){b:gF}{o:Oper}{s':Fx}(h:Inv P E g0 H0 g a s)(c:wL P E F b s o=some s'){i:Nat}(hi:b[i]? =some o)
  {K:iJ} {Q:gJ} (D:∀L m,Inv P E g0 H0 m L s'->K L m.w):wpOp P b Q i K a g.w:=by
 unfold wpOp;rw[hi];simp only;have plain:(∀d,s.fq.map (·.1)=some d->d∉o.looksAt b/\o.dst≠some d)->vP P E F b s o=some s'->
   (if Region.wanted o (yielded b a.tmps)=true then o.wp P a g.w K Q\/o.asks P a g.w/\LetsOut Q else K (a.put o.dst undef) g.w):=by
  intro Y j;unfold vP at j;have R:∀d∈o.looksAt b,s.fq.map (·.1)≠some d:=λd hd q=>(Y d q).1 hd;rw[Fa h.fr R];have W:∀x∈o.op.operands,∀t,pQ E.gl s.fr x=some t->Rd g (a.eval x) t:=λx hx t S=>
   h.fr.eval h.gl (λk e=>by subst e;exact R k (wX hx)) S
  have C:∀d,s.fq.map (·.1)=some d->o.dst≠some d:=λd q=>(Y d q).2;by_cases hw:pX b s.fr o=true;rw[aJ hw]at j⊢;left;split at j;rename_i v hv;cases j;exact HP hE h.gl h.st h.ok hv W K Q (λu m N M hr=>D _ m (h.iz N M hr C));have eff:xW P E F s.H s.fr o=none\/∃v H',xW P E F s.H s.fr o=some (v,H'):=by
   cases xW P E F s.H s.fr o with
   |none=>exact .inl rfl|some p=>exact .inr ⟨p.1,p.2,rfl⟩
  have run:(match xW P E F s.H s.fr o with
    |some (v,H')=>some {s with fr:=pW s.fr o.dst v,H:=H'}
    |none=>none)=some s'->o.wp P a g.w K Q:=by
   intro hh;rcases eff with e|⟨v,H',e⟩
   rw[e]at hh;cases hh;rw[e]at hh;cases hh;exact TR hF h.gl h.st h.ok e W K Q (λu m N M hs' hr=>D _ m (h.dO N M hs' hr C))
  split at j;rename_i d t hal;obtain⟨V,hd'⟩:=NB hal;split at j;cases j;rename_i f;have U:s.fq=none:=by simpa using f
  split at j;rename_i n z Z hz;split at j;rename_i hc;cases j;exact Rz h U V hd' Z hz hc.1 hc.2 (λL m _ B=>D L m B);cases j;cases j;exact run j;rw[aH hw]at j⊢;cases j;exact D _ g (h.iz (fx.refl g) h.ok Rd.undef C)
 unfold wL at c;split at c;rename_i f;exact plain (λd q=>by rw[f]at q;cases q) c;rename_i d t f;have free:rQ b o d=false->∀O,s.fq.map (·.1)=some O->O∉o.looksAt b/\o.dst≠some O:=λq O e=>by
  rw[f]at e;cases e;exact yF q
 split at c;rename_i t' O x ho hd hgd;split at c;rename_i e;subst e;split at c;rename_i hc;split at c;rename_i y n hy Z;split at c;rename_i I;cases c;obtain⟨rfl,hx⟩:=hc;have hw:Region.wanted o (yielded b a.tmps)=true:=by simp[Region.wanted,hgd]
 rw[aJ hw];unfold YJ at D;by_cases J:F.own (O+1000)=true;simp only[J,cB]at D;exact .inl (aDu h f ho hd hx hy Z I.1 I.2 (λL m B=>D L m B));simp only[J]at D;exact .inl (Vt h f ho hd hx hy Z I.1 I.2 (λL m B=>D L m B));cases c;cases c;cases c;split at c;cases c;rename_i S;exact plain (free (by simpa using S)) c;split at c;cases c;rename_i S;exact plain (free (by simpa using S)) c
abbrev hU:=List Oper
theorem Js(n:rV P E.gl E.pe)(hF:sD P E.gl F.ee){b:gF}{Q:gJ}:∀(l:hU) (k:Nat) (s d:Fx) (a:Act) (g:G),(∀j,l[j]? =b[k+j]?)->Inv P E g0 H0 g a s->pU P E F b l s=some d->
  (∀e f,Inv P E g0 H0 f e d->Q .normal e f.w)->wpOps P b Q (List.range' k l.length) a g.w
 |[],k,s,d,a,g,_,h,c,i=>by
  simp only[pU,aI]at c;subst c;exact i a g h
 |o::l,k,s,d,a,g,p,h,c,i=>by
  simp only[pU]at c;split at c;rename_i u m;have q:b[k]? =some o:=by simpa using(p 0).symm
  rw[aZ,fC,wpOps_cons];refine ZJ n hF h m q (λe f x=> ?_);exact Js n hF l (k+1) u d e f (λj=>by have:=p (j+1);simpa [dT,Nat.add_comm 1 j]using this) x c i;cases c
end
end Go.Ps
