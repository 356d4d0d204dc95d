/- Lemmas for the card; no conditions. -/
import Derived.Still
import Derived.Laws.Sem
import Derived.Below
import Derived.Laws.Entries
import Derived.Laws.Rows
import Derived.Laws.BytesString
import Derived.Laws.StructEq
import Derived.Lib.ConvBytes
import Derived.Laws.CopyRow
import Derived.Laws.MakeOwn
import Derived.Laws.AppendOwn
import Derived.Deep.AppendSrc
set_option linter.unusedSimpArgs false
set_option linter.unusedVariables false
set_option linter.unusedSectionVars false
namespace Go
theorem aA:type_of% @Bool.and_eq_true:=@Bool.and_eq_true
theorem aB:type_of% @List.getElem?_eq_getElem:=@List.getElem?_eq_getElem
theorem aC:type_of% @Option.some.injEq:=@Option.some.injEq
theorem aD:type_of% @Option.map_eq_some_iff:=@Option.map_eq_some_iff
theorem aF:type_of% @Nat.eq_of_beq_eq_true:=@Nat.eq_of_beq_eq_true
theorem aG:type_of% @List.mem_cons_of_mem:=@List.mem_cons_of_mem
theorem aH:type_of% @List.all_eq_true:=@List.all_eq_true
theorem aI:type_of% @Result.andThen_ok:=@Result.andThen_ok
theorem aJ:type_of% @decide_eq_true_eq:=@decide_eq_true_eq
theorem aK:type_of% @Array.getElem?_eq_some_iff:=@Array.getElem?_eq_some_iff
theorem aL:type_of% @List.mem_cons_self:=@List.mem_cons_self
theorem aO:type_of% @List.getElem?_eq_some_iff:=@List.getElem?_eq_some_iff
theorem aP:type_of% @Sem.run_bind:=@Sem.run_bind
theorem aQ:type_of% @List.mem_singleton_self:=@List.mem_singleton_self
theorem aR:type_of% @List.mem_cons:=@List.mem_cons
theorem aU:type_of% @Prod.mk.injEq:=@Prod.mk.injEq
theorem aW:type_of% @List.getD_eq_getElem?_getD:=@List.getD_eq_getElem?_getD
theorem aX:type_of% @Sem.run_pure:=@Sem.run_pure
theorem aY:type_of% @Bool.false_eq_true:=@Bool.false_eq_true
theorem aZ:type_of% @Nat.le_refl:=@Nat.le_refl
theorem bA:type_of% @List.getElem?_map:=@List.getElem?_map
theorem bB:type_of% @List.mem_of_getElem?:=@List.mem_of_getElem?
theorem bC:type_of% @Bool.and_true:=@Bool.and_true
theorem bD:type_of% @List.getElem?_take:=@List.getElem?_take
theorem bF:type_of% @Bool.or_eq_true:=@Bool.or_eq_true
theorem bG:type_of% @List.flatMap_cons:=@List.flatMap_cons
theorem bH:type_of% @List.mem_append:=@List.mem_append
theorem bI:type_of% @List.length_append:=@List.length_append
theorem bJ:type_of% @Array.getElem?_setIfInBounds_ne:=@Array.getElem?_setIfInBounds_ne
theorem bL:type_of% @List.length_cons:=@List.length_cons
theorem bN:type_of% @List.mem_replicate:=@List.mem_replicate
theorem bP:type_of% @Nat.zero_add:=@Nat.zero_add
theorem bQ:type_of% @List.mem_map:=@List.mem_map
theorem bR:type_of% @List.not_mem_nil:=@List.not_mem_nil
theorem bT:type_of% @Nat.lt_of_lt_of_le:=@Nat.lt_of_lt_of_le
theorem bU:type_of% @List.getElem?_eq_none:=@List.getElem?_eq_none
theorem bV:type_of% @List.mem_singleton:=@List.mem_singleton
theorem bW:type_of% @Bool.not_eq_true':=@Bool.not_eq_true'
theorem bX:type_of% @Option.some.inj:=@Option.some.inj
theorem bZ:type_of% @List.getElem?_drop:=@List.getElem?_drop
theorem cA:type_of% @List.eq_nil_of_length_eq_zero:=@List.eq_nil_of_length_eq_zero
theorem cB:type_of% @List.map_cons:=@List.map_cons
theorem cH:type_of% @Option.map_some:=@Option.map_some
theorem cJ:type_of% @Nat.le_of_not_lt:=@Nat.le_of_not_lt
theorem cK:type_of% @List.getElem_mem:=@List.getElem_mem
theorem cO:type_of% @List.getElem_of_mem:=@List.getElem_of_mem
theorem cQ:type_of% @List.getElem?_cons_zero:=@List.getElem?_cons_zero
theorem cT:type_of% @List.forall_mem_append:=@List.forall_mem_append
theorem cU:type_of% @Nat.mul_le_mul_right:=@Nat.mul_le_mul_right
theorem cW:type_of% @Nat.succ_mul:=@Nat.succ_mul
theorem cY:type_of% @List.length_drop:=@List.length_drop
theorem cZ:type_of% @of_decide_eq_true:=@of_decide_eq_true
theorem dF:type_of% @Classical.choose_spec:=@Classical.choose_spec
theorem dG:type_of% @Classical.byContradiction:=@Classical.byContradiction
theorem dH:type_of% @Array.length_toList:=@Array.length_toList
theorem dI:type_of% @Array.getElem?_eq_none:=@Array.getElem?_eq_none
theorem dJ:type_of% @List.mem_range:=@List.mem_range
theorem dK:type_of% @Array.getElem?_setIfInBounds_self:=@Array.getElem?_setIfInBounds_self
theorem dL:type_of% @List.getElem?_append_left:=@List.getElem?_append_left
theorem dM:type_of% @List.mapM_toArray:=@List.mapM_toArray
theorem dN:type_of% @List.getElem?_set_ne:=@List.getElem?_set_ne
theorem dP:type_of% @List.getElem?_range:=@List.getElem?_range
theorem dQ:type_of% @List.getElem?_append_right:=@List.getElem?_append_right
theorem dR:type_of% @List.length_eq_zero_iff:=@List.length_eq_zero_iff
theorem dS:type_of% @List.append_assoc:=@List.append_assoc
theorem dT:type_of% @List.getElem?_append:=@List.getElem?_append
theorem dU:type_of% @List.take_of_length_le:=@List.take_of_length_le
theorem dV:type_of% @List.length_map:=@List.length_map
theorem dW:type_of% @Nat.add_assoc:=@Nat.add_assoc
theorem dX:type_of% @List.length_take:=@List.length_take
theorem dY:type_of% @List.flatMap_append:=@List.flatMap_append
theorem eB:type_of% @List.mem_map_of_mem:=@List.mem_map_of_mem
theorem eC:type_of% @List.getElem?_set:=@List.getElem?_set
theorem eD:type_of% @List.getElem?_cons_succ:=@List.getElem?_cons_succ
theorem eE:type_of% @Nat.eq_or_lt_of_le:=@Nat.eq_or_lt_of_le
theorem eF:type_of% @decide_eq_true:=@decide_eq_true
theorem eH:type_of% @ByteArray.size_data:=@ByteArray.size_data
theorem eJ:type_of% @Int.toNat_natCast:=@Int.toNat_natCast
theorem eK:type_of% @List.nodup_cons:=@List.nodup_cons
theorem eL:type_of% @Option.bind_some:=@Option.bind_some
theorem eM:type_of% @Bool.or_eq_false_iff:=@Bool.or_eq_false_iff
theorem eN:type_of% @List.drop_of_length_le:=@List.drop_of_length_le
theorem eO:type_of% @Nat.lt_or_ge:=@Nat.lt_or_ge
theorem eP:type_of% @List.cons.injEq:=@List.cons.injEq
theorem eQ:type_of% @List.map_append:=@List.map_append
theorem eR:type_of% @Bool.eq_iff_iff:=@Bool.eq_iff_iff
theorem eT:type_of% @List.drop_eq_getElem_cons:=@List.drop_eq_getElem_cons
theorem eU:type_of% @List.range'_succ:=@List.range'_succ
theorem eX:type_of% @List.mem_of_mem_take:=@List.mem_of_mem_take
theorem eY:type_of% @Sem.run_map:=@Sem.run_map
theorem fA:type_of% @List.length_range:=@List.length_range
theorem fB:type_of% @Nat.le_trans:=@Nat.le_trans
theorem fC:type_of% @List.length_eq_one_iff:=@List.length_eq_one_iff
theorem fD:type_of% @List.flatMap_map:=@List.flatMap_map
theorem fE:type_of% @List.nodup_range:=@List.nodup_range
theorem fF:type_of% @Array.getElem?_toList:=@Array.getElem?_toList
theorem fG:type_of% @List.range_succ:=@List.range_succ
theorem fH:type_of% @List.mem_of_mem_drop:=@List.mem_of_mem_drop
theorem fI:type_of% @List.ext_getElem?:=@List.ext_getElem?
theorem fJ:type_of% @Array.getElem?_push:=@Array.getElem?_push
theorem fK:type_of% @List.drop_zero:=@List.drop_zero
theorem fL:type_of% @Option.getD_some:=@Option.getD_some
theorem fM:type_of% @List.any_eq_true:=@List.any_eq_true
theorem fN:type_of% @Nat.add_mul:=@Nat.add_mul
theorem fO:type_of% @Int.zero_add:=@Int.zero_add
theorem fP:type_of% @List.append_nil:=@List.append_nil
theorem fQ:type_of% @decide_eq_false:=@decide_eq_false
theorem fR:type_of% @Int.le_refl:=@Int.le_refl
end Go
namespace Go.Ps
noncomputable section
abbrev iE:=IntKind
abbrev fS:=TypeId
abbrev gU:=List UInt8
inductive T where
 |int (k:iE) (n:Int)
 |bool (b:Bool)
 |str (s:gU)
 |nilp
 |ptr (l off:Nat)
 |ref (x:T) (off:Nat)
 |nils
 |sl (full:Bool) (xs:List T)
 |slf (full:Bool) (n:Nat) (f:Nat->T)
 |osl (l sz i len:Nat)
 |nilf
 |fn (f:Fn) (first captured:List T)
 |nili
 |iface (t:fS) (x:T)
 |nilm
 |mp (l:Nat)
 |yl (l:Nat)
 |agg (cs:List T)
 |tup (xs:List T)
instance:Inhabited T:=⟨.nilp⟩
abbrev pV:T:= .tup []
def T.cells:T->List T
 | .agg cs=>cs|t=>[t]
def T.one:T->Bool
 | .agg _ | .tup _ =>false|_ =>true
def T.isAgg:T->Bool
 | .agg _ =>true|_ =>false
def YN:Value->Option T
 | .int k n=>some (.int k n)| .bool b=>some (.bool b)| .string s=>some (.str s.data.toList)| .pointer none=>some .nilp| .slice none 0 0=>some .nils| .nilFunc=>some .nilf| .nilIface=>some .nili| .map none=>some .nilm|_ =>none
def GL:List Value->Option (List T)
 |[]=>some []
 |v::vs=>match YN v with
  |some t=>match GL vs with
   |some ts=>some (t::ts)|none=>none
  |none=>none
def TQ:Value->Option T
 | .agg cs=>match GL cs.toList with
  |some ts=>some (.agg ts)|none=>none
 | .tuple vs=>match vs.toList with
  |[]=>some (.tup [])|_ =>none
 |v=>YN v
inductive FT where
 |nl
 |nd (v:T) (l r:FT)
structure Lr where
 st:LoopState
 pe:Option Code
 fr:FT
 n:Nat
 ps:Array Tmp
 asg:Code
 bd:Code
 ow:Tmp->Bool
abbrev gS:=List (Nat×T×T)
abbrev gI:=List Nat
inductive Mo where
 |map (c:Nat) (es:gS)
 |loop (r:Lr)
 |mit (m since:Nat) (seen:gI) (last:Nat)
 |sit (s:gU) (pos:Nat)
structure Ob where
 elem:TypeId
 sz:Nat
 cells:List T
 me:Option Mo:=none
abbrev kC:=Option Ob
inductive Ht where
 |nl
 |nd (o:kC) (l r:Ht)
noncomputable def Ht.val(t:Ht):Option Ob:=Ht.rec (motive:=λ_ =>Option Ob) none (λo _ _ _ _ =>o) t
noncomputable def Ht.lf(t:Ht):Ht:=Ht.rec (motive:=λ_ =>Ht) .nl (λ_ l _ _ _ =>l) t
noncomputable def Ht.rt(t:Ht):Ht:=Ht.rec (motive:=λ_ =>Ht) .nl (λ_ _ r _ _ =>r) t
noncomputable def aFa(k:Nat):Nat->List Bool:=Nat.rec (motive:=λ_ =>Nat->List Bool) (λ_ =>[]) (λ_ ih n=>Nat.rec (motive:=λ_ =>List Bool) [] (λm _ =>Nat.rec (motive:=λ_ =>List Bool) (false::ih (Nat.div m 2)) (λ_ _ =>true::ih (Nat.div m 2)) (Nat.mod m 2)) n) k
noncomputable def toP(n:Nat):List Bool:=aFa (Nat.succ n) n
abbrev gH:=List Bool
noncomputable def Ht.gtp(p:gH):Ht->Option Ob:=List.rec (motive:=λ_ =>Ht->Option Ob) (λt=>t.val) (λb _ ih t=>Bool.rec (motive:=λ_ =>Option Ob) (ih t.lf) (ih t.rt) b) p
noncomputable def Ht.stp(v:kC)(p:gH):Ht->Ht:=List.rec (motive:=λ_ =>Ht->Ht) (λt=> .nd v t.lf t.rt) (λb _ ih t=>Bool.rec (motive:=λ_ =>Ht) (.nd t.val (ih t.lf) t.rt) (.nd t.val t.lf (ih t.rt)) b) p
noncomputable def FT.val(t:FT):T:=FT.rec (motive:=λ_ =>T) pV (λv _ _ _ _ =>v) t
noncomputable def FT.lf(t:FT):FT:=FT.rec (motive:=λ_ =>FT) .nl (λ_ l _ _ _ =>l) t
noncomputable def FT.rt(t:FT):FT:=FT.rec (motive:=λ_ =>FT) .nl (λ_ _ r _ _ =>r) t
noncomputable def FT.gt(p:gH):FT->T:=List.rec (motive:=λ_ =>FT->T) (λt=>t.val) (λb _ ih t=>Bool.rec (motive:=λ_ =>T) (ih t.lf) (ih t.rt) b) p
noncomputable def FT.st(v:T)(p:gH):FT->FT:=List.rec (motive:=λ_ =>FT->FT) (λt=> .nd v t.lf t.rt) (λb _ ih t=>Bool.rec (motive:=λ_ =>FT) (.nd t.val (ih t.lf) t.rt) (.nd t.val t.lf (ih t.rt)) b) p
noncomputable def FT.view(t:FT)(n:Nat):List T:=(List.range n).map λi=>FT.gt (toP i) t
def FT.Wf(n:Nat)(t:FT):Prop:=∀m,n<=m->FT.gt (toP m) t=pV
def ofP:List Bool->Nat
 |[]=>0|b::p=>2*ofP p+(if b then 2 else 1)
theorem aFb(k m:Nat):aFa (k+1) (m+1)=(!(m%2==0))::aFa k (m/2):=by
 show Nat.rec (motive:=λ_ =>List Bool) (false::aFa k (m/2)) (λ_ _ =>true::aFa k (m/2)) (m%2)=_;cases m%2<;>rfl
theorem YS:∀(k n:Nat),n<k->ofP (aFa k n)=n
 |0,_,h=>absurd h (Nat.not_lt_zero _)|k+1,0,_ =>rfl
 |k+1,m+1,h=>by
  rw[aFb,ofP,YS k (m/2) (by omega)];by_cases hm:m%2=0
  .simp[hm];omega
  .have:(m%2==0)=false:=by simpa using hm
   simp[this];omega
theorem aBj{m n:Nat}(h:toP m=toP n):m=n:=by
 have h1:=YS (m+1) m (by omega);have h2:=YS (n+1) n (by omega);rw[<-h1,<-h2];exact congrArg ofP h
theorem Ht.gtp_stp(v:kC):∀(p q:gH) (t:Ht),Ht.gtp q (Ht.stp v p t)=if q=p then v else Ht.gtp q t
 |[],[],t=>rfl
 |[],b::q,t=>by
  rw[if_neg (by simp)];show Ht.gtp (b::q) (.nd v t.lf t.rt)=_;cases b<;>rfl
 |b::p,[],t=>by
  rw[if_neg (by simp)];cases b<;>rfl
 |b::p,c::q,t=>by
  cases b<;>cases c
  .show Ht.gtp q (Ht.stp v p t.lf)=_;rw[Ht.gtp_stp v p q];by_cases e:q=p
   .rw[if_pos e,if_pos (by rw[e])]
   .rw[if_neg e,if_neg (by simpa using e)];rfl
  .rw[if_neg (by simp)];rfl
  .rw[if_neg (by simp)];rfl
  .show Ht.gtp q (Ht.stp v p t.rt)=_;rw[Ht.gtp_stp v p q];by_cases e:q=p
   .rw[if_pos e,if_pos (by rw[e])]
   .rw[if_neg e,if_neg (by simpa using e)];rfl
noncomputable def Ht.get(t:Ht)(n:Nat):Option Ob:=Ht.gtp (toP n) t
noncomputable def Ht.put(x:kC)(t:Ht)(n:Nat):Ht:=Ht.stp x (toP n) t
theorem Ht.get_put(x:kC)(t:Ht)(n m:Nat):(Ht.put x t n).get m=if m=n then x else t.get m:=by
 unfold Ht.put Ht.get;rw[Ht.gtp_stp];by_cases e:m=n
 .rw[if_pos (by rw[e]),if_pos e]
 .rw[if_neg (λh=>e (aBj h)),if_neg e]
theorem Ht.get_nl(n:Nat):Ht.get .nl n=none:=by
 unfold Ht.get;have:∀p,Ht.gtp p .nl=none:=by
  intro p
  induction p with
  |nil=>rfl|cons b p ih=>cases b<;>exact ih
 exact this _
structure Hp where
 next:Nat
 objs:Ht
noncomputable def Hp.any(H:Hp)(l:Nat):Option Ob:=H.objs.get l
def Ob.plain(o:Ob):Option Ob:=match o.me with
 |none=>some o|some _ =>none
noncomputable def Hp.get(H:Hp)(l:Nat):Option Ob:=match H.any l with
 |some o=>o.plain|none=>none
noncomputable def Hp.put(H:Hp)(l:Nat)(o:Ob):Hp:={H with objs:=H.objs.put (some o) l}
noncomputable def Hp.drop(H:Hp)(l:Nat):Hp:={H with objs:=H.objs.put none l}
noncomputable def Hp.new(H:Hp)(o:Ob):Hp:={next:=H.next+1,objs:=H.objs.put (some o) H.next}
def Hp.empty:Hp:={next:=0,objs:= .nl}
theorem sH(H:Hp)(l:Nat)(o:Ob)(m:Nat):(H.put l o).any m=if m=l then some o else H.any m:=Ht.get_put (some o) H.objs l m
theorem sA(H:Hp)(l m:Nat):(H.drop l).any m=if m=l then none else H.any m:=Ht.get_put none H.objs l m
theorem sB(H:Hp)(o:Ob)(l:Nat):(H.new o).any l=if H.next=l then some o else H.any l:=by
 refine(Ht.get_put (some o) H.objs H.next l).trans ?_;by_cases h:l=H.next
 .rw[if_pos h,if_pos h.symm]
 .rw[if_neg h,if_neg (λe=>h e.symm)];rfl
theorem qP{H:Hp}{l:Nat}{o:Ob}(h:H.get l=some o):H.any l=some o/\o.me=none:=by
 unfold Hp.get at h;split at h
 .rename_i o' ho;unfold Ob.plain at h;split at h
  .rename_i hm;cases h;exact⟨ho,hm⟩
  .cases h
 .cases h
theorem yC{H:Hp}{l:Nat}{o:Ob}(h:H.any l=some o)(hm:o.me=none):H.get l=some o:=by simp[Hp.get,h,Ob.plain,hm]
theorem QZ{H H':Hp}{l l':Nat}(h:H.any l=H'.any l'):H.get l=H'.get l':=by unfold Hp.get;rw[h]
theorem wX(H:Hp)(l:Nat):H.get l=(H.any l).bind Ob.plain:=by unfold Hp.get;cases H.any l<;>rfl
theorem Ux(H:Hp)(o:Ob)(l:Nat)(hm:o.me=none:=by rfl):(H.new o).get l=if H.next=l then some o else H.get l:=by
 rw[wX,sB,wX];split
 .simp[Ob.plain,hm]
 .rfl
theorem get_put(H:Hp)(l:Nat)(o:Ob)(m:Nat)(hm:o.me=none):(H.put l o).get m=if m=l then some o else H.get m:=by
 rw[wX,sH,wX];split
 .simp[Ob.plain,hm]
 .rfl
theorem XO(H:Hp)(l m:Nat):(H.drop l).get m=if m=l then none else H.get m:=by
 rw[wX,sA,wX];split<;>rfl
theorem uI(n l:Nat):Hp.any ⟨n,.nl⟩ l=none:=Ht.get_nl l
theorem get_nl(n l:Nat):Hp.get ⟨n,.nl⟩ l=none:=by unfold Hp.get;rw[uI]
abbrev fV:=Program
def KP(P:fV)(t:fS):Option Bool:=
 match P.underlying t with
 |some (.struct _)|some (.array _ _)=>some true|some _ =>some false|none=>none
def vZ(P:fV)(t:fS):Option Nat:=(P.info? t).map (·.size)
def yA(P:fV)(t:fS):Option T:=
 match P.info? t with
 |some i=>match i.zero with
  |some v=>TQ v|none=>none
 |none=>none
abbrev fU:=List T
noncomputable def qR(fr:fU):Tmp->T:=List.rec (motive:=λ_ =>Nat->T) (λ_ =>pV) (λx _ ih n=>Nat.rec (motive:=λ_ =>T) x (λm _ =>ih m) n) fr
noncomputable def aEi(v:T)(fr:fU):Nat->List T:=List.rec (motive:=λ_ =>Nat->List T) (λ_ =>[]) (λx xs ih n=>Nat.rec (motive:=λ_ =>List T) (v::xs) (λm _ =>x::ih m) n) fr
noncomputable def bFv(fr:fU):Nat->Option T:=List.rec (motive:=λ_ =>Nat->Option T) (λ_ =>none) (λx _ ih n=>Nat.rec (motive:=λ_ =>Option T) (some x) (λm _ =>ih m) n) fr
theorem uR:∀(fr:fU) (t:Tmp),qR fr t=fr.getD t pV
 |[],_ =>rfl|_ ::_,0=>rfl|_ ::xs,n+1=>(uR xs n).trans rfl
theorem PC(v:T):∀(fr:fU) (t:Nat),aEi v fr t=fr.set t v
 |[],_ =>rfl|_ ::_,0=>rfl|x::xs,n+1=>congrArg (x:: ·) (PC v xs n)
theorem Zy:∀(fr:fU) (t:Nat),bFv fr t=fr[t]?
 |[],_ =>rfl|_ ::_,0=>rfl|_ ::xs,n+1=>(Zy xs n).trans rfl
abbrev fY:=Nat->Option T
def qG(gl:fY)(fr:fU):Operand->Option T
 | .tmp t=>some (qR fr t)| .const v=>TQ v| .global g=>gl g| .func f=>some (.fn (.func f) [] [])
def uO(gl:fY)(fr:fU):List Operand->Option (List T)
 |[]=>some []
 |x::xs=>match qG gl fr x with
  |some t=>match uO gl fr xs with
   |some ts=>some (t::ts)|none=>none
  |none=>none
def wI(H:Hp):T->Option (List T×Nat)
 | .ref x off=>some (x.cells,off)
 | .ptr l off=>match H.get l with
  |some o=>some (o.cells,off)|none=>none
 |_ =>none
def wN(P:fV)(t:fS)(cs:fU)(off:Nat):Option T:=
 match KP P t with
 |some true=>match vZ P t with
  |some n=>if off+n<=cs.length then some (.agg ((cs.drop off).take n))else none
  |none=>none
 |some false=>cs[off]?|none=>none
def wZ(P:fV)(H:Hp)(t:fS)(p:T):Option T:=
 match wI H p with
 |some (cs,off)=>wN P t cs off|none=>none
def aBr:T->Nat->Option T
 | .ref x off,n=>some (.ref x (off+n))| .ptr l off,n=>some (.ptr l (off+n))|_,_ =>none
abbrev jX:=BinOp
def xR(op:jX)(k:iE)(a b:Int):Option T:=
 match op with
 | .add=>some (.int k (k.wrap (a+b)))| .sub=>some (.int k (k.wrap (a-b)))| .mul=>some (.int k (k.wrap (a*b)))| .quo=>if b=0 then none else some (.int k (k.wrap (a.tdiv b)))
 | .rem=>if b=0 then none else some (.int k (a.tmod b))
 | .and=>some (.int k (k.wrap (BitVec.ofInt k.bits a&&&BitVec.ofInt k.bits b).toNat))| .or=>some (.int k (k.wrap (BitVec.ofInt k.bits a|||BitVec.ofInt k.bits b).toNat))| .xor=>some (.int k (k.wrap (BitVec.ofInt k.bits a^^^BitVec.ofInt k.bits b).toNat))| .andNot=>some (.int k (k.wrap (BitVec.ofInt k.bits a&&& ~~~BitVec.ofInt k.bits b).toNat))| .eql=>some (.bool (a==b))| .neq=>some (.bool (a !=b))| .lss=>some (.bool (decide (a<b)))| .leq=>some (.bool (decide (a<=b)))| .gtr=>some (.bool (decide (a>b)))| .geq=>some (.bool (decide (a>=b)))|_ =>none
def zQ(op:jX)(k:iE)(a b:Int):Option T:=
 match op with
 | .shl=>if b<0 then none else some (.int k (k.wrap (a*2^(min b.toNat k.bits))))
 | .shr=>if b<0 then none else some (.int k (a.fdiv (2^(min b.toNat k.bits))))
 |_ =>none
def xA:Nat:=4611686018427387904
def GT(op:jX)(a b:gU):Option T:=
 match op with
 | .add=>if a.length+b.length<=xA then some (.str (a++b))else none
 | .eql=>some (.bool (a==b))| .neq=>some (.bool (!(a==b)))| .lss=>some (.bool (Op.bytesLess a b))| .leq=>some (.bool (Op.bytesLess a b||a==b))| .gtr=>some (.bool (!(Op.bytesLess a b||a==b)))| .geq=>some (.bool (!Op.bytesLess a b))|_ =>none
def PW(P:fV)(t:fS)(x y:T):Option Bool:=
 match P.underlying t,x,y with
 |some .bool,.bool a,.bool b=>some (a==b)|some (.slice _),.nils,.nils=>some true|some (.slice _),.nils,.sl .. =>some false|some (.slice _),.sl ..,.nils=>some false|some (.slice _),.nils,.osl .. =>some false|some (.slice _),.osl ..,.nils=>some false|some (.pointer _),.nilp,.nilp=>some true|some (.pointer _),.nilp,.ptr .. =>some false|some (.pointer _),.ptr ..,.nilp=>some false|some (.pointer _),.nilp,.ref .. =>some false|some (.pointer _),.ref ..,.nilp=>some false|some (.interface _),.nili,.nili=>some true|some (.interface _),.nili,.iface .. =>some false|some (.interface _),.iface ..,.nili=>some false|some (.func ..),.nilf,.nilf=>some true|some (.func ..),.nilf,.fn .. =>some false|some (.func ..),.fn ..,.nilf=>some false|some (.map ..),.nilm,.nilm=>some true|some (.map ..),.nilm,.mp .. =>some false|some (.map ..),.mp ..,.nilm=>some false|_,_,_ =>none
def eq1(P:fV)(t:fS)(x y:T):Option Bool:=
 match P.underlying t,x,y with
 |some (.int _),.int k a,.int k' b=>if k=k' then some (a==b)else none
 |some .string,.str a,.str b=>some (a==b)|some .bool,.bool a,.bool b=>some (a==b)|_,_,_ =>none
def Uu(P:fV)(xs ys:fU):List Field->Option Bool
 |[]=>some true
 |f::r=>match xs[f.offset]?,ys[f.offset]? with
  |some a,some b=>if f.name= "_" then none else match eq1 P f.type a b with
   |some true=>Uu P xs ys r|q=>q
  |_,_ =>none
def eqK(P:fV)(t:fS)(x y:T):Option Bool:=
 match x,y with
 | .agg xs,.agg ys=>match P.underlying t with
  |some (.struct fs)=>if P.stoodInHeld t then none else Uu P xs ys fs.toList
  |_ =>none
 |x,y=>eq1 P t x y
def GE(P:fV)(t:fS)(x:T):Bool:=
 match P.underlying t,x with
 |some (.int _),.int .. |some .string,.str _ |some .bool,.bool _ =>true|_,_ =>false
def Zi(P:fV)(xs:fU):List Field->Bool
 |[]=>true
 |f::r=>(match xs[f.offset]? with
  |some a=> !(f.name== "_")&&GE P f.type a
  |none=>false)&&Zi P xs r
def IR(P:fV)(t:fS)(x:T):Bool:=
 match x with
 | .agg xs=>match P.underlying t with
  |some (.struct fs)=> !(P.stoodInHeld t)&&Zi P xs fs.toList|_ =>false
 |x=>GE P t x
def CT(P:fV)(t:fS)(k:T):List (Nat×T×T)->Nat->Option (Option (Nat×Nat×T))
 |[],_ =>some none
 |(b,k',v)::r,i=>match eqK P t k k' with
  |some true=>some (some (i,b,v))|some false=>CT P t k r (i+1)|none=>none
def HQ(H:Hp):T->Option (List (Nat×T×T))
 | .nilm=>some []
 | .mp l=>match H.any l with
  |some o=>match o.me with
   |some (.map _ es)=>some es|_ =>none
  |none=>none
 |_ =>none
def zH(P:fV)(H:Hp)(t:fS)(x k:T)(ok:Bool):Option T:=
 match P.underlying t with
 | some (.map kt et)=>if IR P kt k then match HQ H x with
   |some es=>match CT P kt k es 0 with
    |some (some (_,_,v))=>some (if ok then .tup [v,.bool true]else v)
    |some none=>match yA P et with
     |some z=>some (if ok then .tup [z,.bool false]else z)
     |none=>none
    |none=>none
   |none=>none
  else none
 |_ =>none
def HM:Operand->Bool
 | .const _ =>true|_ =>false
def UI:T->T->Bool
 | .nili,.nili=>true|_,_ =>false
abbrev jF:=Operand
def MA(X Y:jF)(a b:T):Bool:=HM X||(HM Y|| !UI a b)
def eqS(P:fV)(t:fS)(x y:T):Option Bool:=
 match x,y with
 | .agg _,.agg _ =>if P.eqGuardType P.depth t then none else eqK P t x y
 |x,y=>PW P t x y
def BR(P:fV)(op:jX)(t:fS)(x y:T):Option T:=
 match op,x,y with
 | .shl,.int k a,.int _ b=>zQ .shl k a b| .shr,.int k a,.int _ b=>zQ .shr k a b|op,.int k a,.int k' b=>if k=k' then xR op k a b else none
 |op,.str a,.str b=>GT op a b| .eql,x,y=>(eqS P t x y).map .bool| .neq,x,y=>(eqS P t x y).map λb=> .bool (!b)|_,_,_ =>none
def unT(op:UnOp)(x:T):Option T:=
 match op,x with
 | .neg,.int k n=>some (.int k (k.wrap (0-n)))| .not,.bool b=>some (.bool (!b))|_,_ =>none
def NQ(P:fV)(src dst:fS)(x:T):Option T:=
 match P.underlying src,P.underlying dst,x with
 |some _,some (.int k),.int _ n=>some (.int k (k.wrap n))|some _,some .string,.str s=>some (.str s)
 |some (.slice e),some .string,.sl _ [.int .u8 n]=>match P.underlying e with
  |some (.int .u8)=>some (.str [UInt8.ofNat n.toNat])|_ =>none
 |_,_,_ =>none
def Ib(P:fV)(src dst:fS)(x:T):Option T:=
 match P.underlying src,P.underlying dst,x with
 |some _,some (.slice e),.str s=>match P.underlying e with
  |some (.int .u8)=>if s.length<=70368744177664 then some (.sl false (s.map λb=> .int .u8 b.toNat))else none
  |_ =>none
 |_,_,_ =>none
def Ds(P:fV)(src dst:fS)(x:T):Option T:=
 match NQ P src dst x with
 |some r=>some r|none=>Ib P src dst x
def QA(P:fV)(s:fS)(f:Nat):Option Field:=
 match P.underlying s with
 |some (.struct fs)=>fs[f]?|_ =>none
def CR(P:fV)(s:fS)(x:T)(f:Nat):Option T:=
 match QA P s f with
 |some fd=>match vZ P fd.type with
  |some n=>if n=0 then none else aBr x fd.offset
  |none=>none
 |none=>none
def sP(P:fV)(t:fS)(x i:T):Option T:=
 match i with
 | .int _ n=>
  match P.underlying t,x with
  | some (.slice e),.sl _ xs=>if 0<=n then match xs[n.toNat]? with
    |some y=>match vZ P e with
     |some s=>if y.cells.length=s then some (.ref y 0)else none
     |none=>none
    |none=>none
   else none
  | some (.slice e),.slf _ len f=>if 0<=n/\n<len then match vZ P e with
    |some s=>if(f n.toNat).cells.length=s then some (.ref (f n.toNat) 0)else none
    |none=>none
   else none
  | some (.slice e),.osl l sz j len=>if 0<=n/\n<len then match vZ P e with
    |some s=>if sz=s then some (.ptr l ((j+n.toNat)*sz))else none
    |none=>none
   else none
  | some (.array len e),x=>if 0<=n/\n<len then match vZ P e with
    |some s=>aBr x (n.toNat*s)|none=>none
   else none
  |_,_ =>none
 |_ =>none
def GC(P:fV)(t:fS)(x i:T):Option T:=
 match i with
 | .int _ n=>
  match P.underlying t,x with
  | some (.array len e),.agg cs=>if 0<=n/\n<len then match vZ P e with
    |some s=>wN P e cs (n.toNat*s)|none=>none
   else none
  |some .string,.str s=>if 0<=n then(s[n.toNat]?).map λb=> .int .u8 b.toNat else none
  |_,_ =>none
 |_ =>none
abbrev jJ:=Option T
def vU(x:jJ)(dflt top:Nat):Option Nat:=
 match x with
 |none=>some dflt|some (.int _ n)=>if 0<=n/\n<=top then some n.toNat else none
 |some _ =>none
def IJ(s:Nat):List T->Bool
 |[]=>true|x::_ =>x.cells.length==s
def AJ(P:fV)(t:fS)(x:T)(lo hi:jJ):Option T:=
 match P.underlying t,x with
 |some .string,.str s=>
  match vU hi s.length s.length with
  |some h=>match vU lo 0 h with
   |some l=>some (.str ((s.take h).drop l))|none=>none
  |none=>none
 |some (.slice e),.sl full xs=>
  match vU hi xs.length xs.length with
  |some h=>match vU lo 0 h with
   |some l=>match vZ P e with
    |some s=>if IJ s xs then some (.sl (full&&h==xs.length) ((xs.take h).drop l))else none
    |none=>none
   |none=>none
  |none=>none
 |some (.slice e),.slf full n f=>
  match vU hi n n with
  |some h=>match vU lo 0 h with
   |some l=>match vZ P e with
    |some s=>if l<h/\(f l).cells.length≠s then none else some (.slf (full&&h==n) (h-l) (λi=>f (l+i)))
    |none=>none
   |none=>none
  |none=>none
 |some (.slice e),.nils=>
  match vU hi 0 0 with
  |some _ =>match vU lo 0 0 with
   |some _ =>if(vZ P e).isSome then some .nils else none
   |none=>none
  |none=>none
 |some (.slice e),.osl l sz j len=>
  match vU hi len len with
  |some h=>match vU lo 0 h with
   |some k=>match vZ P e with
    |some s=>if s=sz then some (.osl l sz (j+k) (h-k))else none
    |none=>none
   |none=>none
  |none=>none
 |_,_ =>none
def CU(P:fV)(t:fS)(x:T):Option T:=
 match P.underlying t,x with
 |some .string,.str s=>some (.int .i64 s.length)|some (.slice _),.sl _ xs=>some (.int .i64 xs.length)|some (.slice _),.nils=>some (.int .i64 0)|some (.slice _),.slf _ n _ =>some (.int .i64 n)|some (.slice _),.osl _ _ _ len=>some (.int .i64 len)|some (.array n _),_ =>some (.int .i64 n)|some (.map ..),.nilm=>some (.int .i64 0)|_,_ =>none
def Pj(P:fV)(H:Hp)(t:fS)(x:T):Option T:=
 match x with
 | .mp l=>match P.underlying t with
  |some (.map ..)=>match HQ H (.mp l)with
   |some es=>some (.int .i64 es.length)|none=>none
  |_ =>CU P t (.mp l)
 |x=>CU P t x
theorem aQq{P:fV}{H:Hp}{t:fS}{x r:T}(h:CU P t x=some r):Pj P H t x=some r:=by
 unfold Pj;split
 .split
  .rename_i hd;simp[CU,hd]at h
  .exact h
 .exact h
def aRc:T->T->Option T
 | .int k x,.int _ y=>some (.int k (if y<x then y else x))
 |_,_ =>none
def aQz:T->T->Option T
 | .int k x,.int _ y=>some (.int k (if x<y then y else x))
 |_,_ =>none
def HV(f:T->T->Option T):T->List T->Option T
 |x,[]=>some x
 |x,y::r=>match f x y with
  |some z=>HV f z r|none=>none
def sI(cs:fU)(off:Nat)(new:fU):List T:=cs.take off++new++cs.drop (off+new.length)
abbrev jP:=Nat->Option (Nat×Nat)
def KU(place:jP):List T->List (Nat×T)->Option (List T)
 |cs,[]=>some cs
 |cs,(i,v)::r=>
  match place i with
  |none=>none|some (off,size)=>if v.cells.length=size/\off+size<=cs.length then KU place (sI cs off v.cells) r else none
def KK(P:fV):List Field->Option (List (Nat×Nat))
 |[]=>some []
 |f::r=>match vZ P f.type with
  |some s=>match KK P r with
   |some l=>some ((f.offset,s)::l)|none=>none
  |none=>none
def GN(gl:fY)(fr:fU):List (Nat×Operand)->Option (List (Nat×T))
 |[]=>some []
 |(i,x)::r=>match qG gl fr x with
  |some t=>match GN gl fr r with
   |some l=>some ((i,t)::l)|none=>none
  |none=>none
abbrev iM:=List (Nat×T)
def WL(P:fV)(t:fS)(parts:iM):Option T:=
 match yA P t with
 |some z=>
  match P.underlying t with
  |some (.struct fs)=>match KK P fs.toList with
   |some pl=>(KU (pl[·]?) z.cells parts).map .agg|none=>none
  |some (.array _ e)=>match vZ P e with
   |some s=>(KU (λi=>some (i*s,s)) z.cells parts).map .agg|none=>none
  |_ =>none
 |none=>none
def JK(sz:Nat)(ag:Bool):List T->List (Nat×T)->Option (List T)
 |xs,[]=>some xs|xs,(i,v)::r=>if v.cells.length=sz/\v.isAgg=ag/\i<xs.length then JK sz ag (xs.set i v) r else none
def uM(P:fV)(t:fS)(len:Nat)(parts:iM):Option T:=
 match P.underlying t with
 |some (.slice e)=>match vZ P e,KP P e,yA P e with
  | some s,some ag,some z=>if 0<s/\len*s<=65536/\z.cells.length=s/\z.isAgg=ag then
    (JK s ag (List.replicate len z) parts).map (.sl true)
   else none
  |_,_,_ =>none
 |_ =>none
def RS:T->Option T
 | .ptr l o=>some (.ptr l o)| .ref x o=>some (.ref x o)| .fn (.func f) a c=>some (.fn (.func f) a c)| .iface t x=>some (.iface t x)|_ =>none
structure tY where
 gl:Nat->Option T
 pe:Hp->FuncId->List T->Option T
def OO(ev:Operand->Option T):Option Operand->Option (Option T)
 |none=>some none
 |some x=>match ev x with
  |some t=>some (some t)|none=>none
def zA(P:fV)(E:tY)(H:Hp)(fr:fU)(c:Call):Option T:=
 match c.callee with
 | .value f=>match qG E.gl fr f with
  |some (.fn (.func g) first cap)=>match uO E.gl fr c.args.toList with
   |some ars=>E.pe H g (first++ars++cap)
   |none=>none
  |_ =>none
 | .invoke _ _ =>none
 | .builtin b=>match b with
  | .len=>match c.args.toList,c.argTypes.toList with
   |[x],t::_ =>match qG E.gl fr x with
    |some a=>Pj P H t a|none=>none
   |_,_ =>none
  | .min=>match uO E.gl fr c.args.toList with
   |some (x::r)=>HV aRc x r|_ =>none
  | .max=>match uO E.gl fr c.args.toList with
   |some (x::r)=>HV aQz x r|_ =>none
  |_ =>none
def qK(P:fV)(E:tY)(own:Bool)(H:Hp)(fr:fU)(o:Oper):Option T:=
 let ev:=qG E.gl fr
 match o.op with
 | .move x| .assign x=>ev x
 | .pick c a b=>match ev c with
  |some (.bool b')=>if b' then ev a else ev b
  |_ =>none
 | .box _ x=>if own then none else(ev x).map (.ref · 0)
 | .build t parts=>match GN E.gl fr parts.toList with
  |some l=>WL P t l|none=>none
 | .buildSlice t len parts=>if own then none else match GN E.gl fr parts.toList with
  |some l=>uM P t len l|none=>none
 | .load t a=>match ev a with
  |some p=>wZ P H t p|none=>none
 | .nilCheck x=>match ev x with
  |some p=>RS p|none=>none
 | .binOp op t x y _ =>match ev x,ev y with
  |some a,some b=>if MA x y a b then BR P op t a b else none
  |_,_ =>none
 | .unOp op _ x=>match ev x with
  |some a=>unT op a|none=>none
 | .convert s d x=>match ev x with
  |some a=>Ds P s d a|none=>none
 | .makeFunc f first captured=>match uO E.gl fr first.toList,uO E.gl fr captured.toList with
  |some a,some c=>some (.fn f a c)|_,_ =>none
 | .fieldAddr s x f=>match ev x with
  |some a=>CR P s a f|none=>none
 | .field t x f=>match ev x with
  |some (.agg cs)=>match QA P t f with
   |some fd=>wN P fd.type cs fd.offset|none=>none
  |_ =>none
 | .indexAddr t x i=>match ev x,ev i with
  |some a,some b=>sP P t a b|_,_ =>none
 | .index t x i=>match ev x,ev i with
  |some a,some b=>GC P t a b|_,_ =>none
 | .slice t x lo hi mx=>match mx with
  |some _ =>none
  |none=>match ev x with
   |some a=>match OO ev lo,OO ev hi with
    |some l,some h=>AJ P t a l h|_,_ =>none
   |none=>none
 | .extract x i=>match ev x with
  |some (.tup xs)=>xs[i]?|_ =>none
 | .lookup t x i ok=>match ev x,ev i with
  |some a,some b=>zH P H t a b ok|_,_ =>none
 | .call c=>zA P E H fr c|_ =>none
abbrev jA:=Option Tmp
def qU(fr:fU)(dst:jA)(v:T):List T:=
 match dst with
 |some d=>fr.set d v|none=>fr
noncomputable def Bu(fr:fU)(dst:jA)(v:T):List T:=
 match dst with
 |some d=>aEi v fr d|none=>fr
theorem Kk(fr:fU)(dst:jA)(v:T):Bu fr dst v=qU fr dst v:=by
 cases dst with
 |none=>rfl|some d=>exact PC v fr d
abbrev fZ:=Array Oper
def BJ(ops:fZ)(fr:fU)(j:Nat):Option Bool:=
 match((ops[j]?).bind (·.dst)).bind (λd=>fr[d]?)with
 |some (.bool b)=>some b|_ =>none
def qH(ops:fZ)(fr:fU)(o:Oper):Bool:=
 match o.guard with
 |none=>true|some (j,want)=>BJ ops fr j==some want
end
structure G where
 w:World
 S:Nat->Prop
 al:Nat->Prop
 loc:Nat->Nat
 cp:Nat->Nat
abbrev gQ:=Value
abbrev gM:=List Value
abbrev gZ:=Nat->T
abbrev jC:=ByteArray
inductive HH(g:G):Value->T->Prop
 |int (k:iE) (n:Int):HH g (.int k n) (.int k n)
 |bool (b:Bool):HH g (.bool b) (.bool b)
 |str (s:jC):HH g (.string s) (.str s.data.toList)
 |nilp:HH g (.pointer none) .nilp
 |nils:HH g (.slice none 0 0) .nils
 |nilf:HH g .nilFunc .nilf
 |nili:HH g .nilIface .nili
 |nilm:HH g (.map none) .nilm
 |slfn (full:Bool) (f:gZ) (p:Option Addr):HH g (.slice p 0 0) (.slf full 0 f)
 | slf (full:Bool) (n:Nat) (f:gZ) (sz b o cap:Nat) (vs:gM):(n≠0->g.S b)->(∀i,i<n->(f i).cells.length=sz)->n<=cap->cap<=maxLen->(full=true->cap=n)->
   vs.length=n*sz->(∀(j:Nat) (v:gQ),vs[j]? =some v->g.w.cell? ⟨b,o+j,none⟩=some v)->
   (∀(i j:Nat) (v:gQ) (c:T),i<n->j<sz->vs[i*sz+j]? =some v->(f i).cells[j]? =some c->HH g v c)->HH g (.slice (some ⟨b,o,none⟩) n cap) (.slf full n f)
 |agg (cs:fU) (vs:gM):vs.length=cs.length->(∀(j:Nat) (v:gQ) (c:T),vs[j]? =some v->cs[j]? =some c->HH g v c)->HH g (.agg vs.toArray) (.agg cs)
inductive Rd(g:G):Value->T->Prop
 |int (k:iE) (n:Int):Rd g (.int k n) (.int k n)
 |bool (b:Bool):Rd g (.bool b) (.bool b)
 |str (s:jC):Rd g (.string s) (.str s.data.toList)
 |nilp:Rd g (.pointer none) .nilp
 |ptr (l off:Nat):g.al l->Rd g (.pointer (some ⟨g.loc l,off,none⟩)) (.ptr l off)
 | ref (x:T) (off b o:Nat) (vs:gM):g.S b->vs.length=x.cells.length->(∀(j:Nat) (v:gQ),vs[j]? =some v->g.w.cell? ⟨b,o+j,none⟩=some v)->
   (∀(j:Nat) (v:gQ) (c:T),vs[j]? =some v->x.cells[j]? =some c->Rd g v c)->Rd g (.pointer (some ⟨b,o+off,none⟩)) (.ref x off)
 |nils:Rd g (.slice none 0 0) .nils
 |slfn (full:Bool) (f:gZ) (p:Option Addr):Rd g (.slice p 0 0) (.slf full 0 f)
 | sl (full:Bool) (xs:fU) (sz b o cap:Nat) (vs:gM):(xs≠[]->g.S b)->(∀x∈xs,x.cells.length=sz)->xs.length<=cap->cap<=maxLen->(full=true->cap=xs.length)->
   vs.length=xs.length*sz->(∀(j:Nat) (v:gQ),vs[j]? =some v->g.w.cell? ⟨b,o+j,none⟩=some v)->
   (∀(j:Nat) (v:gQ) (c:T),vs[j]? =some v->(xs.flatMap T.cells)[j]? =some c->Rd g v c)->Rd g (.slice (some ⟨b,o,none⟩) xs.length cap) (.sl full xs)
 | slf (full:Bool) (n:Nat) (f:gZ) (sz b o cap:Nat) (vs:gM):(n≠0->g.S b)->(∀i,i<n->(f i).cells.length=sz)->n<=cap->cap<=maxLen->(full=true->cap=n)->
   vs.length=n*sz->(∀(j:Nat) (v:gQ),vs[j]? =some v->g.w.cell? ⟨b,o+j,none⟩=some v)->
   (∀(i j:Nat) (v:gQ) (c:T),i<n->j<sz->vs[i*sz+j]? =some v->(f i).cells[j]? =some c->HH g v c)->Rd g (.slice (some ⟨b,o,none⟩) n cap) (.slf full n f)
 |osl (l sz i len b o cap:Nat):g.al l->len<=cap->i+cap<=g.cp l->(0<len\/i=0->b=g.loc l/\o=i*sz)->(i=0->cap=g.cp l)->Rd g (.slice (some ⟨b,o,none⟩) len cap) (.osl l sz i len)
 |nilf:Rd g .nilFunc .nilf
 | fn (f:Fn) (first captured:fU) (vs us:gM):vs.length=first.length->(∀(j:Nat) (v:gQ) (c:T),vs[j]? =some v->first[j]? =some c->Rd g v c)->
   us.length=captured.length->(∀(j:Nat) (v:gQ) (c:T),us[j]? =some v->captured[j]? =some c->Rd g v c)->Rd g (.func f vs.toArray us.toArray) (.fn f first captured)
 |nili:Rd g .nilIface .nili
 |iface (t:fS) (v:gQ) (x:T):Rd g v x->Rd g (.iface t v) (.iface t x)
 |nilm:Rd g (.map none) .nilm
 |mp (l:Nat):g.al l->Rd g (.map (some (g.loc l))) (.mp l)
 |yl (l:Nat):g.al l->Rd g (.func (.yield (g.loc l)) #[] #[]) (.yl l)
 |agg (cs:fU) (vs:gM):vs.length=cs.length->(∀(j:Nat) (v:gQ) (c:T),vs[j]? =some v->cs[j]? =some c->Rd g v c)->Rd g (.agg vs.toArray) (.agg cs)
 |tup (cs:fU) (vs:gM):vs.length=cs.length->(∀(j:Nat) (v:gQ) (c:T),vs[j]? =some v->cs[j]? =some c->Rd g v c)->Rd g (.tuple vs.toArray) (.tup cs)
def RdL(g:G)(vs:gM)(ts:fU):Prop:=vs.length=ts.length/\∀(j:Nat) (v:gQ) (c:T),vs[j]? =some v->ts[j]? =some c->Rd g v c
section RdL
variable{g:G}
theorem RdL.nil:RdL g [] []:=⟨rfl,λj v c h=>by simp at h⟩
theorem RdL.cons{v:gQ}{t:T}{vs:gM}{ts:fU}(h:Rd g v t)(hs:RdL g vs ts):RdL g (v::vs) (t::ts):=by
 refine⟨by simp[hs.1],λj u c hu hc=> ?_⟩;cases j with
 |zero=>simp at hu hc;subst hu;subst hc;exact h|succ j=>simp at hu hc;exact hs.2 j u c hu hc
theorem RdL.inv_cons{v:gQ}{t:T}{vs:gM}{ts:fU}(h:RdL g (v::vs) (t::ts)):Rd g v t/\RdL g vs ts:=
 ⟨h.2 0 v t rfl rfl,by simpa using h.1,λj u c hu hc=>h.2 (j+1) u c (by simpa using hu) (by simpa using hc)⟩
theorem RdL.append{vs us:gM}{ts ss:fU}(h:RdL g vs ts)(k:RdL g us ss):RdL g (vs++us) (ts++ss):=by
 refine⟨by simp[h.1,k.1],λj u c hu hc=> ?_⟩;rw[dT]at hu hc;by_cases hj:j<vs.length
 .rw[if_pos hj]at hu;rw[if_pos (h.1▸hj)]at hc;exact h.2 j u c hu hc
 .rw[if_neg hj]at hu;rw[if_neg (h.1▸hj),<-h.1]at hc;exact k.2 _ u c hu hc
theorem RdL.take{vs:gM}{ts:fU}(h:RdL g vs ts)(n:Nat):RdL g (vs.take n) (ts.take n):=by
 refine⟨by simp[h.1],λj u c hu hc=> ?_⟩;rw[bD]at hu hc;split at hu
 .rename_i hj;rw[if_pos hj]at hc;exact h.2 j u c hu hc
 .cases hu
theorem RdL.drop{vs:gM}{ts:fU}(h:RdL g vs ts)(n:Nat):RdL g (vs.drop n) (ts.drop n):=by
 refine⟨by simp[h.1],λj u c hu hc=> ?_⟩;rw[bZ]at hu hc;exact h.2 _ u c hu hc
theorem RdL.at_ {vs:gM}{ts:fU}(h:RdL g vs ts){j:Nat}{t:T}(ht:ts[j]? =some t):∃v,vs[j]? =some v/\Rd g v t:=by
 have hj:j<ts.length:=(aO.1 ht).1;have hv:vs[j]? =some (vs[j]'(by rw[h.1];exact hj)):=aB _;exact⟨_,hv,h.2 j _ t hv ht⟩
theorem RdL.set{vs:gM}{ts:fU}(h:RdL g vs ts)(i:Nat){v:gQ}{t:T}(hv:Rd g v t):RdL g (vs.set i v) (ts.set i t):=by
 refine⟨by simp[h.1],λj u c hu hc=> ?_⟩;rw[eC]at hu hc;by_cases hij:i=j
 .rw[if_pos hij]at hu hc;split at hu
  .split at hc
   .simp at hu hc;subst hu;subst hc;exact hv
   .cases hc
  .cases hu
 .rw[if_neg hij]at hu hc;exact h.2 j u c hu hc
theorem RdL.replicate{v:gQ}{t:T}(n:Nat)(h:Rd g v t):RdL g (List.replicate n v) (List.replicate n t):=by
 induction n with
 |zero=>exact RdL.nil|succ n ih=>exact RdL.cons h ih
end RdL
structure PStep(g g':G):Prop where
 os:g'.w.os=g.w.os
 tape:g'.w.tape=g.w.tape
 output:g'.w.output=g.w.output
 size:g.w.heap.size<=g'.w.heap.size
 block:∀b,b<g.w.heap.size->g'.w.heap[b]? =g.w.heap[b]?
 sub:∀b,g.S b->g'.S b
 fresh:∀b,g'.S b->g.S b\/g.w.heap.size<=b
 al:g'.al=g.al
 loc:g'.loc=g.loc
 cp:g'.cp=g.cp
theorem PStep.refl(g:G):PStep g g:=⟨rfl,rfl,rfl,aZ _,λ_ _ =>rfl,λ_ h=>h,λ_ h=> .inl h,rfl,rfl,rfl⟩
theorem PStep.trans{a b c:G}(h:PStep a b)(k:PStep b c):PStep a c:=
 ⟨k.os.trans h.os,k.tape.trans h.tape,k.output.trans h.output,fB h.size k.size,λi hi=>(k.block i (bT hi h.size)).trans (h.block i hi),
  λi hi=>k.sub i (h.sub i hi),λi hi=>(k.fresh i hi).elim (h.fresh i) (λq=> .inr (fB h.size q)),k.al.trans h.al,k.loc.trans h.loc,k.cp.trans h.cp⟩
abbrev iK:=World
theorem LW{w:iK}{a:Addr}{v:gQ}(h:w.cell? a=some v):a.block<w.heap.size:=by
 unfold World.cell? at h;split at h
 .rename_i hb;exact(aK.1 hb).1
 .cases h
theorem PStep.cell{g g':G}(h:PStep g g'){a:Addr}{v:gQ}(hc:g.w.cell? a=some v):g'.w.cell? a=some v:=
 (World.cell?_of_block (w:=g.w) (h.block _ (LW hc))).trans hc
theorem HH.keep{g g':G}(hS:∀b,g.S b->g'.S b)(hc:∀b o v,g.S b->g.w.cell? ⟨b,o,none⟩=some v->g'.w.cell? ⟨b,o,none⟩=some v){v:gQ}{t:T}(hr:HH g v t):HH g' v t:=by
 induction hr with
 |int k n=>exact .int k n|bool b=>exact .bool b|str s=>exact .str s|nilp=>exact .nilp|nils=>exact .nils|slfn full f p=>exact .slfn full f p|nilf=>exact .nilf|nili=>exact .nili|nilm=>exact .nilm
 |slf full n f sz b o cap vs h1 h2 h3 h4 h5 h6 h7 _ ih=>
  refine .slf full n f sz b o cap vs (λq=>hS b (h1 q)) h2 h3 h4 h5 h6 (λj v hv=> ?_) ih;have hn:n≠0:=by
   rintro rfl;simp at h6;subst h6;simp at hv
  exact hc b _ v (h1 hn) (h7 j v hv)
 |agg cs vs h1 _ ih=>exact .agg cs vs h1 ih
theorem HH.rd{g:G}{v:gQ}{t:T}(h:HH g v t):Rd g v t:=by
 induction h with
 |int k n=>exact .int k n|bool b=>exact .bool b|str s=>exact .str s|nilp=>exact .nilp|nils=>exact .nils|slfn full f p=>exact .slfn full f p|nilf=>exact .nilf|nili=>exact .nili|nilm=>exact .nilm|slf full n f sz b o cap vs h1 h2 h3 h4 h5 h6 h7 h8 _ =>exact .slf full n f sz b o cap vs h1 h2 h3 h4 h5 h6 h7 h8|agg cs vs h1 _ ih=>exact .agg cs vs h1 ih
theorem HH.pstep{g g':G}(h:PStep g g'){v:gQ}{t:T}(hr:HH g v t):HH g' v t:=hr.keep h.sub (λ_ _ _ _ hc=>h.cell hc)
theorem Rd.slf_keep{g g':G}(hS:∀b,g.S b->g'.S b)(hc:∀b o v,g.S b->g.w.cell? ⟨b,o,none⟩=some v->g'.w.cell? ⟨b,o,none⟩=some v){full:Bool}{n:Nat}{f:gZ}{sz b o cap:Nat}{vs:gM}(h1:n≠0->g.S b)(h2:∀i,i<n->(f i).cells.length=sz)(h3:n<=cap)(h4:cap<=maxLen)(h5:full=true->cap=n)
  (h6:vs.length=n*sz) (h7:∀(j:Nat) (v:gQ),vs[j]? =some v->g.w.cell? ⟨b,o+j,none⟩=some v)
  (h8:∀(i j:Nat) (v:gQ) (c:T),i<n->j<sz->vs[i*sz+j]? =some v->(f i).cells[j]? =some c->HH g v c):Rd g' (.slice (some ⟨b,o,none⟩) n cap) (.slf full n f):=
 ((HH.slf full n f sz b o cap vs h1 h2 h3 h4 h5 h6 h7 h8).keep hS hc).rd
theorem Rd.pstep{g g':G}(h:PStep g g'){v:gQ}{t:T}(hr:Rd g v t):Rd g' v t:=by
 induction hr with
 |int k n=>exact .int k n|bool b=>exact .bool b|str s=>exact .str s|nilp=>exact .nilp|ptr l off hl=>rw[<-h.loc];exact .ptr l off (h.al▸hl)|ref x off b o vs hS hlen hc _ ih=>exact .ref x off b o vs (h.sub b hS) hlen (λj v hv=>h.cell (hc j v hv)) ih|nils=>exact .nils|slfn full f p=>exact .slfn full f p|sl full xs sz b o cap vs hS hsz h1 h2 h3 hlen hc _ ih=>exact .sl full xs sz b o cap vs (λhx=>h.sub b (hS hx)) hsz h1 h2 h3 hlen (λj v hv=>h.cell (hc j v hv)) ih|slf full n f sz b o cap vs h1 h2 h3 h4 h5 h6 h7 h8=>exact Rd.slf_keep h.sub (λ_ _ _ _ hc=>h.cell hc) h1 h2 h3 h4 h5 h6 h7 h8|osl l sz i len b o cap hl h1 h2 h3 h4=>exact .osl l sz i len b o cap (h.al▸hl) h1 (h.cp▸h2) (λq=>h.loc▸h3 q) (λq=>h.cp▸h4 q)|nilf=>exact .nilf|fn f first captured vs us h1 _ h2 _ ih1 ih2=>exact .fn f first captured vs us h1 ih1 h2 ih2
 |nili=>exact .nili|iface t v x _ ih=>exact .iface t v x ih|nilm=>exact .nilm|mp l hl=>rw[<-h.loc];exact .mp l (h.al▸hl)|yl l hl=>rw[<-h.loc];exact .yl l (h.al▸hl)|agg cs vs h1 _ ih=>exact .agg cs vs h1 ih|tup cs vs h1 _ ih=>exact .tup cs vs h1 ih
theorem RdL.pstep{g g':G}(h:PStep g g'){vs:gM}{ts:fU}(hr:RdL g vs ts):RdL g' vs ts:=⟨hr.1,λj v c hv hc=>(hr.2 j v c hv hc).pstep h⟩
def rZ(g:G):Prop:=∀b,g.S b->b<g.w.heap.size
abbrev iH:=List MapEntry
def sT(g:G)(ms:iH)(es:gS):Prop:=
 ms.map (·.born)=es.map (·.1)/\RdL g (ms.map (·.key)) (es.map (·.2.1))/\RdL g (ms.map (·.val)) (es.map (·.2.2))
theorem sT.mono{g g':G}(h:∀v t,Rd g v t->Rd g' v t){ms:iH}{es:gS}(k:sT g ms es):sT g' ms es:=
 ⟨k.1,⟨k.2.1.1,λj v c hv hc=>h v c (k.2.1.2 j v c hv hc)⟩,⟨k.2.2.1,λj v c hv hc=>h v c (k.2.2.2 j v c hv hc)⟩⟩
abbrev gX:=Array Value
abbrev gV:=FuncId
def MoR(g:G):Mo->Obj->Prop
 | .map c es,b=>∃ms:Array MapEntry,b= .map ms c/\sT g ms.toList es| .loop r,b=>∃(fn:gV) (tmps:gX) (D:Nat),b= .loop {state:=r.st,pending:=r.pe,fn,tmps,params:=r.ps,assign:=r.asg,body:=r.bd,defers:=D}/\RdL g tmps.toList (r.fr.view r.n)/\r.fr.Wf r.n| .mit m since seen last,b=>g.al m/\b= .mapIter (some (g.loc m)) since seen.toArray last| .sit s pos,b=>∃u:ByteArray,u.data.toList=s/\b= .stringIter u pos
theorem MoR.mono{g g':G}(h:∀v t,Rd g v t->Rd g' v t)(hl:∀l,g.al l->g'.al l/\g'.loc l=g.loc l){m:Mo}{b:Obj}(k:MoR g m b):MoR g' m b:=by
 cases m with
 |map c es=>obtain⟨ms,e,k⟩:=k;exact⟨ms,e,k.mono h⟩
 |loop r=>
  obtain⟨fn,tmps,D,e,k,hw⟩:=k;exact⟨fn,tmps,D,e,⟨k.1,λj v c hv hc=>h v c (k.2 j v c hv hc)⟩,hw⟩
 |mit m since seen last=>exact⟨(hl m k.1).1,by rw[(hl m k.1).2];exact k.2⟩|sit s pos=>exact k
structure St(g:G)(H:Hp):Prop where
 own:∀l o,H.get l=some o->g.al l/\¬g.S (g.loc l)/\∃cs:Array Value,g.w.heap[g.loc l]? =some (.cells cs o.elem (0,0))/\o.cells.length<=cs.size/\
  (o.sz=0->cs.size=o.cells.length)/\(o.sz≠0->cs.size=g.cp l*o.sz/\g.cp l<=maxLen)/\RdL g (cs.toList.take o.cells.length) o.cells
 ownM:∀l o m,H.any l=some o->o.me=some m->g.al l/\¬g.S (g.loc l)/\∃b:Obj,g.w.heap[g.loc l]? =some b/\MoR g m b
 sep:∀l l' o o',H.any l=some o->H.any l'=some o'->g.loc l=g.loc l'->l=l'
 new:∀l,H.next<=l->¬g.al l
theorem St.at_ {g:G}{H:Hp}(hs:St g H){l:Nat}{o:Ob}(h:H.any l=some o):g.al l/\¬g.S (g.loc l)/\g.loc l<g.w.heap.size:=by
 cases hm:o.me with
 |none=>
  obtain⟨h1,h2,cs,h3,_⟩:=hs.own l o (yC h hm);exact⟨h1,h2,(aK.1 h3).1⟩
 |some p=>
  obtain⟨h1,h2,ms,h3,_⟩:=hs.ownM l o p h hm;exact⟨h1,h2,(aK.1 h3).1⟩
theorem St.pstep{g g':G}{H:Hp}(h:PStep g g')(hs:St g H):St g' H:=by
 refine⟨λl o ho=> ?_,λl o m ho hm=> ?_,λl l' o o' h1 h2 e=>hs.sep l l' o o' h1 h2 (by rw[h.loc]at e;exact e),λl hl=>by rw[h.al];exact hs.new l hl⟩
 .obtain⟨ha,hS,cs,hb,h1,h2,h3,h4⟩:=hs.own l o ho;have hlt:g.loc l<g.w.heap.size:=(aK.1 hb).1;refine⟨h.al▸ha,?_,cs,?_,h1,h2,?_,h4.pstep h⟩
  .rw[h.loc];exactλq=>(h.fresh _ q).elim hS (λq'=>by omega)
  .rw[h.loc,h.block _ hlt];exact hb
  .rw[h.cp];exact h3
 .obtain⟨ha,hS,ms,hb,h1⟩:=hs.ownM l o m ho hm;have hlt:g.loc l<g.w.heap.size:=(aK.1 hb).1;refine⟨h.al▸ha,?_,ms,?_,h1.mono (λ_ _ q=>q.pstep h) (λl hl=>⟨h.al▸hl,by rw[h.loc]⟩)⟩
  .rw[h.loc];exactλq=>(h.fresh _ q).elim hS (λq'=>by omega)
  .rw[h.loc,h.block _ hlt];exact hb
theorem St.nl(g:G)(N:Nat)(h:∀l,N<=l->¬g.al l):St g ⟨N,.nl⟩:=
 ⟨λl o ho=>(by rw[get_nl]at ho;cases ho),λl o m ho=>(by rw[uI]at ho;cases ho),λl l' o o' ho=>(by rw[uI]at ho;cases ho),h⟩
theorem St.empty(g:G)(h:∀l,¬g.al l):St g Hp.empty:=St.nl g 0 (λl _ =>h l)
theorem Fo(g:G){v:gQ}{t:T}(h:YN v=some t):Rd g v t:=by
 unfold YN at h;split at h<;>first|cases h|skip
 .exact .int _ _
 .exact .bool _
 .exact .str _
 .exact .nilp
 .exact .nils
 .exact .nilf
 .exact .nili
 .exact .nilm
theorem ZG(g:G):∀{vs:gM} {ts:fU},GL vs=some ts->RdL g vs ts
 |[],ts,h=>by simp[GL]at h;subst h;exact RdL.nil
 |v::vs,ts,h=>by
  simp only[GL]at h;split at h
  .rename_i t ht;split at h
   .rename_i ts' hts;cases h;exact RdL.cons (Fo g ht) (ZG g hts)
   .cases h
  .cases h
theorem FC(g:G){v:gQ}{t:T}(h:TQ v=some t):Rd g v t:=by
 unfold TQ at h;split at h
 .rename_i cs;split at h
  .rename_i ts hts;cases h;have:=ZG g hts;exact Rd.agg ts cs.toList this.1 this.2
  .cases h
 .rename_i vs;split at h
  .rename_i hv;cases h;have e:vs=([]:List Value).toArray:=by cases vs;simp at hv;simp[hv]
   rw[e];exact Rd.tup [] [] rfl (λj v c h=>by simp at h)
  .cases h
 .exact Fo g h
section inv
variable{g:G}{v:gQ}
theorem Rd.inv_int{k:iE}{n:Int}(h:Rd g v (.int k n)):v= .int k n:=by cases h;rfl
theorem Rd.inv_bool{b:Bool}(h:Rd g v (.bool b)):v= .bool b:=by cases h;rfl
theorem Rd.inv_str{s:gU}(h:Rd g v (.str s)):∃b:ByteArray,v= .string b/\b.data.toList=s:=by cases h;exact⟨_,rfl,rfl⟩
theorem Rd.inv_agg{cs:fU}(h:Rd g v (.agg cs)):∃vs:List Value,v= .agg vs.toArray/\RdL g vs cs:=by cases h with|agg _ vs h1 h2=>exact⟨vs,rfl,h1,h2⟩
theorem Rd.inv_tup{cs:fU}(h:Rd g v (.tup cs)):∃vs:List Value,v= .tuple vs.toArray/\RdL g vs cs:=by cases h with|tup _ vs h1 h2=>exact⟨vs,rfl,h1,h2⟩
theorem Rd.inv_fn{f:Fn}{a c:fU}(h:Rd g v (.fn f a c)):∃vs us:List Value,v= .func f vs.toArray us.toArray/\RdL g vs a/\RdL g us c:=by
 cases h with|fn _ _ _ vs us h1 h2 h3 h4=>exact⟨vs,us,rfl,⟨h1,h2⟩,⟨h3,h4⟩⟩
theorem Rd.mk_agg{cs:fU}{vs:gM}(h:RdL g vs cs):Rd g (.agg vs.toArray) (.agg cs):= .agg cs vs h.1 h.2
theorem Rd.mk_tup{cs:fU}{vs:gM}(h:RdL g vs cs):Rd g (.tuple vs.toArray) (.tup cs):= .tup cs vs h.1 h.2
theorem Rd.mk_fn{f:Fn}{a c:fU}{vs us:gM}(h:RdL g vs a)(k:RdL g us c):Rd g (.func f vs.toArray us.toArray) (.fn f a c):= .fn f a c vs us h.1 h.2 k.1 k.2
theorem Rd.undef:Rd g Go.undef pV:= .tup [] [] rfl (λj v c h=>by simp at h)
theorem Rd.cells{t:T}(h:Rd g v t):RdL g v.cells.toList t.cells:=by
 cases h with
 |agg cs vs h1 h2=>exact⟨by simpa [Value.cells,T.cells]using h1,by simpa [Value.cells,T.cells]using h2⟩|tup cs vs h1 h2=>exact RdL.cons (.tup cs vs h1 h2) RdL.nil|int k n=>exact RdL.cons (.int k n) RdL.nil|bool b=>exact RdL.cons (.bool b) RdL.nil|str s=>exact RdL.cons (.str s) RdL.nil|nilp=>exact RdL.cons .nilp RdL.nil|ptr l off hl=>exact RdL.cons (.ptr l off hl) RdL.nil|ref x off b o vs h1 h2 h3 h4=>exact RdL.cons (.ref x off b o vs h1 h2 h3 h4) RdL.nil|nils=>exact RdL.cons .nils RdL.nil|slfn full f p=>exact RdL.cons (.slfn full f p) RdL.nil|sl full xs sz b o cap vs h1 h2 h3 h4 h5 h6 h7 h8=>exact RdL.cons (.sl full xs sz b o cap vs h1 h2 h3 h4 h5 h6 h7 h8) RdL.nil|slf full n f sz b o cap vs h1 h2 h3 h4 h5 h6 h7 h8=>exact RdL.cons (.slf full n f sz b o cap vs h1 h2 h3 h4 h5 h6 h7 h8) RdL.nil|osl l sz i len b o cap h1 h2 h3 h4 h5=>exact RdL.cons (.osl l sz i len b o cap h1 h2 h3 h4 h5) RdL.nil|nilf=>exact RdL.cons .nilf RdL.nil|fn f a c vs us h1 h2 h3 h4=>exact RdL.cons (.fn f a c vs us h1 h2 h3 h4) RdL.nil|nili=>exact RdL.cons .nili RdL.nil|iface t v x hx=>exact RdL.cons (.iface t v x hx) RdL.nil|nilm=>exact RdL.cons .nilm RdL.nil|mp l hl=>exact RdL.cons (.mp l hl) RdL.nil|yl l hl=>exact RdL.cons (.yl l hl) RdL.nil
theorem Rd.oneCell{t:T}(h:Rd g v t)(ho:t.one=true):v.oneCell'=true:=by
 cases h<;>simp_all [T.one,Value.oneCell']
end inv
def vL(P:fV)(f:gV):Bool:=
 match P.funcs[f]? with
 |some fn=>fn.body.isSome&& !(fn.name== "runtime.NumGoroutine")
 |none=>false
def T.refLen:T->Nat
 | .ref x _ =>x.cells.length|_ =>0
def PQ(g:G)(k:Nat)(t:T):Prop:=Rd g (.pointer (some ⟨k,0,none⟩)) t/\g.S k/\∃cs e fz,g.w.heap[k]? =some (.cells cs e fz)/\cs.size=t.refLen
def GlOk(gl:fY)(g:G):Prop:=∀k t,gl k=some t->PQ g k t
abbrev gN:=Hp->FuncId->List T->Option T
def vP(P:fV)(gl:fY)(pe:gN):Prop:=
 ∀H f ts r,pe H f ts=some r->vL P f=true/\∀(g:G) (vs:gM),rZ g->St g H->GlOk gl g->RdL g vs ts->
  Calls P f vs.toArray g.w λe w'=>∃v g',e= .returned v/\g'.w=w'/\PStep g g'/\rZ g'/\Rd g' v r
theorem GlOk.pstep{gl:fY}{g g':G}(h:PStep g g')(hg:GlOk gl g):GlOk gl g':=λk t ht=>by
 obtain⟨h1,h2,cs,e,fz,h3,h4⟩:=hg k t ht;exact⟨h1.pstep h,h.sub k h2,cs,e,fz,by rw[h.block k (aK.1 h3).1];exact h3,h4⟩
abbrev gC:=Exit->Act->World->Prop
abbrev iP:=Act->World->Prop
def POk(P:fV)(o:Oper)(a:Act)(g:G)(t:T):Prop:=
 ∀(K:iP) (Q:gC),(∀v g',PStep g g'->rZ g'->Rd g' v t->K (a.put o.dst v) g'.w)->o.wp P a g.w K Q
theorem rY{P:fV}{o:Oper}{a:Act}{g:G}{t:T}{v:gQ}(hg:rZ g)(hr:(execOp a.eval o).run P g.w= .ok (.value v) g.w)(h:Rd g v t):POk P o a g t:=by
 intro K Q hK;unfold Oper.wp;rw[hr];exact hK v g (PStep.refl g) hg h
def G.add(g:G)(o:Obj):G:={g with w:={g.w with heap:=g.w.heap.push o},S:=λb=>g.S b\/b=g.w.heap.size}
theorem G.add_step(g:G)(o:Obj):PStep g (g.add o):=
 ⟨rfl,rfl,rfl,by simp[G.add],λb hb=>by simp only[G.add];rw[fJ,if_neg (by omega)],λ_ h=> .inl h,λb h=>h.elim .inl (λe=> .inr (by omega)),rfl,rfl,rfl⟩
theorem G.add_ok{g:G}(h:rZ g)(o:Obj):rZ (g.add o):=by
 intro b hb;simp only[G.add,Array.size_push];rcases hb with hb|hb
 .have:=h b hb;omega
 .omega
theorem G.add_cell(g:G)(cs:gX)(e:fS)(j:Nat):(g.add (.cells cs e)).w.cell? ⟨g.w.heap.size,j,none⟩=cs[j]? :=by
 have h:(g.add (.cells cs e)).w.heap[g.w.heap.size]? =some (.cells cs e (0,0)):=by simp only[G.add];exact Array.getElem?_push_size
 simp[World.cell?,h]
theorem Fi{P:fV}{o:Oper}{a:Act}{g:G}{t:T}{v:gQ}{ob:Obj}(hg:rZ g)
  (hr:(execOp a.eval o).run P g.w= .ok (.value v) (g.add ob).w) (h:Rd (g.add ob) v t):POk P o a g t:=by
 intro K Q hK;unfold Oper.wp;rw[hr];exact hK v _ (g.add_step ob) (g.add_ok hg ob) h
theorem DY(P:fV)(w:iK)(b o:Nat):∀(n i:Nat) (acc:gX) (vs:gM),vs.length=n->
  (∀j v,vs[j]? =some v->w.cell? ⟨b,o+(i+j),none⟩=some v)->(loadCellsFrom ⟨b,o,none⟩ i n acc).run P w= .ok (acc++vs.toArray) w
 |0,i,acc,vs,hl,_ =>by
  have:vs=[]:=cA hl;subst this;simp[loadCellsFrom]
 |n+1,i,acc,v::vs,hl,hc=>by
  have h0:=hc 0 v rfl
  have ih:=DY P w b o n (i+1) (acc.push v) vs (by simpa using hl) (λj u hu=>by
   have:=hc (j+1) u (by simpa using hu);rw[show o+(i+1+j)=o+(i+(j+1)) by omega]
   exact this)
  simp only[loadCellsFrom,aP,Addr.add_lit,run_load];simp only[Nat.add_zero]at h0;simp[h0,ih]
theorem KZ(P:fV)(w:iK)(b o n:Nat)(vs:gM)(hl:vs.length=n)(hc:∀j v,vs[j]? =some v->w.cell? ⟨b,o+j,none⟩=some v):
  (loadCells ⟨b,o,none⟩ n).run P w= .ok vs.toArray w:=by
 have:=DY P w b o n 0 #[] vs hl (λj v hv=>by simpa using hc j v hv);simpa [loadCells]using this
theorem WQ{g:G}{H:Hp}(hs:St g H){p:T}{v:gQ}{cs:fU}{off:Nat}(h:wI H p=some (cs,off))(hr:Rd g v p):
  ∃(b o:Nat) (vs:gM),v= .pointer (some ⟨b,o+off,none⟩)/\RdL g vs cs/\∀j u,vs[j]? =some u->g.w.cell? ⟨b,o+j,none⟩=some u:=by
 cases hr<;>simp only[wI]at h<;>try cases h
 case ref b o vs hS hl hc hx=>exact⟨b,o,vs,rfl,⟨hl,hx⟩,hc⟩
 case ptr l off' hl=>
  split at h
  .rename_i ob hob;cases h;obtain⟨_,_,c,hb,h1,_,_,h4⟩:=hs.own l ob hob;refine⟨g.loc l,0,c.toList.take ob.cells.length,by simp,h4,λj u hu=> ?_⟩;rw[bD]at hu;split at hu
   .simp[World.cell?,hb]at hu⊢;exact hu
   .cases hu
  .cases h
theorem OS{P:fV}{g:G}{t:fS}{cs:fU}{off:Nat}{r:T}(h:wN P t cs off=some r){vs:gM}(hv:RdL g vs cs):
  ∃u,(part t vs.toArray off).run P g.w= .ok u g.w/\Rd g u r:=by
 unfold wN KP vZ at h;unfold part isAgg sizeOf typeInfo;cases hu:P.underlying t with
 |none=>simp[hu]at h
 |some d=>
  have scalar:(cs[off]? =some r)->∃u,(match vs.toArray[off]? with|some v=>(pure v:Sem Value)|none=>stuck "part: no such cell").run P g.w= .ok u g.w/\Rd g u r:=by
   intro hc;obtain⟨u,hu',hr⟩:=hv.at_ hc;exact⟨u,by simp[hu'],hr⟩
  have aggr:(match Option.map (λx=>x.size) (P.info? t)with|some n=>if off+n<=cs.length then some (T.agg (List.take n (List.drop off cs)))else none|none=>none)=some r->
    ∃i,P.info? t=some i/\off+i.size<=cs.length/\r= .agg ((cs.drop off).take i.size):=by
   intro hh;cases hi:P.info? t with
   |none=>simp[hi]at hh|some i=>simp[hi]at hh;exact⟨i,rfl,hh.1,hh.2.symm⟩
  have close:∀i,P.info? t=some i->off+i.size<=cs.length->r= .agg ((cs.drop off).take i.size)->Rd g (.agg (vs.toArray.extract off (off+i.size))) r:=by
   intro i _ hle hr;subst hr;have e:vs.toArray.extract off (off+i.size)=((vs.drop off).take i.size).toArray:=by
    simp[List.extract_eq_take_drop]
   rw[e];exact Rd.mk_agg ((hv.drop off).take i.size)
  cases d<;>simp only[hu]at h<;>simp only[aP,run_underlying hu,aI,aX,aY,if_false,if_true]<;>
   first
    |exact scalar h
    |(obtain⟨i,hi,hle,hr⟩:=aggr h;exact⟨_,by simp[hi],close i hi hle hr⟩)
theorem Zp{P:fV}{g:G}{H:Hp}(hs:St g H){t:fS}{p r:T}{v:gQ}(h:wZ P H t p=some r)(hr:Rd g v p):
  ∃u,(Instr.loadAt t v).run P g.w= .ok u g.w/\Rd g u r:=by
 unfold wZ at h;split at h
 .rename_i cs off hc;obtain⟨b,o,vs,rfl,hv,hcell⟩:=WQ hs hc hr;unfold wN KP vZ at h;unfold Instr.loadAt Instr.sureAddr loadVar isAgg sizeOf typeInfo;cases hu:P.underlying t with
  |none=>simp[hu]at h
  |some d=>
   have scalar:(cs[off]? =some r)->∃u,(load ⟨b,o+off,none⟩).run P g.w= .ok u g.w/\Rd g u r:=by
    intro hc;obtain⟨u,hu',hr⟩:=hv.at_ hc;exact⟨u,by simp[hcell off u hu'],hr⟩
   have aggr:(match Option.map (λx=>x.size) (P.info? t)with|some n=>if off+n<=cs.length then some (T.agg (List.take n (List.drop off cs)))else none|none=>none)=some r->
     ∃i,P.info? t=some i/\off+i.size<=cs.length/\r= .agg ((cs.drop off).take i.size):=by
    intro hh;cases hi:P.info? t with
    |none=>simp[hi]at hh|some i=>simp[hi]at hh;exact⟨i,rfl,hh.1,hh.2.symm⟩
   have close:∀i,P.info? t=some i->off+i.size<=cs.length->r= .agg ((cs.drop off).take i.size)->
     (loadCells ⟨b,o+off,none⟩ i.size).run P g.w= .ok ((vs.drop off).take i.size).toArray g.w/\Rd g (.agg ((vs.drop off).take i.size).toArray) r:=by
    intro i _ hle hr;subst hr;refine⟨KZ P g.w b (o+off) i.size _ (by have:=hv.1;simp;omega) (λj u hu'=> ?_),Rd.mk_agg ((hv.drop off).take i.size)⟩;rw[bD]at hu';split at hu'
    .rw[bZ]at hu';rw[dW];exact hcell _ u hu'
    .cases hu'
   cases d<;>simp only[hu]at h<;>simp only[aP,run_underlying hu,aI,aX,aY,if_false,if_true]<;>
    first
     |exact scalar h
     |(obtain⟨i,hi,hle,hr⟩:=aggr h;obtain⟨h1,h2⟩:=close i hi hle hr;exact⟨_,by simp[hi,h1],h2⟩)
 .cases h
theorem Ic(s:jC):s.toList=s.data.toList:=by
 have loop:∀(n i:Nat) (r:gU),s.size-i=n->ByteArray.toList.loop s i r=r.reverse++s.data.toList.drop i:=by
  intro n
  induction n with
  |zero=>
   intro i r h;rw[ByteArray.toList.loop,if_neg (by omega)];have:s.data.toList.length<=i:=by have:=eH (a:=s);simp;omega
   rw[eN this];simp
  |succ n ih=>
   intro i r h;have hi:i<s.size:=by omega
   rw[ByteArray.toList.loop,if_pos hi,ih (i+1) _ (by omega)];have hl:i<s.data.toList.length:=by have:=eH (a:=s);simp;omega
   rw[eT hl];have hl':i<s.data.size:=by simpa using hl
   have e:s.get! i=s.data.toList[i]:=by
    show s.data[i]! =s.data.toList[i];rw[Array.getElem_toList,getElem!_pos s.data i hl']
   simp[e]
 have h:=loop (s.size-0) 0 [] rfl;simp only[List.reverse_nil,List.nil_append,fK]at h;exact h
theorem Hw(a b:jC):(a++b).data.toList=a.data.toList++b.data.toList:=by
 rw[ByteArray.data_append,Array.toList_append]
section
variable{P:fV}{g:G}
theorem aCt{op:jX}{k:iE}{a b:Int}{r:T}(h:xR op k a b=some r)(t:fS):∃q,(binOp op t (.int k a) (.int k b)).run P g.w= .ok q g.w/\Rd g q r:=by
 cases op
 case quo=>
  simp only[xR]at h;split at h
  .cases h
  .rename_i hb;cases h;exact⟨.int k (k.wrap (a.tdiv b)),by simp[binOp_quo,Op.intDiv,hb],.int _ _⟩
 case rem=>
  simp only[xR]at h;split at h
  .cases h
  .rename_i hb;cases h;exact⟨.int k (a.tmod b),by simp[binOp_rem,Op.intDiv,hb],.int _ _⟩
 case add=>cases h;exact⟨_,by rw[binOp_add];rfl,.int _ _⟩
 case sub=>cases h;exact⟨_,by rw[binOp_sub];rfl,.int _ _⟩
 case mul=>cases h;exact⟨_,by rw[binOp_mul];rfl,.int _ _⟩
 case and=>cases h;exact⟨_,by rw[binOp_and];rfl,.int _ _⟩
 case or=>cases h;exact⟨_,by rw[binOp_or];rfl,.int _ _⟩
 case xor=>cases h;exact⟨_,by rw[binOp_xor];rfl,.int _ _⟩
 case andNot=>cases h;exact⟨_,by rw[binOp_andNot];rfl,.int _ _⟩
 case eql=>cases h;exact⟨_,by rw[binOp_eql];rfl,.bool _⟩
 case neq=>cases h;exact⟨_,by rw[binOp_neq];rfl,.bool _⟩
 case lss=>cases h;exact⟨_,by rw[binOp_lss];rfl,.bool _⟩
 case leq=>cases h;exact⟨_,by rw[binOp_leq];rfl,.bool _⟩
 case gtr=>cases h;exact⟨_,by rw[binOp_gtr];rfl,.bool _⟩
 case geq=>cases h;exact⟨_,by rw[binOp_geq];rfl,.bool _⟩
 case shl=>cases h
 case shr=>cases h
theorem TW{op:jX}{k k':iE}{a b:Int}{r:T}(h:zQ op k a b=some r)(t:fS):∃q,(binOp op t (.int k a) (.int k' b)).run P g.w= .ok q g.w/\Rd g q r:=by
 cases op
 case shl=>
  simp only[zQ]at h;split at h
  .cases h
  .rename_i hb;cases h;exact⟨_,by rw[binOp_shl];simp only[Op.shift,if_neg hb];rfl,.int _ _⟩
 case shr=>
  simp only[zQ]at h;split at h
  .cases h
  .rename_i hb;cases h;exact⟨_,by rw[binOp_shr];simp only[Op.shift,if_neg hb];rfl,.int _ _⟩
 all_goals cases h
theorem aEu{op:jX}{a b:jC}{r:T}(h:GT op a.data.toList b.data.toList=some r)(t:fS):∃q,(binOp op t (.string a) (.string b)).run P g.w= .ok q g.w/\Rd g q r:=by
 cases op<;>simp only[GT]at h<;>try cases h
 case add=>
  split at h
  .rename_i hl;cases h;have e1:a.data.toList.length=a.size:=by simp[eH]
   have e2:b.data.toList.length=b.size:=by simp[eH]
   rw[e1,e2]at hl;have hlt:¬(((a.size+b.size:Nat):Int)>IntKind.i64.max):=by simp[xA]at hl⊢;omega
   refine⟨.string (a++b),by simp only[binOp,Op.stringOp,if_neg hlt];rfl,?_⟩;rw[<-Hw];exact .str _
  .cases h
 all_goals
  refine⟨_,by simp only[binOp,Op.stringOp];rfl,?_⟩;simp only[Ic];exact .bool _
theorem aIj{t:fS}{x y:T}{r:Bool}(h:PW P t x y=some r){u v:gQ}(hu:Rd g u x)(hv:Rd g v y):(Op.equal t u v).run P g.w= .ok r g.w:=by
 have key:∀d:Nat,(Op.equalIn (d+1) t u v).run P g.w= .ok r g.w:=by
  intro d;unfold PW at h;split at h<;>try cases h
  all_goals
   rename_i hd;cases hu;cases hv;simp[Op.equalIn,run_underlying hd]
 have:=key 9999;simpa only[Op.equal,Op.maxDepth]using this
theorem XB{op:jX}{t:fS}{x y:T}{r:Bool}(h:PW P t x y=some r){u v:gQ}(hu:Rd g u x)(hv:Rd g v y)(X Y:jF)(hn:MA X Y x y=true):eqGuard op t X Y u v=pure ():=by
 unfold PW at h;split at h<;>try cases h
 all_goals
  cases hu
  first
   |exact eqGuard_at_bool ..
   |exact eqGuard_at_slice ..
   |exact eqGuard_at_pointer ..
   |exact eqGuard_at_func ..
   |exact eqGuard_at_nilFunc ..
   |exact eqGuard_at_iface ..
   |(cases hv;cases op<;>rfl)
   |(cases hv;simp only[MA,UI,Bool.not_true,Bool.or_false,bF]at hn;cases op<;>first|rfl|(rcases hn with hn|hn<;>(first|(cases X<;>simp[HM]at hn<;>rfl)|(cases Y<;>simp[HM]at hn<;>cases X<;>rfl))))
theorem aIh{t:fS}{x y:T}{r:Bool}(h:eq1 P t x y=some r){u v:gQ}(hu:Rd g u x)(hv:Rd g v y)(d:Nat):(Op.equalIn (d+1) t u v).run P g.w= .ok r g.w:=by
 unfold eq1 at h;split at h
 .rename_i hd;split at h
  .rename_i hk;cases h;subst hk;cases hu;cases hv;rw[run_equalIn_int _ d t _ _ _ _ hd]
  .cases h
 .rename_i hd;cases h;obtain⟨a,rfl,rfl⟩:=hu.inv_str;obtain⟨b,rfl,rfl⟩:=hv.inv_str;rw[run_equalIn_string _ d t _ _ hd,ByteArray.toList_eq,ByteArray.toList_eq]
 .rename_i hd;cases h;cases hu;cases hv;rw[run_equalIn_bool' _ d t _ _ hd]
 .cases h
theorem Ns{t:fS}{x y:T}{r:Bool}(h:eq1 P t x y=some r){cs:fU}{off:Nat}{c:T}(hc:cs[off]? =some c):wN P t cs off=some c:=by
 unfold eq1 at h;unfold wN KP;split at h
 .rename_i hd;rw[hd];exact hc
 .rename_i hd;rw[hd];exact hc
 .rename_i hd;rw[hd];exact hc
 .cases h
theorem Yk{xs ys:fU}{us vs:gM}(hu:RdL g us xs)(hv:RdL g vs ys)(d:Nat):∀(fs:List Field) (r:Bool),Uu P xs ys fs=some r->(Op.eqFields (d+1) us.toArray vs.toArray fs).run P g.w= .ok r g.w
 |[],r,h=>by simp only[Uu,aC]at h;subst h;simp[Op.eqFields]
 |f::fs,r,h=>by
  simp only[Uu]at h;split at h
  .rename_i a b ha hb;split at h
   .cases h
   .rename_i hn;simp only[Op.eqFields,if_pos (show f.name≠ "_" from hn),aP];have two:∀q,eq1 P f.type a b=some q->(Op.eqFields (d+1) us.toArray vs.toArray (f::fs)).run P g.w=(if(!q)=true then .ok false g.w else(Op.eqFields (d+1) us.toArray vs.toArray fs).run P g.w):=by
     intro q hq;obtain⟨u,e1,r1⟩:=OS (Ns hq ha) hu;obtain⟨v,e2,r2⟩:=OS (Ns hq hb) hv;simp only[Op.eqFields,if_pos (show f.name≠ "_" from hn),aP,e1,e2,aI,aIh hq r1 r2];cases q<;>simp
    have e0:(Op.eqFields (d+1) us.toArray vs.toArray (f::fs)).run P g.w= .ok r g.w:=by
     split at h
     .rename_i hq;rw[two _ hq];exact Yk hu hv d fs r h
     .rename_i hne;rw[two _ h];cases r with
      |true=>exact absurd h hne|false=>rfl
    simp only[Op.eqFields,if_pos (show f.name≠ "_" from hn),aP]at e0;exact e0
  .cases h
theorem TF{t:fS}{fs:Array Field}(h:P.underlying t=some (.struct fs)):P.fieldsOf t=fs:=by simp[Program.fieldsOf,h]
theorem Ir{t:fS}{x y:T}{r:Bool}(h:eqK P t x y=some r){u v:gQ}(hu:Rd g u x)(hv:Rd g v y)(d:Nat):(Op.equalIn (d+2) t u v).run P g.w= .ok r g.w:=by
 unfold eqK at h;split at h
 .split at h
  .rename_i fs hd;split at h
   .cases h
   .rename_i hp;obtain⟨us,rfl,hu'⟩:=hu.inv_agg;obtain⟨vs,rfl,hv'⟩:=hv.inv_agg;rw[run_equalIn_agg _ (d+1) t _ _ (by rw[TF hd];exact hd) (by simpa using hp),TF hd];exact Yk hu' hv' d _ _ h
  .cases h
 .exact aIh h hu hv (d+1)
theorem aVq{op:jX}{t:fS}{x y r:T}(h:BR P op t x y=some r){u v:gQ}(hu:Rd g u x)(hv:Rd g v y)(X Y:jF)(hn:MA X Y x y=true):
  ∃q,(do eqGuard op t X Y u v;binOp op t u v).run P g.w= .ok q g.w/\Rd g q r:=by
 unfold BR at h;split at h
 .cases hu;cases hv;obtain⟨q,h1,h2⟩:=TW (P:=P) (g:=g) h t;exact⟨q,by simp only[eqGuard_at_int,aP,aX,aI];exact h1,h2⟩
 .cases hu;cases hv;obtain⟨q,h1,h2⟩:=TW (P:=P) (g:=g) h t;exact⟨q,by simp only[eqGuard_at_int,aP,aX,aI];exact h1,h2⟩
 .split at h
  .rename_i hk;subst hk;cases hu;cases hv;obtain⟨q,h1,h2⟩:=aCt (P:=P) (g:=g) h t;exact⟨q,by simp only[eqGuard_at_int,aP,aX,aI];exact h1,h2⟩
  .cases h
 .obtain⟨a,rfl,rfl⟩:=hu.inv_str;obtain⟨b,rfl,rfl⟩:=hv.inv_str;obtain⟨q,h1,h2⟩:=aEu (P:=P) (g:=g) h t;exact⟨q,by simp only[eqGuard_at_string,aP,aX,aI];exact h1,h2⟩
 .simp only[aD]at h;obtain⟨b,hb,rfl⟩:=h;unfold eqS at hb;split at hb
  .split at hb
   .cases hb
   .rename_i hm;obtain⟨us,rfl,hu'⟩:=hu.inv_agg;obtain⟨vs,rfl,hv'⟩:=hv.inv_agg;refine⟨.bool b,?_,.bool _⟩;rw[aP,run_eqGuard_agg _ _ _ _ _ _ _ (by simpa using hm),aI,run_eql_struct,Ir hb hu hv 9998,aI]
  .have h1:=aIj hb hu hv;have h2:=XB (op:= .eql) (v:=v) hb hu hv X Y hn;refine⟨.bool b,?_,.bool _⟩;rw[h2];unfold PW at hb;split at hb<;>try cases hb
   all_goals
    cases hu;cases hv;simp only[binOp,aP,aX,aI,h1]
 .simp only[aD]at h;obtain⟨b,hb,rfl⟩:=h;unfold eqS at hb;split at hb
  .split at hb
   .cases hb
   .rename_i hm;obtain⟨us,rfl,hu'⟩:=hu.inv_agg;obtain⟨vs,rfl,hv'⟩:=hv.inv_agg;refine⟨.bool (!b),?_,.bool _⟩;rw[aP,run_eqGuard_agg _ _ _ _ _ _ _ (by simpa using hm),aI,run_neq_struct,Ir hb hu hv 9998,aI]
  .have h1:=aIj hb hu hv;have h2:=XB (op:= .neq) (v:=v) hb hu hv X Y hn;refine⟨.bool (!b),?_,.bool _⟩;rw[h2];unfold PW at hb;split at hb<;>try cases hb
   all_goals
    cases hu;cases hv;simp only[binOp,aP,aX,aI,h1]
 .cases h
theorem bIf{op:UnOp}{x r:T}(h:unT op x=some r){u:gQ}(hu:Rd g u x):∃q,(Op.unary op u).run P g.w= .ok q g.w/\Rd g q r:=by
 unfold unT at h;split at h<;>try cases h
 .cases hu;exact⟨_,by simp[Op.unary,Op.intArith],.int _ _⟩
 .cases hu;exact⟨_,by simp[Op.unary],.bool _⟩
theorem aOr{s d:fS}{x r:T}(h:NQ P s d x=some r){u:gQ}(hu:Rd g u x):∃q,(convert s d u).run P g.w= .ok q g.w/\Rd g q r:=by
 unfold NQ at h;split at h<;>try cases h
 .rename_i h1 h2;cases hu;exact⟨_,by simp[convert,run_underlying h1,run_underlying h2,Conv.intToInt],.int _ _⟩
 .rename_i h1 h2;obtain⟨a,rfl,rfl⟩:=hu.inv_str;exact⟨_,by simp[convert,run_underlying h1,run_underlying h2],.str _⟩
 .rename_i e full n h1 h2;split at h
  .rename_i he;cases h;cases hu with
   |sl _ _ sz b o cap vs q1 q2 q3 q4 q5 q6 q7 q8=>
    have hsz:1=sz:=q2 (.int .u8 n) (by simp);subst hsz
    match vs,q6 with
    |[v],_ =>
     have hv:=q8 0 v (.int .u8 n) rfl rfl;cases hv;have hl:=KZ P g.w b o 1 [.int .u8 n] rfl q7;refine⟨.string (ByteArray.empty.push (UInt8.ofNat n.toNat)),?_,?_⟩
     .rw[run_convert_bytes_string g.w s d e _ _ _ h1 he h2];exact run_bytesToString g.w ⟨b,o,none⟩ 1 cap [n] hl
     .exact .str (ByteArray.empty.push (UInt8.ofNat n.toNat))
  .cases h
theorem add_ok{x r:T}{n:Nat}(h:aBr x n=some r){u:gQ}(hu:Rd g u x):∃b o,u= .pointer (some ⟨b,o,none⟩)/\Rd g (.pointer (some ⟨b,o+n,none⟩)) r:=by
 unfold aBr at h;split at h<;>try cases h
 .cases hu with
  |ref _ _ b o vs h1 h2 h3 h4=>exact⟨b,_,rfl,by rw[dW];exact .ref _ _ b o vs h1 h2 h3 h4⟩
 .cases hu with
  |ptr _ _ hl=>exact⟨_,_,rfl,.ptr _ _ hl⟩
theorem Iv{s:fS}{x r:T}{f:Nat}(h:CR P s x f=some r){u:gQ}(hu:Rd g u x):∃q,(Instr.fieldAt s u f).run P g.w= .ok q g.w/\Rd g q r:=by
 unfold CR QA vZ at h;split at h
 .rename_i fd hfd;split at hfd
  .rename_i fs hd;split at h
   .rename_i n hn;split at h
    .cases h
    .rename_i hn0;simp only[aD]at hn;obtain⟨i,hi,rfl⟩:=hn;obtain⟨b,o,rfl,hr⟩:=add_ok h hu;exact⟨_,by simp[Instr.fieldAt,run_underlying hd,hfd,Instr.sureAddr,fieldPlace,sizeOf,typeInfo,hi,hn0,Addr.add_lit],hr⟩
   .cases h
  .cases hfd
 .cases h
theorem GP{xs:fU}{sz:Nat}(hsz:∀x∈xs,x.cells.length=sz):∀{i:Nat} {y:T},xs[i]? =some y->∀j c,y.cells[j]? =some c->(xs.flatMap T.cells)[i*sz+j]? =some c:=by
 induction xs with
 |nil=>intro i y h;simp at h
 |cons x xs ih=>
  intro i y h j c hc;have hx:=hsz x (by simp);cases i with
  |zero=>
   simp at h;subst h;have hj:j<x.cells.length:=(aO.1 hc).1;simp only[bG,Nat.zero_mul,bP];rw[dL hj];exact hc
  |succ i=>
   simp at h;have:=ih (λx hx=>hsz x (by simp[hx])) h j c hc;simp only[bG];rw[dQ (by rw[hx,cW];omega),hx];rw[show(i+1)*sz+j-sz=i*sz+j by rw[cW];omega];exact this
theorem tW{xs:fU}{sz:Nat}(hsz:∀x∈xs,x.cells.length=sz):(xs.flatMap T.cells).length=xs.length*sz:=by
 induction xs with
 |nil=>simp
 |cons x xs ih=>
  simp only[bG,bI,bL,ih (λy hy=>hsz y (by simp[hy])),hsz x (by simp),cW];omega
theorem Jj{t:fS}{x i r:T}(h:sP P t x i=some r){u v:gQ}(hu:Rd g u x)(hv:Rd g v i):∃q,(Instr.indexAt t u v).run P g.w= .ok q g.w/\Rd g q r:=by
 unfold sP vZ at h;split at h
 .rename_i k n;cases hv;split at h
  .rename_i e full xs hd;split at h
   .rename_i h0;split at h
    .rename_i y hy;split at h
     .rename_i s hs;split at h
      .rename_i hys;cases h;simp only[aD]at hs;obtain⟨i,hi,rfl⟩:=hs;cases hu with
       |sl _ _ sz b o cap vs h1 h2 h3 h4 h5 h6 h7 h8=>
        have hlt:n.toNat<xs.length:=(aO.1 hy).1;have hsz:=h2 y (bB hy);have e1:i.size=sz:=by omega
        have hmul:n.toNat*sz+sz<=xs.length*sz:=by rw[<-cW];exact cU _ hlt
        refine⟨.pointer (some ⟨b,o+n.toNat*sz,none⟩),?_,?_⟩
        .simp[Instr.indexAt,asIntOf,run_underlying hd,sizeOf,typeInfo,hi,e1,Addr.add_lit,h0];omega
        .rw[show(⟨b,o+n.toNat*sz,none⟩:Addr)=⟨b,(o+n.toNat*sz)+0,none⟩from rfl];refine .ref y 0 b (o+n.toNat*sz) ((vs.drop (n.toNat*sz)).take sz) (h1 (by intro e;simp[e]at hlt)) ?_ ?_ ?_
         .simp[h6];omega
         .intro j w hw;rw[bD]at hw;split at hw
          .rw[bZ]at hw;rw[dW];exact h7 _ w hw
          .cases hw
         .intro j w c hw hc;rw[bD]at hw;split at hw
          .rw[bZ]at hw;exact h8 _ w c hw (GP h2 hy j c hc)
          .cases hw
      .cases h
     .cases h
    .cases h
   .cases h
  .rename_i e full len f hd;split at h
   .rename_i h0;split at h
    .rename_i s hs;split at h
     .rename_i hys;cases h;simp only[aD]at hs;obtain⟨i,hi,rfl⟩:=hs;cases hu with
      |slfn _ _ p=>exact absurd h0.2 (by simp;omega)
      |slf _ _ _ sz b o cap vs h1 h2 h3 h4 h5 h6 h7 h8=>
       have hlt:n.toNat<len:=by omega
       have hsz:=h2 n.toNat hlt;have e1:i.size=sz:=by omega
       have hmul:n.toNat*sz+sz<=len*sz:=by rw[<-cW];exact cU _ hlt
       refine⟨.pointer (some ⟨b,o+n.toNat*sz,none⟩),?_,?_⟩
       .simp[Instr.indexAt,asIntOf,run_underlying hd,sizeOf,typeInfo,hi,e1,Addr.add_lit,h0]
       .rw[show(⟨b,o+n.toNat*sz,none⟩:Addr)=⟨b,(o+n.toNat*sz)+0,none⟩from rfl];refine .ref (f n.toNat) 0 b (o+n.toNat*sz) ((vs.drop (n.toNat*sz)).take sz) (h1 (by omega)) ?_ ?_ ?_
        .simp[h6];omega
        .intro j w hw;rw[bD]at hw;split at hw
         .rw[bZ]at hw;rw[dW];exact h7 _ w hw
         .cases hw
        .intro j w c hw hc;rw[bD]at hw;split at hw
         .rename_i hj;rw[bZ]at hw;exact(h8 n.toNat j w c hlt hj hw hc).rd
         .cases hw
     .cases h
    .cases h
   .cases h
  .rename_i e l sz j len hd;split at h
   .rename_i h0;split at h
    .rename_i s hs;split at h
     .rename_i hys;cases h;simp only[aD]at hs;obtain⟨i,hi,rfl⟩:=hs;cases hu with
      |osl _ _ _ _ b o cap h1 h2 h3 h4 h5=>
       obtain⟨rfl,rfl⟩:=h4 (.inl (by omega));refine⟨.pointer (some ⟨g.loc l,(j+n.toNat)*sz,none⟩),?_,.ptr _ _ h1⟩;simp[Instr.indexAt,asIntOf,run_underlying hd,sizeOf,typeInfo,hi,Addr.add_lit,h0,hys,fN]
     .cases h
    .cases h
   .cases h
  .rename_i len e hd;split at h
   .rename_i h0;split at h
    .rename_i s hs;simp only[aD]at hs;obtain⟨i,hi,rfl⟩:=hs;obtain⟨b,o,rfl,hr⟩:=add_ok h hu;refine⟨_,?_,hr⟩;simp[Instr.indexAt,asIntOf,run_underlying hd,Instr.sureAddr,sizeOf,typeInfo,hi,Addr.add_lit,h0]
    .cases h
   .cases h
  .cases h
 .cases h
theorem aJl{t:fS}{x i r:T}(h:GC P t x i=some r){u v:gQ}(hu:Rd g u x)(hv:Rd g v i):∃q,(Instr.index t u v).run P g.w= .ok q g.w/\Rd g q r:=by
 unfold GC vZ at h;split at h
 .rename_i k n;cases hv;split at h
  .rename_i len e cs hd;split at h
   .rename_i h0;split at h
    .rename_i s hs;simp only[aD]at hs;obtain⟨i,hi,rfl⟩:=hs;obtain⟨vs,rfl,hv⟩:=hu.inv_agg;obtain⟨q,h1,h2⟩:=OS (P:=P) h hv;exact⟨q,by simp[Instr.index,asIntOf,run_underlying hd,sizeOf,typeInfo,hi,h0,h1],h2⟩
    .cases h
   .cases h
  .rename_i s hd;obtain⟨a,rfl,rfl⟩:=hu.inv_str;split at h
   .rename_i h0;simp only[aD]at h;obtain⟨b,hb,rfl⟩:=h;refine⟨_,?_,.int _ _⟩;have hb':a[n.toNat]? =some b:=by
     have hlt:n.toNat<a.data.toList.length:=(aO.1 hb).1;have hlt':n.toNat<a.size:=by simpa [eH]using hlt
     have e:=(aO.1 hb).2;rw[getElem?_pos a n.toNat hlt'];congr 1
    simp[Instr.index,asIntOf,run_underlying hd,h0,hb']
   .cases h
  .cases h
 .cases h
theorem aXj{t:fS}{x r:T}(h:CU P t x=some r){u:gQ}(hu:Rd g u x)(tys:Array TypeId)(ht:tys[0]? =some t)(ty:fS):
  ∃q,(Builtin.len_ tys ty #[u]).run P g.w= .ok q g.w/\Rd g q r:=by
 unfold CU at h;split at h<;>try cases h
 all_goals rename_i hd
 .obtain⟨a,rfl,rfl⟩:=hu.inv_str;refine⟨.int .i64 a.size,by simp[Builtin.len_,ht,run_underlying hd,goInt],?_⟩;have e:a.data.toList.length=a.size:=by simp[eH]
  rw[e];exact .int _ _
 .cases hu;exact⟨_,by simp[Builtin.len_,ht,run_underlying hd,goInt],.int _ _⟩
 .cases hu;exact⟨_,by simp[Builtin.len_,ht,run_underlying hd,goInt],.int _ _⟩
 .cases hu with
  |slfn _ _ p=>exact⟨_,by simp[Builtin.len_,ht,run_underlying hd,goInt],.int _ _⟩|slf _ _ _ sz b o cap vs h1 h2 h3 h4 h5 h6 h7 h8=>exact⟨_,by simp[Builtin.len_,ht,run_underlying hd,goInt],.int _ _⟩
 .cases hu;exact⟨_,by simp[Builtin.len_,ht,run_underlying hd,goInt],.int _ _⟩
 .exact⟨_,by simp[Builtin.len_,ht,run_underlying hd,goInt],.int _ _⟩
 .cases hu;exact⟨_,by simp[Builtin.len_,ht,run_underlying hd,goInt],.int _ _⟩
theorem OB:∀{ts:fU} {x r:T},HV aRc x ts=some r->∀{u:gQ} {us:gM},Rd g u x->RdL g us ts->∃q,(us.foldlM Builtin.min2 u).run P g.w= .ok q g.w/\Rd g q r
 |[],x,r,h,u,us,hu,hus=>by
  simp[HV]at h;subst h;have:us=[]:=cA hus.1;subst this;exact⟨u,by simp,hu⟩
 |y::ts,x,r,h,u,[],hu,hus=>by simp[RdL]at hus
 |y::ts,x,r,h,u,v::us,hu,hus=>by
  obtain⟨hv,hus'⟩:=hus.inv_cons;clear hus;simp only[HV]at h;split at h
  .rename_i z hz;unfold aRc at hz;split at hz<;>cases hz;cases hu;cases hv;obtain⟨q,h1,h2⟩:=OB h (.int _ _) hus';exact⟨q,by simp[Builtin.min2,h1],h2⟩
  .cases h
theorem OA:∀{ts:fU} {x r:T},HV aQz x ts=some r->∀{u:gQ} {us:gM},Rd g u x->RdL g us ts->∃q,(us.foldlM Builtin.max2 u).run P g.w= .ok q g.w/\Rd g q r
 |[],x,r,h,u,us,hu,hus=>by
  simp[HV]at h;subst h;have:us=[]:=cA hus.1;subst this;exact⟨u,by simp,hu⟩
 |y::ts,x,r,h,u,[],hu,hus=>by simp[RdL]at hus
 |y::ts,x,r,h,u,v::us,hu,hus=>by
  obtain⟨hv,hus'⟩:=hus.inv_cons;clear hus;simp only[HV]at h;split at h
  .rename_i z hz;unfold aQz at hz;split at hz<;>cases hz;cases hu;cases hv;obtain⟨q,h1,h2⟩:=OA h (.int _ _) hus';exact⟨q,by simp[Builtin.max2,h1],h2⟩
  .cases h
end
theorem Bh(s:jC)(l h:Nat):(s.extract l h).data.toList=(s.data.toList.take h).drop l:=by
 rw[ByteArray.data_extract,Array.toList_extract,List.extract_eq_take_drop,List.drop_take]
section
variable{P:fV}{g:G}
def RdO(g:G):Option Value->Option T->Prop
 |none,none=>True|some v,some t=>Rd g v t|_,_ =>False
theorem wA{x:jJ}{dflt top r:Nat}(h:vU x dflt top=some r){v:Option Value}(hv:RdO g v x):
  (v=none/\r=dflt)\/∃k n,v=some (.int k n)/\0<=n/\n<=top/\n.toNat=r:=by
 unfold vU at h;split at h
 .cases h;left;cases v with
  |none=>exact⟨rfl,rfl⟩|some v=>simp[RdO]at hv
 .rename_i k n;split at h
  .rename_i hn;cases h;cases v with
   |none=>simp[RdO]at hv|some v=>simp only[RdO]at hv;cases hv;exact .inr ⟨k,n,rfl,hn.1,hn.2,rfl⟩
  .cases h
 .cases h
theorem zY{isS:Bool}{len cap:Nat}{lo hi:Option Value}{l h:Nat}
  (hh:(hi=none/\h=len)\/∃k n,hi=some (.int k n)/\0<=n/\n<=(cap:Int)/\n.toNat=h)
  (hl:(lo=none/\l=0)\/∃k n,lo=some (.int k n)/\0<=n/\n<=(h:Int)/\n.toNat=l):
  (Instr.sliceBounds isS len cap lo hi none).run P g.w= .ok (l,h,cap) g.w:=by
 rcases hh with⟨rfl,rfl⟩|⟨k,n,rfl,a0,a1,rfl⟩<;>rcases hl with⟨rfl,rfl⟩|⟨k',n',rfl,b0,b1,rfl⟩<;>simp_all [Instr.sliceBounds,Instr.sliceBound,asIntOf]
theorem Ee{xs:fU}{sz:Nat}(hsz:∀x∈xs,x.cells.length=sz)(n:Nat):(xs.take n).flatMap T.cells=(xs.flatMap T.cells).take (n*sz):=by
 induction xs generalizing n with
 |nil=>simp
 |cons x xs ih=>
  have hx:=hsz x (by simp);cases n with
  |zero=>simp
  |succ n=>
   simp only[List.take_succ_cons,bG,ih (λy hy=>hsz y (by simp[hy]))];rw[List.take_append,hx,dU (l:=x.cells) (by rw[hx,cW];omega),show(n+1)*sz-sz=n*sz by rw[cW];omega]
theorem Ec{xs:fU}{sz:Nat}(hsz:∀x∈xs,x.cells.length=sz)(n:Nat):(xs.drop n).flatMap T.cells=(xs.flatMap T.cells).drop (n*sz):=by
 induction xs generalizing n with
 |nil=>simp
 |cons x xs ih=>
  have hx:=hsz x (by simp);cases n with
  |zero=>simp
  |succ n=>
   simp only[List.drop_succ_cons,bG,ih (λy hy=>hsz y (by simp[hy]))];rw[List.drop_append,hx,eN (l:=x.cells) (by rw[hx,cW];omega),show(n+1)*sz-sz=n*sz by rw[cW];omega];simp
theorem aIv{xs:fU}{sz l hh:Nat}(hsz:∀x∈xs,x.cells.length=sz)(_hle:hh<=xs.length)(j:Nat)(c:T)(hc:(((xs.take hh).drop l).flatMap T.cells)[j]? =some c):(xs.flatMap T.cells)[l*sz+j]? =some c:=by
 rw[Ec (λx hx=>hsz x (eX hx)),Ee hsz,bZ,bD]at hc;split at hc
 .exact hc
 .cases hc
theorem aMc{t:fS}{x r:T}{lo hi:jJ}(h:AJ P t x lo hi=some r){u:gQ}{vlo vhi:Option Value}(hu:Rd g u x)(hlo:RdO g vlo lo)(hhi:RdO g vhi hi):
  ∃q,(Instr.sliceAt t u vlo vhi none).run P g.w= .ok q g.w/\Rd g q r:=by
 unfold AJ at h;split at h
 .rename_i s hd;obtain⟨a,rfl,rfl⟩:=hu.inv_str;have es:a.data.toList.length=a.size:=by simp[eH]
  split at h
  .rename_i hh eh;split at h
   .rename_i l el;cases h;have b1:=wA eh hhi;have b2:=wA el hlo;rw[es]at b1;have hb:=zY (P:=P) (g:=g) (isS:=false) (len:=a.size) (cap:=a.size) b1 b2;refine⟨.string (a.extract l hh),by simp[Instr.sliceAt,Instr.slice,run_underlying hd,hb],?_⟩;rw[<-Bh];exact .str _
   .cases h
  .cases h
 .rename_i e full xs hd;split at h
  .rename_i hh eh;split at h
   .rename_i l el;split at h
    .rename_i s hs;split at h
     .rename_i hok;cases h;simp only[vZ,aD]at hs;obtain⟨i,hi,rfl⟩:=hs;cases hu with
      |sl _ _ sz b o cap vs h1 h2 h3 h4 h5 h6 h7 h8=>
       have b1:=wA eh hhi;have b2:=wA el hlo;have b1':(vhi=none/\hh=xs.length)\/∃k n,vhi=some (.int k n)/\0<=n/\n<=(cap:Int)/\n.toNat=hh:=by
        rcases b1 with b1|⟨k,n,e1,e2,e3,e4⟩
        .exact .inl b1
        .exact .inr ⟨k,n,e1,e2,by omega,e4⟩
       have hle:hh<=xs.length:=by rcases b1 with⟨_,b1⟩|⟨k,n,e1,e2,e3,e4⟩<;>omega
       have hl:l<=hh:=by rcases b2 with⟨_,b2⟩|⟨k,n,e1,e2,e3,e4⟩<;>omega
       have hb:=zY (P:=P) (g:=g) (isS:=true) (len:=xs.length) (cap:=cap) b1' b2;have hlen:((xs.take hh).drop l).length=hh-l:=by simp;omega
       refine⟨.slice (some (if cap=l then⟨b,o,none⟩else⟨b,o+l*i.size,none⟩)) (hh-l) (cap-l),?_,?_⟩
       .simp only[Instr.sliceAt,Instr.slice,aP,run_underlying hd,aI,hb,sizeOf,typeInfo,run_program,hi,aX,cH,Addr.add_lit];split<;>rfl
       .rw[<-hlen];have hcap:(full&&hh==xs.length)=true->cap-l=((xs.take hh).drop l).length:=λq=>by
         simp only[aA,beq_iff_eq]at q;have:=h5 q.1;rw[hlen];omega
        by_cases hnil:(xs.take hh).drop l=[]
        .rw[hnil]at hcap⊢;have:∀(b' o':Nat),Rd g (.slice (some ⟨b',o',none⟩) ([]:List T).length (cap-l)) (.sl (full&&hh==xs.length) []):=λb' o'=>
          .sl _ [] 0 _ _ _ [] (λq=>absurd rfl q) (by simp) (by simp) (by omega) hcap (by simp) (by simp) (by simp)
         split
         .exact this _ _
         .exact this _ _
        .have hx0:xs≠[]:=by rintro rfl;simp at hnil
         have hlt:l<hh:=by
          rcases eO l hh with q|q
          .exact q
          .exact absurd (cA (by rw[hlen];omega)) hnil
         have esz:i.size=sz:=by
          cases xs with
          |nil=>exact absurd rfl hx0|cons x xs=>simp only[IJ,beq_iff_eq]at hok;rw[<-hok];exact h2 x (by simp)
         rw[if_neg (by omega),esz];have hm1:l*sz<=hh*sz:=cU _ (by omega);have hm2:hh*sz<=xs.length*sz:=cU _ hle;have hsub:∀x∈(xs.take hh).drop l,x.cells.length=sz:=λx hx=>h2 x (eX (fH hx));refine .sl _ _ sz b (o+l*sz) (cap-l) ((vs.take (hh*sz)).drop (l*sz)) (λ_ =>h1 hx0) hsub (by rw[hlen];omega) (by omega) hcap ?_ ?_ ?_
         .rw[hlen];simp only[cY,dX,h6,Nat.sub_mul];omega
         .intro j w hw;rw[bZ,bD]at hw;split at hw
          .rw[dW];exact h7 _ w hw
          .cases hw
         .intro j w c hw hc;rw[bZ,bD]at hw;split at hw
          .refine h8 _ w c hw ?_;exact aIv h2 hle j c hc
          .cases hw
     .cases h
    .cases h
   .cases h
  .cases h
 .rename_i e full n f hd;split at h
  .rename_i hh eh;split at h
   .rename_i l el;split at h
    .rename_i s hs;split at h
     .cases h
     .rename_i hok;cases h;simp only[vZ,aD]at hs;obtain⟨i,hi,rfl⟩:=hs;cases hu with
      |slfn _ _ p=>
       have b1:=wA eh hhi;have b2:=wA el hlo;have e1:hh=0:=by rcases b1 with⟨_,b1⟩|⟨k,n,e1,e2,e3,e4⟩<;>omega
       have e2:l=0:=by rcases b2 with⟨_,b2⟩|⟨k,n,e1,e2,e3,e4⟩<;>omega
       subst e1;subst e2;have hb:=zY (P:=P) (g:=g) (isS:=true) (len:=0) (cap:=0) b1 b2;exact⟨.slice p 0 0,by cases p<;>simp[Instr.sliceAt,Instr.slice,run_underlying hd,hb,sizeOf,typeInfo,hi],.slfn _ _ p⟩
      |slf _ _ _ sz b o cap vs h1 h2 h3 h4 h5 h6 h7 h8=>
       have b1:=wA eh hhi;have b2:=wA el hlo;have b1':(vhi=none/\hh=n)\/∃k m,vhi=some (.int k m)/\0<=m/\m<=(cap:Int)/\m.toNat=hh:=by
        rcases b1 with b1|⟨k,m,e1,e2,e3,e4⟩
        .exact .inl b1
        .exact .inr ⟨k,m,e1,e2,by omega,e4⟩
       have hle:hh<=n:=by rcases b1 with⟨_,b1⟩|⟨k,m,e1,e2,e3,e4⟩<;>omega
       have hl:l<=hh:=by rcases b2 with⟨_,b2⟩|⟨k,m,e1,e2,e3,e4⟩<;>omega
       have hb:=zY (P:=P) (g:=g) (isS:=true) (len:=n) (cap:=cap) b1' b2;refine⟨.slice (some (if cap=l then⟨b,o,none⟩else⟨b,o+l*i.size,none⟩)) (hh-l) (cap-l),?_,?_⟩
       .simp only[Instr.sliceAt,Instr.slice,aP,run_underlying hd,aI,hb,sizeOf,typeInfo,run_program,hi,aX,cH,Addr.add_lit];split<;>rfl
       .have hcap:(full&&hh==n)=true->cap-l=hh-l:=λq=>by
         simp only[aA,beq_iff_eq]at q;have:=h5 q.1;omega
        by_cases hlt:l<hh
        .have esz:i.size=sz:=by
          have q:¬(f l).cells.length≠i.size:=λq=>hok ⟨hlt,q⟩;have:=h2 l (by omega);omega
         rw[if_neg (by omega),esz];have hm1:l*sz<=hh*sz:=cU _ (by omega);have hm2:hh*sz<=n*sz:=cU _ hle;refine .slf _ _ _ sz b (o+l*sz) (cap-l) ((vs.take (hh*sz)).drop (l*sz)) (λ_ =>h1 (by omega)) (λk hk=>h2 (l+k) (by omega)) (by omega) (by omega) hcap ?_ ?_ ?_
         .simp only[cY,dX,h6,Nat.sub_mul];omega
         .intro j w hw;rw[bZ,bD]at hw;split at hw
          .rw[dW];exact h7 _ w hw
          .cases hw
         .intro k j w c hk hj hw hc;rw[bZ,bD]at hw;split at hw
          .refine h8 (l+k) j w c (by omega) hj ?_ hc;rw[fN,dW];exact hw
          .cases hw
        .have hz:hh-l=0:=by omega
         rw[hz]at hcap⊢;have:∀(b' o':Nat),Rd g (.slice (some ⟨b',o',none⟩) 0 (cap-l)) (.slf (full&&hh==n) 0 (λk=>f (l+k))):=λb' o'=>
          .slf _ 0 _ 0 _ _ _ [] (λq=>absurd rfl q) (λk hk=>by omega) (by omega) (by omega) hcap (by simp) (by simp) (λk j w c hk=>by omega)
         split
         .exact this _ _
         .exact this _ _
    .cases h
   .cases h
  .cases h
 .rename_i e hd;split at h
  .rename_i hh eh;split at h
   .rename_i l el;split at h
    .rename_i hsz;cases h;obtain⟨s,hs⟩:=Option.isSome_iff_exists.1 hsz;simp only[vZ,aD]at hs;obtain⟨i,hi,rfl⟩:=hs;cases hu;have b1:=wA eh hhi;have b2:=wA el hlo;have e1:hh=0:=by rcases b1 with⟨_,b1⟩|⟨k,n,e1,e2,e3,e4⟩<;>omega
     have e2:l=0:=by rcases b2 with⟨_,b2⟩|⟨k,n,e1,e2,e3,e4⟩<;>omega
     subst e1;subst e2;have hb:=zY (P:=P) (g:=g) (isS:=true) (len:=0) (cap:=0) b1 b2;exact⟨.slice none 0 0,by simp[Instr.sliceAt,Instr.slice,run_underlying hd,hb,sizeOf,typeInfo,hi],.nils⟩
    .cases h
   .cases h
  .cases h
 .rename_i e l' sz j len hd;split at h
  .rename_i hh eh;split at h
   .rename_i k el;split at h
    .rename_i s hs;split at h
     .rename_i es;cases h;simp only[vZ,aD]at hs;obtain⟨i,hi,rfl⟩:=hs;cases hu with
      |osl _ _ _ _ b o cap h1 h2 h3 h4 h5=>
       have b1:=wA eh hhi;have b2:=wA el hlo;have b1':(vhi=none/\hh=len)\/∃k n,vhi=some (.int k n)/\0<=n/\n<=(cap:Int)/\n.toNat=hh:=by
        rcases b1 with b1|⟨k,n,e1,e2,e3,e4⟩
        .exact .inl b1
        .exact .inr ⟨k,n,e1,e2,by omega,e4⟩
       have hle:hh<=len:=by rcases b1 with⟨_,b1⟩|⟨k,n,e1,e2,e3,e4⟩<;>omega
       have hl:k<=hh:=by rcases b2 with⟨_,b2⟩|⟨k,n,e1,e2,e3,e4⟩<;>omega
       have hb:=zY (P:=P) (g:=g) (isS:=true) (len:=len) (cap:=cap) b1' b2;refine⟨.slice (some (if cap=k then⟨b,o,none⟩else⟨b,o+k*i.size,none⟩)) (hh-k) (cap-k),?_,?_⟩
       .simp only[Instr.sliceAt,Instr.slice,aP,run_underlying hd,aI,hb,sizeOf,typeInfo,run_program,hi,aX,cH,Addr.add_lit];split<;>rfl
       .by_cases hck:cap=k
        .rw[if_pos hck];refine .osl l' sz (j+k) (hh-k) b o (cap-k) h1 (by omega) (by omega) (λq=> ?_) (λq=> ?_)
         .have:j=0/\k=0:=by omega
          obtain⟨rfl,rfl⟩:=this;simpa using h4 (.inr rfl)
         .have:j=0/\k=0:=by omega
          obtain⟨rfl,rfl⟩:=this;simpa using h5 rfl
        .rw[if_neg hck,es];refine .osl l' sz (j+k) (hh-k) b (o+k*sz) (cap-k) h1 (by omega) (by omega) (λq=> ?_) (λq=> ?_)
         .have:=h4 (by omega);refine⟨this.1,?_⟩;rw[this.2,fN]
         .have:j=0/\k=0:=by omega
          obtain⟨rfl,rfl⟩:=this;simpa using h5 rfl
     .cases h
    .cases h
   .cases h
  .cases h
 .cases h
end
section
variable{P:fV}{g:G}
theorem Em{t:fS}{x:T}(h:GE P t x=true){u:gQ}(hu:Rd g u x)(e:Bool)(d:Nat):(Instr.checkKey e (d+1) t u).run P g.w= .ok () g.w:=by
 unfold GE at h;split at h
 .rename_i hd;cases hu;simp[Instr.checkKey,run_underlying hd]
 .rename_i hd;cases hu;simp[Instr.checkKey,run_underlying hd]
 .rename_i hd;cases hu;simp[Instr.checkKey,run_underlying hd]
 .cases h
theorem Ox{t:fS}{x:T}(h:GE P t x=true){cs:fU}{off:Nat}(hc:cs[off]? =some x):wN P t cs off=some x:=by
 unfold GE at h;unfold wN KP;split at h
 .rename_i hd;rw[hd];exact hc
 .rename_i hd;rw[hd];exact hc
 .rename_i hd;rw[hd];exact hc
 .cases h
theorem Ow{xs:fU}{us:gM}(hu:RdL g us xs)(e:Bool)(d:Nat):∀(fs:List Field),Zi P xs fs=true->
  (forIn fs PUnit.unit (λf (_ :PUnit)=>if f.name≠ "_" then do
    let v<-part f.type us.toArray f.offset
    Instr.checkKey e (d+1) f.type v
    pure (ForInStep.yield PUnit.unit)
   else pure (ForInStep.yield PUnit.unit)):Sem PUnit).run P g.w= .ok PUnit.unit g.w
 |[],_ =>by simp
 |f::fs,h=>by
  simp only[Zi,aA]at h;obtain⟨h1,h2⟩:=h;split at h1
  .rename_i a ha;simp only[aA,bW,beq_eq_false_iff_ne]at h1;obtain⟨u,e1,r1⟩:=OS (Ox h1.2 ha) hu;have ih:=Ow hu e d fs h2;simp only[List.forIn_cons,aP,if_pos h1.1,e1,aI,Em h1.2 r1 e d,aX];exact ih
  .cases h1
theorem Oy{t:fS}{x:T}(h:IR P t x=true){u:gQ}(hu:Rd g u x)(e:Bool):(Instr.checkKey e 10000 t u).run P g.w= .ok () g.w:=by
 unfold IR at h;split at h
 .split at h
  .rename_i fs hd;simp only[aA,bW]at h;obtain⟨us,rfl,hu'⟩:=hu.inv_agg;have:=Ow hu' e 9998 fs.toList h.2;rw[Instr.checkKey];simp only[aP,run_underlying hd,aI];rw[<-Array.forIn_toList];simp only[Nat.reduceAdd]at this;rw[this];rfl
  .cases h
 .exact Em h hu e 9999
theorem GV{t:fS}{z:T}(h:yA P t=some z):∃v,(zeroValue t).run P g.w= .ok v g.w/\Rd g v z:=by
 unfold yA at h;split at h
 .rename_i i hi;split at h
  .rename_i v hv;exact⟨v,by simp[zeroValue,typeInfo,hi,hv],FC g h⟩
  .cases h
 .cases h
def xQ(P:fV)(t:fS)(k:T)(ms:iH)(es:gS)(i0:Nat):Option (Nat×Nat×T)->Option (Nat×Value)->Prop
 |none,none=>True|some (i,b,x),some (j,v)=>j=i/\i0<=i/\∃m k',ms[i-i0]? =some m/\es[i-i0]? =some (b,k',x)/\m.val=v/\eqK P t k k'=some true|_,_ =>False
theorem sT.inv_cons{m:MapEntry}{ms:iH}{t:Nat×T×T}{es:gS}(h:sT g (m::ms) (t::es)):m.born=t.1/\Rd g m.key t.2.1/\Rd g m.val t.2.2/\sT g ms es:=by
 obtain⟨h1,h2,h3⟩:=h;simp only[cB,eP]at h1;obtain⟨a,b⟩:=h2.inv_cons;obtain⟨c,d⟩:=h3.inv_cons;exact⟨h1.1,a,c,h1.2,b,d⟩
theorem sT.len{ms:iH}{es:gS}(h:sT g ms es):ms.length=es.length:=by have:=congrArg List.length h.1;simpa using this
abbrev jZ:=Option (Nat×Value)
abbrev jN:=Option (Nat×Nat×T)
theorem xQ.up{t:fS}{k:T}{m:MapEntry}{ms:iH}{e:Nat×T×T}{es:gS}{i0:Nat}{r:jN}{q:jZ}(h:xQ P t k ms es (i0+1) r q):xQ P t k (m::ms) (e::es) i0 r q:=by
 unfold xQ at h⊢;split at h
 .trivial
 .rename_i i b x j v;obtain⟨h1,h2,m',k',h3,h4,h5,h6⟩:=h;refine⟨h1,by omega,m',k',?_,?_,h5,h6⟩
  .rw[show i-i0=(i-(i0+1))+1 by omega];exact h3
  .rw[show i-i0=(i-(i0+1))+1 by omega];exact h4
 .exact h.elim
theorem De{t:fS}{k:T}{u:gQ}(hu:Rd g u k):∀(ms:iH) (es:gS) (i:Nat) (r:jN),CT P t k es i=some r->sT g ms es->
  ∃q,(Instr.findAsking t u ms i).run P g.w= .ok q g.w/\xQ P t k ms es i r q
 |[],[],i,r,h,_ =>by simp only[CT,aC]at h;subst h;exact⟨none,by simp[Instr.findAsking],trivial⟩|[],e::es,_,_,_,hm=>by have:=hm.len;simp at this|m::ms,[],_,_,_,hm=>by have:=hm.len;simp at this
 |m::ms,(b,k',x)::es,i,r,h,hm=>by
  obtain⟨h1,h2,h3,h4⟩:=hm.inv_cons;simp only[CT]at h;split at h
  .rename_i he;cases h;have:=Ir he hu h2 9998;refine⟨some (i,m.val),?_,rfl,aZ _,m,k',by simp,by simp,rfl,he⟩;simp only[Instr.findAsking,aP,Op.equal,Op.maxDepth,this,aI,if_true,aX]
  .rename_i he;have:=Ir he hu h2 9998;obtain⟨q,e1,e2⟩:=De hu ms es (i+1) r h h4;refine⟨q,?_,e2.up⟩;simp only[Instr.findAsking,aP,Op.equal,Op.maxDepth,this,aI,aY,if_false,e1]
  .cases h
theorem ZS{t:fS}{d:TypeDesc}(hd:P.underlying t=some d){k k':T}{b b':Bool}(h:eqK P t k k'=some b){u v:gQ}(hu:Rd g u k)(hv:Rd g v k')(hs:Instr.sameNow d u v=some b'):b'=b:=by
 unfold eqK at h;split at h
 .obtain⟨us,rfl,_⟩:=hu.inv_agg;obtain⟨vs,rfl,_⟩:=hv.inv_agg;simp[Instr.sameNow]at hs
 .unfold eq1 at h;rw[hd]at h;split at h
  .have e1:=bX ‹some d=some _›;subst e1;split at h
   .rename_i hk;cases h;subst hk;cases hu;cases hv;simp[Instr.sameNow]at hs;exact hs.symm
   .cases h
  .have e1:=bX ‹some d=some _›;subst e1;cases h;obtain⟨a,rfl,rfl⟩:=hu.inv_str;obtain⟨c,rfl,rfl⟩:=hv.inv_str;simp only[Instr.sameNow,aC]at hs;rw[<-hs,beq_toListBytes,ByteArray.toList_eq,ByteArray.toList_eq]
  .have e1:=bX ‹some d=some _›;subst e1;cases h;cases hu;cases hv;simp[Instr.sameNow]at hs;exact hs.symm
  .cases h
theorem aKl{t:fS}{d:TypeDesc}(hd:P.underlying t=some d){k:T}{u:gQ}(hu:Rd g u k):∀(ms:iH) (es:gS) (i:Nat) (r:jN) (q:jZ),CT P t k es i=some r->sT g ms es->
  Instr.findNow d u ms i=some q->xQ P t k ms es i r q
 |[],[],i,r,q,h,_,hq=>by
  simp only[CT,aC]at h;subst h;simp only[Instr.findNow,aC]at hq;subst hq;trivial
 |[],e::es,_,_,_,_,hm,_ =>by have:=hm.len;simp at this|m::ms,[],_,_,_,_,hm,_ =>by have:=hm.len;simp at this
 |m::ms,(b,k',x)::es,i,r,q,h,hm,hq=>by
  obtain⟨h1,h2,h3,h4⟩:=hm.inv_cons;simp only[CT]at h;simp only[Instr.findNow]at hq;split at h
  .rename_i he;cases h;split at hq
   .cases hq;exact⟨rfl,aZ _,m,k',by simp,by simp,rfl,he⟩
   .rename_i hs;have:=ZS hd he hu h2 hs;cases this
   .cases hq
  .rename_i he;split at hq
   .rename_i hs;have:=ZS hd he hu h2 hs;cases this
   .exact(aKl hd hu ms es (i+1) r q h h4 hq).up
   .cases hq
  .cases h
theorem LN{t:fS}{d:TypeDesc}(hd:P.underlying t=some d){k:T}{u:gQ}(hu:Rd g u k){ms:iH}{es:gS}{r:jN}(h:CT P t k es 0=some r)(hm:sT g ms es):
  ∃q,(Instr.findKey t u ms).run P g.w= .ok q g.w/\xQ P t k ms es 0 r q:=by
 unfold Instr.findKey;simp only[aP,run_underlying hd,aI];split
 .rename_i q hq;exact⟨q,by simp,aKl hd hu ms es 0 r q h hm hq⟩
 .exact De hu ms es 0 r h hm
theorem En{t:fS}{x:T}(h:IR P t x=true):∃d,P.underlying t=some d:=by
 unfold IR GE at h;split at h
 .split at h
  .rename_i hd;exact⟨_,hd⟩
  .cases h
 .split at h<;>first|(cases h;done)|exact⟨_,by assumption⟩
theorem Yi{H:Hp}(hs:St g H){x:T}{es:gS}(h:HQ H x=some es){v:gQ}(hv:Rd g v x):
  (v= .map none/\es=[])\/∃l ms c,v= .map (some (g.loc l))/\x= .mp l/\g.w.heap[g.loc l]? =some (.map ms c)/\sT g ms.toList es:=by
 unfold HQ at h;split at h
 .cases h;cases hv;exact .inl ⟨rfl,rfl⟩
 .rename_i l;split at h
  .rename_i o ho;split at h
   .rename_i c es' hm;cases h;obtain⟨_,_,_,hb,ms,rfl,hr⟩:=hs.ownM l o _ ho hm;cases hv;exact .inr ⟨l,ms,c,rfl,rfl,hb,hr⟩
   .cases h
  .cases h
 .cases h
abbrev jQ:=Array MapEntry
theorem sD{w:iK}{r:Nat}{ms:jQ}{c:Nat}(h:w.heap[r]? =some (.map ms c)):(getObj r).run P w= .ok (.map ms c) w:=by
 simp only[getObj,Sem.run,h]
theorem aDd{H:Hp}(hs:St g H){t:fS}{x k r:T}{ok:Bool}(h:zH P H t x k ok=some r){u v:gQ}(hv:Rd g v x)(hu:Rd g u k):
  ∃q,(Instr.lookup t v u ok).run P g.w= .ok q g.w/\Rd g q r:=by
 unfold zH at h;split at h
 .rename_i kt et hd;split at h
  .rename_i hk;split at h
   .rename_i es hes;obtain⟨d,hkd⟩:=En hk
    have key:∀(ms:jQ),sT g ms.toList es->(Instr.lookup t v u ok).run P g.w=((do
      Instr.checkKey ms.isEmpty 10000 kt u
      let(v,o)<-match<-Instr.findKey kt u ms.toList with
       |some (_,v)=>pure (v,true)|none=>do pure (<-zeroValue et,false)
      pure (if ok then .tuple #[v,.bool o]else v)):Sem Value).run P g.w->
      ∃q,(Instr.lookup t v u ok).run P g.w= .ok q g.w/\Rd g q r:=by
     intro ms hm hrun;rw[hrun];simp only[aP,Oy hk hu,aI];split at h
     .rename_i i b y hf;cases h;obtain⟨q,e1,e2⟩:=LN hkd hu hf hm;unfold xQ at e2;split at e2
      .rename_i e0;cases e0
      .rename_i i' b' x' j w hr;cases hr;obtain⟨_,_,m,k',h1,h2,h3,h4⟩:=e2;simp only[Nat.sub_zero]at h1 h2;have hval:Rd g w y:=by
        rw[<-h3];exact hm.2.2.2 i m.val y (by rw[bA,h1];rfl) (by rw[bA,h2];rfl)
       simp only[e1,aI,aX];cases ok with
       |true=>exact⟨_,rfl,Rd.mk_tup (vs:=[w,.bool true]) (RdL.cons hval (RdL.cons (.bool true) RdL.nil))⟩|false=>exact⟨_,rfl,hval⟩
      .exact e2.elim
     .rename_i hf;obtain⟨q,e1,e2⟩:=LN hkd hu hf hm;unfold xQ at e2;split at e2
      .split at h
       .rename_i z hz;cases h;obtain⟨zv,hzv,hr⟩:=GV (g:=g) hz;simp only[e1,aI,aP,hzv,aX];cases ok with
        |true=>exact⟨_,rfl,Rd.mk_tup (vs:=[zv,.bool false]) (RdL.cons hr (RdL.cons (.bool false) RdL.nil))⟩|false=>exact⟨_,rfl,hr⟩
       .cases h
      .rename_i hr;cases hr
      .exact e2.elim
     .cases h
    rcases Yi hs hes hv with⟨rfl,rfl⟩|⟨l,ms,c,rfl,rfl,hb,hm⟩
    .refine key #[] ⟨rfl,RdL.nil,RdL.nil⟩ ?_;simp only[Instr.lookup,aP,run_underlying hd,aI,aX];rfl
    .refine key ms hm ?_;simp only[Instr.lookup,aP,run_underlying hd,aI,sD hb,aX];rfl
   .cases h
  .cases h
 .cases h
theorem aQr{H:Hp}(hs:St g H){t:fS}{x r:T}(h:Pj P H t x=some r){v:gQ}(hv:Rd g v x)(tys:Array TypeId)(ht:tys[0]? =some t)(ty:fS):
  CU P t x=some r\/∃u,(Builtin.len_ tys ty #[v]).run P g.w= .ok u g.w/\Rd g u r:=by
 unfold Pj at h;split at h
 .rename_i l;split at h
  .rename_i k e hd;split at h
   .rename_i es hes;cases h;rcases Yi hs hes hv with⟨e0,_⟩|⟨l',ms,c,rfl,e,hb,hm⟩
    .subst e0;cases hv
    .right;refine⟨.int .i64 ms.size,?_,?_⟩
     .simp[Builtin.len_,ht,run_underlying hd,sD hb,goInt]
     .have:=hm.len;rw[show(ms.size:Int)=(es.length:Int) by rw[<-this];simp];exact .int _ _
   .cases h
  .exact .inl h
 .exact .inl h
end
section
variable{P:fV}{g:G}
theorem TX(off:Nat):∀(l:gM) (k:Nat) (cs:gX),off+k+l.length<=cs.size->
  ((l.zipIdx k).foldl (λ(cs:gX) (p:Value×Nat)=>cs.setIfInBounds (off+p.2) p.1) cs).toList=cs.toList.take (off+k)++l++cs.toList.drop (off+k+l.length)
 |[],k,cs,_ =>by simp
 |c::l,k,cs,h=>by
  simp only[bL]at h;have hk:off+k<cs.toList.length:=by simp;omega
  rw[List.zipIdx_cons,List.foldl_cons,TX off l (k+1) _ (by simp;omega)];simp only[Array.toList_setIfInBounds,bL];rw[show off+(k+1)=off+k+1 by omega,show off+k+1+l.length=off+k+(l.length+1) by omega];rw[List.drop_set_of_lt (by omega)];rw[List.take_set,List.take_succ_eq_append_getElem hk];have:((cs.toList.take (off+k))++[cs.toList[off+k]]).set (off+k) c=cs.toList.take (off+k)++[c]:=by
   rw[List.set_append];have hl:(cs.toList.take (off+k)).length=off+k:=by simp at hk⊢;omega
   rw[if_neg (by omega),hl];simp
  rw[this];simp
theorem Lh(off:Nat)(vc cs:gX)(h:off+vc.size<=cs.size):
  (vc.zipIdx.foldl (λ(cs:gX) (p:Value×Nat)=>cs.setIfInBounds (off+p.2) p.1) cs).toList=cs.toList.take off++vc.toList++cs.toList.drop (off+vc.size):=by
 have:=TX off vc.toList 0 cs (by simpa using h);rw[<-Array.foldl_toList];simpa using this
def RdP(g:G):List (Nat×Value)->List (Nat×T)->Prop
 |[],[]=>True|(i,v)::vs,(j,t)::ts=>i=j/\Rd g v t/\RdP g vs ts|_,_ =>False
theorem UO{place:jP}:∀{ps:iM} {cs cs':fU},KU place cs ps=some cs'->∀{qs:List (Nat×Value)} {ca:gX},RdP g qs ps->RdL g ca.toList cs->
  ∃ca',Instr.fill place ca qs=some ca'/\RdL g ca'.toList cs'
 |[],cs,cs',h,qs,ca,hq,hc=>by
  simp[KU]at h;subst h;cases qs with
  |nil=>exact⟨ca,rfl,hc⟩|cons q qs=>simp[RdP]at hq
 |(i,t)::ps,cs,cs',h,[],ca,hq,hc=>by simp[RdP]at hq
 |(i,t)::ps,cs,cs',h,(i',v)::qs,ca,hq,hc=>by
  obtain⟨rfl,hv,hq⟩:=hq;simp only[KU]at h;split at h
  .cases h
  .rename_i off size hp;split at h
   .rename_i hcond;obtain⟨h1,h2⟩:=hcond;have hvc:=hv.cells;have e1:v.cells.size=size:=by rw[<-h1,<-hvc.1];simp
    have e2:ca.size=cs.length:=by rw[<-hc.1];simp
    have hle:off+v.cells.size<=ca.size:=by omega
    have hs:=Lh off v.cells ca hle;have hr:RdL g (v.cells.zipIdx.foldl (λ(cs:gX) (p:Value×Nat)=>cs.setIfInBounds (off+p.2) p.1) ca).toList (sI cs off t.cells):=by
     rw[hs];unfold sI;rw[h1,<-e1];exact((hc.take off).append hvc).append (hc.drop _)
    obtain⟨ca',h3,h4⟩:=UO h hq hr;refine⟨ca',?_,h4⟩;simp only[Instr.fill,hp];rw[if_neg (by simp[e1];omega)];exact h3
   .cases h
theorem Ff:∀{fs:List Field} {pl:List (Nat×Nat)},KK P fs=some pl->(fs.mapM (λf=>do pure (f.offset,<-sizeOf f.type)):Sem (List (Nat×Nat))).run P g.w= .ok pl g.w
 |[],pl,h=>by simp[KK]at h;subst h;simp
 |f::fs,pl,h=>by
  simp only[KK]at h;split at h
  .rename_i s hs;split at h
   .rename_i l hl;cases h;simp only[vZ,aD]at hs;obtain⟨i,hi,rfl⟩:=hs;have ih:=Ff hl;simp only[List.mapM_cons,aP,sizeOf,typeInfo,run_program,aI,hi,aX];simp only[sizeOf,typeInfo]at ih;rw[ih];simp
   .cases h
  .cases h
theorem aHg{t:fS}{ps:iM}{r:T}(h:WL P t ps=some r){qs:List (Nat×Value)}(hq:RdP g qs ps):
  ∃q,(Instr.build t qs.toArray).run P g.w= .ok q g.w/\Rd g q r:=by
 unfold WL at h;split at h
 .rename_i z hz;obtain⟨v,hv,hr⟩:=GV (g:=g) hz;split at h
  .rename_i fs hd;split at h
   .rename_i pl hpl;simp only[aD]at h;obtain⟨cs,hcs,rfl⟩:=h;obtain⟨ca,h1,h2⟩:=UO hcs hq hr.cells;have hp:=Ff (g:=g) hpl;refine⟨.agg ca,?_,by have:=Rd.mk_agg h2;simpa using this⟩;have hpa:(fs.mapM (λf=>do pure (f.offset,<-sizeOf f.type)):Sem (Array (Nat×Nat))).run P g.w= .ok pl.toArray g.w:=by
     obtain⟨fl⟩:=fs;rw[dM];simp only[eY];simp only at hp;rw[hp];rfl
    have h1':Instr.fill (λx=>pl.toArray[x]?) v.cells qs=some ca:=by simpa using h1
    simp only[Instr.build,aP,hv,aI,run_underlying hd,hpa,h1',aX]
   .cases h
  .rename_i n e hd;split at h
   .rename_i s hs;simp only[aD]at h;obtain⟨cs,hcs,rfl⟩:=h;simp only[vZ,aD]at hs;obtain⟨i,hi,rfl⟩:=hs;obtain⟨ca,h1,h2⟩:=UO hcs hq hr.cells;refine⟨.agg ca,?_,by have:=Rd.mk_agg h2;simpa using this⟩;simp only[Instr.build,aP,hv,aI,run_underlying hd,sizeOf,typeInfo,run_program,hi,aX,h1]
   .cases h
  .cases h
 .cases h
theorem Fz{s:Nat}{ag:Bool}:∀{ps:iM} {xs xs':fU},JK s ag xs ps=some xs'->(∀x∈xs,x.cells.length=s)->
  KU (λi=>some (i*s,s)) (xs.flatMap T.cells) ps=some (xs'.flatMap T.cells)/\(∀x∈xs',x.cells.length=s)/\xs'.length=xs.length
 |[],xs,xs',h,hs=>by simp[JK]at h;subst h;exact⟨rfl,hs,rfl⟩
 |(i,t)::ps,xs,xs',h,hs=>by
  simp only[JK]at h;split at h
  .rename_i hc;obtain⟨h1,h2,h3⟩:=hc;have hs':∀x∈xs.set i t,x.cells.length=s:=λx hx=>by
    rcases List.mem_or_eq_of_mem_set hx with hx|rfl
    .exact hs x hx
    .exact h1
   obtain⟨a,b,c⟩:=Fz h hs';refine⟨?_,b,by simpa using c⟩;have hmul:i*s+s<=xs.length*s:=by rw[<-cW];exact cU _ h3
   simp only[KU];rw[if_pos ⟨h1,by rw[tW hs];exact hmul⟩];rw[show sI (xs.flatMap T.cells) (i*s) t.cells=(xs.set i t).flatMap T.cells from ?_]
   .exact a
   .unfold sI;rw[List.set_eq_take_append_cons_drop,if_pos h3];simp only[dY,bG,Ee hs,Ec hs,h1,cW,dS]
  .cases h
theorem Tb{z:T}{v:gQ}(hz:Rd g v z){n s:Nat}(hs:z.cells.length=s)(h0:0<s):
  RdL g ((Array.range (n*s)).map (v.cells[· %v.cells.size]!)).toList ((List.replicate n z).flatMap T.cells):=by
 have hc:=hz.cells;have hv:v.cells.size=s:=by rw[<-hs,<-hc.1];simp
 have hall:∀x∈List.replicate n z,x.cells.length=s:=λx hx=>by rw[(bN.1 hx).2];exact hs
 refine⟨by simp[tW hall],λj u c hu hcc=> ?_⟩;have hj:j<n*s:=by
  have:=(aO.1 hcc).1;rw[tW hall]at this;simpa using this
 have hi:j/s<n:=(Nat.div_lt_iff_lt_mul h0).2 hj;have hr:j%s<s:=Nat.mod_lt _ h0;have hzj:z.cells[j%s]? =some (z.cells[j%s]'(by omega)):=aB _;have hx:(List.replicate n z)[j/s]? =some z:=by simp[hi]
 have h1:=GP hall hx (j%s) _ hzj;rw[show j/s*s+j%s=j by rw[Nat.mul_comm];exact Nat.div_add_mod j s]at h1;rw[hcc]at h1;cases h1;simp[hj]at hu;rw[hv]at hu;have hvj:v.cells.toList[j%s]? =some (v.cells[j%s]'(by omega)):=by simp
 rw[getElem!_pos v.cells (j%s) (by omega)]at hu;subst hu;exact hc.2 (j%s) _ _ hvj hzj
theorem KT{t:fS}{len:Nat}{ps:iM}{r:T}(h:uM P t len ps=some r){qs:List (Nat×Value)}(hq:RdP g qs ps):
  ∃(ca:gX) (e:fS),(Instr.buildSlice t len qs.toArray).run P g.w= .ok (.slice (some ⟨g.w.heap.size,0,none⟩) len len) (g.add (.cells ca e)).w/\
   Rd (g.add (.cells ca e)) (.slice (some ⟨g.w.heap.size,0,none⟩) len len) r/\
   ∃(xs:fU) (s:Nat),r= .sl true xs/\P.underlying t=some (.slice e)/\vZ P e=some s/\0<s/\len*s<=65536/\(xs.flatMap T.cells).length=len*s/\RdL g ca.toList (xs.flatMap T.cells):=by
 unfold uM at h;split at h
 .rename_i e hd;split at h
  .rename_i s ag z hs hag hz;split at h
   .rename_i hc;obtain⟨h0,hsmall,hzl,hza⟩:=hc;simp only[aD]at h;obtain⟨xs,hxs,rfl⟩:=h;simp only[vZ,aD]at hs;obtain⟨i,hi,rfl⟩:=hs;obtain⟨v,hv,hr⟩:=GV (g:=g) hz;have hall:∀x∈List.replicate len z,x.cells.length=i.size:=λx hx=>by rw[(bN.1 hx).2];exact hzl
    obtain⟨h1,h2,h3⟩:=Fz hxs hall;have hz0:=Tb hr (n:=len) hzl h0;obtain⟨ca,h4,h5⟩:=UO h1 hq hz0;have hlen:xs.length=len:=by simpa using h3
    refine⟨ca,e,?_,?_,xs,i.size,rfl,hd,by simp[vZ,hi],h0,hsmall,by rw[tW h2,hlen],h5⟩
    .have hnot:¬(len*i.size>2^24):=by omega
     by_cases hl0:len*i.size=0
     .have hlen0:len=0:=by
       rcases Nat.eq_zero_or_pos len with q|q
       .exact q
       .have:=Nat.mul_pos q h0;omega
      subst hlen0;have e0:((Array.range 0).map (λx=>v.cells[x%v.cells.size]!))= #[]:=by simp
      simp only[Nat.zero_mul,e0]at h4;simp[Instr.buildSlice,run_underlying hd,sizeOf,typeInfo,hi,h4,newRow,G.add,Array.range_zero']
     .simp only[Instr.buildSlice,aP,run_underlying hd,aI,sizeOf,typeInfo,run_program,hi,aX,if_neg hnot,if_neg hl0,hv,h4];simp[newRow,G.add]
    .have hst:=g.add_step (.cells ca e);have h5':=h5.pstep hst;rw[<-hlen];refine .sl true xs i.size g.w.heap.size 0 xs.length ca.toList (λ_ => .inr rfl) h2 (aZ _) ?_ (λ_ =>rfl) ?_ ?_ h5'.2
     .have:len<=len*i.size:=Nat.le_mul_of_pos_right _ h0;simp only[maxLen];omega
     .have:=h5.1;rw[tW h2]at this;simpa using this
     .intro j u hu;rw[bP,G.add_cell];simpa using hu
   .cases h
  .cases h
 .cases h
theorem aVr{x:T}{v:gQ}(hv:Rd g v x)(e:fS):
  (Instr.box e v).run P g.w= .ok (.pointer (some ⟨g.w.heap.size,0,none⟩)) (g.add (.cells v.cells e)).w/\Rd (g.add (.cells v.cells e)) (.pointer (some ⟨g.w.heap.size,0,none⟩)) (.ref x 0):=by
 have hst:=g.add_step (.cells v.cells e);have hc:=(hv.pstep hst).cells;refine⟨by simp[Instr.box,newVar,newRow,G.add],?_⟩;exact .ref x 0 g.w.heap.size 0 v.cells.toList (.inr rfl) hc.1 (λj u hu=>by rw[bP,G.add_cell];simpa using hu) hc.2
theorem vC{gl:fY}{fr:fU}{a:Act}:∀{xs:List Operand} {ts:fU},uO gl fr xs=some ts->(∀x∈xs,∀t,qG gl fr x=some t->Rd g (a.eval x) t)->RdL g (xs.map a.eval) ts
 |[],ts,h,_ =>by simp[uO]at h;subst h;exact RdL.nil
 |x::xs,ts,h,hx=>by
  simp only[uO]at h;split at h
  .rename_i t ht;split at h
   .rename_i ts' hts;cases h;exact RdL.cons (hx x (by simp) t ht) (vC hts (λy hy=>hx y (by simp[hy])))
   .cases h
  .cases h
theorem OQ{gl:fY}{fr:fU}{a:Act}:∀{xs:List (Nat×Operand)} {ts:iM},GN gl fr xs=some ts->
  (∀p∈xs,∀t,qG gl fr p.2=some t->Rd g (a.eval p.2) t)->RdP g (xs.map λp=>(p.1,a.eval p.2)) ts
 |[],ts,h,_ =>by simp[GN]at h;subst h;trivial
 |(i,x)::xs,ts,h,hx=>by
  simp only[GN]at h;split at h
  .rename_i t ht;split at h
   .rename_i ts' hts;cases h;exact⟨rfl,hx (i,x) (by simp) t ht,OQ hts (λy hy=>hx y (by simp[hy]))⟩
   .cases h
  .cases h
theorem FA{f:gV}(h:vL P f=true)(args:gX):(callFunc f args).run P g.w= .ok (.enter f args) g.w:=by
 unfold vL at h;unfold callFunc;split at h
 .rename_i fn hf;simp only[aA,bW,Option.isSome_iff_ne_none]at h;obtain⟨h1,h2⟩:=h;have h3:fn.body.isNone=false:=by cases hb:fn.body<;>simp_all
  simp only[aP,run_program,aI,hf,h2,h3];simp
 .cases h
theorem rP(f:Operand->Value)(xs:Array Operand):xs.map f=(xs.toList.map f).toArray:=by
 cases xs;simp
theorem aHi{P:fV}{g:G}{a:Act}{dst:jA}{s d type:fS}{pos:String}{after:Array Edge}{guard:Option (Nat×Bool)}{x:jF}(hg:rZ g){t r:T}(h:Ib P s d t=some r)(hx:Rd g (a.eval x) t):
  POk P ⟨dst,.convert s d x,type,pos,after,guard⟩ a g r:=by
 unfold Ib at h;split at h
 .rename_i u1 e l hu1 hu2;split at h
  .rename_i he;split at h
   .rename_i hl;cases h;generalize hv:a.eval x=v at hx;cases hx with
    |str b=>
    have hrun:=Lib.run_convert_string_bytes g.w s d e b hu1 hu2 he;intro K Q hK;unfold Oper.wp;have hex:(execOp a.eval ⟨dst,.convert s d x,type,pos,after,guard⟩).run P g.w= .ok (.value (.slice (some ⟨g.w.heap.size,0,none⟩) b.size (grownCap g.w b.size 0 e))) (Lib.bytesWorld g.w e b):=by
     simp only[execOp,hv,aP,hrun,aI,aX]
    rw[hex]
    let g':G:={g with w:=Lib.bytesWorld g.w e b,S:=λk=>g.S k\/k=g.w.heap.size}
    have hsz:=Lib.bytesWorld_size g.w e b;have hge:=grownCap_ge g.w b.size 0 e;have hbl:b.size=b.data.toList.length:=(dH).symm;have hmx:=grownCap_le_maxLen g.w b.size 0 e (by simp only[maxLen];omega);refine hK _ g' ⟨rfl,?_,?_,by show _ <=(Lib.bytesWorld g.w e b).heap.size;omega,λk hk=>Lib.bytesWorld_at_old g.w e b k hk,λk hk=> .inl hk,λk hk=> ?_,rfl,rfl,rfl⟩ ?_ ?_
    .simp[g',Lib.bytesWorld,World.freeze,World.alloc,World.drew,-World.alloc_eq,-World.drew_eq]
    .simp[g',Lib.bytesWorld,World.freeze,World.alloc,World.drew,-World.alloc_eq,-World.drew_eq]
    .rcases hk with hk|hk
     .exact .inl hk
     .exact .inr (by omega)
    .intro k hk;show k<(Lib.bytesWorld g.w e b).heap.size;rcases hk with hk|hk
     .have:=hg k hk;omega
     .omega
    .have hbs:b.size=(b.data.toList.map λc=>T.int .u8 c.toNat).length:=by rw[dV];exact hbl
     generalize grownCap g.w b.size 0 e=cp at hge hmx⊢
     conv=>arg 2;rw[hbs]
     refine .sl false _ 1 g.w.heap.size 0 _ (b.data.toList.map λc=>Value.int .u8 c.toNat) (λ_ => .inr rfl) (λy hy=> ?_) (by rw[<-hbs];exact hge) hmx (λq=>by cases q) (by simp) (λj v hj=> ?_) (λj v c hj hc=> ?_)
     .obtain⟨c,_,rfl⟩:=bQ.1 hy;rfl
     .rw[bA]at hj;obtain⟨c,hc,rfl⟩:=aD.1 hj;have hlt:=(aO.1 hc).1;have:=Lib.bytesWorld_cell g.w e b j (by rw[hbl];exact hlt);rw[bP];show(Lib.bytesWorld g.w e b).cell? _ =_;rw[this,aW,hc];rfl
     .have hfl:((b.data.toList.map λc=>T.int .u8 c.toNat).flatMap T.cells)=b.data.toList.map λc=>T.int .u8 c.toNat:=by
       rw[fD]
       induction b.data.toList with
       |nil=>rfl|cons z zs ih=>simp only[bG,cB,T.cells]at ih⊢;rw[ih];rfl
      rw[hfl]at hc;rw[bA]at hj hc;obtain⟨c1,h1,rfl⟩:=aD.1 hj;obtain⟨c2,h2,rfl⟩:=aD.1 hc;rw[h1]at h2;cases h2;exact .int _ _
   .cases h
  .cases h
 .cases h
theorem HT{E:tY}(hE:vP P E.gl E.pe)(hgl:GlOk E.gl g){own:Bool}{H:Hp}(hH:St g H)(hg:rZ g){fr:fU}{a:Act}{o:Oper}{t:T}
  (h:qK P E own H fr o=some t) (hop:∀x∈o.op.operands,∀t,qG E.gl fr x=some t->Rd g (a.eval x) t):POk P o a g t:=by
 obtain⟨dst,op,type,pos,after,guard⟩:=o;cases op<;>simp only[qK]at h<;>simp only[Op.operands]at hop<;>try(cases h;done)
 case move x=>exact rY hg (by simp[execOp]) (hop x (by simp) t h)
 case assign x=>exact rY hg (by simp[execOp]) (hop x (by simp) t h)
 case pick c x y=>
  split at h
  .rename_i b hb;have hc:=(hop c (by simp) _ hb).inv_bool;cases b with
   |true=>exact rY hg (v:=a.eval x) (by simp[execOp,hc,asBool]) (hop x (by simp) t (by simpa using h))|false=>exact rY hg (v:=a.eval y) (by simp[execOp,hc,asBool]) (hop y (by simp) t (by simpa using h))
  .cases h
 case box e x=>
  split at h
  .cases h
  .simp only[aD]at h;obtain⟨y,hy,rfl⟩:=h;obtain⟨h1,h2⟩:=aVr (P:=P) (hop x (by simp) y hy) e;exact Fi hg (by simp only[execOp,aP,h1,aI,aX]) h2
 case build ty parts=>
  split at h
  .rename_i l hl;have hp:=OQ (g:=g) (a:=a) hl (λp hp t ht=>hop p.2 (by simp;exact⟨p.1,by simpa using hp⟩) t ht);obtain⟨q,h1,h2⟩:=aHg h hp;refine rY hg (v:=q) ?_ h2;have e:(parts.map λx=>(x.1,a.eval x.2))=(parts.toList.map λp=>(p.1,a.eval p.2)).toArray:=by cases parts;simp
   simp only[execOp,aP,e,h1,aI,aX]
  .cases h
 case buildSlice ty len parts=>
  split at h
  .cases h
  .split at h
   .rename_i l hl;have hp:=OQ (g:=g) (a:=a) hl (λp hp t ht=>hop p.2 (by simp;exact⟨p.1,by simpa using hp⟩) t ht);obtain⟨ca,e,h1,h2,_⟩:=KT h hp;refine Fi hg (ob:= .cells ca e) ?_ h2;have e:(parts.map λx=>(x.1,a.eval x.2))=(parts.toList.map λp=>(p.1,a.eval p.2)).toArray:=by cases parts;simp
    simp only[execOp,aP,e,h1,aI,aX]
   .cases h
 case load ty x=>
  split at h
  .rename_i p hp;obtain⟨u,h1,h2⟩:=Zp hH h (hop x (by simp) p hp);exact rY hg (by simp only[execOp,aP,h1,aI,aX]) h2
  .cases h
 case nilCheck x=>
  split at h
  .rename_i p hp;have hr:=hop x (by simp) p hp;unfold RS at h;split at h<;>cases h
   .refine rY hg (v:=a.eval x) ?_ hr;generalize hu:a.eval x=u at hr;cases hr;simp[execOp,hu]
   .refine rY hg (v:=a.eval x) ?_ hr;generalize hu:a.eval x=u at hr;cases hr;simp[execOp,hu]
   .refine rY hg (v:=a.eval x) ?_ hr;generalize hu:a.eval x=u at hr;cases hr;simp[execOp,hu]
   .refine rY hg (v:=a.eval x) ?_ hr;generalize hu:a.eval x=u at hr;cases hr;simp[execOp,hu]
  .cases h
 case binOp op ty x y ty'=>
  split at h
  .rename_i p q hp hq;split at h
   .rename_i hn;obtain⟨u,h1,h2⟩:=aVq (P:=P) h (hop x (by simp) p hp) (hop y (by simp) q hq) x y hn;refine rY hg (v:=u) ?_ h2;simp only[execOp,aP]at h1⊢;simp only[h1,aI,aX]
   .cases h
  .cases h
 case unOp op ty x=>
  split at h
  .rename_i p hp;obtain⟨u,h1,h2⟩:=bIf (P:=P) h (hop x (by simp) p hp);exact rY hg (by simp only[execOp,aP,h1,aI,aX]) h2
  .cases h
 case convert s d x=>
  split at h
  .rename_i p hp;unfold Ds at h;split at h
   .rename_i r hr;cases h;obtain⟨u,h1,h2⟩:=aOr (P:=P) hr (hop x (by simp) p hp);exact rY hg (by simp only[execOp,aP,h1,aI,aX]) h2
   .exact aHi hg h (hop x (by simp) p hp)
  .cases h
 case makeFunc f first captured=>
  split at h
  .rename_i p q hp hq;cases h;have h1:=vC (g:=g) (a:=a) hp (λx hx=>hop x (by simp at hx;simp[hx]));have h2:=vC (g:=g) (a:=a) hq (λx hx=>hop x (by simp at hx;simp[hx]));exact rY hg (by simp only[execOp,aP,Instr.makeFunc,rP,aX,aI]) (Rd.mk_fn h1 h2)
  .cases h
 case slice ty x lo hi mx=>
  cases mx with
  |some m=>cases h
  |none=>
   simp only at h;split at h
   .rename_i p hp;split at h
    .rename_i l hh hl hhi;have hlo:RdO g (lo.map a.eval) l:=by
      cases lo with
      |none=>simp[OO]at hl;subst hl;trivial
      |some y=>
       simp only[OO]at hl;split at hl
       .rename_i z hz;cases hl;exact hop y (by simp) z hz
       .cases hl
     have hhi':RdO g (hi.map a.eval) hh:=by
      cases hi with
      |none=>simp[OO]at hhi;subst hhi;trivial
      |some y=>
       simp only[OO]at hhi;split at hhi
       .rename_i z hz;cases hhi;exact hop y (by simp) z hz
       .cases hhi
     obtain⟨u,h1,h2⟩:=aMc (P:=P) h (hop x (by simp) p hp) hlo hhi';exact rY hg (by simp only[execOp,aP,Option.map_none,h1,aI,aX]) h2
    .cases h
   .cases h
 case fieldAddr s x f=>
  split at h
  .rename_i p hp;obtain⟨u,h1,h2⟩:=Iv (P:=P) h (hop x (by simp) p hp);exact rY hg (by simp only[execOp,aP,h1,aI,aX]) h2
  .cases h
 case field ty x f=>
  split at h
  .rename_i cs hp;split at h
   .rename_i fd hfd;unfold QA at hfd;split at hfd
    .rename_i fs hd;obtain⟨vs,hv,hr⟩:=(hop x (by simp) _ hp).inv_agg;obtain⟨u,h1,h2⟩:=OS (P:=P) h hr;exact rY hg (v:=u) (by simp only[execOp,Instr.field,aP,run_underlying hd,aI,hfd,hv,asAgg,aX,h1]) h2
    .cases hfd
   .cases h
  .cases h
 case indexAddr ty x i=>
  split at h
  .rename_i p q hp hq;obtain⟨u,h1,h2⟩:=Jj (P:=P) h (hop x (by simp) p hp) (hop i (by simp) q hq);exact rY hg (by simp only[execOp,aP,h1,aI,aX]) h2
  .cases h
 case index ty x i=>
  split at h
  .rename_i p q hp hq;obtain⟨u,h1,h2⟩:=aJl (P:=P) h (hop x (by simp) p hp) (hop i (by simp) q hq);exact rY hg (by simp only[execOp,aP,h1,aI,aX]) h2
  .cases h
 case lookup ty x i ok=>
  split at h
  .rename_i p q hp hq;obtain⟨u,h1,h2⟩:=aDd (P:=P) hH h (hop x (by simp) p hp) (hop i (by simp) q hq);exact rY hg (by simp only[execOp,aP,h1,aI,aX]) h2
  .cases h
 case extract x i=>
  split at h
  .rename_i cs hp;obtain⟨vs,hv,hr⟩:=(hop x (by simp) _ hp).inv_tup;obtain⟨u,h1,h2⟩:=hr.at_ h;exact rY hg (v:=u) (by simp[execOp,Instr.extract,hv,h1]) h2
  .cases h
 case call c=>
  obtain⟨callee,args,tys⟩:=c;unfold zA at h;cases callee with
  |invoke r m=>cases h
  |value f=>
   simp only[Call.operands]at hop;simp only at h;split at h
   .rename_i k first cap hf
    split at h
    .rename_i ars has;obtain⟨vs,us,hv,hr1,hr2⟩:=(hop f (by simp) _ hf).inv_fn;have h3:=vC (g:=g) (a:=a) has (λx hx=>hop x (by simp at hx;simp[hx]));obtain⟨hk,hc⟩:=hE H k _ t h;have hcall:=hc g _ hg hH hgl ((hr1.append h3).append hr2);intro K Q hK;have hrun:(execOp a.eval {dst,op:= .call ⟨.value f,args,tys⟩,type,pos,after,guard}).run P g.w= .ok (.enter k (vs++args.toList.map a.eval++us).toArray) g.w:=by
      simp only[execOp,resolve,hv,Deferred.ofValue,aP,aX,aI,invoke,rP];rw[FA hk];simp
     unfold Oper.wp;rw[hrun];exact hcall.mono λe w' ⟨v,g',he,hw,hst,hok,hrd⟩=>by
      subst he;subst hw;exact hK v g' hst hok hrd
    .cases h
   .cases h
  |builtin b=>
   simp only[Call.operands]at hop;cases b<;>try(cases h;done)
   case len=>
    simp only at h;split at h
    .rename_i x t0 ts hx hts;split at h
     .rename_i p hp
      have hr := hop x (by have:x∈args.toList:=by rw[hx];simp
                           simpa using this) p hp
      have e1:args.map a.eval= #[a.eval x]:=by rw[rP,hx];rfl
      have e2:tys[0]? =some t0:=by rw[<-fF,hts];rfl
      obtain⟨u,h1,h2⟩:∃u,(Builtin.len_ tys type #[a.eval x]).run P g.w= .ok u g.w/\Rd g u t:=by
       rcases aQr hH h hr tys e2 type with h|h
       .exact aXj (P:=P) h hr tys e2 type
       .exact h
      exact rY hg (v:=u) (by simp only[execOp,resolve,aP,aX,aI,invoke,builtin,e1,h1]) h2
     .cases h
    .cases h
   case min=>
    simp only at h;split at h
    .rename_i x r hx;have h3:=vC (g:=g) (a:=a) hx (λx hx=>hop x (by simpa using hx));cases hl:args.toList.map a.eval with
     |nil=>rw[hl]at h3;simp[RdL]at h3
     |cons v vs=>
      rw[hl]at h3;obtain⟨h4,h5⟩:=h3.inv_cons;obtain⟨u,h1,h2⟩:=OB (P:=P) h h4 h5;refine rY hg (v:=u) ?_ h2;simp only[execOp,resolve,aP,aX,aI,invoke,builtin,rP,hl,Builtin.min_,h1]
    .cases h
   case max=>
    simp only at h;split at h
    .rename_i x r hx;have h3:=vC (g:=g) (a:=a) hx (λx hx=>hop x (by simpa using hx));cases hl:args.toList.map a.eval with
     |nil=>rw[hl]at h3;simp[RdL]at h3
     |cons v vs=>
      rw[hl]at h3;obtain⟨h4,h5⟩:=h3.inv_cons;obtain⟨u,h1,h2⟩:=OA (P:=P) h h4 h5;refine rY hg (v:=u) ?_ h2;simp only[execOp,resolve,aP,aX,aI,invoke,builtin,rP,hl,Builtin.max_,h1]
    .cases h
end
noncomputable section
structure Fc where
 own:Tmp->Bool
 ed:FuncId->List T->Hp->Option (T×Hp×List Bool)
def qA:List Bool->Bool
 |[]=>true|c::cs=>c&&qA cs
def aEy:Option (T×Hp)->Option (T×Hp×List Bool)
 |some (v,H')=>some (v,H',[])|none=>none
def Fc.ee(F:Fc)(f:gV)(ts:fU)(H:Hp):Option (T×Hp):=
 match F.ed f ts H with
 |some (r,H',cs)=>if qA cs then some (r,H')else none
 |none=>none
structure Fx where
 fr:List T
 H:Hp
 pend:Option (Tmp×TypeId)
def zO(F:Fc)(o:Oper):Bool:=
 match o.dst with
 |some d=>F.own d|none=>false
def uW(ops:fZ)(o:Oper)(d:Tmp):Bool:=(o.looksAt ops).contains d||o.dst==some d
def rM:List T->Bool
 |[]=>true|t::ts=>t.one&&rM ts
def wF(P:fV)(H:Hp)(t:fS)(p x:T):Option Hp:=
 match p with
 | .ptr l off=>match H.get l,vZ P t with
  |some o,some n=>if x.cells.length=n/\off+n<=o.cells.length/\rM x.cells=true then some (H.put l {o with cells:=sI o.cells off x.cells})else none
  |_,_ =>none
 |_ =>none
def sL(H:Hp):T->Option (List T)
 | .nils=>some []| .sl _ xs=>some (xs.flatMap T.cells)| .slf _ n f=>some ((List.range n).flatMap λi=>(f i).cells)
 | .osl l sz i len=>match H.get l with
  |some o=>if(i+len)*sz<=o.cells.length then some ((o.cells.drop (i*sz)).take (len*sz))else none
  |none=>none
 | .str s=>some (s.map λb=> .int .u8 b.toNat)|_ =>none
def yF:T->Option Nat
 | .nils=>some 0| .sl _ xs=>some xs.length| .slf _ n _ =>some n| .osl _ _ _ len=>some len| .str s=>some s.length|_ =>none
def zX(P:fV)(tx:fS)(sz:Nat)(x:T):Bool:=
 match P.underlying tx,x with
 |some (.slice _),.nils|some (.slice _),.sl .. |some (.slice _),.slf .. =>true|some (.slice _),.osl _ sz' _ _ =>sz'==sz|some .string,.str _ =>sz==1|_,_ =>false
def zP(m bytes:Nat):Bool:=decide (m*bytes<=70368744177664)&&decide (m<=70368744177664)
def uL(P:fV)(H:Hp)(t tx:fS)(s x:T):Option (T×Hp):=
 match P.underlying t with
 |some (.slice e)=>
  match P.info? e,sL H x,yF x with
  |some i,some new,some m=>
   if i.size=0\/new.length≠m*i.size\/rM new=false\/(i.zero.map λz=>z.cells.size)≠some i.size\/zX P tx i.size x=false then none else
   match s with
   | .nils=>if m=0 then some (.nils,H)else if zP m i.bytes then
     some (.osl H.next i.size 0 m,H.new {elem:=e,sz:=i.size,cells:=new})else none
   | .sl true xs=>if m=0 then some (.sl true xs,H)else if zP (xs.length+m) i.bytes&&IJ i.size xs then
     some (.osl H.next i.size 0 (xs.length+m),H.new {elem:=e,sz:=i.size,cells:=xs.flatMap T.cells++new})else none
   | .osl l sz' 0 len=>if m=0 then some (.osl l sz' 0 len,H)else match H.get l with
    | some o=>if sz'=i.size/\o.sz=i.size/\o.elem=e/\o.cells.length=len*i.size/\zP (len+m) i.bytes=true then
      some (.osl H.next i.size 0 (len+m),(H.drop l).new {elem:=e,sz:=i.size,cells:=o.cells++new})else none
    |none=>none
   |_ =>none
  |_,_,_ =>none
 |_ =>none
def aZp:T->Option (List T)
 | .sl _ xs=>some xs| .slf _ n f=>some ((List.range n).map f)|_ =>none
def DI(P:fV)(H:Hp)(t tx:fS)(s x:T):Option (T×Hp):=
 match P.underlying t,s,aZp x with
 |some (.slice e),.nils,some xs=>match P.info? e with
  |some i=>if i.size=0\/xs.isEmpty=true\/(xs.all λy=>Nat.beq y.cells.length i.size)=false\/rM (xs.flatMap T.cells)=false\/(i.zero.map λz=>z.cells.size)≠some i.size\/zX P tx i.size x=false\/zP xs.length i.bytes=false then none
   else some (.sl false xs,H)
  |none=>none
 |_,_,_ =>none
abbrev hD:=Tmp->Bool
def OU(own:hD):Option Tmp->Bool
 |some d=>own (7000000+d)&& !(own (8000000+d))|none=>false
def WB(P:fV)(pa:Bool)(H:Hp)(t tx:fS)(s x:T):Option (T×Hp):=if pa then DI P H t tx s x else uL P H t tx s x
def tG(P:fV)(H:Hp)(t:fS)(l c:T):Option (T×Hp):=
 match P.underlying t,l,c with
 |some (.slice e),.int .i64 n,.int .i64 m=>
  match vZ P e,(P.info? e).map (·.bytes),yA P e with
  | some sz,some bytes,some z=>if 0<sz/\z.cells.length=sz/\0<=n/\n=m/\n.toNat*bytes<=70368744177664/\n<=70368744177664 then
    some (.osl H.next sz 0 n.toNat,H.new {elem:=e,sz:=sz,cells:=(List.replicate n.toNat z).flatMap T.cells})else none
  |_,_,_ =>none
 |_,_,_ =>none
def UG(k x:T):List (Nat×T×T)->Nat->List (Nat×T×T)
 |[],_ =>[]|(b,_,_)::r,0=>(b,k,x)::r|e::r,i+1=>e::UG k x r i
def ZT:T->T->Bool
 | .int k a,.int k' b=>decide (k=k')&&a==b| .str a,.str b=>a==b| .bool a,.bool b=>a==b|_,_ =>false
def ZU:List T->List T->Bool
 |[],[]=>true|x::xs,y::ys=>ZT x y&&ZU xs ys|_,_ =>false
def Qy:T->T->Bool
 | .agg xs,.agg ys=>ZU xs ys|x,y=>ZT x y
def SF:List (Nat×T×T)->Nat->T->Bool
 |[],_,_ =>false|(_,k',_)::_,0,k=>Qy k' k|_ ::r,i+1,k=>SF r i k
def putM(H:Hp)(l:Nat)(o:Ob)(c:Nat)(es:gS):Hp:=H.put l {o with me:=some (.map c es)}
def HC(P:fV)(H:Hp)(t:fS)(m k:T):Option (Nat×Ob×Nat×List (Nat×T×T)×TypeId×Option (Nat×Nat×T)):=
 match P.underlying t with
 |some (.map kt et)=>match m with
  | .mp l=>match H.any l with
   |some o=>match o.me with
    | some (.map c es)=>if IR P kt k then match CT P kt k es 0 with
      |some r=>some (l,o,c,es,et,r)|none=>none
     else none
    |_ =>none
   |none=>none
  |_ =>none
 |_ =>none
def SN(P:fV)(H:Hp)(t:fS)(m k x:T):Option Hp:=
 match HC P H t m k with
 |some (l,o,c,es,_,some (i,_,_))=>if SF es i k then some (putM H l o c (UG k x es i))else none
 |some (l,o,c,es,_,none)=>some (putM H l o (c+1) (es++[(c,k,x)]))|none=>none
def HP(P:fV)(H:Hp)(t:fS)(m k:T):Option (T×Hp):=
 match HC P H t m k with
 |some (l,o,c,es,_,some (i,b,v))=>if SF es i k then some (.tup [v,.int .i64 b],putM H l o c (UG k v es i))else none
 |some (l,o,c,es,et,none)=>match yA P et with
  |some z=>some (.tup [z,.int .i64 c],putM H l o (c+1) (es++[(c,k,z)]))|none=>none
 |none=>none
def Ys(b:Int):List (Nat×T×T)->Nat->Option (Nat×T)
 |[],_ =>none|(c,k,_)::r,i=>if(c:Int)==b then some (i,k)else Ys b r (i+1)
def vR(H:Hp)(m s x:T):Option Hp:=
 match m,s with
 | .mp l,.int _ b=>match H.any l with
  |some o=>match o.me with
   |some (.map c es)=>match Ys b es 0 with
    |some (i,k)=>some (putM H l o c (UG k x es i))|none=>none
   |_ =>none
  |none=>none
 |_,_ =>none
def Nf(P:fV)(H:Hp)(t:fS)(m k:T):Option Hp:=
 match HC P H t m k with
 |some (l,o,c,es,_,some (i,_,_))=>some (putM H l o c (es.eraseIdx i))|some (l,o,c,es,_,none)=>some (putM H l o c es)|none=>none
def Je(P:fV)(t:fS):Option T->Bool
 |none=>true
 |some (.int ..)=>match P.underlying t with
  |some (.map ..)=>true|_ =>false
 |some _ =>false
def xF(P:fV)(E:tY)(F:Fc)(H:Hp)(fr:fU)(o:Oper):Option (T×Hp):=
 let ev:=qG E.gl fr
 match o.op with
 | .alloc t=>match yA P t with
  |some z=>some (.ptr H.next 0,H.new {elem:=t,sz:=0,cells:=z.cells})|none=>none
 | .box t x=>match ev x with
  |some y=>some (.ptr H.next 0,H.new {elem:=t,sz:=0,cells:=y.cells})|none=>none
 | .buildSlice t len parts=>match GN E.gl fr parts.toList with
  |some l=>match P.underlying t,uM P t len l with
   |some (.slice e),some (.sl _ xs)=>match vZ P e with
    |some s=>some (.osl H.next s 0 len,H.new {elem:=e,sz:=s,cells:=xs.flatMap T.cells})|none=>none
   |_,_ =>none
  |none=>none
 | .store t p x=>match ev p,ev x with
  |some q,some y=>match wF P H t q y with
   |some H'=>some (pV,H')|none=>none
  |_,_ =>none
 | .makeSlice t l c=>match ev l,ev c with
  |some n,some m=>tG P H t n m|_,_ =>none
 | .makeMap t r=>match OO ev r with
  |some h=>if Je P t h then some (.mp H.next,H.new {elem:=t,sz:=0,cells:=[],me:=some (.map 0 [])})else none
  |none=>none
 | .mapUpdate t m k x| .insert t m k x=>match ev m,ev k,ev x with
  |some a,some b,some v=>match SN P H t a b v with
   |some H'=>some (pV,H')|none=>none
  |_,_,_ =>none
 | .mapEntry t m k=>match ev m,ev k with
  |some a,some b=>HP P H t a b|_,_ =>none
 | .entryStore _ m s x=>match ev m,ev s,ev x with
  |some a,some b,some v=>match vR H a b v with
   |some H'=>some (pV,H')|none=>none
  |_,_,_ =>none
 | .call c=>match c.callee with
  | .value f=>match ev f with
   |some (.fn (.func g) first cap)=>match uO E.gl fr c.args.toList with
    |some ars=>F.ee g (first++ars++cap) H
    |none=>none
   |_ =>none
  | .builtin .delete=>match c.args.toList,c.argTypes.toList with
   |[m,k],t::_ =>match ev m,ev k with
    |some a,some b=>match Nf P H t a b with
     |some H'=>some (pV,H')|none=>none
    |_,_ =>none
   |_,_ =>none
  | .builtin .append=>match c.args.toList,c.argTypes.toList with
   |[s,x],[t,t']=>match ev s,ev x with
    |some a,some b=>WB P (OU F.own o.dst) H t t' a b|_,_ =>none
   |_,_ =>none
  |_ =>none
 |_ =>none
def GJ:Operand->Tmp->Bool
 | .tmp y,d=>y !=d|_,_ =>true
def tQ(F:Fc)(o:Oper):Option (Tmp×TypeId):=
 match o.op with
 | .alloc t=>match o.dst with
  |some d=>if F.own d then none else some (d,t)
  |none=>none
 |_ =>none
def tU(P:fV)(E:tY)(F:Fc)(ops:fZ)(s:Fx)(o:Oper):Option Fx:=
 if qH ops s.fr o then
  match qK P E (zO F o) s.H s.fr o with
  |some v=>some {s with fr:=qU s.fr o.dst v}
  |none=>
   match tQ F o with
   |some (d,t)=>if s.pend.isSome then none else match vZ P t,yA P t with
    |some n,some z=>if z.cells.length=n/\d<s.fr.length then some {s with fr:=s.fr.set d pV,pend:=some (d,t)}else none
    |_,_ =>none
   |none=>match xF P E F s.H s.fr o with
    |some (v,H')=>some {s with fr:=qU s.fr o.dst v,H:=H'}
    |none=>none
 else some {s with fr:=qU s.fr o.dst pV}
def TS(F:Fc)(s:Fx)(d:Tmp)(t:fS)(y:T):Fx:=
 if F.own (d+1000)then{fr:=s.fr.set d (.ptr s.H.next 0),H:=s.H.new {elem:=t,sz:=0,cells:=y.cells},pend:=none}else{s with fr:=s.fr.set d (.ref y 0),pend:=none}
def sE(P:fV)(E:tY)(F:Fc)(ops:fZ)(s:Fx)(o:Oper):Option Fx:=
 match s.pend with
 |none=>tU P E F ops s o
 |some (d,t)=>
  match o.op,o.dst,o.guard with
  | .store t' (.tmp d') x,none,none=>
   if d'=d then
    if t'=t/\GJ x d=true then
     match qG E.gl s.fr x,vZ P t with
     |some y,some n=>if y.cells.length=n/\rM y.cells=true then some (TS F s d t y)else none
     |_,_ =>none
    else none
   else if uW ops o d then none else tU P E F ops s o
  |_,_,_ =>if uW ops o d then none else tU P E F ops s o
def qL(P:fV)(E:tY)(F:Fc)(ops:fZ):List Oper->Fx->Option Fx
 |[],s=>some s
 |o::rest,s=>match sE P E F ops s o with
  |some s'=>qL P E F ops rest s'|none=>none
def yB(acc:gI)(o:Oper):Nat:=o.after.toList.foldl (λs e=>if Region.binds .any e then s|||(2^e.on|||acc.getD e.on 0)else s) 0
def tL:List Oper->List Nat->List Nat
 |[],acc=>acc|o::os,acc=>tL os (acc++[yB acc o])
def vQ(A:gI)(i j:Nat):Bool:=(A.getD i 0).testBit j
def zN(ops:fZ)(o:Oper):List Tmp:=o.dst.toList++o.looksAt ops
def Ww(ops:fZ)(A:gI):Bool:=
 ops.toList.zipIdx.all λp=>ops.toList.zipIdx.all λq=>
  p.2==q.2||(match q.1.dst with
   |some d=> !(zN ops p.1).contains d||(if q.2<p.2 then vQ A p.2 q.2 else vQ A q.2 p.2)
   |none=>true)
def ER(ops:fZ):Bool:=ops.toList.zipIdx.all λp=>p.1.after.toList.all λe=> !Region.binds .any e||decide (e.on<p.2)
def BM(ops:fZ):Bool:=ER ops&&Region.noSelect ops&&Ww ops (tL ops.toList [])
def rU(A:gI)(m n:Nat):Bool:=(List.range' m (n-m)).all λi=>(List.range i).all λj=>vQ A i j
def CA(ops:fZ)(s:Fx)(o:Oper):Bool:=
 match s.pend with
 |some (d,_)=>uW ops o d|none=>false
def xP(s:Fx)(o:Oper):Bool:=
 match o.dst with
 |some d=>decide (d<s.fr.length)|none=>true
def qQ(P:fV)(E:tY)(F:Fc)(ops:fZ):List Oper->Nat->Fx->Option Fx
 |[],_,s=>match s.pend with
  |none=>some s|some _ =>none
 |o::rest,m,s=>
  if CA ops s o then
   if rU (tL ops.toList []) m ops.size then qL P E F ops (o::rest) s else none
  else if xP s o=false then none
  else if qH ops s.fr o then
   match qK P E (zO F o) s.H s.fr o with
   |some v=>qQ P E F ops rest (m+1) {s with fr:=qU s.fr o.dst v}
   |none=>match tQ F o with
    |some (d,t)=>if s.pend.isSome then none else match vZ P t,yA P t with
     |some n,some z=>if z.cells.length=n then qQ P E F ops rest (m+1) {s with fr:=s.fr.set d pV,pend:=some (d,t)}else none
     |_,_ =>none
    |none=>if rU (tL ops.toList []) m ops.size then qL P E F ops (o::rest) s else none
  else qQ P E F ops rest (m+1) {s with fr:=qU s.fr o.dst pV}
def OD(o:Oper):Bool:=
 match o.op,o.dst,o.guard with
 | .store ..,none,none=>true|_,_,_ =>false
def vF:List Oper->Nat->Option Nat
 |[],_ =>none|o::r,k=>if OD o then some k else vF r (k+1)
def aQh(ops:fZ):Bool:=
 match vF ops.toList 0 with
 |some p=> !(rU (tL ops.toList []) p ops.size)|none=>false
def aOz(ops:fZ)(t:Tmp):Bool:=ops.toList.any λo=>o.dst==some t
def aLp(ops:fZ):Nat->Tmp->Option Tmp
 |0,_ =>none
 | k+1,x=>if aOz ops x then match ops.toList.find? λo=>o.dst==some x with
   |some o=>match o.op with
    | .fieldAddr _ (.tmp y) _ | .indexAddr _ (.tmp y) _ | .move (.tmp y)=>aLp ops k y|_ =>none
   |none=>none
  else some x
def Hb(ops:fZ):Option Tmp:=
 match vF ops.toList 0 with
 |some p=>match ops[p]? with
  |some q=>match q.op with
   | .store _ (.tmp x) _ =>aLp ops 5 x|_ =>none
  |none=>none
 |none=>none
def bGd:T->Option Nat
 | .ptr l _ | .osl l _ _ _ =>some l|_ =>none
def hOk(gl:fY)(l:Nat)(fr:fU)(o:Oper):Bool:=
 match o.op with
 | .load _ a=>match qG gl fr a with
  |some (.ref ..)=>true|some (.ptr l' _)=>l' !=l|_ =>false
 | .call c=>match c.callee with
  | .builtin .len=>c.args.toList.all λx=>match qG gl fr x with
   |some (.mp _)=>false|_ =>true
  | .builtin _ =>true|_ =>false
 | .lookup .. =>false|_ =>true
def tC(P:fV)(E:tY)(F:Fc)(ops:fZ)(A:gI)(p l:Nat):List Oper->Nat->Bool->Fx->Option Fx
 |[],_,af,s=>if af then some s else none
 |o::rest,m,af,s=>
  if(af&&rU A m ops.size)=true then qL P E F ops (o::rest) s
  else if xP s o=false then none
  else if OD o then(if af then none else match o.op with
   | .store t x y=>match qG E.gl s.fr x,qG E.gl s.fr y with
    | some (.ptr l' off),some v=>if l'=l then match wF P s.H t (.ptr l' off) v with
      |some H'=>tC P E F ops A p l rest (m+1) true {s with H:=H'}
      |none=>none
     else none
    |_,_ =>none
   |_ =>none)
  else if qH ops s.fr o then
   if(if af then vQ A m p else vQ A p m)||hOk E.gl l s.fr o then match qK P E (zO F o) s.H s.fr o with
    |some v=>tC P E F ops A p l rest (m+1) af {s with fr:=qU s.fr o.dst v}
    |none=>none
   else none
  else tC P E F ops A p l rest (m+1) af {s with fr:=qU s.fr o.dst pV}
def rW(P:fV)(E:tY)(F:Fc)(ops:fZ)(fr:fU)(H:Hp):Option Fx:=
 if aQh ops then match Hb ops,vF ops.toList 0 with
  |some b,some p=>match bGd (qR fr b)with
   |some l=>tC P E F ops (tL ops.toList []) p l ops.toList 0 false ⟨fr,H,none⟩|none=>none
  |_,_ =>none
 else qQ P E F ops ops.toList 0 ⟨fr,H,none⟩
inductive X where
 |normal
 |exit (id:Nat)
 |ret
abbrev jL:=List T->Hp->Option (X×List T×Hp)
def pU(P:fV)(E:tY)(F:Fc)(n:Nat):Code->List T->Hp->Option (X×List T×Hp)
 | .skip,fr,H| .label _,fr,H=>some (.normal,fr,H)
 | .region _ ops draw,fr,H=>
  match(if draw then rW P E F ops fr H else qL P E F ops ops.toList ⟨fr,H,none⟩)with
  |some ⟨fr',H',none⟩=>some (.normal,fr',H')|_ =>none
 | .seq a b,fr,H=>match pU P E F n a fr H with
  |some (.normal,fr',H')=>pU P E F n b fr' H'|r=>r
 | .cond c a b,fr,H=>match qG E.gl fr c with
  |some (.bool t)=>if t then pU P E F n a fr H else pU P E F n b fr H
  |_ =>none
 | .block id c,fr,H=>match pU P E F n c fr H with
  |some (.exit id',fr',H')=>if id'=id then some (.normal,fr',H')else some (.exit id',fr',H')
  |r=>r
 | .loop c,fr,H=>loopN (λfr H=>pU P E F n c fr H) n fr H| .scope c,fr,H=>pU P E F n c fr H| .exit id,fr,H=>some (.exit id,fr,H)| .ret,fr,H=>some (.ret,fr,H)|_,_,_ =>none
 where
 loopN (f:jL):Nat->List T->Hp->Option (X×List T×Hp)
  |0,_,_ =>none
  |k+1,fr,H=>match f fr H with
   |some (.normal,fr',H')=>loopN f k fr' H'|r=>r
def Qo(P:fV)(fr:fU)(H:Hp):ResultVar->Option T
 | .tmp t=>some (qR fr t)| .cell a t=>wZ P H t (qR fr a)
def sS(P:fV)(fr:fU)(H:Hp):List ResultVar->Option (List T)
 |[]=>some []
 |r::rs=>match Qo P fr H r with
  |some t=>match sS P fr H rs with
   |some ts=>some (t::ts)|none=>none
  |none=>none
def PY(P:fV)(E:tY)(F:Fc)(n:Nat)(f:gV)(args:fU)(H:Hp):Option (T×Hp):=
 match P.funcs[f]? with
 |some fn=>match fn.body with
  |some c=>match pU P E F n c (args++List.replicate (fn.ntmps-args.length) pV) H with
   |some (.normal,fr,H')|some (.ret,fr,H')=>match sS P fr H' fn.results.toList with
    |some [t]=>some (t,H')|some ts=>some (.tup ts,H')|none=>none
   |_ =>none
  |none=>none
 |none=>none
def codeOk:Code->Bool
 | .region _ ops true=>BM ops| .seq a b| .cond _ a b=>codeOk a&&codeOk b| .block _ c| .loop c| .scope c=>codeOk c|_ =>true
def aWq(P:fV)(f:gV):Bool:=
 match P.funcs[f]? with
 |some fn=>match fn.body with
  |some c=>codeOk c|none=>false
 |none=>false
structure qF(H:Hp)(g:G)(H':Hp)(g':G):Prop where
 os:g'.w.os=g.w.os
 tape:g'.w.tape=g.w.tape
 output:g'.w.output=g.w.output
 size:g.w.heap.size<=g'.w.heap.size
 block:∀b,b<g.w.heap.size->(∀l o,H.any l=some o->g.loc l≠b)->g'.w.heap[b]? =g.w.heap[b]?
 sub:∀b,g.S b->g'.S b
 fresh:∀b,g'.S b->g.S b\/g.w.heap.size<=b\/∃l o,H.any l=some o/\g.loc l=b
 al:∀l,g.al l->g'.al l
 loc:∀l,g.al l->g'.loc l=g.loc l
 cp:∀l,g.al l->g'.cp l=g.cp l
 live:∀l o,H'.any l=some o->(∃l0 o0,H.any l0=some o0/\g.loc l0=g'.loc l)\/g.w.heap.size<=g'.loc l
theorem PStep.toS{g g':G}{H:Hp}(h:PStep g g'):qF H g H g':=
 ⟨h.os,h.tape,h.output,h.size,λb hb _ =>h.block b hb,h.sub,λb hb=>(h.fresh b hb).imp id .inl,λl hl=>h.al▸hl,λl _ =>by rw[h.loc],λl _ =>by rw[h.cp],λl o ho=> .inl ⟨l,o,ho,by rw[h.loc]⟩⟩
theorem qF.refl(H:Hp)(g:G):qF H g H g:=(PStep.refl g).toS
theorem St.lt{g:G}{H:Hp}(hs:St g H){l:Nat}{o:Ob}(h:H.any l=some o):g.loc l<g.w.heap.size:=(hs.at_ h).2.2
theorem qF.trans{H H' H'':Hp}{a b c:G}(h:qF H a H' b)(k:qF H' b H'' c):qF H a H'' c:=by
 have away:∀i,i<a.w.heap.size->(∀l o,H.any l=some o->a.loc l≠i)->∀l o,H'.any l=some o->b.loc l≠i:=by
  intro i hi hn l o ho e;rcases h.live l o ho with⟨l0,o0,h0,e0⟩|hge
  .exact hn l0 o0 h0 (e0.trans e)
  .omega
 refine⟨k.os.trans h.os,k.tape.trans h.tape,k.output.trans h.output,fB h.size k.size,λi hi hn=> ?_,λi hi=>k.sub i (h.sub i hi),λi hi=> ?_,
  λl hl=>k.al l (h.al l hl),λl hl=>(k.loc l (h.al l hl)).trans (h.loc l hl),λl hl=>(k.cp l (h.al l hl)).trans (h.cp l hl),λl o ho=> ?_⟩
 .rw[k.block i (bT hi h.size) (away i hi hn),h.block i hi hn]
 .rcases k.fresh i hi with hi|hi|⟨l,o,ho,e⟩
  .exact h.fresh i hi
  .exact .inr (.inl (fB h.size hi))
  .rcases h.live l o ho with⟨l0,o0,h0,e0⟩|hge
   .exact .inr (.inr ⟨l0,o0,h0,e0.trans e⟩)
   .exact .inr (.inl (by omega))
 .rcases k.live l o ho with⟨l0,o0,h0,e0⟩|hge
  .rcases h.live l0 o0 h0 with⟨l1,o1,h1,e1⟩|hge
   .exact .inl ⟨l1,o1,h1,e1.trans e0⟩
   .exact .inr (by omega)
  .exact .inr (fB h.size hge)
theorem qF.cell{H H':Hp}{g g':G}(hs:St g H)(h:qF H g H' g'){b o:Nat}{v:gQ}(hS:g.S b)(hc:g.w.cell? ⟨b,o,none⟩=some v):g'.w.cell? ⟨b,o,none⟩=some v:=
 (World.cell?_of_block (w:=g.w) (a:=⟨b,o,none⟩) (h.block b (LW hc) (λl ob hl e=>(hs.at_ hl).2.1 (e▸hS)))).trans hc
theorem Rd.sstep{H H':Hp}{g g':G}(hs:St g H)(h:qF H g H' g'){v:gQ}{t:T}(hr:Rd g v t):Rd g' v t:=by
 induction hr with
 |int k n=>exact .int k n|bool b=>exact .bool b|str s=>exact .str s|nilp=>exact .nilp|ptr l off hl=>rw[<-h.loc l hl];exact .ptr l off (h.al l hl)|ref x off b o vs hS hlen hc _ ih=>exact .ref x off b o vs (h.sub b hS) hlen (λj v hv=>h.cell hs hS (hc j v hv)) ih|nils=>exact .nils|slfn full f p=>exact .slfn full f p
 |sl full xs sz b o cap vs hS hsz h1 h2 h3 hlen hc _ ih=>
  refine .sl full xs sz b o cap vs (λhx=>h.sub b (hS hx)) hsz h1 h2 h3 hlen (λj v hv=> ?_) ih;have hx:xs≠[]:=by
   rintro rfl;simp at hlen;subst hlen;simp at hv
  exact h.cell hs (hS hx) (hc j v hv)
 |slf full n f sz b o cap vs h1 h2 h3 h4 h5 h6 h7 h8=>exact Rd.slf_keep h.sub (λ_ _ _ hS hc=>h.cell hs hS hc) h1 h2 h3 h4 h5 h6 h7 h8|osl l sz i len b o cap hl h1 h2 h3 h4=>exact .osl l sz i len b o cap (h.al l hl) h1 (h.cp l hl▸h2) (λq=>h.loc l hl▸h3 q) (λq=>h.cp l hl▸h4 q)|nilf=>exact .nilf|fn f first captured vs us h1 _ h2 _ ih1 ih2=>exact .fn f first captured vs us h1 ih1 h2 ih2
 |nili=>exact .nili|iface t v x _ ih=>exact .iface t v x ih|nilm=>exact .nilm|mp l hl=>rw[<-h.loc l hl];exact .mp l (h.al l hl)|yl l hl=>rw[<-h.loc l hl];exact .yl l (h.al l hl)|agg cs vs h1 _ ih=>exact .agg cs vs h1 ih|tup cs vs h1 _ ih=>exact .tup cs vs h1 ih
theorem RdL.sstep{H H':Hp}{g g':G}(hs:St g H)(h:qF H g H' g'){vs:gM}{ts:fU}(hr:RdL g vs ts):RdL g' vs ts:=⟨hr.1,λj v c hv hc=>(hr.2 j v c hv hc).sstep hs h⟩
theorem GlOk.sstep{gl:fY}{H H':Hp}{g g':G}(hs:St g H)(h:qF H g H' g')(hg:GlOk gl g):GlOk gl g':=λk t ht=>by
 obtain⟨h1,h2,cs,e,fz,h3,h4⟩:=hg k t ht;refine⟨h1.sstep hs h,h.sub k h2,cs,e,fz,?_,h4⟩;rw[h.block k (aK.1 h3).1 (λl o ho e=>(hs.at_ ho).2.1 (e▸h2))];exact h3
def G.own(g:G)(l:Nat)(ob:Obj)(c:Nat):G:=
 {w:={g.w with heap:=g.w.heap.push ob},S:=g.S,al:=λm=>g.al m\/m=l,loc:=λm=>if m=l then g.w.heap.size else g.loc m,cp:=λm=>if m=l then c else g.cp m}
theorem xY{g:G}{H:Hp}(hs:St g H)(ob:Obj)(c:Nat)(o:Ob):qF H g (H.new o) (g.own H.next ob c):=by
 have hn:=hs.new H.next (aZ _);have hne:∀l,g.al l->l≠H.next:=λl hl e=>hn (e▸hl)
 refine⟨rfl,rfl,rfl,by simp[G.own],λb hb _ =>by simp only[G.own];rw[fJ,if_neg (by omega)],λ_ h=>h,λb h=> .inl h,λl hl=> .inl hl,
  λl hl=>by simp[G.own,hne l hl],λl hl=>by simp[G.own,hne l hl],λl o' ho=> ?_⟩
 rw[sB]at ho;split at ho
 .rename_i e;subst e;right;simp[G.own]
 .rename_i e;left;exact⟨l,o',ho,by simp[G.own,Ne.symm e]⟩
theorem GM{g:G}(h:rZ g)(l:Nat)(ob:Obj)(c:Nat):rZ (g.own l ob c):=by
 intro b hb;have:=h b hb;simp only[G.own,Array.size_push];omega
theorem OP{g:G}{H:Hp}(hs:St g H)(hg:rZ g){ob:Obj}{c:Nat}{o:Ob}
  (hnew:g.w.heap.size=g.w.heap.size->(∀v t,Rd g v t->Rd (g.own H.next ob c) v t)->(o.me=none->∃cs:Array Value,ob= .cells cs o.elem (0,0)/\o.cells.length<=cs.size/\(o.sz=0->cs.size=o.cells.length)/\(o.sz≠0->cs.size=c*o.sz/\c<=maxLen)/\RdL (g.own H.next ob c) (cs.toList.take o.cells.length) o.cells)/\
   (∀m,o.me=some m->MoR (g.own H.next ob c) m ob)):St (g.own H.next ob c) (H.new o):=by
 have hst:=xY hs ob c o;have hn:=hs.new H.next (aZ _);obtain⟨hc,hm⟩:=hnew rfl (λv t h=>h.sstep hs hst);have hloc:(g.own H.next ob c).loc H.next=g.w.heap.size:=by simp[G.own]
 have hblk:(g.own H.next ob c).w.heap[g.w.heap.size]? =some ob:=by simp only[G.own];exact Array.getElem?_push_size
 have hnS:¬(g.own H.next ob c).S g.w.heap.size:=λhS=>by
  have:=hg _ hS;omega
 have hold:∀l o',H.any l=some o'->(g.own H.next ob c).loc l=g.loc l/\(g.own H.next ob c).w.heap[g.loc l]? =g.w.heap[g.loc l]? :=λl o' ho=>by
  obtain⟨h1,h2,h3⟩:=hs.at_ ho;exact⟨hst.loc l h1,by simp only[G.own];rw[fJ,if_neg (by omega)]⟩
 refine⟨λl o' ho=> ?_,λl o' m ho hme=> ?_,λl l' o1 o2 h1 h2 e=> ?_,λl hl=> ?_⟩
 .obtain⟨ha0,hm0⟩:=qP ho;rw[sB]at ha0;split at ha0
  .rename_i e;subst e;cases ha0;obtain⟨cs,e1,h1,h2,h3,h4⟩:=hc hm0;refine⟨.inr rfl,by rw[hloc];exact hnS,cs,by rw[hloc,hblk,e1],h1,h2,?_,h4⟩;simpa [G.own]using h3
  .rename_i e;obtain⟨ha,hS,cs',hb,q1,q2,q3,q4⟩:=hs.own l o' (yC ha0 hm0);obtain⟨e1,e2⟩:=hold l o' ha0;refine⟨.inl ha,by rw[e1];exact hS,cs',by rw[e1,e2];exact hb,q1,q2,?_,q4.sstep hs hst⟩;rw[hst.cp l ha];exact q3
 .rw[sB]at ho;split at ho
  .rename_i e;subst e;cases ho;exact⟨.inr rfl,by rw[hloc];exact hnS,ob,by rw[hloc,hblk],hm m hme⟩
  .rename_i e;obtain⟨ha,hS,ms,hb,q1⟩:=hs.ownM l o' m ho hme;obtain⟨e1,e2⟩:=hold l o' ho;exact⟨.inl ha,by rw[e1];exact hS,ms,by rw[e1,e2];exact hb,q1.mono (λ_ _ q=>q.sstep hs hst) (λl hl=>⟨hst.al l hl,hst.loc l hl⟩)⟩
 .rw[sB]at h1 h2;split at h1
  .rename_i e1;split at h2
   .rename_i e2;rw[<-e1,<-e2]
   .rename_i e2;rw[<-e1,hloc,(hold l' o2 h2).1]at e;have:=hs.lt h2;omega
  .rename_i e1;split at h2
   .rename_i e2;rw[<-e2,hloc,(hold l o1 h1).1]at e;have:=hs.lt h1;omega
   .rw[(hold l o1 h1).1,(hold l' o2 h2).1]at e;exact hs.sep l l' o1 o2 h1 h2 e
 .simp only[Hp.new]at hl;simp only[G.own];rintro(ha|ha)
  .exact hs.new l (by omega) ha
  .omega
theorem YY{g:G}{H:Hp}(hs:St g H)(hg:rZ g){cs:gX}{c:Nat}{o:Ob}(h1:o.cells.length<=cs.size)(h2:o.sz=0->cs.size=o.cells.length)
  (h3:o.sz≠0->cs.size=c*o.sz/\c<=maxLen) (h4:RdL g (cs.toList.take o.cells.length) o.cells) (hm:o.me=none:=by rfl):St (g.own H.next (.cells cs o.elem) c) (H.new o):=
 OP hs hg λ_ keep=>⟨λ_ =>⟨cs,rfl,h1,h2,h3,⟨h4.1,λj v t hv ht=>keep v t (h4.2 j v t hv ht)⟩⟩,λm e=>by rw[hm]at e;cases e⟩
theorem aRs{g:G}{H:Hp}(hs:St g H)(hg:rZ g)(t:fS):St (g.own H.next (.map #[] 0) 0) (H.new {elem:=t,sz:=0,cells:=[],me:=some (.map 0 [])}):=
 OP hs hg λ_ _ =>⟨λe=>(by cases e),λm e=>(by cases e;exact⟨#[],rfl,rfl,RdL.nil,RdL.nil⟩)⟩
theorem Kf{g:G}(l:Nat)(ob:Obj)(c:Nat):Rd (g.own l ob c) (.pointer (some ⟨g.w.heap.size,0,none⟩)) (.ptr l 0):=by
 have h:=Rd.ptr (g:=g.own l ob c) l 0 (.inr rfl);simpa [G.own]using h
def G.setRow(g:G)(b:Nat)(cs:gX):G:={g with w:=g.w.setRow b cs}
theorem Aa{g:G}{H:Hp}{l:Nat}{o:Ob}(ho:H.any l=some o)(cs:gX)(o':Ob):qF H g (H.put l o') (g.setRow (g.loc l) cs):=by
 refine⟨rfl,rfl,rfl,by simp[G.setRow,World.setRow],λb _ hn=>setRow_other _ _ _ _ (λe=>hn l o ho e.symm),λ_ h=>h,λb h=> .inl h,λ_ h=>h,λ_ _ =>rfl,λ_ _ =>rfl,λm q hq=> ?_⟩;rw[sH]at hq;left;split at hq
 .rename_i e;subst e;exact⟨m,o,ho,rfl⟩
 .exact⟨m,q,hq,rfl⟩
theorem aLz{g:G}{H:Hp}(hs:St g H){l:Nat}{o:Ob}(ho:H.get l=some o){cs old:gX}(hold:g.w.heap[g.loc l]? =some (.cells old o.elem (0,0)))(hsz:cs.size=old.size){cells:fU}(hlen:cells.length=o.cells.length)
  (h4:RdL g (cs.toList.take cells.length) cells):St (g.setRow (g.loc l) cs) (H.put l {o with cells:=cells}):=by
 obtain⟨hoa,hom⟩:=qP ho;have hst:=Aa (g:=g) hoa cs {o with cells:=cells};have hoth:∀m q,m≠l->H.any m=some q->(g.w.setRow (g.loc l) cs).heap[g.loc m]? =g.w.heap[g.loc m]? :=λm q hne hq=>
  setRow_other _ _ _ _ (λe'=>hne (hs.sep m l q o hq hoa e'))
 refine⟨λm q hq=> ?_,λm q mo hq hme=> ?_,λm m' q q' h1 h2 e=> ?_,λm hm=>hs.new m hm⟩
 .rw[get_put H l {o with cells:=cells} m hom]at hq;split at hq
  .rename_i e;subst e;cases hq;obtain⟨ha,hS,c0,hb,q1,q2,q3,q4⟩:=hs.own m o ho;rw[hold]at hb;cases hb;refine⟨ha,hS,cs,setRow_heap _ _ _ _ _ _ hold,by simp only;omega,λz=>by simp only at z⊢;rw[hsz,hlen];exact q2 z,λz=>by rw[hsz];exact q3 z,h4.sstep hs hst⟩
  .rename_i e;obtain⟨ha,hS,c0,hb,q1,q2,q3,q4⟩:=hs.own m q hq;refine⟨ha,hS,c0,?_,q1,q2,q3,q4.sstep hs hst⟩;show(g.w.setRow (g.loc l) cs).heap[g.loc m]? =_;rw[hoth m q e (qP hq).1];exact hb
 .rw[sH]at hq;split at hq
  .cases hq;rw[hom]at hme;cases hme
  .rename_i e;obtain⟨ha,hS,ms,hb,q1⟩:=hs.ownM m q mo hq hme;refine⟨ha,hS,ms,?_,q1.mono (λ_ _ z=>z.sstep hs hst) (λl hl=>⟨hst.al l hl,hst.loc l hl⟩)⟩;show(g.w.setRow (g.loc l) cs).heap[g.loc m]? =_;rw[hoth m q e hq];exact hb
 .have hex:∀m q,(H.put l {o with cells:=cells}).any m=some q->∃q0,H.any m=some q0:=λm q hq=>by
   rw[sH]at hq;split at hq
   .rename_i e;subst e;exact⟨o,hoa⟩
   .exact⟨q,hq⟩
  obtain⟨q0,hq0⟩:=hex m q h1;obtain⟨q1,hq1⟩:=hex m' q' h2;exact hs.sep m m' q0 q1 hq0 hq1 e
def G.setOb(g:G)(b:Nat)(o:Obj):G:={g with w:={g.w with heap:=g.w.heap.setIfInBounds b o}}
abbrev G.setMap(g:G)(b:Nat)(ms:jQ)(c:Nat):G:=g.setOb b (.map ms c)
theorem yH{g:G}{H:Hp}{l:Nat}{o:Ob}(ho:H.any l=some o)(b':Obj)(o':Ob):qF H g (H.put l o') (g.setOb (g.loc l) b'):=by
 refine⟨rfl,rfl,rfl,by simp[G.setOb],λb _ hn=> ?_,λ_ h=>h,λb h=> .inl h,λ_ h=>h,λ_ _ =>rfl,λ_ _ =>rfl,λm q hq=> ?_⟩
 .simp only[G.setOb];rw[bJ (hn l o ho)]
 .rw[sH]at hq;left;split at hq
  .rename_i e;subst e;exact⟨m,o,ho,rfl⟩
  .exact⟨m,q,hq,rfl⟩
theorem JJ{g:G}{H:Hp}(hs:St g H){l:Nat}{o:Ob}(ho:H.any l=some o){b':Obj}{m':Mo}{o':Ob}(hm':o'.me=some m')(hr:MoR g m' b'):
  St (g.setOb (g.loc l) b') (H.put l o'):=by
 have hst:=yH (g:=g) ho b' o';have hlt:=hs.lt ho;have hoth:∀m q,m≠l->H.any m=some q->(g.setOb (g.loc l) b').w.heap[g.loc m]? =g.w.heap[g.loc m]? :=λm q hne hq=>by
  simp only[G.setOb];rw[bJ (λe'=>hne (hs.sep m l q o hq ho e'.symm))]
 have hself:(g.setOb (g.loc l) b').w.heap[g.loc l]? =some b':=by
  simp only[G.setOb];rw[dK,if_pos hlt]
 refine⟨λm q hq=> ?_,λm q mo hq hme=> ?_,λm m' q q' h1 h2 e=> ?_,λm hm=>hs.new m hm⟩
 .obtain⟨hqa,hqm⟩:=qP hq;rw[sH]at hqa;split at hqa
  .cases hqa;rw[hm']at hqm;cases hqm
  .rename_i e;obtain⟨ha,hS,c0,hb,q1,q2,q3,q4⟩:=hs.own m q (yC hqa hqm);exact⟨ha,hS,c0,by rw[show(g.setOb (g.loc l) b').loc m=g.loc m from rfl,hoth m q e hqa];exact hb,q1,q2,q3,q4.sstep hs hst⟩
 .rw[sH]at hq;split at hq
  .rename_i e;subst e;cases hq;rw[hm']at hme;cases hme;obtain⟨ha,hS,_⟩:=hs.at_ ho;exact⟨ha,hS,b',hself,hr.mono (λ_ _ z=>z.sstep hs hst) (λl hl=>⟨hst.al l hl,hst.loc l hl⟩)⟩
  .rename_i e;obtain⟨ha,hS,ms',hb,q1⟩:=hs.ownM m q mo hq hme;exact⟨ha,hS,ms',by rw[show(g.setOb (g.loc l) b').loc m=g.loc m from rfl,hoth m q e hq];exact hb,q1.mono (λ_ _ z=>z.sstep hs hst) (λl hl=>⟨hst.al l hl,hst.loc l hl⟩)⟩
 .have hex:∀m q,(H.put l o').any m=some q->∃q0,H.any m=some q0:=λm q hq=>by
   rw[sH]at hq;split at hq
   .rename_i e;subst e;exact⟨o,ho⟩
   .exact⟨q,hq⟩
  obtain⟨q0,hq0⟩:=hex m q h1;obtain⟨q1,hq1⟩:=hex m' q' h2;exact hs.sep m m' q0 q1 hq0 hq1 e
theorem xB{g:G}{H:Hp}{l:Nat}{o:Ob}(ho:H.any l=some o)(ms:jQ)(c:Nat)(o':Ob):qF H g (H.put l o') (g.setMap (g.loc l) ms c):=yH ho _ _
theorem AI{g:G}{H:Hp}(hs:St g H){l:Nat}{o:Ob}(ho:H.any l=some o){ms:jQ}{c:Nat}{es:gS}(hr:sT g ms.toList es):
  St (g.setMap (g.loc l) ms c) (putM H l o c es):=JJ hs ho (m':= .map c es) rfl ⟨ms,rfl,hr⟩
theorem SX:∀{ts:fU},rM ts=true->∀t∈ts,t.one=true
 |[],_,t,h=>by cases h
 |x::xs,h,t,ht=>by
  simp only[rM,aA]at h;rcases aR.1 ht with rfl|ht
  .exact h.1
  .exact SX h.2 t ht
theorem RV{g:G}{vs:gM}{ts:fU}(h:RdL g vs ts)(ho:rM ts=true):∀v∈vs,v.oneCell'=true:=by
 intro v hv;obtain⟨j,hj,e⟩:=cO hv;have hvj:vs[j]? =some v:=by rw[aB hj,e]
 have htj:ts[j]? =some (ts[j]'(by rw[<-h.1];exact hj)):=aB _;exact(h.2 j v _ hvj htj).oneCell (SX ho _ (bB htj))
theorem aMi{P:fV}{g:G}{H H':Hp}(hs:St g H){t:fS}{p x:T}(h:wF P H t p x=some H'){u v:gQ}(hu:Rd g u p)(hv:Rd g v x):
  ∃g',(Instr.storeAt t u v).run P g.w= .ok () g'.w/\qF H g H' g'/\St g' H'/\(rZ g->rZ g'):=by
 unfold wF at h;split at h
 .rename_i l off;split at h
  .rename_i o n ho hn;split at h
   .rename_i hc;cases h;obtain⟨h1,h2,h3⟩:=hc;simp only[vZ,aD]at hn;obtain⟨i,hi,rfl⟩:=hn;cases hu;obtain⟨ha,hS,cs,hb,q1,q2,q3,q4⟩:=hs.own l o ho;have hvc:=hv.cells;have hlen:v.cells.toList.length=i.size:=by rw[hvc.1,h1]
    have hsz:v.cells.size=i.size:=by simpa using hlen
    have hst:=run_storeCells_at (P:=P) (g.loc l) off o.elem v.cells.toList 0 cs g.w hb (by simp only[dH]at hlen⊢;omega) (RV hvc h3);refine⟨g.setRow (g.loc l) (cs.toList.take (off+0)++v.cells.toList++cs.toList.drop (off+0+v.cells.toList.length)).toArray,?_,Aa (qP ho).1 _ _,?_,λhg b hb=>by simpa [G.setRow,World.setRow]using hg b hb⟩
    .simp[Instr.storeAt,Instr.sureAddr,storeVar,sizeOf,typeInfo,hi,hsz,hst,G.setRow]
    .have hspl:(sI o.cells off x.cells).length=o.cells.length:=by simp[sI];omega
     refine aLz hs ho hb (by simp;omega) hspl ?_;rw[hspl];have key:(cs.toList.take (off+0)++v.cells.toList++cs.toList.drop (off+0+v.cells.toList.length)).take o.cells.length
       =(cs.toList.take o.cells.length).take off++v.cells.toList++(cs.toList.take o.cells.length).drop (off+x.cells.length):=by
      rw[Nat.add_zero,List.take_append,List.take_append];have e1:(cs.toList.take off).length=off:=by simp;omega
      rw[dU (l:=cs.toList.take off) (by rw[e1];omega),dU (l:=v.cells.toList) (by rw[e1,hlen];omega)];rw[List.take_take,show min off o.cells.length=off by omega];congr 1;rw[List.drop_take,bI,e1,hlen,h1]
     show RdL g (List.take o.cells.length (cs.toList.take (off+0)++v.cells.toList++cs.toList.drop (off+0+v.cells.toList.length)).toArray.toList) _;rw[List.toList_toArray,key];unfold sI;exact((q4.take off).append hvc).append (q4.drop _)
   .cases h
  .cases h
 .cases h
section
variable{P:fV}{g:G}
theorem Ft{x y:T}(h:ZT x y=true){u v:gQ}(hu:Rd g u x)(hv:Rd g v y)(n:Nat):Instr.sameBits n u v=true:=by
 unfold ZT at h;split at h
 .simp only[aA,aJ,beq_iff_eq]at h;obtain⟨rfl,rfl⟩:=h;cases hu;cases hv;cases n<;>simp[Instr.sameBits]
 .have e:=beq_iff_eq.1 h;subst e;obtain⟨a,rfl,ha⟩:=hu.inv_str;obtain⟨b,rfl,hb⟩:=hv.inv_str;have:a=b:=by
   obtain⟨⟨a⟩⟩:=a;obtain⟨⟨b⟩⟩:=b;simp only at ha hb;rw[ha,hb]
  subst this;cases n<;>simp[Instr.sameBits,beq_toListBytes]
 .have e:=beq_iff_eq.1 h;subst e;cases hu;cases hv;cases n<;>simp[Instr.sameBits]
 .cases h
theorem Fu(n:Nat):∀{xs ys:fU} {us vs:gM},ZU xs ys=true->RdL g us xs->RdL g vs ys->us.length=vs.length/\((us.zip vs).all λp=>Instr.sameBits n p.1 p.2)=true
 |[],[],us,vs,_,hu,hv=>by
  have e1:us=[]:=cA hu.1;have e2:vs=[]:=cA hv.1;subst e1;subst e2;simp
 |x::xs,y::ys,u::us,v::vs,h,hu,hv=>by
  simp only[ZU,aA]at h;obtain⟨a,b⟩:=hu.inv_cons;obtain⟨c,d⟩:=hv.inv_cons;obtain⟨h1,h2⟩:=Fu n h.2 b d;simp[h1,h2,Ft h.1 a c n]
 |x::xs,y::ys,[],vs,h,hu,hv=>by have:=hu.1;simp at this|x::xs,y::ys,u::us,[],h,hu,hv=>by have:=hv.1;simp at this|[],_ ::_,_,_,h,_,_ =>by cases h|_ ::_,[],_,_,h,_,_ =>by cases h
theorem Qz{x y:T}(h:Qy x y=true){u v:gQ}(hu:Rd g u x)(hv:Rd g v y):Instr.sameBits 10000 u v=true:=by
 unfold Qy at h;split at h
 .obtain⟨us,rfl,hu'⟩:=hu.inv_agg;obtain⟨vs,rfl,hv'⟩:=hv.inv_agg;obtain⟨h1,h2⟩:=Fu 9999 h hu' hv';show Instr.sameBits (9999+1) _ _ =true;simp only[Instr.sameBits,aA];exact⟨by simp[h1],h2⟩
 .exact Ft h hu hv 10000
theorem JH:∀{es:gS} {i:Nat} {k:T},SF es i k=true->∃e,es[i]? =some e/\Qy e.2.1 k=true
 |(b,k',x)::es,0,k,h=>⟨_,rfl,h⟩
 |e::es,i+1,k,h=>by
  obtain⟨q,h1,h2⟩:=JH (es:=es) (i:=i) (k:=k) h;exact⟨q,by simpa using h1,h2⟩
theorem sT.at_ {ms:iH}{es:gS}(h:sT g ms es){i:Nat}{t:Nat×T×T}(ht:es[i]? =some t):∃m,ms[i]? =some m/\m.born=t.1/\Rd g m.key t.2.1/\Rd g m.val t.2.2:=by
 have hi:i<ms.length:=by rw[h.len];exact(aO.1 ht).1
 have hm:ms[i]? =some ms[i]:=aB hi;refine⟨ms[i],hm,?_,?_,?_⟩
 .have h1:=congrArg (·[i]?) h.1;simp only[bA,hm,ht,cH,aC]at h1;exact h1
 .exact h.2.1.2 i _ _ (by rw[bA,hm];rfl) (by rw[bA,ht];rfl)
 .exact h.2.2.2 i _ _ (by rw[bA,hm];rfl) (by rw[bA,ht];rfl)
theorem sT.cons{m:MapEntry}{ms:iH}{t:Nat×T×T}{es:gS}(h1:m.born=t.1)(h2:Rd g m.key t.2.1)(h3:Rd g m.val t.2.2)(h:sT g ms es):sT g (m::ms) (t::es):=
 ⟨by simp[h1,h.1],RdL.cons h2 h.2.1,RdL.cons h3 h.2.2⟩
theorem sT.modify(f:MapEntry->MapEntry)(hf:∀e,(f e).born=e.born){k x:T}:∀{ms:iH} {es:gS} {i:Nat} {e:MapEntry},sT g ms es->ms[i]? =some e->Rd g (f e).key k->Rd g (f e).val x->sT g (ms.modify i f) (UG k x es i)
 |[],es,i,e,_,he,_,_ =>by simp at he|m::ms,[],i,e,h,_,_,_ =>by have:=h.len;simp at this
 |m::ms,(b,k',x')::es,0,e,h,he,h1,h2=>by
  obtain⟨q1,q2,q3,q4⟩:=h.inv_cons;simp at he;subst he;exact sT.cons (t:=(b,k,x)) (by rw[hf];exact q1) h1 h2 q4
 |m::ms,(b,k',x')::es,i+1,e,h,he,h1,h2=>by
  obtain⟨q1,q2,q3,q4⟩:=h.inv_cons;exact sT.cons (t:=(b,k',x')) q1 q2 q3 (sT.modify f hf q4 (by simpa using he) h1 h2)
theorem sT.push{ms:iH}{es:gS}(h:sT g ms es){c:Nat}{u v:gQ}{k x:T}(hu:Rd g u k)(hv:Rd g v x):sT g (ms++[{key:=u,val:=v,born:=c}]) (es++[(c,k,x)]):=by
 refine⟨by simp[h.1],?_,?_⟩
 .rw[eQ,eQ];exact h.2.1.append (RdL.cons hu RdL.nil)
 .rw[eQ,eQ];exact h.2.2.append (RdL.cons hv RdL.nil)
theorem sT.erase:∀{ms:iH} {es:gS} (i:Nat),sT g ms es->sT g (ms.eraseIdx i) (es.eraseIdx i)
 |[],[],i,h=>by simpa using h|[],e::es,i,h=>by have:=h.len;simp at this|m::ms,[],i,h=>by have:=h.len;simp at this|m::ms,e::es,0,h=>by obtain⟨q1,q2,q3,q4⟩:=h.inv_cons;exact q4
 |m::ms,e::es,i+1,h=>by obtain⟨q1,q2,q3,q4⟩:=h.inv_cons;exact sT.cons q1 q2 q3 (sT.erase i q4)
theorem KM{H:Hp}(hs:St g H){t:fS}{m k:T}{l:Nat}{o:Ob}{c:Nat}{es:gS}{et:fS}{r:jN}(h:HC P H t m k=some (l,o,c,es,et,r)){v u:gQ}(hv:Rd g v m)(hu:Rd g u k):
  ∃kt ms q,P.underlying t=some (.map kt et)/\v= .map (some (g.loc l))/\H.any l=some o/\o.me=some (.map c es)/\g.w.heap[g.loc l]? =some (.map ms c)/\sT g ms.toList es/\(∀e,(Instr.checkKey e 10000 kt u).run P g.w= .ok () g.w)/\(Instr.findKey kt u ms.toList).run P g.w= .ok q g.w/\xQ P kt k ms.toList es 0 r q:=by
 unfold HC at h;split at h
 .rename_i kt et' hd;split at h
  .rename_i l';split at h
   .rename_i o' ho;split at h
    .rename_i c' es' hme;split at h
     .rename_i hk;split at h
      .rename_i r' hf;simp only[aC,aU]at h;obtain⟨rfl,rfl,rfl,rfl,rfl,rfl⟩:=h;obtain⟨_,_,_,hb,ms,rfl,hr⟩:=hs.ownM _ _ _ ho hme;obtain⟨d,hkd⟩:=En hk;obtain⟨q,e1,e2⟩:=LN hkd hu hf hr;cases hv;exact⟨kt,ms,q,hd,rfl,ho,hme,hb,hr,λe=>Oy hk hu e,e1,e2⟩
      .cases h
     .cases h
    .cases h
   .cases h
  .cases h
 .cases h
theorem uF{w:iK}{r:Nat}{ms:jQ}{c:Nat}(o:Obj)(h:w.heap[r]? =some (.map ms c)):(setObj r o).run P w= .ok () {w with heap:=w.heap.setIfInBounds r o}:=by
 simp only[setObj,Sem.run,h]
theorem xQ.some_inv{t:fS}{k:T}{ms:iH}{es:gS}{i b:Nat}{x:T}{q:jZ}(h:xQ P t k ms es 0 (some (i,b,x)) q):∃m k',q=some (i,m.val)/\ms[i]? =some m/\es[i]? =some (b,k',x):=by
 unfold xQ at h;split at h
 .rename_i e;cases e
 .rename_i e;cases e;obtain⟨rfl,_,m,k',h1,h2,rfl,_⟩:=h;exact⟨m,k',rfl,by simpa using h1,by simpa using h2⟩
 .exact h.elim
theorem xQ.none_inv{t:fS}{k:T}{ms:iH}{es:gS}{q:jZ}(h:xQ P t k ms es 0 none q):q=none:=by
 unfold xQ at h;split at h
 .rfl
 .rename_i e;cases e
 .exact h.elim
theorem Rr{old new:gQ}(h:Instr.sameBits 10000 old new=true){w:iK}:(Instr.keyThatStays old new).run P w= .ok new w:=by
 simp[Instr.keyThatStays,h]
theorem aMq{H H':Hp}(hs:St g H){t:fS}{m k x:T}(h:SN P H t m k x=some H'){v u z:gQ}(hv:Rd g v m)(hu:Rd g u k)(hz:Rd g z x):
  ∃g',(Instr.mapUpdate t v u z).run P g.w= .ok () g'.w/\qF H g H' g'/\St g' H'/\(rZ g->rZ g'):=by
 unfold SN at h;split at h
 .rename_i l o c es et i b y hsk;split at h
  .rename_i hsame;cases h;obtain⟨kt,ms,q,hd,rfl,ho,hme,hb,hr,hck,hfk,hfd⟩:=KM hs hsk hv hu;obtain⟨e,k',rfl,h1,h2⟩:=hfd.some_inv;obtain⟨e',h3,h4⟩:=JH hsame;rw[h2]at h3;cases h3;obtain⟨e2,h5,_,h6,_⟩:=hr.at_ h2;rw[h1]at h5;cases h5;have hbit:=Qz h4 h6 hu;have hr':sT g (ms.modify i λe=>{e with key:=u,val:=z}).toList (UG k x es i):=by
    rw[Array.toList_modify];exact sT.modify (λe=>{e with key:=u,val:=z}) (λ_ =>rfl) hr h1 hu hz
   refine⟨g.setMap (g.loc l) (ms.modify i λe=>{e with key:=u,val:=z}) c,?_,xB ho _ _ _,AI hs ho hr',λhg b hb'=>by simpa [G.setMap,G.setOb]using hg b hb'⟩;have hmi:ms[i]? =some e:=by simpa using h1
   simp only[Instr.mapUpdate,aP,run_underlying hd,aI,sD hb,hck,hfk,hmi,cH,fL,Rr hbit,uF _ hb];rfl
  .cases h
 .rename_i l o c es et hsk;cases h;obtain⟨kt,ms,q,hd,rfl,ho,hme,hb,hr,hck,hfk,hfd⟩:=KM hs hsk hv hu;have:=hfd.none_inv;subst this;have hr':sT g (ms.push {key:=u,val:=z,born:=c}).toList (es++[(c,k,x)]):=by
   rw[Array.toList_push];exact hr.push hu hz
  refine⟨g.setMap (g.loc l) (ms.push {key:=u,val:=z,born:=c}) (c+1),?_,xB ho _ _ _,AI hs ho hr',λhg b hb'=>by simpa [G.setMap,G.setOb]using hg b hb'⟩;simp only[Instr.mapUpdate,aP,run_underlying hd,aI,sD hb,hck,hfk,uF _ hb];rfl
 .cases h
theorem aIg{H H':Hp}(hs:St g H){t:fS}{m k r:T}(h:HP P H t m k=some (r,H')){v u:gQ}(hv:Rd g v m)(hu:Rd g u k):
  ∃q g',(Instr.mapEntry t v u).run P g.w= .ok q g'.w/\qF H g H' g'/\St g' H'/\(rZ g->rZ g')/\Rd g' q r:=by
 unfold HP at h;split at h
 .rename_i l o c es et i b y hsk;split at h
  .rename_i hsame;cases h;obtain⟨kt,ms,q,hd,rfl,ho,hme,hb,hr,hck,hfk,hfd⟩:=KM hs hsk hv hu;obtain⟨e,k',rfl,h1,h2⟩:=hfd.some_inv;obtain⟨e',h3,h4⟩:=JH hsame;rw[h2]at h3;cases h3;obtain⟨e2,h5,h8,h6,h7⟩:=hr.at_ h2;rw[h1]at h5;cases h5;have hbit:=Qz h4 h6 hu;have hr':sT g (ms.modify i λe=>{e with key:=u}).toList (UG k y es i):=by
    rw[Array.toList_modify];exact sT.modify (λe=>{e with key:=u}) (λ_ =>rfl) hr h1 hu h7
   have hst:=xB (g:=g) ho (ms.modify i λe=>{e with key:=u}) c {o with me:=some (.map c (UG k y es i))};refine⟨.tuple #[e.val,goInt e.born],g.setMap (g.loc l) (ms.modify i λe=>{e with key:=u}) c,?_,hst,AI hs ho hr',λhg b hb'=>by simpa [G.setMap,G.setOb]using hg b hb',?_⟩
   .have hmi:ms[i]? =some e:=by simpa using h1
    simp only[Instr.mapEntry,aP,run_underlying hd,aI,sD hb,hck,hfk,hmi,cH,fL,Rr hbit,uF _ hb];rfl
   .exact Rd.mk_tup (vs:=[e.val,goInt e.born]) (RdL.cons (h7.sstep hs hst) (RdL.cons (by rw[h8];exact .int _ _) RdL.nil))
  .cases h
 .rename_i l o c es et hsk;split at h
  .rename_i zt hzt;cases h;obtain⟨kt,ms,q,hd,rfl,ho,hme,hb,hr,hck,hfk,hfd⟩:=KM hs hsk hv hu;have:=hfd.none_inv;subst this;obtain⟨z,hz1,hz2⟩:=GV (g:=g) hzt;have hr':sT g (ms.push {key:=u,val:=z,born:=c}).toList (es++[(c,k,zt)]):=by
    rw[Array.toList_push];exact hr.push hu hz2
   have hst:=xB (g:=g) ho (ms.push {key:=u,val:=z,born:=c}) (c+1) {o with me:=some (.map (c+1) (es++[(c,k,zt)]))};refine⟨.tuple #[z,goInt c],g.setMap (g.loc l) (ms.push {key:=u,val:=z,born:=c}) (c+1),?_,hst,AI hs ho hr',λhg b hb'=>by simpa [G.setMap,G.setOb]using hg b hb',?_⟩
   .simp only[Instr.mapEntry,aP,run_underlying hd,aI,sD hb,hck,hfk,hz1,uF _ hb];rfl
   .exact Rd.mk_tup (vs:=[z,goInt c]) (RdL.cons (hz2.sstep hs hst) (RdL.cons (.int _ _) RdL.nil))
  .cases h
 .cases h
theorem XI{b:Int}:∀{es:gS} {i0 i:Nat} {k:T},Ys b es i0=some (i,k)->∀{ms:iH},sT g ms es->∃j x e,i=i0+j/\ms.findIdx? (λe=>(e.born:Int)==b)=some j/\es[j]? =some (e,k,x)
 |[],_,_,_,h,_,_ =>by cases h|(c,k',x)::es,i0,i,k,h,[],hr=>by have:=hr.len;simp at this
 |(c,k',x)::es,i0,i,k,h,m::ms,hr=>by
  obtain⟨q1,q2,q3,q4⟩:=hr.inv_cons;simp only at q1;simp only[Ys]at h;split at h
  .rename_i hc;cases h;exact⟨0,x,c,rfl,by simp[List.findIdx?_cons,q1,hc],rfl⟩
  .rename_i hc;obtain⟨j,x',e',h1,h2,h3⟩:=XI h q4;exact⟨j+1,x',e',by omega,by simp[List.findIdx?_cons,q1,hc,h2],by simpa using h3⟩
theorem Bg{H H':Hp}(hs:St g H){m s x:T}(h:vR H m s x=some H')(t:fS){v u z:gQ}(hv:Rd g v m)(hu:Rd g u s)(hz:Rd g z x):
  ∃g',(Instr.entryStore t v u z).run P g.w= .ok () g'.w/\qF H g H' g'/\St g' H'/\(rZ g->rZ g'):=by
 unfold vR at h;split at h
 .rename_i l ik b;split at h
  .rename_i o ho;split at h
   .rename_i c es hme;split at h
    .rename_i i k hf;cases h;obtain⟨_,_,_,hb,ms,rfl,hr⟩:=hs.ownM _ _ _ ho hme;obtain⟨j,x',e',rfl,h2,h3⟩:=XI hf hr;simp only[bP]at*;obtain⟨e,h5,h8,h6,h7⟩:=hr.at_ h3;cases hv;cases hu;have hr':sT g (ms.modify j λe=>{e with val:=z}).toList (UG k x es j):=by
      rw[Array.toList_modify];exact sT.modify (λe=>{e with val:=z}) (λ_ =>rfl) hr h5 h6 hz
     refine⟨g.setMap (g.loc l) (ms.modify j λe=>{e with val:=z}) c,?_,xB ho _ _ _,AI hs ho hr',λhg b hb'=>by simpa [G.setMap,G.setOb]using hg b hb'⟩;have hfi:ms.findIdx? (λe=>(e.born:Int)==b)=some j:=by
      have:ms=ms.toList.toArray:=by simp
      rw[this,List.findIdx?_toArray];exact h2
     simp only[Instr.entryStore,aP,sD hb,aI,asInt,asIntOf,aX,hfi,uF _ hb];rfl
    .cases h
   .cases h
  .cases h
 .cases h
theorem aWf{H H':Hp}(hs:St g H){t:fS}{m k:T}(h:Nf P H t m k=some H'){v u:gQ}(hv:Rd g v m)(hu:Rd g u k)(tys:Array TypeId)(ht:tys[0]? =some t)(ty:fS):
  ∃g',(Builtin.delete_ tys ty #[v,u]).run P g.w= .ok (.tuple #[]) g'.w/\qF H g H' g'/\St g' H'/\(rZ g->rZ g'):=by
 unfold Nf at h;split at h
 .rename_i l o c es et i b y hsk;cases h;obtain⟨kt,ms,q,hd,rfl,ho,hme,hb,hr,hck,hfk,hfd⟩:=KM hs hsk hv hu;obtain⟨e,k',rfl,h1,h2⟩:=hfd.some_inv;have hr':sT g (ms.eraseIdxIfInBounds i).toList (es.eraseIdx i):=by
   have:(ms.eraseIdxIfInBounds i).toList=ms.toList.eraseIdx i:=by simp
   rw[this];exact hr.erase i
  refine⟨g.setMap (g.loc l) (ms.eraseIdxIfInBounds i) c,?_,xB ho _ _ _,AI hs ho hr',λhg b hb'=>by simpa [G.setMap,G.setOb]using hg b hb'⟩;simp only[Builtin.delete_,ht,List.getElem?_toArray,cQ,eD,aP,run_underlying hd,aI,sD hb,hck,hfk,uF _ hb,aX];rfl
 .rename_i l o c es et hsk;cases h;obtain⟨kt,ms,q,hd,rfl,ho,hme,hb,hr,hck,hfk,hfd⟩:=KM hs hsk hv hu;have:=hfd.none_inv;subst this;refine⟨g.setMap (g.loc l) ms c,?_,xB ho _ _ _,AI hs ho hr,λhg b hb'=>by simpa [G.setMap,G.setOb]using hg b hb'⟩;simp only[Builtin.delete_,ht,List.getElem?_toArray,cQ,eD,aP,run_underlying hd,aI,sD hb,hck,hfk,uF _ hb,aX];rfl
 .cases h
theorem Pp{H:Hp}{t:fS}{h:jJ}(hh:Je P t h=true){v:Option Value}(hv:RdO g v h):(Instr.makeMap t v).run P g.w= .ok (.map (some g.w.heap.size)) (g.own H.next (.map #[] 0) 0).w:=by
 cases h with
 |none=>
  cases v with
  |some v=>exact hv.elim|none=>simp only[Instr.makeMap,aP,run_newObj,aI,aX];rfl
 |some x=>
  cases v with
  |none=>exact hv.elim
  |some v=>
   have hv:Rd g v x:=hv;unfold Je at hh;split at hh
   .rename_i e;cases e
   .rename_i k n e;cases e;cases hv;split at hh
    .rename_i hd;simp only[Instr.makeMap,aP,run_underlying hd,asInt,asIntOf,run_newObj,aI,aX];rfl
    .cases hh
   .cases hh
end
section
variable{P:fV}{g:G}{H:Hp}
theorem aQw(hs:St g H)(hg:rZ g){t:fS}{l c r:T}{H':Hp}(h:tG P H t l c=some (r,H')){u v:gQ}(hu:Rd g u l)(hv:Rd g v c):
  ∃q g',(Instr.makeSlice t u v).run P g.w= .ok q g'.w/\qF H g H' g'/\St g' H'/\rZ g'/\Rd g' q r:=by
 unfold tG at h;split at h
 .rename_i e n m hd;cases hu;cases hv;split at h
  .rename_i sz bytes z hsz hby hz;split at h
   .rename_i hc;cases h;obtain⟨h0,hzl,hn0,rfl,hb,hn⟩:=hc;simp only[vZ,aD]at hsz hby;obtain⟨i,hi,rfl⟩:=hsz;obtain⟨i',hi',rfl⟩:=hby;rw[hi]at hi';cases hi';have hzz:=hz;unfold yA at hz;rw[hi]at hz;simp only at hz;split at hz
    .rename_i zv hzv;have hrz:=FC g hz;have hbi:(i.bytes:Int)*n<=281474976710656:=by
      have e:(i.bytes:Int)*n=((n.toNat*i.bytes:Nat):Int):=by
       rw[Int.natCast_mul,Int.toNat_of_nonneg hn0,Int.mul_comm]
      rw[e];omega
     have hr:=run_make (P:=P) g.w t e i zv hd hi hzv .i64 .i64 n n hn0 (fR _) hbi (by omega);have hcells:RdL g (madeCells zv.cells (n.toNat*i.size)).toList ((List.replicate n.toNat z).flatMap T.cells):=Tb hrz hzl h0;have hall:∀x∈List.replicate n.toNat z,x.cells.length=i.size:=λx hx=>by rw[(bN.1 hx).2];exact hzl
     have hfl:((List.replicate n.toNat z).flatMap T.cells).length=n.toNat*i.size:=by rw[tW hall];simp
     have hms:(madeCells zv.cells (n.toNat*i.size)).size=n.toNat*i.size:=size_madeCells _ _;refine⟨_,g.own H.next (.cells (madeCells zv.cells (n.toNat*i.size)) e) n.toNat,hr,xY hs _ _ _,?_,GM hg _ _ _,?_⟩
     .refine YY (o:={elem:=e,sz:=i.size,cells:=(List.replicate n.toNat z).flatMap T.cells}) hs hg (by simp only[hfl,hms];omega) (λq=>by simp only at q;omega) (λ_ =>⟨hms,by simp only[maxLen];omega⟩) ?_;simp only[hfl];rw[dU (by simp[hms])];exact hcells
     .refine .osl H.next i.size 0 n.toNat g.w.heap.size 0 n.toNat (.inr rfl) (aZ _) (by simp[G.own]) (λ_ =>by simp[G.own]) (λ_ =>by simp[G.own])
    .cases hz
   .cases h
  .cases h
 .cases h
theorem aMe(hs:St g H){x:T}{new:fU}{m sz:Nat}(h1:sL H x=some new)(h2:yF x=some m)(h3:new.length=m*sz)(h4:rM new=true){tx:fS}(h5:zX P tx sz x=true)
  {v:gQ} (hv:Rd g v x) (h0:0<sz):∃news,Src P sz tx v m news g.w/\RdL g news new:=by
 unfold zX at h5;split at h5
 .rename_i e hd;simp only[sL,yF]at h1 h2;cases h1;cases h2;cases hv;exact⟨[],Src.ofNil g.w hd 0,RdL.nil⟩
 .rename_i e full xs hd;simp only[sL,yF]at h1 h2;cases h1;cases h2;cases hv with
  |sl _ _ sz' b o cap vs q1 q2 q3 q4 q5 q6 q7 q8=>
   have hl:vs.length=xs.length*sz:=by rw[<-h3,tW q2];exact q6
   have hrd:RdL g vs (xs.flatMap T.cells):=⟨by rw[h3];exact hl,q8⟩;exact⟨vs,Src.ofSlice g.w hd ⟨b,o,none⟩ xs.length cap vs hl (λj u hu=>by rw[Addr.add_lit];exact q7 j u hu) (RV hrd h4),hrd⟩
 .rename_i e full n f hd;simp only[sL,yF]at h1 h2;cases h1;cases h2;cases hv with
  |slfn _ _ p=>
   cases p with
   |none=>exact⟨[],Src.ofNil g.w hd 0,RdL.nil⟩|some a=>exact⟨[],Src.ofSlice g.w hd a 0 0 [] (by simp) (λj u hu=>by simp at hu) (λu hu=>by simp at hu),RdL.nil⟩
  |slf _ _ _ sz' b o cap vs q1 q2 q3 q4 q5 q6 q7 q8=>
   have hmap:((List.range m).flatMap λi=>(f i).cells)=((List.range m).map f).flatMap T.cells:=by rw[fD]
   have hall:∀x∈(List.range m).map f,x.cells.length=sz':=λx hx=>by
    obtain⟨i,hi,rfl⟩:=bQ.1 hx;exact q2 i (by simpa using hi)
   rw[hmap]at h3 h4⊢;have hl:vs.length=m*sz:=by
    rw[<-h3,tW hall];simpa using q6
   have hrd:RdL g vs (((List.range m).map f).flatMap T.cells):=by
    refine⟨by rw[h3];exact hl,λj u c hu hc=> ?_⟩;have hjl:j<vs.length:=(aO.1 hu).1;rcases Nat.eq_zero_or_pos sz' with hz|hz
    .rw[q6,hz]at hjl;omega
    .have hjn:j<m*sz':=by omega
     have hi:j/sz'<m:=(Nat.div_lt_iff_lt_mul hz).2 hjn;have hr:j%sz'<sz':=Nat.mod_lt _ hz;have hj:j/sz'*sz'+j%sz'=j:=by rw[Nat.mul_comm];exact Nat.div_add_mod j sz'
     have hfi:=q2 _ hi;have hcj:(f (j/sz')).cells[j%sz']? =some ((f (j/sz')).cells[j%sz']'(by omega)):=aB _;have hx:((List.range m).map f)[j/sz']? =some (f (j/sz')):=by simp[hi]
     have h1:=GP hall hx (j%sz') _ hcj;rw[hj,hc]at h1;cases h1;exact(q8 _ _ u _ hi hr (by rw[hj];exact hu) hcj).rd
   exact⟨vs,Src.ofSlice g.w hd ⟨b,o,none⟩ m cap vs hl (λj u hu=>by rw[Addr.add_lit];exact q7 j u hu) (RV hrd h4),hrd⟩
 .rename_i e l sz' i len hd;simp only[sL,yF]at h1 h2;cases h2;simp only[beq_iff_eq]at h5;subst h5;split at h1
  .rename_i o ho;split at h1
   .rename_i hle;cases h1;obtain⟨ha,hS,cs,hb,q1,q2,q3,q4⟩:=hs.own l o ho;cases hv with
    |osl _ _ _ _ b' o' cap p1 p2 p3 p4 p5=>
     by_cases hm:m=0
     .subst hm;have hn:((o.cells.drop (i*sz')).take (0*sz'))=[]:=by simp
      rw[hn];exact⟨[],Src.ofSlice g.w hd ⟨b',o',none⟩ 0 cap [] (by simp) (by simp) (by simp),RdL.nil⟩
     .obtain⟨rfl,rfl⟩:=p4 (.inl (by omega));have hmul:(i+m)*sz'=i*sz'+m*sz':=fN _ _ _;have hrd:RdL g (((cs.toList.take o.cells.length).drop (i*sz')).take (m*sz')) ((o.cells.drop (i*sz')).take (m*sz')):=(q4.drop _).take _;refine⟨_,Src.ofSlice g.w hd ⟨g.loc l,i*sz',none⟩ m cap _ (by rw[hrd.1];exact h3) (λj u hu=> ?_) (RV hrd h4),hrd⟩;rw[Addr.add_lit];rw[bD]at hu;split at hu
      .rw[bZ,bD]at hu;split at hu
       .simp[World.cell?,hb]at hu⊢;exact hu
       .cases hu
      .cases hu
   .cases h1
  .cases h1
 .rename_i s hd;simp only[sL,yF]at h1 h2;cases h1;cases h2;simp only[beq_iff_eq]at h5;subst h5;obtain⟨a,rfl,rfl⟩:=hv.inv_str;refine⟨byteCells a,?_,?_⟩
  .have e:a.data.toList.length=a.size:=by simp[eH]
   rw[e];exact Src.ofString g.w hd a
  .refine⟨by simp[byteCells],λj u c hu hc=> ?_⟩;simp only[byteCells,bA,aD]at hu hc;obtain⟨x,hx,rfl⟩:=hu;obtain⟨y,hy,rfl⟩:=hc;rw[hx]at hy;cases hy;exact .int _ _
 .cases h5
theorem Jb(hs:St g H)(hg:rZ g){H0:Hp}(hH0:H0.next=H.next)(hsub:∀l o,H0.any l=some o->H.any l=some o){e:fS}{sz need cap:Nat}{cells:fU}{vs:gM}{rest:gX}(hv:RdL g vs cells)(hlen:cells.length=need*sz)
  (hrest:rest.size=(cap-need)*sz) (hcap:need<=cap) (hmax:cap<=maxLen) (hsz:sz≠0):
  ∃g',g'.w=g.w.drew.alloc (.cells (vs.toArray++rest) e)/\qF H g (H0.new {elem:=e,sz:=sz,cells:=cells}) g'/\St g' (H0.new {elem:=e,sz:=sz,cells:=cells})/\rZ g'/\
   Rd g' (.slice (some ⟨g.w.heap.size,0,none⟩) need cap) (.osl H0.next sz 0 need):=by
 have hs0:St g H0:=⟨λl o ho=>hs.own l o (yC (hsub l o (qP ho).1) (qP ho).2),λl o m ho=>hs.ownM l o m (hsub l o ho),λl l' o o' h1 h2=>hs.sep l l' o o' (hsub l o h1) (hsub l' o' h2),λl hl=>hs.new l (hH0▸hl)⟩
 let gd:G:={g with w:=g.w.drew}
 have hp:PStep g gd:=⟨rfl,rfl,rfl,aZ _,λ_ _ =>rfl,λ_ h=>h,λ_ h=> .inl h,rfl,rfl,rfl⟩;have hsd:=hs0.pstep hp;have hgd:rZ gd:=hg;have hdown:qF H g H0 gd:=⟨rfl,rfl,rfl,aZ _,λ_ _ _ =>rfl,λ_ h=>h,λ_ h=> .inl h,λ_ h=>h,λ_ _ =>rfl,λ_ _ =>rfl,λl o ho=> .inl ⟨l,o,hsub l o ho,rfl⟩⟩;have hvl:vs.length=need*sz:=by rw[hv.1];exact hlen
 have hmul:cap*sz=need*sz+(cap-need)*sz:=by rw[<-fN];congr 1;omega
 refine⟨gd.own H0.next (.cells (vs.toArray++rest) e) cap,rfl,hdown.trans (xY hsd _ _ _),?_,GM hgd _ _ _,?_⟩
 .refine YY (o:={elem:=e,sz:=sz,cells:=cells}) hsd hgd (by simp;omega) (λq=>absurd q hsz) (λ_ =>⟨by simp[hvl,hrest];omega,hmax⟩) ?_;have:(vs.toArray++rest).toList.take cells.length=vs:=by
   rw[Array.toList_append,hlen,<-hvl];simp
  simp only at this⊢;rw[this];exact hv.pstep hp
 .refine .osl H0.next sz 0 need g.w.heap.size 0 cap (.inr rfl) hcap (by simp[G.own]) (λ_ =>⟨by simp only[G.own,if_true];rfl,by simp⟩) (λ_ =>by simp[G.own])
theorem CY(z:gX)(n:Nat):(Builtin.zeroCells z n).size=n*z.size:=by simp[Builtin.zeroCells]
theorem Ts(hs:St g H)(hg:rZ g){t tx ty:fS}{s x r:T}{H':Hp}(h:DI P H t tx s x=some (r,H')){u v:gQ}(hu:Rd g u s)(hv:Rd g v x):
  ∃q g',(Builtin.append_ #[t,tx] ty #[u,v]).run P g.w= .ok q g'.w/\qF H g H' g'/\St g' H'/\rZ g'/\Rd g' q r:=by
 unfold DI at h;split at h
 .rename_i e xs hd hxs;split at h
  .rename_i i hi;split at h
   .cases h
   .rename_i hc;simp only[not_or]at hc;obtain⟨h0,hx,hsz,h2,h3,h4,h5⟩:=hc;have hx:xs≠[]:=λe=>hx (by rw[e];rfl);have hsc:sL H x=some (xs.flatMap T.cells)/\yF x=some xs.length:=by
     unfold aZp at hxs;split at hxs
     .cases hxs;exact⟨rfl,rfl⟩
     .cases hxs;exact⟨by simp[sL,fD],by simp[yF]⟩
     .cases hxs
    cases h;have h0':0<i.size:=Nat.pos_of_ne_zero h0;have hsz':∀y∈xs,y.cells.length=i.size:=λy hy=>by
     have:(xs.all λy=>Nat.beq y.cells.length i.size)=true:=by simpa using hsz
     exact aF (aH.1 this y hy)
    have hfl:(xs.flatMap T.cells).length=xs.length*i.size:=tW hsz';have h2':rM (xs.flatMap T.cells)=true:=by simpa using h2
    have h4':zX P tx i.size x=true:=by simpa using h4
    have hz:∃z,i.zero=some z/\z.cells.size=i.size:=by
     cases hz:i.zero with
     |none=>simp[hz]at h3|some z=>exact⟨z,rfl,by simpa [hz]using h3⟩
    obtain⟨z,hz,hzs⟩:=hz;have hr:xs.length*i.bytes<=70368744177664/\xs.length<=70368744177664:=by
     have:zP xs.length i.bytes=true:=by simpa using h5
     simpa [zP]using this
    obtain⟨news,hsr,hnew⟩:=aMe (P:=P) hs (m:=xs.length) hsc.1 hsc.2 hfl h2' h4' hv h0';have hnl:news.length=xs.length*i.size:=hsr.newsLen;have hl0:0<xs.length:=List.length_pos_iff.2 hx;cases hu;have hrun:=run_append_grow_src (P:=P) g.w t tx ty e i z hd hi hz none 0 0 [] (by simp[Builtin.firstCells]) v xs.length news hsr (by omega) (by omega) (growslice_fits (by omega) (by rw[bP];omega));have hge:=grownCap_ge g.w (0+xs.length) 0 e;have hmx:=grownCap_le_maxLen g.w (0+xs.length) 0 e (by simp only[maxLen];omega);simp only[bP,List.nil_append]at hrun hge hmx
    let gd:G:={g with w:=g.w.drew}
    have hp:PStep g gd:=⟨rfl,rfl,rfl,aZ _,λ_ _ =>rfl,λ_ h=>h,λ_ h=> .inl h,rfl,rfl,rfl⟩;have hgd:rZ gd:=hg;obtain⟨ca,hca⟩:∃ca,news.toArray++Builtin.zeroCells z.cells (grownCap g.w xs.length 0 e-xs.length)=ca:=⟨_,rfl⟩;rw[hca]at hrun;have hp2:=hp.trans (G.add_step gd (.cells ca e));refine⟨_,gd.add (.cells ca e),by rw[hrun];rfl,hp2.toS,hs.pstep hp2,G.add_ok hgd _,?_⟩;refine .sl false xs i.size g.w.heap.size 0 _ news (λ_ => .inr rfl) hsz' hge hmx (by simp) hnl (λj u hu=> ?_) (λj u c hu hc=> ?_)
    .rw[bP];have:=G.add_cell gd ca e j;refine this.trans ?_;rw[<-hca,Array.getElem?_append_left (by have:=(aO.1 hu).1;simpa using this)];simpa using hu
    .exact(hnew.2 j u c hu hc).pstep hp2
  .cases h
 .cases h
theorem aBv(hs:St g H)(hg:rZ g){t tx ty:fS}{s x r:T}{H':Hp}(h:uL P H t tx s x=some (r,H')){u v:gQ}(hu:Rd g u s)(hv:Rd g v x):
  ∃q g',(Builtin.append_ #[t,tx] ty #[u,v]).run P g.w= .ok q g'.w/\qF H g H' g'/\St g' H'/\rZ g'/\Rd g' q r:=by
 unfold uL at h;split at h
 .rename_i e hd;split at h
  .rename_i i new m hi hsrc hm;split at h
   .cases h
   .rename_i hc;simp only[not_or]at hc;obtain⟨h0,h1,h2,h3,h4⟩:=hc;have h0':0<i.size:=Nat.pos_of_ne_zero h0;have h1':new.length=m*i.size:=by omega
    have h2':rM new=true:=by simpa using h2
    have h4':zX P tx i.size x=true:=by simpa using h4
    have hz:∃z,i.zero=some z/\z.cells.size=i.size:=by
     cases hz:i.zero with
     |none=>simp[hz]at h3|some z=>exact⟨z,rfl,by simpa [hz]using h3⟩
    obtain⟨z,hz,hzs⟩:=hz;obtain⟨news,hsr,hnew⟩:=aMe (P:=P) hs hsrc hm h1' h2' h4' hv h0';have hnl:news.length=m*i.size:=hsr.newsLen;have room:∀{n b:Nat},zP n b=true->n*b<=70368744177664/\n<=70368744177664:=λq=>by simpa [zP]using q
    split at h
    .cases hu;split at h
     .rename_i hm0;cases h;subst hm0;refine⟨.slice none 0 0,g,?_,.refl _ _,hs,hg,.nils⟩;rcases hsr.kind with⟨e',hk⟩|hk<;>simp[Builtin.append_,run_underlying hd,run_underlying hk,sizeOf,typeInfo,hi,hsr.len,hsr.cells]
     .rename_i hm0;split at h
      .rename_i hr;cases h;obtain⟨r1,r2⟩:=room hr;have hrun:=run_append_grow_src (P:=P) g.w t tx ty e i z hd hi hz none 0 0 [] (by simp[Builtin.firstCells]) v m news hsr (by omega) (by omega) (growslice_fits (by omega) (by rw[bP];omega));have hge:=grownCap_ge g.w (0+m) 0 e;have hmx:=grownCap_le_maxLen g.w (0+m) 0 e (by simp only[maxLen];omega);simp only[bP,List.nil_append]at hrun hge hmx;obtain⟨g',e1,e2,e3,e4,e5⟩:=Jb (e:=e) hs hg (H0:=H) rfl (λ_ _ q=>q) hnew h1' (rest:=Builtin.zeroCells z.cells (grownCap g.w m 0 e-m)) (by rw[CY,hzs]) hge hmx h0;exact⟨_,g',by rw[hrun,e1],e2,e3,e4,e5⟩
      .cases h
    .rename_i xs;cases hu with
     |sl _ _ sz' b o cap vs q1 q2 q3 q4 q5 q6 q7 q8=>
      have hcap:=q5 rfl;subst hcap;split at h
      .rename_i hm0;cases h;subst hm0;have hn0:news=[]:=cA (by omega);subst hn0;refine⟨_,g,?_,.refl _ _,hs,hg,.sl true xs sz' b o xs.length vs q1 q2 q3 q4 q5 q6 q7 q8⟩;rcases hsr.kind with⟨e',hk⟩|hk<;>simp[Builtin.append_,run_underlying hd,run_underlying hk,sizeOf,typeInfo,hi,hsr.len,hsr.cells,storeCells]
      .rename_i hm0;split at h
       .rename_i hr;cases h;simp only[aA]at hr;obtain⟨r1,r2⟩:=room hr.1;have hszz:xs=[]\/sz'=i.size:=by
         cases xs with
         |nil=>exact .inl rfl|cons y ys=>right;have h5:=hr.2;simp only[IJ,beq_iff_eq]at h5;rw[<-h5];exact(q2 y (by simp)).symm
        have hvl:vs.length=xs.length*i.size:=by
         rcases hszz with rfl|rfl
         .simpa using q6
         .exact q6
        have hxl:(xs.flatMap T.cells).length=xs.length*i.size:=by
         rcases hszz with rfl|rfl
         .simp
         .exact tW q2
        have hold:(Builtin.firstCells i.size xs.length (.slice (some ⟨b,o,none⟩) xs.length xs.length)).run P g.w.drew= .ok vs.toArray g.w.drew:=
         run_firstCells_some (P:=P) g.w.drew i.size xs.length ⟨b,o,none⟩ xs.length xs.length vs hvl (λj u hu=>by rw[Addr.add_lit];exact q7 j u hu)
        have hrun:=run_append_grow_src (P:=P) g.w t tx ty e i z hd hi hz (some ⟨b,o,none⟩) xs.length xs.length vs hold v m news hsr (by omega) (by omega) (growslice_fits (by omega) (by omega));have hge:=grownCap_ge g.w (xs.length+m) xs.length e;have hmx:=grownCap_le_maxLen g.w (xs.length+m) xs.length e (by simp only[maxLen];omega);have hvs:RdL g vs (xs.flatMap T.cells):=⟨by rw[hxl];exact hvl,q8⟩;obtain⟨g',e1,e2,e3,e4,e5⟩:=Jb (e:=e) hs hg (H0:=H) rfl (λ_ _ q=>q) (hvs.append hnew) (need:=xs.length+m) (by rw[bI,hxl,h1',fN]) (rest:=Builtin.zeroCells z.cells (grownCap g.w (xs.length+m) xs.length e-(xs.length+m))) (by rw[CY,hzs]) hge hmx h0;exact⟨_,g',by rw[hrun,e1],e2,e3,e4,e5⟩
       .cases h
    .rename_i l sz' len;cases hu with
     |osl _ _ _ _ b o cap p1 p2 p3 p4 p5=>
      obtain⟨rfl,rfl⟩:=p4 (.inr rfl);have hcp:=p5 rfl;subst hcp;simp only[Nat.zero_mul]at*;split at h
      .rename_i hm0;cases h;subst hm0;have hn0:news=[]:=cA (by omega);subst hn0;refine⟨.slice (some ⟨g.loc l,0,none⟩) len (g.cp l),g,?_,.refl _ _,hs,hg,.osl l sz' 0 len (g.loc l) 0 (g.cp l) p1 p2 (by omega) (λ_ =>⟨rfl,by simp⟩) (λ_ =>rfl)⟩;rcases hsr.kind with⟨e',hk⟩|hk<;>simp[Builtin.append_,run_underlying hd,run_underlying hk,sizeOf,typeInfo,hi,hsr.len,hsr.cells,storeCells,p2]
      .rename_i hm0;split at h
       .rename_i ob hob;split at h
        .rename_i hcc;cases h;obtain⟨c1,c2,c3,c4,c5⟩:=hcc;obtain⟨r1,r2⟩:=room c5;subst c3;obtain⟨ha,hS,cs,hb,o1,o2,o3,o4⟩:=hs.own l ob hob;obtain⟨o3,o5⟩:=o3 (by omega);rw[c2]at o3;obtain⟨hoba,hobm⟩:=qP hob;have hdrop:∀l' o',(H.drop l).any l'=some o'->H.any l'=some o':=λl' o' q=>by
          rw[sA]at q;split at q
          .cases q
          .exact q
         have hnl':∀l' o',(H.drop l).any l'=some o'->l'≠l:=λl' o' q e=>by
          rw[sA,if_pos e]at q;cases q
         by_cases hroom:len+m<=g.cp l
         .have hle:len*i.size+m*i.size<=cs.size:=by rw[o3,<-fN];exact cU _ hroom
          have hone:=hsr.one;have hstc:=run_storeCells_at (P:=P) (g.loc l) (len*i.size) ob.elem news 0 cs g.w hb (by omega) hone;simp only[Nat.add_zero]at hstc
          let cs':=(cs.toList.take (len*i.size)++news++cs.toList.drop (len*i.size+news.length)).toArray
          have hcs':cs'.size=cs.size:=by simp[cs'];omega
          let g':G:={w:=g.w.setRow (g.loc l) cs',S:=g.S,al:=λk=>g.al k\/k=H.next,loc:=λk=>if k=H.next then g.loc l else g.loc k,cp:=λk=>if k=H.next then g.cp l else g.cp k}
          have hn:=hs.new H.next (aZ _);have hne:∀k,g.al k->k≠H.next:=λk hk q=>hn (q▸hk);have hstep:qF H g ((H.drop l).new {elem:=ob.elem,sz:=i.size,cells:=ob.cells++new}) g':=by
           refine⟨rfl,rfl,rfl,by simp[g',World.setRow],λk _ hk=>setRow_other _ _ _ _ (λq=>hk l ob hoba q.symm),λ_ q=>q,λ_ q=> .inl q,λk hk=> .inl hk,λk hk=>by simp[g',hne k hk],λk hk=>by simp[g',hne k hk],λk o' ho'=> ?_⟩;rw[sB]at ho';split at ho'
           .rename_i q;exact .inl ⟨l,ob,hoba,by simp only[Hp.drop]at q;simp[g',q]⟩
           .rename_i q;have:=hdrop k o' ho';simp only[Hp.drop]at q;exact .inl ⟨k,o',this,by simp[g',Ne.symm q]⟩
          refine⟨.slice (some ⟨g.loc l,0,none⟩) (len+m) (g.cp l),g',?_,hstep,?_,λk hk=>by simpa [g',World.setRow]using hg k hk,?_⟩
          .rcases hsr.kind with⟨e',hk⟩|hk<;>simp[Builtin.append_,run_underlying hd,run_underlying hk,sizeOf,typeInfo,hi,hsr.len,hsr.cells,hroom,Addr.add_lit,hstc,g',cs']
          .have hrow:RdL g (cs'.toList.take (ob.cells++new).length) (ob.cells++new):=by
            have e1:(ob.cells++new).length=len*i.size+m*i.size:=by rw[bI,c4,h1']
            have e2:cs'.toList.take (ob.cells++new).length=cs.toList.take (len*i.size)++news:=by
             simp only[cs'];have e3:(cs.toList.take (len*i.size)++news).length=len*i.size+m*i.size:=by simp;omega
             rw[e1,<-e3,List.take_left]
            rw[e2];rw[c4]at o4;exact o4.append hnew
           have hothr:∀k o',¬(H.drop l).next=k->(H.drop l).any k=some o'->g'.loc k=g.loc k/\(g.w.setRow (g.loc l) cs').heap[g.loc k]? =g.w.heap[g.loc k]? :=λk o' q ho'=>by
            have hk:=hdrop k o' ho';exact⟨hstep.loc k (hs.at_ hk).1,setRow_other _ _ _ _ (λq'=>hnl' k o' ho' (hs.sep k l o' ob hk hoba q'))⟩
           refine⟨λk o' ho'=> ?_,λk o' kc ho' hme=> ?_,λk k' o1' o2' hk1 hk2 q=> ?_,λk hk=> ?_⟩
           .obtain⟨ha0,hm0⟩:=qP ho';rw[sB]at ha0;split at ha0
            .rename_i q;cases ha0;simp only[Hp.drop]at q;subst q;refine⟨.inr rfl,by simpa [g']using hS,cs',?_,?_,λq=>by simp only at q;omega,λ_ =>⟨by simp[g',hcs',o3],by simpa [g']using o5⟩,hrow.sstep hs hstep⟩
             .simp only[g',if_true];exact setRow_heap _ _ _ _ _ _ hb
             .rw[hcs'];simp only[bI,c4,h1'];omega
            .rename_i q;have hk:=hdrop k o' ha0;obtain⟨ha',hS',cs'',hb',p1',p2',p3',p4'⟩:=hs.own k o' (yC hk hm0);obtain⟨hloc,hbk⟩:=hothr k o' q ha0;have hcp':g'.cp k=g.cp k:=hstep.cp k ha';refine⟨.inl ha',by rw[hloc];exact hS',cs'',?_,p1',p2',by rw[hcp'];exact p3',p4'.sstep hs hstep⟩;rw[hloc];show(g.w.setRow (g.loc l) cs').heap[g.loc k]? =_;rw[hbk];exact hb'
           .rw[sB]at ho';split at ho'
            .cases ho';cases hme
            .rename_i q;have hk:=hdrop k o' ho';obtain⟨ha',hS',ms',hb',p1'⟩:=hs.ownM k o' kc hk hme;obtain⟨hloc,hbk⟩:=hothr k o' q ho';refine⟨.inl ha',by rw[hloc];exact hS',ms',?_,p1'.mono (λ_ _ z=>z.sstep hs hstep) (λl hl=>⟨hstep.al l hl,hstep.loc l hl⟩)⟩;rw[hloc];show(g.w.setRow (g.loc l) cs').heap[g.loc k]? =_;rw[hbk];exact hb'
           .rw[sB]at hk1 hk2;have hnx:(H.drop l).next=H.next:=rfl;rw[hnx]at hk1 hk2;have hex:∀k o',¬H.next=k->(H.drop l).any k=some o'->H.any k=some o'/\k≠l/\g'.loc k=g.loc k:=λk o' q ho'=>by
             have:=hdrop k o' ho';exact⟨this,hnl' k o' ho',by simp[g',Ne.symm q]⟩
            split at hk1
            .rename_i q1;split at hk2
             .rename_i q2;rw[<-q1,<-q2]
             .rename_i q2;obtain⟨a1,a2,a3⟩:=hex k' o2' q2 hk2;rw[a3]at q;simp only[g',if_pos q1.symm]at q;exact absurd (hs.sep k' l o2' ob a1 hoba q.symm) a2
            .rename_i q1;obtain⟨a1,a2,a3⟩:=hex k o1' q1 hk1;split at hk2
             .rename_i q2;rw[a3]at q;simp only[g',if_pos q2.symm]at q;exact absurd (hs.sep k l o1' ob a1 hoba q) a2
             .rename_i q2;obtain⟨b1,b2,b3⟩:=hex k' o2' q2 hk2;rw[a3,b3]at q;exact hs.sep k k' o1' o2' a1 b1 q
           .simp only[Hp.new,Hp.drop]at hk;rintro(q|q)
            .exact hs.new k (by omega) q
            .omega
          .refine .osl H.next i.size 0 (len+m) (g.loc l) 0 (g.cp l) (.inr rfl) hroom (by simp[g']) (λ_ =>by simp[g']) (λ_ =>by simp[g'])
         .have hold:(Builtin.firstCells i.size len (.slice (some ⟨g.loc l,0,none⟩) len (g.cp l))).run P g.w.drew= .ok (cs.toList.take ob.cells.length).toArray g.w.drew:=
           run_firstCells_some (P:=P) g.w.drew i.size len ⟨g.loc l,0,none⟩ len (g.cp l) _ (by rw[o4.1];exact c4) (λj u hu=>by
            rw[Addr.add_lit,bP];rw[bD]at hu;split at hu
            .have hb':g.w.drew.heap[g.loc l]? =some (.cells cs ob.elem (0,0)):=hb;simp[World.cell?,hb']at hu⊢;exact hu
            .cases hu)
          have hrun:=run_append_grow_src (P:=P) g.w t tx ty ob.elem i z hd hi hz (some ⟨g.loc l,0,none⟩) len (g.cp l) _ hold v m news hsr (by omega) (by omega) (growslice_fits (by omega) (by omega));have hge:=grownCap_ge g.w (len+m) (g.cp l) ob.elem;have hmx:=grownCap_le_maxLen g.w (len+m) (g.cp l) ob.elem (by simp only[maxLen];omega);obtain⟨g',e1,e2,e3,e4,e5⟩:=Jb (e:=ob.elem) hs hg (H0:=H.drop l) rfl hdrop (o4.append hnew) (need:=len+m) (by rw[bI,c4,h1',fN]) (rest:=Builtin.zeroCells z.cells (grownCap g.w (len+m) (g.cp l) ob.elem-(len+m))) (by rw[CY,hzs]) hge hmx h0;exact⟨_,g',by rw[hrun,e1],e2,e3,e4,e5⟩
        .cases h
       .cases h
    .cases h
  .cases h
 .cases h
abbrev gB:=FuncId->List T->Hp->Option (T×Hp)
def tX(P:fV)(gl:fY)(ee:gB):Prop:=
 ∀f ts H r H',ee f ts H=some (r,H')->vL P f=true/\∀(g:G) (vs:gM),rZ g->St g H->GlOk gl g->RdL g vs ts->
  Calls P f vs.toArray g.w λe w'=>∃v g',e= .returned v/\g'.w=w'/\qF H g H' g'/\rZ g'/\St g' H'/\Rd g' v r
def EOk(P:fV)(o:Oper)(a:Act)(g:G)(H:Hp)(t:T)(H':Hp):Prop:=
 ∀(K:iP) (Q:gC),(∀v g',qF H g H' g'->rZ g'->St g' H'->Rd g' v t->K (a.put o.dst v) g'.w)->o.wp P a g.w K Q
theorem aNv(hs:St g H)(hg:rZ g){pa:Bool}{t tx ty:fS}{s x r:T}{H':Hp}(h:WB P pa H t tx s x=some (r,H')){u v:gQ}(hu:Rd g u s)(hv:Rd g v x):
  ∃q g',(Builtin.append_ #[t,tx] ty #[u,v]).run P g.w= .ok q g'.w/\qF H g H' g'/\St g' H'/\rZ g'/\Rd g' q r:=by
 unfold WB at h;split at h
 .exact Ts hs hg h hu hv
 .exact aBv hs hg h hu hv
theorem yY{o:Oper}{a:Act}{t:T}{v:gQ}{H':Hp}{g':G}(hr:(execOp a.eval o).run P g.w= .ok (.value v) g'.w)(h1:qF H g H' g')(h2:St g' H')(h3:rZ g')(h:Rd g' v t):EOk P o a g H t H':=by
 intro K Q hK;unfold Oper.wp;rw[hr];exact hK v g' h1 h3 h2 h
theorem NW{o:Oper}{a:Act}{H':Hp}{g':G}(hr:(execOp a.eval o).run P g.w= .ok .skip g'.w)(h1:qF H g H' g')(h2:St g' H')(h3:rZ g'):EOk P o a g H pV H':=by
 intro K Q hK;unfold Oper.wp;rw[hr];exact hK undef g' h1 h3 h2 Rd.undef
theorem Im{E:tY}{F:Fc}(hF:tX P E.gl F.ee)(hgl:GlOk E.gl g)(hs:St g H)(hg:rZ g){fr:fU}{a:Act}{o:Oper}{t:T}{H':Hp}
  (h:xF P E F H fr o=some (t,H')) (hop:∀x∈o.op.operands,∀t,qG E.gl fr x=some t->Rd g (a.eval x) t):EOk P o a g H t H':=by
 obtain⟨dst,op,type,pos,after,guard⟩:=o;cases op<;>simp only[xF]at h<;>simp only[Op.operands]at hop<;>try(cases h;done)
 case alloc e=>
  split at h
  .rename_i z hz;cases h;obtain⟨v,hv,hr⟩:=GV (g:=g) hz;have hc:=hr.cells;have hlen:v.cells.size=z.cells.length:=by rw[<-hc.1];simp
   refine yY (g':=g.own H.next (.cells v.cells e) 0) (v:= .pointer (some ⟨g.w.heap.size,0,none⟩)) ?_ (xY hs _ _ _) ?_ (GM hg _ _ _) (Kf _ _ _)
   .simp only[execOp,Instr.alloc,aP,hv,aI,newVar,newRow,run_newObj,aX];rfl
   .refine YY (o:={elem:=e,sz:=0,cells:=z.cells}) hs hg (by simp only;omega) (λ_ =>hlen) (λq=>absurd rfl q) ?_;simp only;rw[dU (by rw[hc.1];exact aZ _)];exact hc
  .cases h
 case box e x=>
  split at h
  .rename_i y hy;cases h;have hr:=hop x (by simp) y hy;have hc:=hr.cells;have hlen:(a.eval x).cells.size=y.cells.length:=by rw[<-hc.1];simp
   refine yY (g':=g.own H.next (.cells (a.eval x).cells e) 0) (v:= .pointer (some ⟨g.w.heap.size,0,none⟩)) ?_ (xY hs _ _ _) ?_ (GM hg _ _ _) (Kf _ _ _)
   .simp only[execOp,Instr.box,aP,aI,newVar,newRow,run_newObj,aX];rfl
   .refine YY (o:={elem:=e,sz:=0,cells:=y.cells}) hs hg (by simp only;omega) (λ_ =>hlen) (λq=>absurd rfl q) ?_;simp only;rw[dU (by rw[hc.1];exact aZ _)];exact hc
  .cases h
 case buildSlice ty len parts=>
  split at h
  .rename_i l hl;split at h
   .rename_i e f xs hd hb;split at h
    .rename_i s hsz;cases h;have hp:=OQ (g:=g) (a:=a) hl (λp hp t ht=>hop p.2 (by simp;exact⟨p.1,by simpa using hp⟩) t ht);obtain⟨ca,e',h1,_,xs',s',hr,hd',hs',h0,hsm,hfl,hrd⟩:=KT hb hp;cases hr;rw[hd]at hd';cases hd';rw[hsz]at hs';cases hs';have hca:ca.size=len*s:=by rw[<-hfl,<-hrd.1];simp
     have e1:(parts.map λx=>(x.1,a.eval x.2))=(parts.toList.map λp=>(p.1,a.eval p.2)).toArray:=by cases parts;simp
     have hle:len<=len*s:=Nat.le_mul_of_pos_right _ h0;refine yY (g':=g.own H.next (.cells ca e) len) (v:= .slice (some ⟨g.w.heap.size,0,none⟩) len len) ?_ (xY hs _ _ _) ?_ (GM hg _ _ _) ?_
     .simp only[execOp,aP,e1,h1,aI,aX];rfl
     .refine YY (o:={elem:=e,sz:=s,cells:=xs.flatMap T.cells}) hs hg (by simp only[hfl,hca];omega) (λq=>by simp only at q;omega) (λ_ =>⟨hca,by simp only[maxLen];omega⟩) ?_;simp only[hfl];rw[dU (by simp[hca])];exact hrd
     .exact .osl H.next s 0 len g.w.heap.size 0 len (.inr rfl) (aZ _) (by simp[G.own]) (λ_ =>by simp[G.own]) (λ_ =>by simp[G.own])
    .cases h
   .cases h
  .cases h
 case store e p x=>
  split at h
  .rename_i q y hq hy;split at h
   .rename_i H1 hH1;cases h;obtain⟨g',h1,h2,h3,h4⟩:=aMi (P:=P) hs hH1 (hop p (by simp) q hq) (hop x (by simp) y hy);exact NW (g':=g') (by simp only[execOp,aP,h1,aI,aX]) h2 h3 (h4 hg)
   .cases h
  .cases h
 case makeSlice e l c=>
  split at h
  .rename_i n m hn hm;obtain⟨q,g',h1,h2,h3,h4,h5⟩:=aQw (P:=P) hs hg h (hop l (by simp) n hn) (hop c (by simp) m hm);exact yY (g':=g') (v:=q) (by simp only[execOp,aP,h1,aI,aX]) h2 h3 h4 h5
  .cases h
 case makeMap e r=>
  split at h
  .rename_i hh hr;split at h
   .rename_i hok;cases h;have hro:RdO g (r.map a.eval) hh:=by
     cases r with
     |none=>simp[OO]at hr;subst hr;trivial
     |some y=>
      simp only[OO]at hr;split at hr
      .rename_i z hz;cases hr;exact hop y (by simp) z hz
      .cases hr
    refine yY (g':=g.own H.next (.map #[] 0) 0) (v:= .map (some g.w.heap.size)) ?_ (xY hs _ _ _) (aRs hs hg e) (GM hg _ _ _) ?_
    .simp only[execOp,aP,Pp (P:=P) (g:=g) (H:=H) hok hro,aI,aX]
    .have:=Rd.mp (g:=g.own H.next (.map #[] 0) 0) H.next (.inr rfl);simpa [G.own]using this
   .cases h
  .cases h
 case mapUpdate e m k x=>
  split at h
  .rename_i q y z hq hy hz;split at h
   .rename_i H1 hH1;cases h;obtain⟨g',h1,h2,h3,h4⟩:=aMq (P:=P) hs hH1 (hop m (by simp) q hq) (hop k (by simp) y hy) (hop x (by simp) z hz);exact NW (g':=g') (by simp only[execOp,aP,h1,aI,aX]) h2 h3 (h4 hg)
   .cases h
  .cases h
 case insert e m k x=>
  split at h
  .rename_i q y z hq hy hz;split at h
   .rename_i H1 hH1;cases h;obtain⟨g',h1,h2,h3,h4⟩:=aMq (P:=P) hs hH1 (hop m (by simp) q hq) (hop k (by simp) y hy) (hop x (by simp) z hz);exact NW (g':=g') (by simp only[execOp,aP,h1,aI,aX]) h2 h3 (h4 hg)
   .cases h
  .cases h
 case mapEntry e m k=>
  split at h
  .rename_i q y hq hy;obtain⟨u,g',h1,h2,h3,h4,h5⟩:=aIg (P:=P) hs h (hop m (by simp) q hq) (hop k (by simp) y hy);exact yY (g':=g') (v:=u) (by simp only[execOp,aP,h1,aI,aX]) h2 h3 (h4 hg) h5
  .cases h
 case entryStore e m s x=>
  split at h
  .rename_i q y z hq hy hz;split at h
   .rename_i H1 hH1;cases h;obtain⟨g',h1,h2,h3,h4⟩:=Bg (P:=P) hs hH1 e (hop m (by simp) q hq) (hop s (by simp) y hy) (hop x (by simp) z hz);exact NW (g':=g') (by simp only[execOp,aP,h1,aI,aX]) h2 h3 (h4 hg)
   .cases h
  .cases h
 case call c=>
  obtain⟨callee,args,tys⟩:=c;simp only[Call.operands]at hop;simp only at h;split at h
  .rename_i f;split at h
   .rename_i k first cap hf
    split at h
    .rename_i ars has;obtain⟨vs,us,hv,hr1,hr2⟩:=(hop f (by simp) _ hf).inv_fn;have h3:=vC (g:=g) (a:=a) has (λx hx=>hop x (by simp at hx;simp[hx]));obtain⟨hk,hc⟩:=hF k _ H t H' h;have hcall:=hc g _ hg hs hgl ((hr1.append h3).append hr2);intro K Q hK;have hrun:(execOp a.eval {dst,op:= .call ⟨.value f,args,tys⟩,type,pos,after,guard}).run P g.w= .ok (.enter k (vs++args.toList.map a.eval++us).toArray) g.w:=by
      simp only[execOp,resolve,hv,Deferred.ofValue,aP,aX,aI,invoke,rP];rw[FA hk];simp
     unfold Oper.wp;rw[hrun];exact hcall.mono λe w' ⟨v,g',he,hw,hst,hok,hst',hrd⟩=>by
      subst he;subst hw;exact hK v g' hst hok hst' hrd
    .cases h
   .cases h
  .split at h
   .rename_i m k t0 ts hargs htys;split at h
    .rename_i p q hp hq;split at h
     .rename_i H1 hH1;cases h;have e1:args= #[m,k]:=by cases args;simp at hargs;simp[hargs]
      have e2:tys[0]? =some t0:=by rw[<-fF,htys];rfl
      subst e1;obtain⟨g',h1,h2,h3,h4⟩:=aWf (P:=P) hs hH1 (hop m (by simp) p hp) (hop k (by simp) q hq) tys e2 type;exact yY (g':=g') (v:= .tuple #[]) (by simp[execOp,resolve,invoke,builtin,h1]) h2 h3 (h4 hg) Rd.undef
     .cases h
    .cases h
   .cases h
  .split at h
   .rename_i s x t0 t1 hargs htys;split at h
    .rename_i p q hp hq;have e1:args= #[s,x]:=by cases args;simp at hargs;simp[hargs]
     have e2:tys= #[t0,t1]:=by cases tys;simp at htys;simp[htys]
     subst e1;subst e2;obtain⟨u,g',h1,h2,h3,h4,h5⟩:=aNv (P:=P) (ty:=type) hs hg h (hop s (by simp) p hp) (hop x (by simp) q hq);exact yY (g':=g') (v:=u) (by simp[execOp,resolve,invoke,builtin,h1]) h2 h3 h4 h5
    .cases h
   .cases h
  .cases h
end
end
def EB(g:G)(a:Act)(fr:fU)(sk:jA):Prop:=
 a.tmps.size=fr.length/\∀(j:Nat) (v:gQ) (c:T),sk≠some j->a.tmps[j]? =some v->fr[j]? =some c->Rd g v c
theorem EB.of{g:G}{a:Act}{fr:fU}(h:RdL g a.tmps.toList fr)(sk:jA):EB g a fr sk:=⟨by simpa using h.1,λj v c _ hv hc=>h.2 j v c (by simpa using hv) hc⟩
theorem EB.all{g:G}{a:Act}{fr:fU}(h:EB g a fr none):RdL g a.tmps.toList fr:=⟨by simpa using h.1,λj v c hv hc=>h.2 j v c (by simp) (by simpa using hv) hc⟩
section
variable{g:G}{a:Act}{fr:fU}{sk:jA}
theorem EB.get(h:EB g a fr sk){t:Tmp}(ht:sk≠some t):Rd g (a.tmps.getD t undef) (qR fr t):=by
 rw[uR];by_cases hlt:t<fr.length
 .have hlt':t<a.tmps.size:=by rw[h.1];exact hlt
  have:=h.2 t (a.tmps[t]'hlt') (fr[t]'hlt) ht (by simp[hlt']) (by simp[hlt]);simpa [hlt,hlt']using this
 .have hlt':¬t<a.tmps.size:=by rw[h.1];exact hlt
  have e1:a.tmps.getD t undef=undef:=by simp[dI (cJ hlt')]
  have e2:fr.getD t pV=pV:=by simp[bU (cJ hlt)]
  rw[e1,e2];exact Rd.undef
theorem EB.eval{gl:fY}(h:EB g a fr sk)(hgl:GlOk gl g){x:jF}(hx:∀t,x= .tmp t->sk≠some t){r:T}(hr:qG gl fr x=some r):Rd g (a.eval x) r:=by
 cases x with
 |tmp t=>simp only[qG,aC]at hr;subst hr;exact h.get (hx t rfl)|const v=>exact FC g hr|global k=>exact(hgl k r hr).1|func f=>simp only[qG,aC]at hr;subst hr;exact Rd.mk_fn RdL.nil RdL.nil
theorem EB.put(h:EB g a fr sk){dst:jA}{v:gQ}{t:T}(hv:Rd g v t):EB g (a.put dst v) (qU fr dst t) sk:=by
 cases dst with
 |none=>exact h
 |some d=>
  refine⟨by simp[Act.put,qU,h.1],λj u c hj hu hc=> ?_⟩;simp only[Act.put,qU]at hu hc;rw[Array.getElem?_setIfInBounds]at hu;rw[eC]at hc;by_cases hd:d=j
  .rw[if_pos hd]at hu hc;split at hu
   .split at hc
    .cases hu;cases hc;exact hv
    .cases hc
   .cases hu
  .rw[if_neg hd]at hu hc;exact h.2 j u c hj hu hc
theorem EB.step{g':G}(h:EB g a fr sk)(hk:∀v t,Rd g v t->Rd g' v t):EB g' a fr sk:=⟨h.1,λj v c hj hv hc=>hk _ _ (h.2 j v c hj hv hc)⟩
theorem Xa{ops:fZ}(h:EB g a fr sk)(j:Nat)(hj:∀d,(ops[j]?).bind (·.dst)=some d->sk≠some d):yielded ops a.tmps j=BJ ops fr j:=by
 unfold yielded BJ;cases hd:(ops[j]?).bind (·.dst)with
 |none=>rfl
 |some d=>
  simp only[eL];have hne:=hj d hd;by_cases hlt:d<fr.length
  .have hlt':d<a.tmps.size:=by rw[h.1];exact hlt
   have hv:a.tmps[d]? =some a.tmps[d]:=by simp[hlt']
   have hc:fr[d]? =some fr[d]:=by simp[hlt]
   have:=h.2 d _ _ hne hv hc;rw[hv,hc];generalize a.tmps[d]=u at this;generalize fr[d]=c at this;cases this<;>rfl
  .have hlt':¬d<a.tmps.size:=by rw[h.1];exact hlt
   rw[dI (cJ hlt'),bU (cJ hlt)]
theorem zJ{ops:fZ}{o:Oper}{t:Tmp}(h:(Operand.tmp t)∈o.op.operands):t∈o.looksAt ops:=by
 unfold Oper.looksAt;refine bH.2 (.inl ?_);exact List.mem_filterMap.2 ⟨.tmp t,by simpa using h,rfl⟩
theorem wM{ops:fZ}{o:Oper}{j:Nat}{w:Bool}(hg:o.guard=some (j,w)){d:Tmp}(hd:(ops[j]?).bind (·.dst)=some d):d∈o.looksAt ops:=by
 unfold Oper.looksAt;refine bH.2 (.inr ?_);rw[hg];simp[hd]
theorem SQ{ops:fZ}(h:EB g a fr sk){o:Oper}(hl:∀d∈o.looksAt ops,sk≠some d):Region.wanted o (yielded ops a.tmps)=qH ops fr o:=by
 unfold Region.wanted qH;cases hg:o.guard with
 |none=>rfl
 |some p=>
  obtain⟨j,w⟩:=p;simp only;rw[Xa h j (λd hd=>hl d (wM hg hd))]
end
def VQ(P:fV)(g0 g:G)(H:Hp)(a:Act)(d:Tmp)(t:fS):Prop:=
 ∃(b:Nat) (cs:gX),a.tmps[d]? =some (.pointer (some ⟨b,0,none⟩))/\g0.w.heap.size<=b/\¬g.S b/\(∀l o,H.any l=some o->g.loc l≠b)/\g.w.heap[b]? =some (.cells cs t (0,0))/\vZ P t=some cs.size
structure Inv(P:fV)(E:tY)(g0:G)(H0:Hp)(g:G)(a:Act)(s:Fx):Prop where
 ok:rZ g
 st:St g s.H
 gl:GlOk E.gl g
 df:a.defers=[]
 fr:EB g a s.fr (s.pend.map (·.1))
 pd:∀d t,s.pend=some (d,t)->VQ P g0 g s.H a d t
 step:qF H0 g0 s.H g
theorem VQ.pstep{P:fV}{g0 g g':G}{H:Hp}{a:Act}{d:Tmp}{t:fS}(h:VQ P g0 g H a d t)(hp:PStep g g'):VQ P g0 g' H a d t:=by
 obtain⟨b,cs,h1,h2,h3,h4,h5,h6⟩:=h;have hlt:b<g.w.heap.size:=(aK.1 h5).1;exact⟨b,cs,h1,h2,λq=>(hp.fresh b q).elim h3 (λq=>by omega),λl o ho=>by rw[hp.loc];exact h4 l o ho,by rw[hp.block b hlt];exact h5,h6⟩
theorem VQ.sstep{P:fV}{g0 g g':G}{H H':Hp}{a:Act}{d:Tmp}{t:fS}(h:VQ P g0 g H a d t)(hp:qF H g H' g'):VQ P g0 g' H' a d t:=by
 obtain⟨b,cs,h1,h2,h3,h4,h5,h6⟩:=h;have hlt:b<g.w.heap.size:=(aK.1 h5).1;refine⟨b,cs,h1,h2,λq=> ?_,λl o ho e=> ?_,by rw[hp.block b hlt h4];exact h5,h6⟩
 .rcases hp.fresh b q with q|q|⟨l,o,q1,q2⟩
  .exact h3 q
  .omega
  .exact h4 l o q1 q2
 .rcases hp.live l o ho with⟨l0,o0,q1,q2⟩|q
  .exact h4 l0 o0 q1 (q2.trans e)
  .omega
theorem VQ.put{P:fV}{g0 g:G}{H:Hp}{a:Act}{d:Tmp}{t:fS}(h:VQ P g0 g H a d t){dst:jA}(hd:dst≠some d)(v:gQ):VQ P g0 g H (a.put dst v) d t:=by
 obtain⟨b,cs,h1,h2⟩:=h;refine⟨b,cs,?_,h2⟩;cases dst with
 |none=>exact h1
 |some e=>
  have:e≠d:=λq=>hd (by rw[q]);simp only[Act.put,bJ this];exact h1
theorem tJ(a:Act)(d:jA)(v:gQ):(a.put d v).defers=a.defers:=by cases d<;>rfl
section
variable{P:fV}{E:tY}{F:Fc}{g0 g:G}{H0:Hp}{a:Act}{s:Fx}
theorem Inv.pnext(h:Inv P E g0 H0 g a s){g':G}(hp:PStep g g')(hok:rZ g'){dst:jA}{v:gQ}{t:T}(hv:Rd g' v t)(hd:∀d,s.pend.map (·.1)=some d->dst≠some d):
  Inv P E g0 H0 g' (a.put dst v) {s with fr:=qU s.fr dst t}:=
 ⟨hok,h.st.pstep hp,h.gl.pstep hp,by rw[tJ];exact h.df,(h.fr.step λ_ _ q=>q.pstep hp).put hv,λd ty hpd=>((h.pd d ty hpd).pstep hp).put (hd d (by rw[hpd];rfl)) v,h.step.trans hp.toS⟩
theorem Inv.enext(h:Inv P E g0 H0 g a s){g':G}{H':Hp}(hp:qF s.H g H' g')(hok:rZ g')(hst:St g' H'){dst:jA}{v:gQ}{t:T}(hv:Rd g' v t)(hd:∀d,s.pend.map (·.1)=some d->dst≠some d):
  Inv P E g0 H0 g' (a.put dst v) {s with fr:=qU s.fr dst t,H:=H'}:=
 ⟨hok,hst,h.gl.sstep h.st hp,by rw[tJ];exact h.df,(h.fr.step λ_ _ q=>q.sstep h.st hp).put hv,λd ty hpd=>((h.pd d ty hpd).sstep hp).put (hd d (by rw[hpd];rfl)) v,h.step.trans hp⟩
theorem MP{ops:fZ}{o:Oper}{d:Tmp}(h:uW ops o d=false):d∉o.looksAt ops/\o.dst≠some d:=by
 simp only[uW,eM]at h;exact⟨by simpa using h.1,by simpa using h.2⟩
theorem Tn(h:Inv P E g0 H0 g a s)(hpn:s.pend=none){o:Oper}{t:fS}{d:Tmp}{n:Nat}{z:T}(ho:o.op= .alloc t)(hdst:o.dst=some d)(hn:vZ P t=some n)(hz:yA P t=some z)(hzl:z.cells.length=n)(hd:d<s.fr.length)
  {K:iP} {Q:gC} (hK:∀a' g',PStep g g'->Inv P E g0 H0 g' a' {s with fr:=s.fr.set d pV,pend:=some (d,t)}->K a' g'.w):o.wp P a g.w K Q:=by
 obtain⟨v,hv,hr⟩:=GV (g:=g) hz
 let g':G:={g with w:={g.w with heap:=g.w.heap.push (.cells v.cells t)}}
 have hp:PStep g g':=⟨rfl,rfl,rfl,by simp[g'],λb hb=>by simp only[g'];rw[fJ,if_neg (by omega)],λ_ q=>q,λ_ q=> .inl q,rfl,rfl,rfl⟩;have hok:rZ g':=λb hb=>by have:=h.ok b hb;simp only[g',Array.size_push];omega
 have hrun:(execOp a.eval o).run P g.w= .ok (.value (.pointer (some ⟨g.w.heap.size,0,none⟩))) g'.w:=by
  simp only[execOp,ho,Instr.alloc,aP,hv,aI,newVar,newRow,run_newObj,aX];rfl
 unfold Oper.wp;rw[hrun];show K (a.put o.dst (.pointer (some ⟨g.w.heap.size,0,none⟩))) g'.w;have hfr:EB g a s.fr none:=by have:=h.fr;rw[hpn]at this;exact this
 have hsz:a.tmps.size=s.fr.length:=hfr.1;refine hK _ g' hp ⟨hok,h.st.pstep hp,h.gl.pstep hp,by rw[tJ];exact h.df,?_,λd' t' hpd=> ?_,h.step.trans hp.toS⟩
 .refine⟨by simp[hdst,Act.put,hsz],λj u c hj hu hc=> ?_⟩;have hne:d≠j:=λq=>hj (by simp[q]);simp only[hdst,Act.put,bJ hne]at hu;simp only[dN hne]at hc;exact(hfr.2 j u c (by simp) hu hc).pstep hp
 .simp only[aC,aU]at hpd;obtain⟨rfl,rfl⟩:=hpd;have hc:=hr.cells;refine⟨g.w.heap.size,v.cells,?_,h.step.size,λq=> ?_,λl ob hl=> ?_,?_,?_⟩
  .simp only[hdst,Act.put];rw[dK,if_pos (by rw[hsz];exact hd)]
  .exact absurd (h.ok _ q) (by omega)
  .have:=h.st.lt hl;show g.loc l≠_;omega
  .simp only[g'];exact Array.getElem?_push_size
  .rw[hn,<-hzl,<-hc.1];simp
theorem Wv(h:Inv P E g0 H0 g a s){o:Oper}{t:fS}{d:Tmp}{x:jF}{y:T}{n:Nat}(hpn:s.pend=some (d,t))(ho:o.op= .store t (.tmp d) x)(hdst:o.dst=none)(hx:GJ x d=true)(hy:qG E.gl s.fr x=some y)(hn:vZ P t=some n)(hyl:y.cells.length=n)(h1:rM y.cells=true)
  {K:iP} {Q:gC} (hK:∀a' g',Inv P E g0 H0 g' a' {s with fr:=s.fr.set d (.ref y 0),pend:=none}->K a' g'.w):o.wp P a g.w K Q:=by
 obtain⟨b,cs,p1,p2,p3,p4,p5,p6⟩:=h.pd d t hpn;have hfr:EB g a s.fr (some d):=by have:=h.fr;rw[hpn]at this;exact this
 have hr:Rd g (a.eval x) y:=hfr.eval h.gl (λk e=>by subst e;simp only[GJ,bne_iff_ne]at hx;intro q;cases q;exact hx rfl) hy;have hc:=hr.cells;rw[hn]at p6;have hcs:cs.size=n:=by simpa using p6.symm
 have hvs:(a.eval x).cells.size=n:=by rw[<-hyl,<-hc.1];simp
 have hlt:b<g.w.heap.size:=(aK.1 p5).1;have hst:=run_storeCells_at (P:=P) b 0 t (a.eval x).cells.toList 0 cs g.w p5 (by simp;omega) (RV hc h1);have hall:(cs.toList.take (0+0)++(a.eval x).cells.toList++cs.toList.drop (0+0+(a.eval x).cells.toList.length)).toArray=(a.eval x).cells:=by
  have:cs.toList.drop (0+0+(a.eval x).cells.toList.length)=[]:=eN (by simp;omega);rw[this];simp
 rw[hall]at hst
 let g':G:={g with w:=g.w.setRow b (a.eval x).cells,S:=λk=>g.S k\/k=b}
 have hblk:∀k,k≠b->g'.w.heap[k]? =g.w.heap[k]? :=λk hk=>setRow_other _ _ _ _ hk;have hbb:g'.w.heap[b]? =some (.cells (a.eval x).cells t (0,0)):=setRow_heap _ _ _ _ _ _ p5;have hcell:∀k o v,g.S k->g.w.cell? ⟨k,o,none⟩=some v->g'.w.cell? ⟨k,o,none⟩=some v:=λk o v hk hv=>
  (World.cell?_of_block (w:=g.w) (a:=⟨k,o,none⟩) (hblk k (λe=>p3 (e▸hk)))).trans hv
 have keep:∀v t,Rd g v t->Rd g' v t:=by
  intro v t hv
  induction hv with
  |int k n=>exact .int k n|bool b=>exact .bool b|str s=>exact .str s|nilp=>exact .nilp|ptr l off hl=>exact .ptr (g:=g') l off hl|ref x off b o vs hS hlen hc _ ih=>exact .ref x off b o vs (.inl hS) hlen (λj v hv=>hcell _ _ _ hS (hc j v hv)) ih|nils=>exact .nils|slfn full f p=>exact .slfn full f p
  |sl full xs sz b o cap vs hS hsz q1 q2 q3 hlen hc _ ih=>
   refine .sl full xs sz b o cap vs (λhx=> .inl (hS hx)) hsz q1 q2 q3 hlen (λj v hv=> ?_) ih;have hx:xs≠[]:=by
    rintro rfl;simp at hlen;subst hlen;simp at hv
   exact hcell _ _ _ (hS hx) (hc j v hv)
  |slf full n f sz b o cap vs h1 h2 h3 h4 h5 h6 h7 h8=>exact Rd.slf_keep (g:=g) (g':=g') (λ_ q=>Or.inl q) hcell h1 h2 h3 h4 h5 h6 h7 h8|osl l sz i len b o cap hl q1 q2 q3 q4=>exact .osl (g:=g') l sz i len b o cap hl q1 q2 q3 q4|nilf=>exact .nilf|fn f first captured vs us q1 _ q2 _ ih1 ih2=>exact .fn f first captured vs us q1 ih1 q2 ih2
  |nili=>exact .nili|iface t v x _ ih=>exact .iface t v x ih|nilm=>exact .nilm|mp l hl=>exact .mp (g:=g') l hl|yl l hl=>exact .yl (g:=g') l hl|agg cs vs q1 _ ih=>exact .agg cs vs q1 ih|tup cs vs q1 _ ih=>exact .tup cs vs q1 ih
 have hpd:a.eval (.tmp d)= .pointer (some ⟨b,0,none⟩):=by simp[Act.eval,p1]
 obtain⟨i,hi,hin⟩:∃i,P.info? t=some i/\i.size=n:=by simpa [vZ]using hn
 have hrun:(execOp a.eval o).run P g.w= .ok .skip g'.w:=by
  simp[execOp,ho,Instr.storeAt,hpd,Instr.sureAddr,storeVar,sizeOf,typeInfo,hi,hin,hvs,hst,g']
 unfold Oper.wp;rw[hrun];show K (a.put o.dst undef) g'.w;rw[hdst];show K a g'.w;refine hK a g' ⟨λk hk=> ?_,⟨λl ob hl=> ?_,λl ob kc hl hme=> ?_,λl l' q q' e1 e2 e3=>h.st.sep l l' q q' e1 e2 e3,λl hl=>h.st.new l hl⟩,λk r hk=>⟨keep _ _ (h.gl k r hk).1,.inl (h.gl k r hk).2.1,by rw[hblk k (λe=>p3 (e▸(h.gl k r hk).2.1))];exact(h.gl k r hk).2.2⟩,h.df,?_,λd' t' q=>by simp at q,?_⟩
 .have:g'.w.heap.size=g.w.heap.size:=by simp[g',World.setRow]
  rw[this];rcases hk with hk|hk
  .exact h.ok k hk
  .omega
 .obtain⟨ha,hS,c0,hb,q1,q2,q3,q4⟩:=h.st.own l ob hl;refine⟨ha,λq=>q.elim hS (p4 l ob (qP hl).1),c0,?_,q1,q2,q3,⟨q4.1,λj v c hv hc=>keep _ _ (q4.2 j v c hv hc)⟩⟩;rw[hblk _ (p4 l ob (qP hl).1)];exact hb
 .obtain⟨ha,hS,ms,hb,q1⟩:=h.st.ownM l ob kc hl hme;refine⟨ha,λq=>q.elim hS (p4 l ob hl),ms,?_,q1.mono keep (λl hl=>⟨hl,rfl⟩)⟩;rw[hblk _ (p4 l ob hl)];exact hb
 .refine⟨by simp[hfr.1],λj v c _ hv hcc=> ?_⟩;rw[eC]at hcc;by_cases hj:d=j
  .rw[if_pos hj]at hcc;split at hcc
   .cases hcc;subst hj;rw[p1]at hv;cases hv;have hc':=(keep _ _ hr).cells;exact .ref y 0 b 0 (a.eval x).cells.toList (.inr rfl) hc'.1 (λk u hu=>by simp[World.cell?,hbb]at hu⊢;exact hu) hc'.2
   .cases hcc
  .rw[if_neg hj]at hcc;exact keep _ _ (hfr.2 j v c (by simpa using hj) hv hcc)
 .have hs:=h.step;refine⟨hs.os,hs.tape,hs.output,by simp[g',World.setRow];exact hs.size,λk hk hno=> ?_,λk hk=> .inl (hs.sub k hk),λk hk=> ?_,hs.al,hs.loc,hs.cp,hs.live⟩
  .rw[hblk k (by omega)];exact hs.block k hk hno
  .rcases hk with hk|hk
   .exact hs.fresh k hk
   .exact .inr (.inl (by omega))
theorem aEt(h:Inv P E g0 H0 g a s){o:Oper}{t:fS}{d:Tmp}{x:jF}{y:T}{n:Nat}(hpn:s.pend=some (d,t))(ho:o.op= .store t (.tmp d) x)(hdst:o.dst=none)(hx:GJ x d=true)(hy:qG E.gl s.fr x=some y)(hn:vZ P t=some n)(hyl:y.cells.length=n)(h1:rM y.cells=true)
  {K:iP} {Q:gC} (hK:∀a' g',Inv P E g0 H0 g' a' {fr:=s.fr.set d (.ptr s.H.next 0),H:=s.H.new {elem:=t,sz:=0,cells:=y.cells},pend:=none}->K a' g'.w):o.wp P a g.w K Q:=by
 obtain⟨b,cs,p1,p2,p3,p4,p5,p6⟩:=h.pd d t hpn;have hfr:EB g a s.fr (some d):=by have:=h.fr;rw[hpn]at this;exact this
 have hr:Rd g (a.eval x) y:=hfr.eval h.gl (λk e=>by subst e;simp only[GJ,bne_iff_ne]at hx;intro q;cases q;exact hx rfl) hy;have hc:=hr.cells;rw[hn]at p6;have hcs:cs.size=n:=by simpa using p6.symm
 have hvs:(a.eval x).cells.size=n:=by rw[<-hyl,<-hc.1];simp
 have hlt:b<g.w.heap.size:=(aK.1 p5).1;have hst:=run_storeCells_at (P:=P) b 0 t (a.eval x).cells.toList 0 cs g.w p5 (by simp;omega) (RV hc h1);have hall:(cs.toList.take (0+0)++(a.eval x).cells.toList++cs.toList.drop (0+0+(a.eval x).cells.toList.length)).toArray=(a.eval x).cells:=by
  have:cs.toList.drop (0+0+(a.eval x).cells.toList.length)=[]:=eN (by simp;omega);rw[this];simp
 rw[hall]at hst
 let g':G:={w:=g.w.setRow b (a.eval x).cells,S:=g.S,al:=λl=>g.al l\/l=s.H.next,loc:=λl=>if l=s.H.next then b else g.loc l,cp:=g.cp}
 have hnl:∀l,g.al l->l≠s.H.next:=λl hl e=>h.st.new l (by omega) hl;have hloc:∀l,g.al l->g'.loc l=g.loc l:=λl hl=>if_neg (hnl l hl);have hblk:∀k,k≠b->g'.w.heap[k]? =g.w.heap[k]? :=λk hk=>setRow_other _ _ _ _ hk;have hbb:g'.w.heap[b]? =some (.cells (a.eval x).cells t (0,0)):=setRow_heap _ _ _ _ _ _ p5;have hcell:∀k o v,g.S k->g.w.cell? ⟨k,o,none⟩=some v->g'.w.cell? ⟨k,o,none⟩=some v:=λk o v hk hv=>
  (World.cell?_of_block (w:=g.w) (a:=⟨k,o,none⟩) (hblk k (λe=>p3 (e▸hk)))).trans hv
 have keep:∀v t,Rd g v t->Rd g' v t:=by
  intro v t hv
  induction hv with
  |int k n=>exact .int k n|bool b=>exact .bool b|str s=>exact .str s|nilp=>exact .nilp|ptr l off hl=>rw[<-hloc l hl];exact .ptr (g:=g') l off (.inl hl)|ref x off b o vs hS hlen hc _ ih=>exact .ref x off b o vs hS hlen (λj v hv=>hcell _ _ _ hS (hc j v hv)) ih|nils=>exact .nils|slfn full f p=>exact .slfn full f p
  |sl full xs sz b o cap vs hS hsz q1 q2 q3 hlen hc _ ih=>
   refine .sl full xs sz b o cap vs hS hsz q1 q2 q3 hlen (λj v hv=> ?_) ih;have hx:xs≠[]:=by
    rintro rfl;simp at hlen;subst hlen;simp at hv
   exact hcell _ _ _ (hS hx) (hc j v hv)
  |slf full n f sz b o cap vs h1 h2 h3 h4 h5 h6 h7 h8=>exact Rd.slf_keep (g:=g) (g':=g') (λ_ q=>q) hcell h1 h2 h3 h4 h5 h6 h7 h8|osl l sz i len b o cap hl q1 q2 q3 q4=>exact .osl (g:=g') l sz i len b o cap (.inl hl) q1 q2 (λq=>by rw[hloc l hl];exact q3 q) q4|nilf=>exact .nilf|fn f first captured vs us q1 _ q2 _ ih1 ih2=>exact .fn f first captured vs us q1 ih1 q2 ih2
  |nili=>exact .nili|iface t v x _ ih=>exact .iface t v x ih|nilm=>exact .nilm|mp l hl=>rw[<-hloc l hl];exact .mp (g:=g') l (.inl hl)|yl l hl=>rw[<-hloc l hl];exact .yl (g:=g') l (.inl hl)|agg cs vs q1 _ ih=>exact .agg cs vs q1 ih|tup cs vs q1 _ ih=>exact .tup cs vs q1 ih
 have hpd:a.eval (.tmp d)= .pointer (some ⟨b,0,none⟩):=by simp[Act.eval,p1]
 obtain⟨i,hi,hin⟩:∃i,P.info? t=some i/\i.size=n:=by simpa [vZ]using hn
 have hrun:(execOp a.eval o).run P g.w= .ok .skip g'.w:=by
  simp[execOp,ho,Instr.storeAt,hpd,Instr.sureAddr,storeVar,sizeOf,typeInfo,hi,hin,hvs,hst,g']
 unfold Oper.wp;rw[hrun];show K (a.put o.dst undef) g'.w;rw[hdst];show K a g'.w;have hsz:g'.w.heap.size=g.w.heap.size:=by simp[g',World.setRow]
 have hget:∀l ob,(s.H.new {elem:=t,sz:=0,cells:=y.cells}).any l=some ob->(l=s.H.next/\ob={elem:=t,sz:=0,cells:=y.cells})\/(l≠s.H.next/\s.H.any l=some ob):=by
  intro l ob hl;rw[sB]at hl;split at hl
  .rename_i e;cases hl;exact .inl ⟨e.symm,rfl⟩
  .rename_i e;exact .inr ⟨λq=>e q.symm,hl⟩
 have hln:g'.loc s.H.next=b:=if_pos rfl;refine hK a g' ⟨λk hk=>by rw[hsz];exact h.ok k hk,⟨λl ob hl=> ?_,λl ob kc hl hme=> ?_,λl l' q q' e1 e2 e3=> ?_,λl hl=> ?_⟩,λk r hk=>⟨keep _ _ (h.gl k r hk).1,(h.gl k r hk).2.1,by rw[hblk k (λe=>p3 (e▸(h.gl k r hk).2.1))];exact(h.gl k r hk).2.2⟩,h.df,?_,λd' t' q=>by simp at q,?_⟩
 .rcases hget l ob (qP hl).1 with⟨rfl,rfl⟩|⟨hne,hl'⟩
  .have hc':RdL g' (a.eval x).cells.toList y.cells:=⟨hc.1,λj v c hv hcc=>keep _ _ (hc.2 j v c hv hcc)⟩;refine⟨.inr rfl,by rw[hln];exact p3,(a.eval x).cells,by rw[hln];exact hbb,?_,λ_ => ?_,λq=>absurd rfl q,?_⟩
   .show y.cells.length<=_;omega
   .show _ =y.cells.length;omega
   .have:(a.eval x).cells.toList.take y.cells.length=(a.eval x).cells.toList:=dU (by simp;omega);show RdL g' ((a.eval x).cells.toList.take y.cells.length) y.cells;rw[this];exact hc'
  .obtain⟨ha,hS,c0,hb,q1,q2,q3,q4⟩:=h.st.own l ob (yC hl' (qP hl).2);have e:=hloc l ha;refine⟨.inl ha,by rw[e];exact hS,c0,?_,q1,q2,q3,⟨q4.1,λj v c hv hc=>keep _ _ (q4.2 j v c hv hc)⟩⟩;rw[e,hblk _ (p4 l ob hl')];exact hb
 .rcases hget l ob hl with⟨rfl,rfl⟩|⟨hne,hl'⟩
  .cases hme
  .obtain⟨ha,hS,ms,hb,q1⟩:=h.st.ownM l ob kc hl' hme;have e:=hloc l ha;refine⟨.inl ha,by rw[e];exact hS,ms,?_,q1.mono keep (λl hl=>⟨.inl hl,hloc l hl⟩)⟩;rw[e,hblk _ (p4 l ob hl')];exact hb
 .rcases hget l q e1 with⟨rfl,rfl⟩|⟨hne,e1'⟩
  .rcases hget l' q' e2 with⟨rfl,rfl⟩|⟨hne',e2'⟩
   .rfl
   .rw[hln,hloc l' (h.st.at_ e2').1]at e3;exact absurd e3.symm (p4 l' q' e2')
  .rcases hget l' q' e2 with⟨rfl,rfl⟩|⟨hne',e2'⟩
   .rw[hln,hloc l (h.st.at_ e1').1]at e3;exact absurd e3 (p4 l q e1')
   .rw[hloc l (h.st.at_ e1').1,hloc l' (h.st.at_ e2').1]at e3;exact h.st.sep l l' q q' e1' e2' e3
 .rintro(ha|ha)
  .exact h.st.new l (by simp only[Hp.new]at hl;omega) ha
  .simp only[Hp.new]at hl;omega
 .refine⟨by simp[hfr.1],λj v c _ hv hcc=> ?_⟩;rw[eC]at hcc;by_cases hj:d=j
  .rw[if_pos hj]at hcc;split at hcc
   .cases hcc;subst hj;rw[p1]at hv;cases hv;rw[<-hln];exact .ptr (g:=g') s.H.next 0 (.inr rfl)
   .cases hcc
  .rw[if_neg hj]at hcc;exact keep _ _ (hfr.2 j v c (by simpa using hj) hv hcc)
 .have hs:=h.step;refine⟨hs.os,hs.tape,hs.output,by rw[hsz];exact hs.size,λk hk hno=> ?_,hs.sub,hs.fresh,λl hl=> .inl (hs.al l hl),λl hl=>by rw[hloc l (hs.al l hl)];exact hs.loc l hl,hs.cp,λl ob hl=> ?_⟩
  .rw[hblk k (by omega)];exact hs.block k hk hno
  .rcases hget l ob hl with⟨rfl,rfl⟩|⟨hne,hl'⟩
   .exact .inr (by rw[hln];omega)
   .rw[hloc l (h.st.at_ hl').1];exact hs.live l ob hl'
theorem ND{o:Oper}{d:Tmp}{t:fS}(h:tQ F o=some (d,t)):o.op= .alloc t/\o.dst=some d:=by
 unfold tQ at h;split at h
 .rename_i t' ho;split at h
  .rename_i d' hd;split at h
   .cases h
   .cases h;exact⟨ho,hd⟩
  .cases h
 .cases h
theorem PK(hE:vP P E.gl E.pe)(hF:tX P E.gl F.ee){ops:fZ}{o:Oper}{s':Fx}(h:Inv P E g0 H0 g a s)(he:sE P E F ops s o=some s'){i:Nat}(hi:ops[i]? =some o)
  {K:iP} {Q:gC} (hK:∀a' g',Inv P E g0 H0 g' a' s'->K a' g'.w):wpOp P ops Q i K a g.w:=by
 unfold wpOp;rw[hi];simp only;have plain:(∀d,s.pend.map (·.1)=some d->d∉o.looksAt ops/\o.dst≠some d)->tU P E F ops s o=some s'->
   (if Region.wanted o (yielded ops a.tmps)=true then o.wp P a g.w K Q\/o.asks P a g.w/\LetsOut Q else K (a.put o.dst undef) g.w):=by
  intro hnt hp;unfold tU at hp;have hsk:∀d∈o.looksAt ops,s.pend.map (·.1)≠some d:=λd hd q=>(hnt d q).1 hd;rw[SQ h.fr hsk];have hop:∀x∈o.op.operands,∀t,qG E.gl s.fr x=some t->Rd g (a.eval x) t:=λx hx t ht=>
   h.fr.eval h.gl (λk e=>by subst e;exact hsk k (zJ hx)) ht
  have hdst:∀d,s.pend.map (·.1)=some d->o.dst≠some d:=λd q=>(hnt d q).2;by_cases hw:qH ops s.fr o=true
  .rw[if_pos hw]at hp⊢;left;split at hp
   .rename_i v hv;cases hp;exact HT hE h.gl h.st h.ok hv hop K Q (λu g' hst hok hr=>hK _ g' (h.pnext hst hok hr hdst))
   .have eff:xF P E F s.H s.fr o=none\/∃v H',xF P E F s.H s.fr o=some (v,H'):=by
     cases xF P E F s.H s.fr o with
     |none=>exact .inl rfl|some p=>exact .inr ⟨p.1,p.2,rfl⟩
    have run:(match xF P E F s.H s.fr o with
      |some (v,H')=>some {s with fr:=qU s.fr o.dst v,H:=H'}
      |none=>none)=some s'->o.wp P a g.w K Q:=by
     intro hh;rcases eff with e|⟨v,H',e⟩
     .rw[e]at hh;cases hh
     .rw[e]at hh;cases hh;exact Im hF h.gl h.st h.ok e hop K Q (λu g' hst hok hs' hr=>hK _ g' (h.enext hst hok hs' hr hdst))
    split at hp
    .rename_i d t hal;obtain⟨hop',hd'⟩:=ND hal;split at hp
     .cases hp
     .rename_i hpn;have hpn':s.pend=none:=by simpa using hpn
      split at hp
      .rename_i n z hn hz;split at hp
       .rename_i hc;cases hp;exact Tn h hpn' hop' hd' hn hz hc.1 hc.2 (λa' g' _ hi'=>hK a' g' hi')
       .cases hp
      .cases hp
    .exact run hp
  .rw[if_neg hw]at hp⊢;cases hp;exact hK _ g (h.pnext (PStep.refl g) h.ok Rd.undef hdst)
 unfold sE at he;split at he
 .rename_i hpn;exact plain (λd q=>by rw[hpn]at q;cases q) he
 .rename_i d t hpn;have free:uW ops o d=false->∀d',s.pend.map (·.1)=some d'->d'∉o.looksAt ops/\o.dst≠some d':=λq d' e=>by
   rw[hpn]at e;cases e;exact MP q
  split at he
  .rename_i t' d' x ho hd hgd;split at he
   .rename_i e;subst e;split at he
    .rename_i hc;split at he
     .rename_i y n hy hn;split at he
      .rename_i hcc;cases he;obtain⟨rfl,hx⟩:=hc;have hw:Region.wanted o (yielded ops a.tmps)=true:=by simp[Region.wanted,hgd]
       rw[if_pos hw];unfold TS at hK;by_cases hown:F.own (d'+1000)=true
       .simp only[hown,if_true]at hK;exact .inl (aEt h hpn ho hd hx hy hn hcc.1 hcc.2 (λa' g' hi'=>hK a' g' hi'))
       .simp only[hown]at hK;exact .inl (Wv h hpn ho hd hx hy hn hcc.1 hcc.2 (λa' g' hi'=>hK a' g' hi'))
      .cases he
     .cases he
    .cases he
   .split at he
    .cases he
    .rename_i ht;exact plain (free (by simpa using ht)) he
  .split at he
   .cases he
   .rename_i ht;exact plain (free (by simpa using ht)) he
abbrev gW:=List Oper
theorem ZX(hE:vP P E.gl E.pe)(hF:tX P E.gl F.ee){ops:fZ}{Q:gC}:∀(l:gW) (k:Nat) (s s':Fx) (a:Act) (g:G),(∀j,l[j]? =ops[k+j]?)->Inv P E g0 H0 g a s->qL P E F ops l s=some s'->
  (∀a' g',Inv P E g0 H0 g' a' s'->Q .normal a' g'.w)->wpOps P ops Q (List.range' k l.length) a g.w
 |[],k,s,s',a,g,_,h,he,hQ=>by
  simp only[qL,aC]at he;subst he;exact hQ a g h
 |o::l,k,s,s',a,g,hl,h,he,hQ=>by
  simp only[qL]at he;split at he
  .rename_i s1 hs1;have h0:ops[k]? =some o:=by simpa using(hl 0).symm
   rw[bL,eU,wpOps_cons];refine PK hE hF h hs1 h0 (λa' g' h'=> ?_);exact ZX hE hF l (k+1) s1 s' a' g' (λj=>by have:=hl (j+1);simpa [dW,Nat.add_comm 1 j]using this) h' he hQ
  .cases he
end
end Go.Ps
