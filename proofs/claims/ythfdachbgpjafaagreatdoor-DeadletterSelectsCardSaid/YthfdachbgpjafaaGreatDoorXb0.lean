/- Lemmas for the card; no conditions. -/
import Derived.Still
import Derived.Laws.Sem
import Derived.Below
import Derived.Laws.Entries
import Derived.Laws.Rows
import Derived.Laws.BytesString
import Derived.Laws.StructEq
import Derived.Lib.ConvBytes
import Derived.Laws.CopyRow
import Derived.Laws.MakeOwn
import Derived.Laws.AppendOwn
import Derived.Deep.AppendSrc
set_option linter.unusedSimpArgs false
set_option linter.unusedVariables false
set_option linter.unusedSectionVars false
namespace Go
theorem aA:type_of% @Bool.and_eq_true:=@Bool.and_eq_true
theorem aB:type_of% @Nat.eq_of_beq_eq_true:=@Nat.eq_of_beq_eq_true
theorem aC:type_of% @List.getElem?_eq_getElem:=@List.getElem?_eq_getElem
theorem aD:type_of% @Option.some.injEq:=@Option.some.injEq
theorem aF:type_of% @Option.map_eq_some_iff:=@Option.map_eq_some_iff
theorem aG:type_of% @List.all_eq_true:=@List.all_eq_true
theorem aH:type_of% @Result.andThen_ok:=@Result.andThen_ok
theorem aI:type_of% @decide_eq_true_eq:=@decide_eq_true_eq
theorem aJ:type_of% @List.mem_cons_of_mem:=@List.mem_cons_of_mem
theorem aK:type_of% @List.getElem?_eq_some_iff:=@List.getElem?_eq_some_iff
theorem aL:type_of% @Array.getElem?_eq_some_iff:=@Array.getElem?_eq_some_iff
theorem aO:type_of% @Sem.run_bind:=@Sem.run_bind
theorem aP:type_of% @List.mem_singleton_self:=@List.mem_singleton_self
theorem aQ:type_of% @Prod.mk.injEq:=@Prod.mk.injEq
theorem aR:type_of% @List.mem_cons_self:=@List.mem_cons_self
theorem aU:type_of% @List.mem_cons:=@List.mem_cons
theorem aW:type_of% @Sem.run_pure:=@Sem.run_pure
theorem aX:type_of% @List.getD_eq_getElem?_getD:=@List.getD_eq_getElem?_getD
theorem aY:type_of% @List.getElem?_map:=@List.getElem?_map
theorem aZ:type_of% @Nat.le_refl:=@Nat.le_refl
theorem bA:type_of% @Bool.false_eq_true:=@Bool.false_eq_true
theorem bB:type_of% @List.mem_of_getElem?:=@List.mem_of_getElem?
theorem bC:type_of% @Bool.and_true:=@Bool.and_true
theorem bD:type_of% @List.getElem?_take:=@List.getElem?_take
theorem bF:type_of% @List.mem_singleton:=@List.mem_singleton
theorem bG:type_of% @Bool.or_eq_true:=@Bool.or_eq_true
theorem bH:type_of% @List.getElem?_eq_none:=@List.getElem?_eq_none
theorem bI:type_of% @List.flatMap_cons:=@List.flatMap_cons
theorem bJ:type_of% @Array.getElem?_setIfInBounds_ne:=@Array.getElem?_setIfInBounds_ne
theorem bK:type_of% @List.length_append:=@List.length_append
theorem bL:type_of% @List.length_cons:=@List.length_cons
theorem bM:type_of% @Bool.not_eq_true':=@Bool.not_eq_true'
theorem bN:type_of% @Nat.zero_add:=@Nat.zero_add
theorem bO:type_of% @List.getElem?_drop:=@List.getElem?_drop
theorem bP:type_of% @Nat.lt_of_lt_of_le:=@Nat.lt_of_lt_of_le
theorem bQ:type_of% @Option.some.inj:=@Option.some.inj
theorem bR:type_of% @List.eq_nil_of_length_eq_zero:=@List.eq_nil_of_length_eq_zero
theorem bT:type_of% @Nat.le_of_not_lt:=@Nat.le_of_not_lt
theorem bU:type_of% @List.mem_map:=@List.mem_map
theorem bV:type_of% @List.getElem_mem:=@List.getElem_mem
theorem bW:type_of% @Option.map_some:=@Option.map_some
theorem bX:type_of% @List.getElem_of_mem:=@List.getElem_of_mem
theorem bZ:type_of% @List.mem_append:=@List.mem_append
theorem cA:type_of% @List.getElem?_cons_zero:=@List.getElem?_cons_zero
theorem cB:type_of% @List.not_mem_nil:=@List.not_mem_nil
theorem cG:type_of% @List.map_cons:=@List.map_cons
theorem cH:type_of% @List.forall_mem_append:=@List.forall_mem_append
theorem cI:type_of% @Nat.mul_le_mul_right:=@Nat.mul_le_mul_right
theorem cJ:type_of% @Nat.succ_mul:=@Nat.succ_mul
theorem cK:type_of% @List.length_drop:=@List.length_drop
theorem cO:type_of% @Classical.choose_spec:=@Classical.choose_spec
theorem cQ:type_of% @Array.length_toList:=@Array.length_toList
theorem cT:type_of% @Array.getElem?_eq_none:=@Array.getElem?_eq_none
theorem cU:type_of% @Array.getElem?_setIfInBounds_self:=@Array.getElem?_setIfInBounds_self
theorem cW:type_of% @Classical.byContradiction:=@Classical.byContradiction
theorem cX:type_of% @List.getElem?_set_ne:=@List.getElem?_set_ne
theorem cY:type_of% @List.length_eq_zero_iff:=@List.length_eq_zero_iff
theorem cZ:type_of% @List.getElem?_set:=@List.getElem?_set
theorem dA:type_of% @List.mapM_toArray:=@List.mapM_toArray
theorem dB:type_of% @List.append_assoc:=@List.append_assoc
theorem dC:type_of% @List.getElem?_append:=@List.getElem?_append
theorem dD:type_of% @List.getElem?_append_left:=@List.getElem?_append_left
theorem dE:type_of% @List.take_of_length_le:=@List.take_of_length_le
theorem dF:type_of% @decide_eq_true:=@decide_eq_true
theorem dG:type_of% @Nat.add_assoc:=@Nat.add_assoc
theorem dH:type_of% @List.length_take:=@List.length_take
theorem dI:type_of% @List.mem_map_of_mem:=@List.mem_map_of_mem
theorem dJ:type_of% @List.getElem?_range:=@List.getElem?_range
theorem dK:type_of% @List.getElem?_cons_succ:=@List.getElem?_cons_succ
theorem dL:type_of% @List.getElem?_append_right:=@List.getElem?_append_right
theorem dM:type_of% @List.length_map:=@List.length_map
theorem dN:type_of% @Option.bind_some:=@Option.bind_some
theorem dP:type_of% @ByteArray.size_data:=@ByteArray.size_data
theorem dQ:type_of% @List.flatMap_append:=@List.flatMap_append
theorem dR:type_of% @of_decide_eq_true:=@of_decide_eq_true
theorem dS:type_of% @List.nodup_cons:=@List.nodup_cons
theorem dT:type_of% @Nat.eq_or_lt_of_le:=@Nat.eq_or_lt_of_le
theorem dU:type_of% @List.drop_of_length_le:=@List.drop_of_length_le
theorem dV:type_of% @Nat.lt_or_ge:=@Nat.lt_or_ge
theorem dW:type_of% @List.cons.injEq:=@List.cons.injEq
theorem dX:type_of% @List.drop_eq_getElem_cons:=@List.drop_eq_getElem_cons
theorem dY:type_of% @List.mem_of_mem_take:=@List.mem_of_mem_take
theorem eB:type_of% @List.ext_getElem?:=@List.ext_getElem?
theorem eC:type_of% @List.length_range:=@List.length_range
theorem eD:type_of% @Bool.eq_iff_iff:=@Bool.eq_iff_iff
theorem eE:type_of% @decide_eq_false:=@decide_eq_false
theorem eF:type_of% @Nat.le_trans:=@Nat.le_trans
theorem eG:type_of% @List.length_eq_one_iff:=@List.length_eq_one_iff
theorem eH:type_of% @Sem.run_map:=@Sem.run_map
theorem eJ:type_of% @List.range'_succ:=@List.range'_succ
theorem eK:type_of% @List.any_eq_true:=@List.any_eq_true
theorem eL:type_of% @Array.getElem?_toList:=@Array.getElem?_toList
theorem eM:type_of% @List.mem_of_mem_drop:=@List.mem_of_mem_drop
theorem eN:type_of% @Bool.or_eq_false_iff:=@Bool.or_eq_false_iff
theorem eO:type_of% @Array.getElem?_push:=@Array.getElem?_push
theorem eP:type_of% @List.drop_zero:=@List.drop_zero
theorem eQ:type_of% @List.flatMap_map:=@List.flatMap_map
theorem eR:type_of% @Option.getD_some:=@Option.getD_some
theorem eS:type_of% @Nat.add_mul:=@Nat.add_mul
theorem eT:type_of% @Int.zero_add:=@Int.zero_add
theorem eU:type_of% @List.map_append:=@List.map_append
theorem eV:type_of% @List.range_succ:=@List.range_succ
end Go
namespace Go.Ps
noncomputable section
abbrev gB:=IntKind
abbrev eX:=TypeId
abbrev fV:=List UInt8
inductive T where
 |int (k:gB) (n:Int)
 |bool (b:Bool)
 |str (s:fV)
 |nilp
 |ptr (l off:Nat)
 |ref (x:T) (off:Nat)
 |nils
 |sl (full:Bool) (xs:List T)
 |slf (full:Bool) (n:Nat) (f:Nat->T)
 |osl (l sz i len:Nat)
 |nilf
 |fn (f:Fn) (first captured:List T)
 |nili
 |iface (t:eX) (x:T)
 |nilm
 |mp (l:Nat)
 |yl (l:Nat)
 |agg (cs:List T)
 |tup (xs:List T)
instance:Inhabited T:=⟨.nilp⟩
abbrev oL:T:= .tup []
def T.cells:T->List T
 | .agg cs=>cs|t=>[t]
def T.one:T->Bool
 | .agg _ | .tup _ =>false|_ =>true
def T.isAgg:T->Bool
 | .agg _ =>true|_ =>false
def WM:Value->Option T
 | .int k n=>some (.int k n)| .bool b=>some (.bool b)| .string s=>some (.str s.data.toList)| .pointer none=>some .nilp| .slice none 0 0=>some .nils| .nilFunc=>some .nilf| .nilIface=>some .nili| .map none=>some .nilm|_ =>none
def ET:List Value->Option (List T)
 |[]=>some []
 |v::vs=>match WM v with
  |some t=>match ET vs with
   |some ts=>some (t::ts)|none=>none
  |none=>none
def MN:Value->Option T
 | .agg cs=>match ET cs.toList with
  |some ts=>some (.agg ts)|none=>none
 | .tuple vs=>match vs.toList with
  |[]=>some (.tup [])|_ =>none
 |v=>WM v
inductive FT where
 |nl
 |nd (v:T) (l r:FT)
structure Lr where
 st:LoopState
 pe:Option Code
 fr:FT
 n:Nat
 ps:Array Tmp
 asg:Code
 bd:Code
 ow:Tmp->Bool
abbrev fQ:=List (Nat×T×T)
abbrev fN:=List Nat
inductive Mo where
 |map (c:Nat) (es:fQ)
 |loop (r:Lr)
 |mit (m since:Nat) (seen:fN) (last:Nat)
 |sit (s:fV) (pos:Nat)
structure Ob where
 elem:TypeId
 sz:Nat
 cells:List T
 me:Option Mo:=none
abbrev iW:=Option Ob
inductive Ht where
 |nl
 |nd (o:iW) (l r:Ht)
noncomputable def Ht.val(t:Ht):Option Ob:=Ht.rec (motive:=fun _ =>Option Ob) none (fun o _ _ _ _ =>o) t
noncomputable def Ht.lf(t:Ht):Ht:=Ht.rec (motive:=fun _ =>Ht) .nl (fun _ l _ _ _ =>l) t
noncomputable def Ht.rt(t:Ht):Ht:=Ht.rec (motive:=fun _ =>Ht) .nl (fun _ _ r _ _ =>r) t
noncomputable def aBy(k:Nat):Nat->List Bool:=Nat.rec (motive:=fun _ =>Nat->List Bool) (fun _ =>[]) (fun _ ih n=>Nat.rec (motive:=fun _ =>List Bool) [] (fun m _ =>Nat.rec (motive:=fun _ =>List Bool) (false::ih (Nat.div m 2)) (fun _ _ =>true::ih (Nat.div m 2)) (Nat.mod m 2)) n) k
noncomputable def toP(n:Nat):List Bool:=aBy (Nat.succ n) n
abbrev fL:=List Bool
noncomputable def Ht.gtp(p:fL):Ht->Option Ob:=List.rec (motive:=fun _ =>Ht->Option Ob) (fun t=>t.val) (fun b _ ih t=>Bool.rec (motive:=fun _ =>Option Ob) (ih t.lf) (ih t.rt) b) p
noncomputable def Ht.stp(v:iW)(p:fL):Ht->Ht:=List.rec (motive:=fun _ =>Ht->Ht) (fun t=> .nd v t.lf t.rt) (fun b _ ih t=>Bool.rec (motive:=fun _ =>Ht) (.nd t.val (ih t.lf) t.rt) (.nd t.val t.lf (ih t.rt)) b) p
noncomputable def FT.val(t:FT):T:=FT.rec (motive:=fun _ =>T) oL (fun v _ _ _ _ =>v) t
noncomputable def FT.lf(t:FT):FT:=FT.rec (motive:=fun _ =>FT) .nl (fun _ l _ _ _ =>l) t
noncomputable def FT.rt(t:FT):FT:=FT.rec (motive:=fun _ =>FT) .nl (fun _ _ r _ _ =>r) t
noncomputable def FT.gt(p:fL):FT->T:=List.rec (motive:=fun _ =>FT->T) (fun t=>t.val) (fun b _ ih t=>Bool.rec (motive:=fun _ =>T) (ih t.lf) (ih t.rt) b) p
noncomputable def FT.st(v:T)(p:fL):FT->FT:=List.rec (motive:=fun _ =>FT->FT) (fun t=> .nd v t.lf t.rt) (fun b _ ih t=>Bool.rec (motive:=fun _ =>FT) (.nd t.val (ih t.lf) t.rt) (.nd t.val t.lf (ih t.rt)) b) p
noncomputable def FT.view(t:FT)(n:Nat):List T:=(List.range n).map fun i=>FT.gt (toP i) t
def FT.Wf(n:Nat)(t:FT):Prop:=∀m,n<=m->FT.gt (toP m) t=oL
def ofP:List Bool->Nat
 |[]=>0|b::p=>2*ofP p+(if b then 2 else 1)
theorem aBz(k m:Nat):aBy (k+1) (m+1)=(!(m%2==0))::aBy k (m/2):=by
 show Nat.rec (motive:=fun _ =>List Bool) (false::aBy k (m/2)) (fun _ _ =>true::aBy k (m/2)) (m%2)=_;cases m%2<;>rfl
theorem WP:∀(k n:Nat),n<k->ofP (aBy k n)=n
 |0,_,h=>absurd h (Nat.not_lt_zero _)|k+1,0,_ =>rfl
 |k+1,m+1,h=>by
  rw[aBz,ofP,WP k (m/2) (by omega)];by_cases hm:m%2=0
  .simp[hm];omega
  .have:(m%2==0)=false:=by simpa using hm
   simp[this];omega
theorem Ye{m n:Nat}(h:toP m=toP n):m=n:=by
 have h1:=WP (m+1) m (by omega);have h2:=WP (n+1) n (by omega);rw[<-h1,<-h2];exact congrArg ofP h
theorem Ht.gtp_stp(v:iW):∀(p q:fL) (t:Ht),Ht.gtp q (Ht.stp v p t)=if q=p then v else Ht.gtp q t
 |[],[],t=>rfl
 |[],b::q,t=>by
  rw[if_neg (by simp)];show Ht.gtp (b::q) (.nd v t.lf t.rt)=_;cases b<;>rfl
 |b::p,[],t=>by
  rw[if_neg (by simp)];cases b<;>rfl
 |b::p,c::q,t=>by
  cases b<;>cases c
  .show Ht.gtp q (Ht.stp v p t.lf)=_;rw[Ht.gtp_stp v p q];by_cases e:q=p
   .rw[if_pos e,if_pos (by rw[e])]
   .rw[if_neg e,if_neg (by simpa using e)];rfl
  .rw[if_neg (by simp)];rfl
  .rw[if_neg (by simp)];rfl
  .show Ht.gtp q (Ht.stp v p t.rt)=_;rw[Ht.gtp_stp v p q];by_cases e:q=p
   .rw[if_pos e,if_pos (by rw[e])]
   .rw[if_neg e,if_neg (by simpa using e)];rfl
noncomputable def Ht.get(t:Ht)(n:Nat):Option Ob:=Ht.gtp (toP n) t
noncomputable def Ht.put(x:iW)(t:Ht)(n:Nat):Ht:=Ht.stp x (toP n) t
theorem Ht.get_put(x:iW)(t:Ht)(n m:Nat):(Ht.put x t n).get m=if m=n then x else t.get m:=by
 unfold Ht.put Ht.get;rw[Ht.gtp_stp];by_cases e:m=n
 .rw[if_pos (by rw[e]),if_pos e]
 .rw[if_neg (fun h=>e (Ye h)),if_neg e]
theorem Ht.get_nl(n:Nat):Ht.get .nl n=none:=by
 unfold Ht.get;have:∀p,Ht.gtp p .nl=none:=by
  intro p
  induction p with
  |nil=>rfl|cons b p ih=>cases b<;>exact ih
 exact this _
structure Hp where
 next:Nat
 objs:Ht
noncomputable def Hp.any(H:Hp)(l:Nat):Option Ob:=H.objs.get l
def Ob.plain(o:Ob):Option Ob:=match o.me with
 |none=>some o|some _ =>none
noncomputable def Hp.get(H:Hp)(l:Nat):Option Ob:=match H.any l with
 |some o=>o.plain|none=>none
noncomputable def Hp.put(H:Hp)(l:Nat)(o:Ob):Hp:={H with objs:=H.objs.put (some o) l}
noncomputable def Hp.drop(H:Hp)(l:Nat):Hp:={H with objs:=H.objs.put none l}
noncomputable def Hp.new(H:Hp)(o:Ob):Hp:={next:=H.next+1,objs:=H.objs.put (some o) H.next}
def Hp.empty:Hp:={next:=0,objs:= .nl}
theorem uH(H:Hp)(l:Nat)(o:Ob)(m:Nat):(H.put l o).any m=if m=l then some o else H.any m:=Ht.get_put (some o) H.objs l m
theorem sJ(H:Hp)(l m:Nat):(H.drop l).any m=if m=l then none else H.any m:=Ht.get_put none H.objs l m
theorem uG(H:Hp)(o:Ob)(l:Nat):(H.new o).any l=if H.next=l then some o else H.any l:=by
 refine(Ht.get_put (some o) H.objs H.next l).trans ?_;by_cases h:l=H.next
 .rw[if_pos h,if_pos h.symm]
 .rw[if_neg h,if_neg (fun e=>h e.symm)];rfl
theorem pJ{H:Hp}{l:Nat}{o:Ob}(h:H.get l=some o):H.any l=some o/\o.me=none:=by
 unfold Hp.get at h;split at h
 .rename_i o' ho;unfold Ob.plain at h;split at h
  .rename_i hm;cases h;exact⟨ho,hm⟩
  .cases h
 .cases h
theorem yQ{H:Hp}{l:Nat}{o:Ob}(h:H.any l=some o)(hm:o.me=none):H.get l=some o:=by simp[Hp.get,h,Ob.plain,hm]
theorem PG{H H':Hp}{l l':Nat}(h:H.any l=H'.any l'):H.get l=H'.get l':=by unfold Hp.get;rw[h]
theorem vN(H:Hp)(l:Nat):H.get l=(H.any l).bind Ob.plain:=by unfold Hp.get;cases H.any l<;>rfl
theorem Qy(H:Hp)(o:Ob)(l:Nat)(hm:o.me=none:=by rfl):(H.new o).get l=if H.next=l then some o else H.get l:=by
 rw[vN,uG,vN];split
 .simp[Ob.plain,hm]
 .rfl
theorem get_put(H:Hp)(l:Nat)(o:Ob)(m:Nat)(hm:o.me=none):(H.put l o).get m=if m=l then some o else H.get m:=by
 rw[vN,uH,vN];split
 .simp[Ob.plain,hm]
 .rfl
theorem aGc(H:Hp)(l m:Nat):(H.drop l).get m=if m=l then none else H.get m:=by
 rw[vN,sJ,vN];split<;>rfl
theorem sV(n l:Nat):Hp.any ⟨n,.nl⟩ l=none:=Ht.get_nl l
theorem get_nl(n l:Nat):Hp.get ⟨n,.nl⟩ l=none:=by unfold Hp.get;rw[sV]
abbrev fA:=Program
def FL(P:fA)(t:eX):Option Bool:=
 match P.underlying t with
 |some (.struct _)|some (.array _ _)=>some true|some _ =>some false|none=>none
def tT(P:fA)(t:eX):Option Nat:=(P.info? t).map (·.size)
def wN(P:fA)(t:eX):Option T:=
 match P.info? t with
 |some i=>match i.zero with
  |some v=>MN v|none=>none
 |none=>none
abbrev eY:=List T
noncomputable def qW(fr:eY):Tmp->T:=List.rec (motive:=fun _ =>Nat->T) (fun _ =>oL) (fun x _ ih n=>Nat.rec (motive:=fun _ =>T) x (fun m _ =>ih m) n) fr
noncomputable def Ta(v:T)(fr:eY):Nat->List T:=List.rec (motive:=fun _ =>Nat->List T) (fun _ =>[]) (fun x xs ih n=>Nat.rec (motive:=fun _ =>List T) (v::xs) (fun m _ =>x::ih m) n) fr
noncomputable def bCu(fr:eY):Nat->Option T:=List.rec (motive:=fun _ =>Nat->Option T) (fun _ =>none) (fun x _ ih n=>Nat.rec (motive:=fun _ =>Option T) (some x) (fun m _ =>ih m) n) fr
theorem sG:∀(fr:eY) (t:Tmp),qW fr t=fr.getD t oL
 |[],_ =>rfl|_ ::_,0=>rfl|_ ::xs,n+1=>(sG xs n).trans rfl
theorem IM(v:T):∀(fr:eY) (t:Nat),Ta v fr t=fr.set t v
 |[],_ =>rfl|_ ::_,0=>rfl|x::xs,n+1=>congrArg (x:: ·) (IM v xs n)
theorem Ww:∀(fr:eY) (t:Nat),bCu fr t=fr[t]?
 |[],_ =>rfl|_ ::_,0=>rfl|_ ::xs,n+1=>(Ww xs n).trans rfl
abbrev fD:=Nat->Option T
def pE(gl:fD)(fr:eY):Operand->Option T
 | .tmp t=>some (qW fr t)| .const v=>MN v| .global g=>gl g| .func f=>some (.fn (.func f) [] [])
def pW(gl:fD)(fr:eY):List Operand->Option (List T)
 |[]=>some []
 |x::xs=>match pE gl fr x with
  |some t=>match pW gl fr xs with
   |some ts=>some (t::ts)|none=>none
  |none=>none
def tR(H:Hp):T->Option (List T×Nat)
 | .ref x off=>some (x.cells,off)
 | .ptr l off=>match H.get l with
  |some o=>some (o.cells,off)|none=>none
 |_ =>none
def uB(P:fA)(t:eX)(cs:eY)(off:Nat):Option T:=
 match FL P t with
 |some true=>match tT P t with
  |some n=>if off+n<=cs.length then some (.agg ((cs.drop off).take n))else none
  |none=>none
 |some false=>cs[off]?|none=>none
def tX(P:fA)(H:Hp)(t:eX)(p:T):Option T:=
 match tR H p with
 |some (cs,off)=>uB P t cs off|none=>none
def Jc:T->Nat->Option T
 | .ref x off,n=>some (.ref x (off+n))| .ptr l off,n=>some (.ptr l (off+n))|_,_ =>none
abbrev iI:=BinOp
def uV(op:iI)(k:gB)(a b:Int):Option T:=
 match op with
 | .add=>some (.int k (k.wrap (a+b)))| .sub=>some (.int k (k.wrap (a-b)))| .mul=>some (.int k (k.wrap (a*b)))| .quo=>if b=0 then none else some (.int k (k.wrap (a.tdiv b)))
 | .rem=>if b=0 then none else some (.int k (a.tmod b))
 | .and=>some (.int k (k.wrap (BitVec.ofInt k.bits a&&&BitVec.ofInt k.bits b).toNat))| .or=>some (.int k (k.wrap (BitVec.ofInt k.bits a|||BitVec.ofInt k.bits b).toNat))| .xor=>some (.int k (k.wrap (BitVec.ofInt k.bits a^^^BitVec.ofInt k.bits b).toNat))| .andNot=>some (.int k (k.wrap (BitVec.ofInt k.bits a&&& ~~~BitVec.ofInt k.bits b).toNat))| .eql=>some (.bool (a==b))| .neq=>some (.bool (a !=b))| .lss=>some (.bool (decide (a<b)))| .leq=>some (.bool (decide (a<=b)))| .gtr=>some (.bool (decide (a>b)))| .geq=>some (.bool (decide (a>=b)))|_ =>none
def vU(op:iI)(k:gB)(a b:Int):Option T:=
 match op with
 | .shl=>if b<0 then none else some (.int k (k.wrap (a*2^(min b.toNat k.bits))))
 | .shr=>if b<0 then none else some (.int k (a.fdiv (2^(min b.toNat k.bits))))
 |_ =>none
def vP:Nat:=4611686018427387904
def BC(op:iI)(a b:fV):Option T:=
 match op with
 | .add=>if a.length+b.length<=vP then some (.str (a++b))else none
 | .eql=>some (.bool (a==b))| .neq=>some (.bool (!(a==b)))| .lss=>some (.bool (Op.bytesLess a b))| .leq=>some (.bool (Op.bytesLess a b||a==b))| .gtr=>some (.bool (!(Op.bytesLess a b||a==b)))| .geq=>some (.bool (!Op.bytesLess a b))|_ =>none
def NX(P:fA)(t:eX)(x y:T):Option Bool:=
 match P.underlying t,x,y with
 |some .bool,.bool a,.bool b=>some (a==b)|some (.slice _),.nils,.nils=>some true|some (.slice _),.nils,.sl .. =>some false|some (.slice _),.sl ..,.nils=>some false|some (.slice _),.nils,.osl .. =>some false|some (.slice _),.osl ..,.nils=>some false|some (.pointer _),.nilp,.nilp=>some true|some (.pointer _),.nilp,.ptr .. =>some false|some (.pointer _),.ptr ..,.nilp=>some false|some (.pointer _),.nilp,.ref .. =>some false|some (.pointer _),.ref ..,.nilp=>some false|some (.interface _),.nili,.nili=>some true|some (.interface _),.nili,.iface .. =>some false|some (.interface _),.iface ..,.nili=>some false|some (.func ..),.nilf,.nilf=>some true|some (.func ..),.nilf,.fn .. =>some false|some (.func ..),.fn ..,.nilf=>some false|some (.map ..),.nilm,.nilm=>some true|some (.map ..),.nilm,.mp .. =>some false|some (.map ..),.mp ..,.nilm=>some false|_,_,_ =>none
def eq1(P:fA)(t:eX)(x y:T):Option Bool:=
 match P.underlying t,x,y with
 |some (.int _),.int k a,.int k' b=>if k=k' then some (a==b)else none
 |some .string,.str a,.str b=>some (a==b)|some .bool,.bool a,.bool b=>some (a==b)|_,_,_ =>none
def aFh(P:fA)(xs ys:eY):List Field->Option Bool
 |[]=>some true
 |f::r=>match xs[f.offset]?,ys[f.offset]? with
  |some a,some b=>if f.name= "_" then none else match eq1 P f.type a b with
   |some true=>aFh P xs ys r|q=>q
  |_,_ =>none
def eqK(P:fA)(t:eX)(x y:T):Option Bool:=
 match x,y with
 | .agg xs,.agg ys=>match P.underlying t with
  |some (.struct fs)=>if P.stoodInHeld t then none else aFh P xs ys fs.toList
  |_ =>none
 |x,y=>eq1 P t x y
def EN(P:fA)(t:eX)(x:T):Bool:=
 match P.underlying t,x with
 |some (.int _),.int .. |some .string,.str _ |some .bool,.bool _ =>true|_,_ =>false
def Wd(P:fA)(xs:eY):List Field->Bool
 |[]=>true
 |f::r=>(match xs[f.offset]? with
  |some a=> !(f.name== "_")&&EN P f.type a
  |none=>false)&&Wd P xs r
def JB(P:fA)(t:eX)(x:T):Bool:=
 match x with
 | .agg xs=>match P.underlying t with
  |some (.struct fs)=> !(P.stoodInHeld t)&&Wd P xs fs.toList|_ =>false
 |x=>EN P t x
def CW(P:fA)(t:eX)(k:T):List (Nat×T×T)->Nat->Option (Option (Nat×Nat×T))
 |[],_ =>some none
 |(b,k',v)::r,i=>match eqK P t k k' with
  |some true=>some (some (i,b,v))|some false=>CW P t k r (i+1)|none=>none
def LT(H:Hp):T->Option (List (Nat×T×T))
 | .nilm=>some []
 | .mp l=>match H.any l with
  |some o=>match o.me with
   |some (.map _ es)=>some es|_ =>none
  |none=>none
 |_ =>none
def zY(P:fA)(H:Hp)(t:eX)(x k:T)(ok:Bool):Option T:=
 match P.underlying t with
 | some (.map kt et)=>if JB P kt k then match LT H x with
   |some es=>match CW P kt k es 0 with
    |some (some (_,_,v))=>some (if ok then .tup [v,.bool true]else v)
    |some none=>match wN P et with
     |some z=>some (if ok then .tup [z,.bool false]else z)
     |none=>none
    |none=>none
   |none=>none
  else none
 |_ =>none
def FU:Operand->Bool
 | .const _ =>true|_ =>false
def SJ:T->T->Bool
 | .nili,.nili=>true|_,_ =>false
abbrev gF:=Operand
def GU(X Y:gF)(a b:T):Bool:=FU X||(FU Y|| !SJ a b)
def eqS(P:fA)(t:eX)(x y:T):Option Bool:=
 match x,y with
 | .agg _,.agg _ =>if P.eqGuardType P.depth t then none else eqK P t x y
 |x,y=>NX P t x y
def xX(P:fA)(op:iI)(t:eX)(x y:T):Option T:=
 match op,x,y with
 | .shl,.int k a,.int _ b=>vU .shl k a b| .shr,.int k a,.int _ b=>vU .shr k a b|op,.int k a,.int k' b=>if k=k' then uV op k a b else none
 |op,.str a,.str b=>BC op a b| .eql,x,y=>(eqS P t x y).map .bool| .neq,x,y=>(eqS P t x y).map fun b=> .bool (!b)|_,_,_ =>none
def unT(op:UnOp)(x:T):Option T:=
 match op,x with
 | .neg,.int k n=>some (.int k (k.wrap (0-n)))| .not,.bool b=>some (.bool (!b))|_,_ =>none
def LM(P:fA)(src dst:eX)(x:T):Option T:=
 match P.underlying src,P.underlying dst,x with
 |some _,some (.int k),.int _ n=>some (.int k (k.wrap n))|some _,some .string,.str s=>some (.str s)
 |some (.slice e),some .string,.sl _ [.int .u8 n]=>match P.underlying e with
  |some (.int .u8)=>some (.str [UInt8.ofNat n.toNat])|_ =>none
 |_,_,_ =>none
def Ek(P:fA)(src dst:eX)(x:T):Option T:=
 match P.underlying src,P.underlying dst,x with
 |some _,some (.slice e),.str s=>match P.underlying e with
  |some (.int .u8)=>if s.length<=70368744177664 then some (.sl false (s.map fun b=> .int .u8 b.toNat))else none
  |_ =>none
 |_,_,_ =>none
def UN(P:fA)(src dst:eX)(x:T):Option T:=
 match LM P src dst x with
 |some r=>some r|none=>Ek P src dst x
def FY(P:fA)(s:eX)(f:Nat):Option Field:=
 match P.underlying s with
 |some (.struct fs)=>fs[f]?|_ =>none
def wU(P:fA)(s:eX)(x:T)(f:Nat):Option T:=
 match FY P s f with
 |some fd=>match tT P fd.type with
  |some n=>if n=0 then none else Jc x fd.offset
  |none=>none
 |none=>none
def qM(P:fA)(t:eX)(x i:T):Option T:=
 match i with
 | .int _ n=>
  match P.underlying t,x with
  | some (.slice e),.sl _ xs=>if 0<=n then match xs[n.toNat]? with
    |some y=>match tT P e with
     |some s=>if y.cells.length=s then some (.ref y 0)else none
     |none=>none
    |none=>none
   else none
  | some (.slice e),.slf _ len f=>if 0<=n/\n<len then match tT P e with
    |some s=>if(f n.toNat).cells.length=s then some (.ref (f n.toNat) 0)else none
    |none=>none
   else none
  | some (.slice e),.osl l sz j len=>if 0<=n/\n<len then match tT P e with
    |some s=>if sz=s then some (.ptr l ((j+n.toNat)*sz))else none
    |none=>none
   else none
  | some (.array len e),x=>if 0<=n/\n<len then match tT P e with
    |some s=>Jc x (n.toNat*s)|none=>none
   else none
  |_,_ =>none
 |_ =>none
def zM(P:fA)(t:eX)(x i:T):Option T:=
 match i with
 | .int _ n=>
  match P.underlying t,x with
  | some (.array len e),.agg cs=>if 0<=n/\n<len then match tT P e with
    |some s=>uB P e cs (n.toNat*s)|none=>none
   else none
  |some .string,.str s=>if 0<=n then(s[n.toNat]?).map fun b=> .int .u8 b.toNat else none
  |_,_ =>none
 |_ =>none
abbrev iB:=Option T
def uI(x:iB)(dflt top:Nat):Option Nat:=
 match x with
 |none=>some dflt|some (.int _ n)=>if 0<=n/\n<=top then some n.toNat else none
 |some _ =>none
def GL(s:Nat):List T->Bool
 |[]=>true|x::_ =>x.cells.length==s
def wY(P:fA)(t:eX)(x:T)(lo hi:iB):Option T:=
 match P.underlying t,x with
 |some .string,.str s=>
  match uI hi s.length s.length with
  |some h=>match uI lo 0 h with
   |some l=>some (.str ((s.take h).drop l))|none=>none
  |none=>none
 |some (.slice e),.sl full xs=>
  match uI hi xs.length xs.length with
  |some h=>match uI lo 0 h with
   |some l=>match tT P e with
    |some s=>if GL s xs then some (.sl (full&&h==xs.length) ((xs.take h).drop l))else none
    |none=>none
   |none=>none
  |none=>none
 |some (.slice e),.slf full n f=>
  match uI hi n n with
  |some h=>match uI lo 0 h with
   |some l=>match tT P e with
    |some s=>if l<h/\(f l).cells.length≠s then none else some (.slf (full&&h==n) (h-l) (fun i=>f (l+i)))
    |none=>none
   |none=>none
  |none=>none
 |some (.slice e),.nils=>
  match uI hi 0 0 with
  |some _ =>match uI lo 0 0 with
   |some _ =>if(tT P e).isSome then some .nils else none
   |none=>none
  |none=>none
 |some (.slice e),.osl l sz j len=>
  match uI hi len len with
  |some h=>match uI lo 0 h with
   |some k=>match tT P e with
    |some s=>if s=sz then some (.osl l sz (j+k) (h-k))else none
    |none=>none
   |none=>none
  |none=>none
 |_,_ =>none
def zX(P:fA)(t:eX)(x:T):Option T:=
 match P.underlying t,x with
 |some .string,.str s=>some (.int .i64 s.length)|some (.slice _),.sl _ xs=>some (.int .i64 xs.length)|some (.slice _),.nils=>some (.int .i64 0)|some (.slice _),.slf _ n _ =>some (.int .i64 n)|some (.slice _),.osl _ _ _ len=>some (.int .i64 len)|some (.array n _),_ =>some (.int .i64 n)|some (.map ..),.nilm=>some (.int .i64 0)|_,_ =>none
def WC(P:fA)(H:Hp)(t:eX)(x:T):Option T:=
 match x with
 | .mp l=>match P.underlying t with
  |some (.map ..)=>match LT H (.mp l)with
   |some es=>some (.int .i64 es.length)|none=>none
  |_ =>zX P t (.mp l)
 |x=>zX P t x
theorem aOj{P:fA}{H:Hp}{t:eX}{x r:T}(h:zX P t x=some r):WC P H t x=some r:=by
 unfold WC;split
 .split
  .rename_i hd;simp[zX,hd]at h
  .exact h
 .exact h
def aHq:T->T->Option T
 | .int k x,.int _ y=>some (.int k (if y<x then y else x))
 |_,_ =>none
def aHn:T->T->Option T
 | .int k x,.int _ y=>some (.int k (if x<y then y else x))
 |_,_ =>none
def FE(f:T->T->Option T):T->List T->Option T
 |x,[]=>some x
 |x,y::r=>match f x y with
  |some z=>FE f z r|none=>none
def qT(cs:eY)(off:Nat)(new:eY):List T:=cs.take off++new++cs.drop (off+new.length)
abbrev iL:=Nat->Option (Nat×Nat)
def JA(place:iL):List T->List (Nat×T)->Option (List T)
 |cs,[]=>some cs
 |cs,(i,v)::r=>
  match place i with
  |none=>none|some (off,size)=>if v.cells.length=size/\off+size<=cs.length then JA place (qT cs off v.cells) r else none
def IJ(P:fA):List Field->Option (List (Nat×Nat))
 |[]=>some []
 |f::r=>match tT P f.type with
  |some s=>match IJ P r with
   |some l=>some ((f.offset,s)::l)|none=>none
  |none=>none
def BA(gl:fD)(fr:eY):List (Nat×Operand)->Option (List (Nat×T))
 |[]=>some []
 |(i,x)::r=>match pE gl fr x with
  |some t=>match BA gl fr r with
   |some l=>some ((i,t)::l)|none=>none
  |none=>none
abbrev gN:=List (Nat×T)
def NT(P:fA)(t:eX)(parts:gN):Option T:=
 match wN P t with
 |some z=>
  match P.underlying t with
  |some (.struct fs)=>match IJ P fs.toList with
   |some pl=>(JA (pl[·]?) z.cells parts).map .agg|none=>none
  |some (.array _ e)=>match tT P e with
   |some s=>(JA (fun i=>some (i*s,s)) z.cells parts).map .agg|none=>none
  |_ =>none
 |none=>none
def HI(sz:Nat)(ag:Bool):List T->List (Nat×T)->Option (List T)
 |xs,[]=>some xs|xs,(i,v)::r=>if v.cells.length=sz/\v.isAgg=ag/\i<xs.length then HI sz ag (xs.set i v) r else none
def rW(P:fA)(t:eX)(len:Nat)(parts:gN):Option T:=
 match P.underlying t with
 |some (.slice e)=>match tT P e,FL P e,wN P e with
  | some s,some ag,some z=>if 0<s/\len*s<=65536/\z.cells.length=s/\z.isAgg=ag then
    (HI s ag (List.replicate len z) parts).map (.sl true)
   else none
  |_,_,_ =>none
 |_ =>none
def IG:T->Option T
 | .ptr l o=>some (.ptr l o)| .ref x o=>some (.ref x o)| .fn (.func f) a c=>some (.fn (.func f) a c)| .iface t x=>some (.iface t x)|_ =>none
structure tW where
 gl:Nat->Option T
 pe:Hp->FuncId->List T->Option T
def IX(ev:Operand->Option T):Option Operand->Option (Option T)
 |none=>some none
 |some x=>match ev x with
  |some t=>some (some t)|none=>none
def uN(P:fA)(E:tW)(H:Hp)(fr:eY)(c:Call):Option T:=
 match c.callee with
 | .value f=>match pE E.gl fr f with
  |some (.fn (.func g) first cap)=>match pW E.gl fr c.args.toList with
   |some ars=>E.pe H g (first++ars++cap)
   |none=>none
  |_ =>none
 | .invoke _ _ =>none
 | .builtin b=>match b with
  | .len=>match c.args.toList,c.argTypes.toList with
   |[x],t::_ =>match pE E.gl fr x with
    |some a=>WC P H t a|none=>none
   |_,_ =>none
  | .min=>match pW E.gl fr c.args.toList with
   |some (x::r)=>FE aHq x r|_ =>none
  | .max=>match pW E.gl fr c.args.toList with
   |some (x::r)=>FE aHn x r|_ =>none
  |_ =>none
def oV(P:fA)(E:tW)(own:Bool)(H:Hp)(fr:eY)(o:Oper):Option T:=
 let ev:=pE E.gl fr
 match o.op with
 | .move x| .assign x=>ev x
 | .pick c a b=>match ev c with
  |some (.bool b')=>if b' then ev a else ev b
  |_ =>none
 | .box _ x=>if own then none else(ev x).map (.ref · 0)
 | .build t parts=>match BA E.gl fr parts.toList with
  |some l=>NT P t l|none=>none
 | .buildSlice t len parts=>if own then none else match BA E.gl fr parts.toList with
  |some l=>rW P t len l|none=>none
 | .load t a=>match ev a with
  |some p=>tX P H t p|none=>none
 | .nilCheck x=>match ev x with
  |some p=>IG p|none=>none
 | .binOp op t x y _ =>match ev x,ev y with
  |some a,some b=>if GU x y a b then xX P op t a b else none
  |_,_ =>none
 | .unOp op _ x=>match ev x with
  |some a=>unT op a|none=>none
 | .convert s d x=>match ev x with
  |some a=>UN P s d a|none=>none
 | .makeFunc f first captured=>match pW E.gl fr first.toList,pW E.gl fr captured.toList with
  |some a,some c=>some (.fn f a c)|_,_ =>none
 | .fieldAddr s x f=>match ev x with
  |some a=>wU P s a f|none=>none
 | .field t x f=>match ev x with
  |some (.agg cs)=>match FY P t f with
   |some fd=>uB P fd.type cs fd.offset|none=>none
  |_ =>none
 | .indexAddr t x i=>match ev x,ev i with
  |some a,some b=>qM P t a b|_,_ =>none
 | .index t x i=>match ev x,ev i with
  |some a,some b=>zM P t a b|_,_ =>none
 | .slice t x lo hi mx=>match mx with
  |some _ =>none
  |none=>match ev x with
   |some a=>match IX ev lo,IX ev hi with
    |some l,some h=>wY P t a l h|_,_ =>none
   |none=>none
 | .extract x i=>match ev x with
  |some (.tup xs)=>xs[i]?|_ =>none
 | .lookup t x i ok=>match ev x,ev i with
  |some a,some b=>zY P H t a b ok|_,_ =>none
 | .call c=>uN P E H fr c|_ =>none
abbrev gQ:=Option Tmp
def pP(fr:eY)(dst:gQ)(v:T):List T:=
 match dst with
 |some d=>fr.set d v|none=>fr
noncomputable def ZL(fr:eY)(dst:gQ)(v:T):List T:=
 match dst with
 |some d=>Ta v fr d|none=>fr
theorem Gz(fr:eY)(dst:gQ)(v:T):ZL fr dst v=pP fr dst v:=by
 cases dst with
 |none=>rfl|some d=>exact IM v fr d
abbrev fC:=Array Oper
def xW(ops:fC)(fr:eY)(j:Nat):Option Bool:=
 match((ops[j]?).bind (·.dst)).bind (fun d=>fr[d]?)with
 |some (.bool b)=>some b|_ =>none
def oW(ops:fC)(fr:eY)(o:Oper):Bool:=
 match o.guard with
 |none=>true|some (j,want)=>xW ops fr j==some want
end
end Go.Ps
namespace Go.Ps
structure G where
 w:World
 S:Nat->Prop
 al:Nat->Prop
 loc:Nat->Nat
 cp:Nat->Nat
abbrev fP:=Value
abbrev fM:=List Value
abbrev iC:=Nat->T
abbrev gZ:=ByteArray
inductive FA(g:G):Value->T->Prop
 |int (k:gB) (n:Int):FA g (.int k n) (.int k n)
 |bool (b:Bool):FA g (.bool b) (.bool b)
 |str (s:gZ):FA g (.string s) (.str s.data.toList)
 |nilp:FA g (.pointer none) .nilp
 |nils:FA g (.slice none 0 0) .nils
 |nilf:FA g .nilFunc .nilf
 |nili:FA g .nilIface .nili
 |nilm:FA g (.map none) .nilm
 |slfn (full:Bool) (f:iC) (p:Option Addr):FA g (.slice p 0 0) (.slf full 0 f)
 | slf (full:Bool) (n:Nat) (f:iC) (sz b o cap:Nat) (vs:fM):(n≠0->g.S b)->(∀i,i<n->(f i).cells.length=sz)->n<=cap->cap<=maxLen->(full=true->cap=n)->
   vs.length=n*sz->(∀(j:Nat) (v:fP),vs[j]? =some v->g.w.cell? ⟨b,o+j,none⟩=some v)->
   (∀(i j:Nat) (v:fP) (c:T),i<n->j<sz->vs[i*sz+j]? =some v->(f i).cells[j]? =some c->FA g v c)->FA g (.slice (some ⟨b,o,none⟩) n cap) (.slf full n f)
 |agg (cs:eY) (vs:fM):vs.length=cs.length->(∀(j:Nat) (v:fP) (c:T),vs[j]? =some v->cs[j]? =some c->FA g v c)->FA g (.agg vs.toArray) (.agg cs)
inductive Rd(g:G):Value->T->Prop
 |int (k:gB) (n:Int):Rd g (.int k n) (.int k n)
 |bool (b:Bool):Rd g (.bool b) (.bool b)
 |str (s:gZ):Rd g (.string s) (.str s.data.toList)
 |nilp:Rd g (.pointer none) .nilp
 |ptr (l off:Nat):g.al l->Rd g (.pointer (some ⟨g.loc l,off,none⟩)) (.ptr l off)
 | ref (x:T) (off b o:Nat) (vs:fM):g.S b->vs.length=x.cells.length->(∀(j:Nat) (v:fP),vs[j]? =some v->g.w.cell? ⟨b,o+j,none⟩=some v)->
   (∀(j:Nat) (v:fP) (c:T),vs[j]? =some v->x.cells[j]? =some c->Rd g v c)->Rd g (.pointer (some ⟨b,o+off,none⟩)) (.ref x off)
 |nils:Rd g (.slice none 0 0) .nils
 |slfn (full:Bool) (f:iC) (p:Option Addr):Rd g (.slice p 0 0) (.slf full 0 f)
 | sl (full:Bool) (xs:eY) (sz b o cap:Nat) (vs:fM):(xs≠[]->g.S b)->(∀x∈xs,x.cells.length=sz)->xs.length<=cap->cap<=maxLen->(full=true->cap=xs.length)->
   vs.length=xs.length*sz->(∀(j:Nat) (v:fP),vs[j]? =some v->g.w.cell? ⟨b,o+j,none⟩=some v)->
   (∀(j:Nat) (v:fP) (c:T),vs[j]? =some v->(xs.flatMap T.cells)[j]? =some c->Rd g v c)->Rd g (.slice (some ⟨b,o,none⟩) xs.length cap) (.sl full xs)
 | slf (full:Bool) (n:Nat) (f:iC) (sz b o cap:Nat) (vs:fM):(n≠0->g.S b)->(∀i,i<n->(f i).cells.length=sz)->n<=cap->cap<=maxLen->(full=true->cap=n)->
   vs.length=n*sz->(∀(j:Nat) (v:fP),vs[j]? =some v->g.w.cell? ⟨b,o+j,none⟩=some v)->
   (∀(i j:Nat) (v:fP) (c:T),i<n->j<sz->vs[i*sz+j]? =some v->(f i).cells[j]? =some c->FA g v c)->Rd g (.slice (some ⟨b,o,none⟩) n cap) (.slf full n f)
 |osl (l sz i len b o cap:Nat):g.al l->len<=cap->i+cap<=g.cp l->(0<len\/i=0->b=g.loc l/\o=i*sz)->(i=0->cap=g.cp l)->Rd g (.slice (some ⟨b,o,none⟩) len cap) (.osl l sz i len)
 |nilf:Rd g .nilFunc .nilf
 | fn (f:Fn) (first captured:eY) (vs us:fM):vs.length=first.length->(∀(j:Nat) (v:fP) (c:T),vs[j]? =some v->first[j]? =some c->Rd g v c)->
   us.length=captured.length->(∀(j:Nat) (v:fP) (c:T),us[j]? =some v->captured[j]? =some c->Rd g v c)->Rd g (.func f vs.toArray us.toArray) (.fn f first captured)
 |nili:Rd g .nilIface .nili
 |iface (t:eX) (v:fP) (x:T):Rd g v x->Rd g (.iface t v) (.iface t x)
 |nilm:Rd g (.map none) .nilm
 |mp (l:Nat):g.al l->Rd g (.map (some (g.loc l))) (.mp l)
 |yl (l:Nat):g.al l->Rd g (.func (.yield (g.loc l)) #[] #[]) (.yl l)
 |agg (cs:eY) (vs:fM):vs.length=cs.length->(∀(j:Nat) (v:fP) (c:T),vs[j]? =some v->cs[j]? =some c->Rd g v c)->Rd g (.agg vs.toArray) (.agg cs)
 |tup (cs:eY) (vs:fM):vs.length=cs.length->(∀(j:Nat) (v:fP) (c:T),vs[j]? =some v->cs[j]? =some c->Rd g v c)->Rd g (.tuple vs.toArray) (.tup cs)
def RdL(g:G)(vs:fM)(ts:eY):Prop:=vs.length=ts.length/\∀(j:Nat) (v:fP) (c:T),vs[j]? =some v->ts[j]? =some c->Rd g v c
section RdL
variable{g:G}
theorem RdL.nil:RdL g [] []:=⟨rfl,fun j v c h=>by simp at h⟩
theorem RdL.cons{v:fP}{t:T}{vs:fM}{ts:eY}(h:Rd g v t)(hs:RdL g vs ts):RdL g (v::vs) (t::ts):=by
 refine⟨by simp[hs.1],fun j u c hu hc=> ?_⟩;cases j with
 |zero=>simp at hu hc;subst hu;subst hc;exact h|succ j=>simp at hu hc;exact hs.2 j u c hu hc
theorem RdL.inv_cons{v:fP}{t:T}{vs:fM}{ts:eY}(h:RdL g (v::vs) (t::ts)):Rd g v t/\RdL g vs ts:=
 ⟨h.2 0 v t rfl rfl,by simpa using h.1,fun j u c hu hc=>h.2 (j+1) u c (by simpa using hu) (by simpa using hc)⟩
theorem RdL.append{vs us:fM}{ts ss:eY}(h:RdL g vs ts)(k:RdL g us ss):RdL g (vs++us) (ts++ss):=by
 refine⟨by simp[h.1,k.1],fun j u c hu hc=> ?_⟩;rw[dC]at hu hc;by_cases hj:j<vs.length
 .rw[if_pos hj]at hu;rw[if_pos (h.1▸hj)]at hc;exact h.2 j u c hu hc
 .rw[if_neg hj]at hu;rw[if_neg (h.1▸hj),<-h.1]at hc;exact k.2 _ u c hu hc
theorem RdL.take{vs:fM}{ts:eY}(h:RdL g vs ts)(n:Nat):RdL g (vs.take n) (ts.take n):=by
 refine⟨by simp[h.1],fun j u c hu hc=> ?_⟩;rw[bD]at hu hc;split at hu
 .rename_i hj;rw[if_pos hj]at hc;exact h.2 j u c hu hc
 .cases hu
theorem RdL.drop{vs:fM}{ts:eY}(h:RdL g vs ts)(n:Nat):RdL g (vs.drop n) (ts.drop n):=by
 refine⟨by simp[h.1],fun j u c hu hc=> ?_⟩;rw[bO]at hu hc;exact h.2 _ u c hu hc
theorem RdL.at_ {vs:fM}{ts:eY}(h:RdL g vs ts){j:Nat}{t:T}(ht:ts[j]? =some t):∃v,vs[j]? =some v/\Rd g v t:=by
 have hj:j<ts.length:=(aK.1 ht).1;have hv:vs[j]? =some (vs[j]'(by rw[h.1];exact hj)):=aC _;exact⟨_,hv,h.2 j _ t hv ht⟩
theorem RdL.set{vs:fM}{ts:eY}(h:RdL g vs ts)(i:Nat){v:fP}{t:T}(hv:Rd g v t):RdL g (vs.set i v) (ts.set i t):=by
 refine⟨by simp[h.1],fun j u c hu hc=> ?_⟩;rw[cZ]at hu hc;by_cases hij:i=j
 .rw[if_pos hij]at hu hc;split at hu
  .split at hc
   .simp at hu hc;subst hu;subst hc;exact hv
   .cases hc
  .cases hu
 .rw[if_neg hij]at hu hc;exact h.2 j u c hu hc
theorem RdL.replicate{v:fP}{t:T}(n:Nat)(h:Rd g v t):RdL g (List.replicate n v) (List.replicate n t):=by
 induction n with
 |zero=>exact RdL.nil|succ n ih=>exact RdL.cons h ih
end RdL
structure PStep(g g':G):Prop where
 os:g'.w.os=g.w.os
 tape:g'.w.tape=g.w.tape
 output:g'.w.output=g.w.output
 size:g.w.heap.size<=g'.w.heap.size
 block:∀b,b<g.w.heap.size->g'.w.heap[b]? =g.w.heap[b]?
 sub:∀b,g.S b->g'.S b
 fresh:∀b,g'.S b->g.S b\/g.w.heap.size<=b
 al:g'.al=g.al
 loc:g'.loc=g.loc
 cp:g'.cp=g.cp
theorem PStep.refl(g:G):PStep g g:=⟨rfl,rfl,rfl,aZ _,fun _ _ =>rfl,fun _ h=>h,fun _ h=> .inl h,rfl,rfl,rfl⟩
theorem PStep.trans{a b c:G}(h:PStep a b)(k:PStep b c):PStep a c:=
 ⟨k.os.trans h.os,k.tape.trans h.tape,k.output.trans h.output,eF h.size k.size,fun i hi=>(k.block i (bP hi h.size)).trans (h.block i hi),
  fun i hi=>k.sub i (h.sub i hi),fun i hi=>(k.fresh i hi).elim (h.fresh i) (fun q=> .inr (eF h.size q)),k.al.trans h.al,k.loc.trans h.loc,k.cp.trans h.cp⟩
abbrev gI:=World
theorem KC{w:gI}{a:Addr}{v:fP}(h:w.cell? a=some v):a.block<w.heap.size:=by
 unfold World.cell? at h;split at h
 .rename_i hb;exact(aL.1 hb).1
 .cases h
theorem PStep.cell{g g':G}(h:PStep g g'){a:Addr}{v:fP}(hc:g.w.cell? a=some v):g'.w.cell? a=some v:=
 (World.cell?_of_block (w:=g.w) (h.block _ (KC hc))).trans hc
theorem FA.keep{g g':G}(hS:∀b,g.S b->g'.S b)(hc:∀b o v,g.S b->g.w.cell? ⟨b,o,none⟩=some v->g'.w.cell? ⟨b,o,none⟩=some v){v:fP}{t:T}(hr:FA g v t):FA g' v t:=by
 induction hr with
 |int k n=>exact .int k n|bool b=>exact .bool b|str s=>exact .str s|nilp=>exact .nilp|nils=>exact .nils|slfn full f p=>exact .slfn full f p|nilf=>exact .nilf|nili=>exact .nili|nilm=>exact .nilm
 |slf full n f sz b o cap vs h1 h2 h3 h4 h5 h6 h7 _ ih=>
  refine .slf full n f sz b o cap vs (fun q=>hS b (h1 q)) h2 h3 h4 h5 h6 (fun j v hv=> ?_) ih;have hn:n≠0:=by
   rintro rfl;simp at h6;subst h6;simp at hv
  exact hc b _ v (h1 hn) (h7 j v hv)
 |agg cs vs h1 _ ih=>exact .agg cs vs h1 ih
theorem FA.rd{g:G}{v:fP}{t:T}(h:FA g v t):Rd g v t:=by
 induction h with
 |int k n=>exact .int k n|bool b=>exact .bool b|str s=>exact .str s|nilp=>exact .nilp|nils=>exact .nils|slfn full f p=>exact .slfn full f p|nilf=>exact .nilf|nili=>exact .nili|nilm=>exact .nilm|slf full n f sz b o cap vs h1 h2 h3 h4 h5 h6 h7 h8 _ =>exact .slf full n f sz b o cap vs h1 h2 h3 h4 h5 h6 h7 h8|agg cs vs h1 _ ih=>exact .agg cs vs h1 ih
theorem FA.pstep{g g':G}(h:PStep g g'){v:fP}{t:T}(hr:FA g v t):FA g' v t:=hr.keep h.sub (fun _ _ _ _ hc=>h.cell hc)
theorem Rd.slf_keep{g g':G}(hS:∀b,g.S b->g'.S b)(hc:∀b o v,g.S b->g.w.cell? ⟨b,o,none⟩=some v->g'.w.cell? ⟨b,o,none⟩=some v){full:Bool}{n:Nat}{f:iC}{sz b o cap:Nat}{vs:fM}(h1:n≠0->g.S b)(h2:∀i,i<n->(f i).cells.length=sz)(h3:n<=cap)(h4:cap<=maxLen)(h5:full=true->cap=n)
  (h6:vs.length=n*sz) (h7:∀(j:Nat) (v:fP),vs[j]? =some v->g.w.cell? ⟨b,o+j,none⟩=some v)
  (h8:∀(i j:Nat) (v:fP) (c:T),i<n->j<sz->vs[i*sz+j]? =some v->(f i).cells[j]? =some c->FA g v c):Rd g' (.slice (some ⟨b,o,none⟩) n cap) (.slf full n f):=
 ((FA.slf full n f sz b o cap vs h1 h2 h3 h4 h5 h6 h7 h8).keep hS hc).rd
theorem Rd.pstep{g g':G}(h:PStep g g'){v:fP}{t:T}(hr:Rd g v t):Rd g' v t:=by
 induction hr with
 |int k n=>exact .int k n|bool b=>exact .bool b|str s=>exact .str s|nilp=>exact .nilp|ptr l off hl=>rw[<-h.loc];exact .ptr l off (h.al▸hl)|ref x off b o vs hS hlen hc _ ih=>exact .ref x off b o vs (h.sub b hS) hlen (fun j v hv=>h.cell (hc j v hv)) ih|nils=>exact .nils|slfn full f p=>exact .slfn full f p|sl full xs sz b o cap vs hS hsz h1 h2 h3 hlen hc _ ih=>exact .sl full xs sz b o cap vs (fun hx=>h.sub b (hS hx)) hsz h1 h2 h3 hlen (fun j v hv=>h.cell (hc j v hv)) ih|slf full n f sz b o cap vs h1 h2 h3 h4 h5 h6 h7 h8=>exact Rd.slf_keep h.sub (fun _ _ _ _ hc=>h.cell hc) h1 h2 h3 h4 h5 h6 h7 h8|osl l sz i len b o cap hl h1 h2 h3 h4=>exact .osl l sz i len b o cap (h.al▸hl) h1 (h.cp▸h2) (fun q=>h.loc▸h3 q) (fun q=>h.cp▸h4 q)|nilf=>exact .nilf|fn f first captured vs us h1 _ h2 _ ih1 ih2=>exact .fn f first captured vs us h1 ih1 h2 ih2
 |nili=>exact .nili|iface t v x _ ih=>exact .iface t v x ih|nilm=>exact .nilm|mp l hl=>rw[<-h.loc];exact .mp l (h.al▸hl)|yl l hl=>rw[<-h.loc];exact .yl l (h.al▸hl)|agg cs vs h1 _ ih=>exact .agg cs vs h1 ih|tup cs vs h1 _ ih=>exact .tup cs vs h1 ih
theorem RdL.pstep{g g':G}(h:PStep g g'){vs:fM}{ts:eY}(hr:RdL g vs ts):RdL g' vs ts:=⟨hr.1,fun j v c hv hc=>(hr.2 j v c hv hc).pstep h⟩
def qP(g:G):Prop:=∀b,g.S b->b<g.w.heap.size
abbrev gG:=List MapEntry
def rH(g:G)(ms:gG)(es:fQ):Prop:=
 ms.map (·.born)=es.map (·.1)/\RdL g (ms.map (·.key)) (es.map (·.2.1))/\RdL g (ms.map (·.val)) (es.map (·.2.2))
theorem rH.mono{g g':G}(h:∀v t,Rd g v t->Rd g' v t){ms:gG}{es:fQ}(k:rH g ms es):rH g' ms es:=
 ⟨k.1,⟨k.2.1.1,fun j v c hv hc=>h v c (k.2.1.2 j v c hv hc)⟩,⟨k.2.2.1,fun j v c hv hc=>h v c (k.2.2.2 j v c hv hc)⟩⟩
abbrev fU:=Array Value
abbrev fT:=FuncId
def MoR(g:G):Mo->Obj->Prop
 | .map c es,b=>∃ms:Array MapEntry,b= .map ms c/\rH g ms.toList es| .loop r,b=>∃(fn:fT) (tmps:fU) (D:Nat),b= .loop {state:=r.st,pending:=r.pe,fn,tmps,params:=r.ps,assign:=r.asg,body:=r.bd,defers:=D}/\RdL g tmps.toList (r.fr.view r.n)/\r.fr.Wf r.n| .mit m since seen last,b=>g.al m/\b= .mapIter (some (g.loc m)) since seen.toArray last| .sit s pos,b=>∃u:ByteArray,u.data.toList=s/\b= .stringIter u pos
theorem MoR.mono{g g':G}(h:∀v t,Rd g v t->Rd g' v t)(hl:∀l,g.al l->g'.al l/\g'.loc l=g.loc l){m:Mo}{b:Obj}(k:MoR g m b):MoR g' m b:=by
 cases m with
 |map c es=>obtain⟨ms,e,k⟩:=k;exact⟨ms,e,k.mono h⟩
 |loop r=>
  obtain⟨fn,tmps,D,e,k,hw⟩:=k;exact⟨fn,tmps,D,e,⟨k.1,fun j v c hv hc=>h v c (k.2 j v c hv hc)⟩,hw⟩
 |mit m since seen last=>exact⟨(hl m k.1).1,by rw[(hl m k.1).2];exact k.2⟩|sit s pos=>exact k
structure St(g:G)(H:Hp):Prop where
 own:∀l o,H.get l=some o->g.al l/\¬g.S (g.loc l)/\∃cs:Array Value,g.w.heap[g.loc l]? =some (.cells cs o.elem (0,0))/\o.cells.length<=cs.size/\
  (o.sz=0->cs.size=o.cells.length)/\(o.sz≠0->cs.size=g.cp l*o.sz/\g.cp l<=maxLen)/\RdL g (cs.toList.take o.cells.length) o.cells
 ownM:∀l o m,H.any l=some o->o.me=some m->g.al l/\¬g.S (g.loc l)/\∃b:Obj,g.w.heap[g.loc l]? =some b/\MoR g m b
 sep:∀l l' o o',H.any l=some o->H.any l'=some o'->g.loc l=g.loc l'->l=l'
 new:∀l,H.next<=l->¬g.al l
theorem St.at_ {g:G}{H:Hp}(hs:St g H){l:Nat}{o:Ob}(h:H.any l=some o):g.al l/\¬g.S (g.loc l)/\g.loc l<g.w.heap.size:=by
 cases hm:o.me with
 |none=>
  obtain⟨h1,h2,cs,h3,_⟩:=hs.own l o (yQ h hm);exact⟨h1,h2,(aL.1 h3).1⟩
 |some p=>
  obtain⟨h1,h2,ms,h3,_⟩:=hs.ownM l o p h hm;exact⟨h1,h2,(aL.1 h3).1⟩
theorem St.pstep{g g':G}{H:Hp}(h:PStep g g')(hs:St g H):St g' H:=by
 refine⟨fun l o ho=> ?_,fun l o m ho hm=> ?_,fun l l' o o' h1 h2 e=>hs.sep l l' o o' h1 h2 (by rw[h.loc]at e;exact e),fun l hl=>by rw[h.al];exact hs.new l hl⟩
 .obtain⟨ha,hS,cs,hb,h1,h2,h3,h4⟩:=hs.own l o ho;have hlt:g.loc l<g.w.heap.size:=(aL.1 hb).1;refine⟨h.al▸ha,?_,cs,?_,h1,h2,?_,h4.pstep h⟩
  .rw[h.loc];exact fun q=>(h.fresh _ q).elim hS (fun q'=>by omega)
  .rw[h.loc,h.block _ hlt];exact hb
  .rw[h.cp];exact h3
 .obtain⟨ha,hS,ms,hb,h1⟩:=hs.ownM l o m ho hm;have hlt:g.loc l<g.w.heap.size:=(aL.1 hb).1;refine⟨h.al▸ha,?_,ms,?_,h1.mono (fun _ _ q=>q.pstep h) (fun l hl=>⟨h.al▸hl,by rw[h.loc]⟩)⟩
  .rw[h.loc];exact fun q=>(h.fresh _ q).elim hS (fun q'=>by omega)
  .rw[h.loc,h.block _ hlt];exact hb
theorem St.nl(g:G)(N:Nat)(h:∀l,N<=l->¬g.al l):St g ⟨N,.nl⟩:=
 ⟨fun l o ho=>(by rw[get_nl]at ho;cases ho),fun l o m ho=>(by rw[sV]at ho;cases ho),fun l l' o o' ho=>(by rw[sV]at ho;cases ho),h⟩
theorem St.empty(g:G)(h:∀l,¬g.al l):St g Hp.empty:=St.nl g 0 (fun l _ =>h l)
theorem Cv(g:G){v:fP}{t:T}(h:WM v=some t):Rd g v t:=by
 unfold WM at h;split at h<;>first|cases h|skip
 .exact .int _ _
 .exact .bool _
 .exact .str _
 .exact .nilp
 .exact .nils
 .exact .nilf
 .exact .nili
 .exact .nilm
theorem XE(g:G):∀{vs:fM} {ts:eY},ET vs=some ts->RdL g vs ts
 |[],ts,h=>by simp[ET]at h;subst h;exact RdL.nil
 |v::vs,ts,h=>by
  simp only[ET]at h;split at h
  .rename_i t ht;split at h
   .rename_i ts' hts;cases h;exact RdL.cons (Cv g ht) (XE g hts)
   .cases h
  .cases h
theorem DK(g:G){v:fP}{t:T}(h:MN v=some t):Rd g v t:=by
 unfold MN at h;split at h
 .rename_i cs;split at h
  .rename_i ts hts;cases h;have:=XE g hts;exact Rd.agg ts cs.toList this.1 this.2
  .cases h
 .rename_i vs;split at h
  .rename_i hv;cases h;have e:vs=([]:List Value).toArray:=by cases vs;simp at hv;simp[hv]
   rw[e];exact Rd.tup [] [] rfl (fun j v c h=>by simp at h)
  .cases h
 .exact Cv g h
section inv
variable{g:G}{v:fP}
theorem Rd.inv_int{k:gB}{n:Int}(h:Rd g v (.int k n)):v= .int k n:=by cases h;rfl
theorem Rd.inv_bool{b:Bool}(h:Rd g v (.bool b)):v= .bool b:=by cases h;rfl
theorem Rd.inv_str{s:fV}(h:Rd g v (.str s)):∃b:ByteArray,v= .string b/\b.data.toList=s:=by cases h;exact⟨_,rfl,rfl⟩
theorem Rd.inv_agg{cs:eY}(h:Rd g v (.agg cs)):∃vs:List Value,v= .agg vs.toArray/\RdL g vs cs:=by cases h with|agg _ vs h1 h2=>exact⟨vs,rfl,h1,h2⟩
theorem Rd.inv_tup{cs:eY}(h:Rd g v (.tup cs)):∃vs:List Value,v= .tuple vs.toArray/\RdL g vs cs:=by cases h with|tup _ vs h1 h2=>exact⟨vs,rfl,h1,h2⟩
theorem Rd.inv_fn{f:Fn}{a c:eY}(h:Rd g v (.fn f a c)):∃vs us:List Value,v= .func f vs.toArray us.toArray/\RdL g vs a/\RdL g us c:=by
 cases h with|fn _ _ _ vs us h1 h2 h3 h4=>exact⟨vs,us,rfl,⟨h1,h2⟩,⟨h3,h4⟩⟩
theorem Rd.mk_agg{cs:eY}{vs:fM}(h:RdL g vs cs):Rd g (.agg vs.toArray) (.agg cs):= .agg cs vs h.1 h.2
theorem Rd.mk_tup{cs:eY}{vs:fM}(h:RdL g vs cs):Rd g (.tuple vs.toArray) (.tup cs):= .tup cs vs h.1 h.2
theorem Rd.mk_fn{f:Fn}{a c:eY}{vs us:fM}(h:RdL g vs a)(k:RdL g us c):Rd g (.func f vs.toArray us.toArray) (.fn f a c):= .fn f a c vs us h.1 h.2 k.1 k.2
theorem Rd.undef:Rd g Go.undef oL:= .tup [] [] rfl (fun j v c h=>by simp at h)
theorem Rd.cells{t:T}(h:Rd g v t):RdL g v.cells.toList t.cells:=by
 cases h with
 |agg cs vs h1 h2=>exact⟨by simpa [Value.cells,T.cells]using h1,by simpa [Value.cells,T.cells]using h2⟩|tup cs vs h1 h2=>exact RdL.cons (.tup cs vs h1 h2) RdL.nil|int k n=>exact RdL.cons (.int k n) RdL.nil|bool b=>exact RdL.cons (.bool b) RdL.nil|str s=>exact RdL.cons (.str s) RdL.nil|nilp=>exact RdL.cons .nilp RdL.nil|ptr l off hl=>exact RdL.cons (.ptr l off hl) RdL.nil|ref x off b o vs h1 h2 h3 h4=>exact RdL.cons (.ref x off b o vs h1 h2 h3 h4) RdL.nil|nils=>exact RdL.cons .nils RdL.nil|slfn full f p=>exact RdL.cons (.slfn full f p) RdL.nil|sl full xs sz b o cap vs h1 h2 h3 h4 h5 h6 h7 h8=>exact RdL.cons (.sl full xs sz b o cap vs h1 h2 h3 h4 h5 h6 h7 h8) RdL.nil|slf full n f sz b o cap vs h1 h2 h3 h4 h5 h6 h7 h8=>exact RdL.cons (.slf full n f sz b o cap vs h1 h2 h3 h4 h5 h6 h7 h8) RdL.nil|osl l sz i len b o cap h1 h2 h3 h4 h5=>exact RdL.cons (.osl l sz i len b o cap h1 h2 h3 h4 h5) RdL.nil|nilf=>exact RdL.cons .nilf RdL.nil|fn f a c vs us h1 h2 h3 h4=>exact RdL.cons (.fn f a c vs us h1 h2 h3 h4) RdL.nil|nili=>exact RdL.cons .nili RdL.nil|iface t v x hx=>exact RdL.cons (.iface t v x hx) RdL.nil|nilm=>exact RdL.cons .nilm RdL.nil|mp l hl=>exact RdL.cons (.mp l hl) RdL.nil|yl l hl=>exact RdL.cons (.yl l hl) RdL.nil
theorem Rd.oneCell{t:T}(h:Rd g v t)(ho:t.one=true):v.oneCell'=true:=by
 cases h<;>simp_all [T.one,Value.oneCell']
end inv
end Go.Ps
namespace Go.Ps
def tY(P:fA)(f:fT):Bool:=
 match P.funcs[f]? with
 |some fn=>fn.body.isSome&& !(fn.name== "runtime.NumGoroutine")
 |none=>false
def T.refLen:T->Nat
 | .ref x _ =>x.cells.length|_ =>0
def NP(g:G)(k:Nat)(t:T):Prop:=Rd g (.pointer (some ⟨k,0,none⟩)) t/\g.S k/\∃cs e fz,g.w.heap[k]? =some (.cells cs e fz)/\cs.size=t.refLen
def GlOk(gl:fD)(g:G):Prop:=∀k t,gl k=some t->NP g k t
abbrev fK:=Hp->FuncId->List T->Option T
def tP(P:fA)(gl:fD)(pe:fK):Prop:=
 ∀H f ts r,pe H f ts=some r->tY P f=true/\∀(g:G) (vs:fM),qP g->St g H->GlOk gl g->RdL g vs ts->
  Calls P f vs.toArray g.w fun e w'=>∃v g',e= .returned v/\g'.w=w'/\PStep g g'/\qP g'/\Rd g' v r
theorem GlOk.pstep{gl:fD}{g g':G}(h:PStep g g')(hg:GlOk gl g):GlOk gl g':=fun k t ht=>by
 obtain⟨h1,h2,cs,e,fz,h3,h4⟩:=hg k t ht;exact⟨h1.pstep h,h.sub k h2,cs,e,fz,by rw[h.block k (aL.1 h3).1];exact h3,h4⟩
abbrev fF:=Exit->Act->World->Prop
abbrev gH:=Act->World->Prop
def POk(P:fA)(o:Oper)(a:Act)(g:G)(t:T):Prop:=
 ∀(K:gH) (Q:fF),(∀v g',PStep g g'->qP g'->Rd g' v t->K (a.put o.dst v) g'.w)->o.wp P a g.w K Q
theorem qR{P:fA}{o:Oper}{a:Act}{g:G}{t:T}{v:fP}(hg:qP g)(hr:(execOp a.eval o).run P g.w= .ok (.value v) g.w)(h:Rd g v t):POk P o a g t:=by
 intro K Q hK;unfold Oper.wp;rw[hr];exact hK v g (PStep.refl g) hg h
def G.add(g:G)(o:Obj):G:={g with w:={g.w with heap:=g.w.heap.push o},S:=fun b=>g.S b\/b=g.w.heap.size}
theorem G.add_step(g:G)(o:Obj):PStep g (g.add o):=
 ⟨rfl,rfl,rfl,by simp[G.add],fun b hb=>by simp only[G.add];rw[eO,if_neg (by omega)],fun _ h=> .inl h,fun b h=>h.elim .inl (fun e=> .inr (by omega)),rfl,rfl,rfl⟩
theorem G.add_ok{g:G}(h:qP g)(o:Obj):qP (g.add o):=by
 intro b hb;simp only[G.add,Array.size_push];rcases hb with hb|hb
 .have:=h b hb;omega
 .omega
theorem G.add_cell(g:G)(cs:fU)(e:eX)(j:Nat):(g.add (.cells cs e)).w.cell? ⟨g.w.heap.size,j,none⟩=cs[j]? :=by
 have h:(g.add (.cells cs e)).w.heap[g.w.heap.size]? =some (.cells cs e (0,0)):=by simp only[G.add];exact Array.getElem?_push_size
 simp[World.cell?,h]
theorem Cp{P:fA}{o:Oper}{a:Act}{g:G}{t:T}{v:fP}{ob:Obj}(hg:qP g)
  (hr:(execOp a.eval o).run P g.w= .ok (.value v) (g.add ob).w) (h:Rd (g.add ob) v t):POk P o a g t:=by
 intro K Q hK;unfold Oper.wp;rw[hr];exact hK v _ (g.add_step ob) (g.add_ok hg ob) h
theorem BX(P:fA)(w:gI)(b o:Nat):∀(n i:Nat) (acc:fU) (vs:fM),vs.length=n->
  (∀j v,vs[j]? =some v->w.cell? ⟨b,o+(i+j),none⟩=some v)->(loadCellsFrom ⟨b,o,none⟩ i n acc).run P w= .ok (acc++vs.toArray) w
 |0,i,acc,vs,hl,_ =>by
  have:vs=[]:=bR hl;subst this;simp[loadCellsFrom]
 |n+1,i,acc,v::vs,hl,hc=>by
  have h0:=hc 0 v rfl
  have ih:=BX P w b o n (i+1) (acc.push v) vs (by simpa using hl) (fun j u hu=>by
   have:=hc (j+1) u (by simpa using hu);rw[show o+(i+1+j)=o+(i+(j+1)) by omega]
   exact this)
  simp only[loadCellsFrom,aO,Addr.add_lit,run_load];simp only[Nat.add_zero]at h0;simp[h0,ih]
theorem JG(P:fA)(w:gI)(b o n:Nat)(vs:fM)(hl:vs.length=n)(hc:∀j v,vs[j]? =some v->w.cell? ⟨b,o+j,none⟩=some v):
  (loadCells ⟨b,o,none⟩ n).run P w= .ok vs.toArray w:=by
 have:=BX P w b o n 0 #[] vs hl (fun j v hv=>by simpa using hc j v hv);simpa [loadCells]using this
theorem UI{g:G}{H:Hp}(hs:St g H){p:T}{v:fP}{cs:eY}{off:Nat}(h:tR H p=some (cs,off))(hr:Rd g v p):
  ∃(b o:Nat) (vs:fM),v= .pointer (some ⟨b,o+off,none⟩)/\RdL g vs cs/\∀j u,vs[j]? =some u->g.w.cell? ⟨b,o+j,none⟩=some u:=by
 cases hr<;>simp only[tR]at h<;>try cases h
 case ref b o vs hS hl hc hx=>exact⟨b,o,vs,rfl,⟨hl,hx⟩,hc⟩
 case ptr l off' hl=>
  split at h
  .rename_i ob hob;cases h;obtain⟨_,_,c,hb,h1,_,_,h4⟩:=hs.own l ob hob;refine⟨g.loc l,0,c.toList.take ob.cells.length,by simp,h4,fun j u hu=> ?_⟩;rw[bD]at hu;split at hu
   .simp[World.cell?,hb]at hu⊢;exact hu
   .cases hu
  .cases h
theorem MS{P:fA}{g:G}{t:eX}{cs:eY}{off:Nat}{r:T}(h:uB P t cs off=some r){vs:fM}(hv:RdL g vs cs):
  ∃u,(part t vs.toArray off).run P g.w= .ok u g.w/\Rd g u r:=by
 unfold uB FL tT at h;unfold part isAgg sizeOf typeInfo;cases hu:P.underlying t with
 |none=>simp[hu]at h
 |some d=>
  have scalar:(cs[off]? =some r)->∃u,(match vs.toArray[off]? with|some v=>(pure v:Sem Value)|none=>stuck "part: no such cell").run P g.w= .ok u g.w/\Rd g u r:=by
   intro hc;obtain⟨u,hu',hr⟩:=hv.at_ hc;exact⟨u,by simp[hu'],hr⟩
  have aggr:(match Option.map (fun x=>x.size) (P.info? t)with|some n=>if off+n<=cs.length then some (T.agg (List.take n (List.drop off cs)))else none|none=>none)=some r->
    ∃i,P.info? t=some i/\off+i.size<=cs.length/\r= .agg ((cs.drop off).take i.size):=by
   intro hh;cases hi:P.info? t with
   |none=>simp[hi]at hh|some i=>simp[hi]at hh;exact⟨i,rfl,hh.1,hh.2.symm⟩
  have close:∀i,P.info? t=some i->off+i.size<=cs.length->r= .agg ((cs.drop off).take i.size)->Rd g (.agg (vs.toArray.extract off (off+i.size))) r:=by
   intro i _ hle hr;subst hr;have e:vs.toArray.extract off (off+i.size)=((vs.drop off).take i.size).toArray:=by
    simp[List.extract_eq_take_drop]
   rw[e];exact Rd.mk_agg ((hv.drop off).take i.size)
  cases d<;>simp only[hu]at h<;>simp only[aO,run_underlying hu,aH,aW,bA,if_false,if_true]<;>
   first
    |exact scalar h
    |(obtain⟨i,hi,hle,hr⟩:=aggr h;exact⟨_,by simp[hi],close i hi hle hr⟩)
theorem Wm{P:fA}{g:G}{H:Hp}(hs:St g H){t:eX}{p r:T}{v:fP}(h:tX P H t p=some r)(hr:Rd g v p):
  ∃u,(Instr.loadAt t v).run P g.w= .ok u g.w/\Rd g u r:=by
 unfold tX at h;split at h
 .rename_i cs off hc;obtain⟨b,o,vs,rfl,hv,hcell⟩:=UI hs hc hr;unfold uB FL tT at h;unfold Instr.loadAt Instr.sureAddr loadVar isAgg sizeOf typeInfo;cases hu:P.underlying t with
  |none=>simp[hu]at h
  |some d=>
   have scalar:(cs[off]? =some r)->∃u,(load ⟨b,o+off,none⟩).run P g.w= .ok u g.w/\Rd g u r:=by
    intro hc;obtain⟨u,hu',hr⟩:=hv.at_ hc;exact⟨u,by simp[hcell off u hu'],hr⟩
   have aggr:(match Option.map (fun x=>x.size) (P.info? t)with|some n=>if off+n<=cs.length then some (T.agg (List.take n (List.drop off cs)))else none|none=>none)=some r->
     ∃i,P.info? t=some i/\off+i.size<=cs.length/\r= .agg ((cs.drop off).take i.size):=by
    intro hh;cases hi:P.info? t with
    |none=>simp[hi]at hh|some i=>simp[hi]at hh;exact⟨i,rfl,hh.1,hh.2.symm⟩
   have close:∀i,P.info? t=some i->off+i.size<=cs.length->r= .agg ((cs.drop off).take i.size)->
     (loadCells ⟨b,o+off,none⟩ i.size).run P g.w= .ok ((vs.drop off).take i.size).toArray g.w/\Rd g (.agg ((vs.drop off).take i.size).toArray) r:=by
    intro i _ hle hr;subst hr;refine⟨JG P g.w b (o+off) i.size _ (by have:=hv.1;simp;omega) (fun j u hu'=> ?_),Rd.mk_agg ((hv.drop off).take i.size)⟩;rw[bD]at hu';split at hu'
    .rw[bO]at hu';rw[dG];exact hcell _ u hu'
    .cases hu'
   cases d<;>simp only[hu]at h<;>simp only[aO,run_underlying hu,aH,aW,bA,if_false,if_true]<;>
    first
     |exact scalar h
     |(obtain⟨i,hi,hle,hr⟩:=aggr h;obtain⟨h1,h2⟩:=close i hi hle hr;exact⟨_,by simp[hi,h1],h2⟩)
 .cases h
end Go.Ps
namespace Go.Ps
theorem El(s:gZ):s.toList=s.data.toList:=by
 have loop:∀(n i:Nat) (r:fV),s.size-i=n->ByteArray.toList.loop s i r=r.reverse++s.data.toList.drop i:=by
  intro n
  induction n with
  |zero=>
   intro i r h;rw[ByteArray.toList.loop,if_neg (by omega)];have:s.data.toList.length<=i:=by have:=dP (a:=s);simp;omega
   rw[dU this];simp
  |succ n ih=>
   intro i r h;have hi:i<s.size:=by omega
   rw[ByteArray.toList.loop,if_pos hi,ih (i+1) _ (by omega)];have hl:i<s.data.toList.length:=by have:=dP (a:=s);simp;omega
   rw[dX hl];have hl':i<s.data.size:=by simpa using hl
   have e:s.get! i=s.data.toList[i]:=by
    show s.data[i]! =s.data.toList[i];rw[Array.getElem_toList,getElem!_pos s.data i hl']
   simp[e]
 have h:=loop (s.size-0) 0 [] rfl;simp only[List.reverse_nil,List.nil_append,eP]at h;exact h
theorem Eh(a b:gZ):(a++b).data.toList=a.data.toList++b.data.toList:=by
 rw[ByteArray.data_append,Array.toList_append]
section
variable{P:fA}{g:G}
theorem Zq{op:iI}{k:gB}{a b:Int}{r:T}(h:uV op k a b=some r)(t:eX):∃q,(binOp op t (.int k a) (.int k b)).run P g.w= .ok q g.w/\Rd g q r:=by
 cases op
 case quo=>
  simp only[uV]at h;split at h
  .cases h
  .rename_i hb;cases h;exact⟨.int k (k.wrap (a.tdiv b)),by simp[binOp_quo,Op.intDiv,hb],.int _ _⟩
 case rem=>
  simp only[uV]at h;split at h
  .cases h
  .rename_i hb;cases h;exact⟨.int k (a.tmod b),by simp[binOp_rem,Op.intDiv,hb],.int _ _⟩
 case add=>cases h;exact⟨_,by rw[binOp_add];rfl,.int _ _⟩
 case sub=>cases h;exact⟨_,by rw[binOp_sub];rfl,.int _ _⟩
 case mul=>cases h;exact⟨_,by rw[binOp_mul];rfl,.int _ _⟩
 case and=>cases h;exact⟨_,by rw[binOp_and];rfl,.int _ _⟩
 case or=>cases h;exact⟨_,by rw[binOp_or];rfl,.int _ _⟩
 case xor=>cases h;exact⟨_,by rw[binOp_xor];rfl,.int _ _⟩
 case andNot=>cases h;exact⟨_,by rw[binOp_andNot];rfl,.int _ _⟩
 case eql=>cases h;exact⟨_,by rw[binOp_eql];rfl,.bool _⟩
 case neq=>cases h;exact⟨_,by rw[binOp_neq];rfl,.bool _⟩
 case lss=>cases h;exact⟨_,by rw[binOp_lss];rfl,.bool _⟩
 case leq=>cases h;exact⟨_,by rw[binOp_leq];rfl,.bool _⟩
 case gtr=>cases h;exact⟨_,by rw[binOp_gtr];rfl,.bool _⟩
 case geq=>cases h;exact⟨_,by rw[binOp_geq];rfl,.bool _⟩
 case shl=>cases h
 case shr=>cases h
theorem RQ{op:iI}{k k':gB}{a b:Int}{r:T}(h:vU op k a b=some r)(t:eX):∃q,(binOp op t (.int k a) (.int k' b)).run P g.w= .ok q g.w/\Rd g q r:=by
 cases op
 case shl=>
  simp only[vU]at h;split at h
  .cases h
  .rename_i hb;cases h;exact⟨_,by rw[binOp_shl];simp only[Op.shift,if_neg hb];rfl,.int _ _⟩
 case shr=>
  simp only[vU]at h;split at h
  .cases h
  .rename_i hb;cases h;exact⟨_,by rw[binOp_shr];simp only[Op.shift,if_neg hb];rfl,.int _ _⟩
 all_goals cases h
theorem aBs{op:iI}{a b:gZ}{r:T}(h:BC op a.data.toList b.data.toList=some r)(t:eX):∃q,(binOp op t (.string a) (.string b)).run P g.w= .ok q g.w/\Rd g q r:=by
 cases op<;>simp only[BC]at h<;>try cases h
 case add=>
  split at h
  .rename_i hl;cases h;have e1:a.data.toList.length=a.size:=by simp[dP]
   have e2:b.data.toList.length=b.size:=by simp[dP]
   rw[e1,e2]at hl;have hlt:¬(((a.size+b.size:Nat):Int)>IntKind.i64.max):=by simp[vP]at hl⊢;omega
   refine⟨.string (a++b),by simp only[binOp,Op.stringOp,if_neg hlt];rfl,?_⟩;rw[<-Eh];exact .str _
  .cases h
 all_goals
  refine⟨_,by simp only[binOp,Op.stringOp];rfl,?_⟩;simp only[El];exact .bool _
theorem aFj{t:eX}{x y:T}{r:Bool}(h:NX P t x y=some r){u v:fP}(hu:Rd g u x)(hv:Rd g v y):(Op.equal t u v).run P g.w= .ok r g.w:=by
 have key:∀d:Nat,(Op.equalIn (d+1) t u v).run P g.w= .ok r g.w:=by
  intro d;unfold NX at h;split at h<;>try cases h
  all_goals
   rename_i hd;cases hu;cases hv;simp[Op.equalIn,run_underlying hd]
 have:=key 9999;simpa only[Op.equal,Op.maxDepth]using this
theorem UX{op:iI}{t:eX}{x y:T}{r:Bool}(h:NX P t x y=some r){u v:fP}(hu:Rd g u x)(hv:Rd g v y)(X Y:gF)(hn:GU X Y x y=true):eqGuard op t X Y u v=pure ():=by
 unfold NX at h;split at h<;>try cases h
 all_goals
  cases hu
  first
   |exact eqGuard_at_bool ..
   |exact eqGuard_at_slice ..
   |exact eqGuard_at_pointer ..
   |exact eqGuard_at_func ..
   |exact eqGuard_at_nilFunc ..
   |exact eqGuard_at_iface ..
   |(cases hv;cases op<;>rfl)
   |(cases hv;simp only[GU,SJ,Bool.not_true,Bool.or_false,bG]at hn;cases op<;>first|rfl|(rcases hn with hn|hn<;>(first|(cases X<;>simp[FU]at hn<;>rfl)|(cases Y<;>simp[FU]at hn<;>cases X<;>rfl))))
theorem aFf{t:eX}{x y:T}{r:Bool}(h:eq1 P t x y=some r){u v:fP}(hu:Rd g u x)(hv:Rd g v y)(d:Nat):(Op.equalIn (d+1) t u v).run P g.w= .ok r g.w:=by
 unfold eq1 at h;split at h
 .rename_i hd;split at h
  .rename_i hk;cases h;subst hk;cases hu;cases hv;rw[run_equalIn_int _ d t _ _ _ _ hd]
  .cases h
 .rename_i hd;cases h;obtain⟨a,rfl,rfl⟩:=hu.inv_str;obtain⟨b,rfl,rfl⟩:=hv.inv_str;rw[run_equalIn_string _ d t _ _ hd,ByteArray.toList_eq,ByteArray.toList_eq]
 .rename_i hd;cases h;cases hu;cases hv;rw[run_equalIn_bool' _ d t _ _ hd]
 .cases h
theorem Kc{t:eX}{x y:T}{r:Bool}(h:eq1 P t x y=some r){cs:eY}{off:Nat}{c:T}(hc:cs[off]? =some c):uB P t cs off=some c:=by
 unfold eq1 at h;unfold uB FL;split at h
 .rename_i hd;rw[hd];exact hc
 .rename_i hd;rw[hd];exact hc
 .rename_i hd;rw[hd];exact hc
 .cases h
theorem Uz{xs ys:eY}{us vs:fM}(hu:RdL g us xs)(hv:RdL g vs ys)(d:Nat):∀(fs:List Field) (r:Bool),aFh P xs ys fs=some r->(Op.eqFields (d+1) us.toArray vs.toArray fs).run P g.w= .ok r g.w
 |[],r,h=>by simp only[aFh,aD]at h;subst h;simp[Op.eqFields]
 |f::fs,r,h=>by
  simp only[aFh]at h;split at h
  .rename_i a b ha hb;split at h
   .cases h
   .rename_i hn;simp only[Op.eqFields,if_pos (show f.name≠ "_" from hn),aO];have two:∀q,eq1 P f.type a b=some q->(Op.eqFields (d+1) us.toArray vs.toArray (f::fs)).run P g.w=(if(!q)=true then .ok false g.w else(Op.eqFields (d+1) us.toArray vs.toArray fs).run P g.w):=by
     intro q hq;obtain⟨u,e1,r1⟩:=MS (Kc hq ha) hu;obtain⟨v,e2,r2⟩:=MS (Kc hq hb) hv;simp only[Op.eqFields,if_pos (show f.name≠ "_" from hn),aO,e1,e2,aH,aFf hq r1 r2];cases q<;>simp
    have e0:(Op.eqFields (d+1) us.toArray vs.toArray (f::fs)).run P g.w= .ok r g.w:=by
     split at h
     .rename_i hq;rw[two _ hq];exact Uz hu hv d fs r h
     .rename_i hne;rw[two _ h];cases r with
      |true=>exact absurd h hne|false=>rfl
    simp only[Op.eqFields,if_pos (show f.name≠ "_" from hn),aO]at e0;exact e0
  .cases h
theorem RB{t:eX}{fs:Array Field}(h:P.underlying t=some (.struct fs)):P.fieldsOf t=fs:=by simp[Program.fieldsOf,h]
theorem Fa{t:eX}{x y:T}{r:Bool}(h:eqK P t x y=some r){u v:fP}(hu:Rd g u x)(hv:Rd g v y)(d:Nat):(Op.equalIn (d+2) t u v).run P g.w= .ok r g.w:=by
 unfold eqK at h;split at h
 .split at h
  .rename_i fs hd;split at h
   .cases h
   .rename_i hp;obtain⟨us,rfl,hu'⟩:=hu.inv_agg;obtain⟨vs,rfl,hv'⟩:=hv.inv_agg;rw[run_equalIn_agg _ (d+1) t _ _ (by rw[RB hd];exact hd) (by simpa using hp),RB hd];exact Uz hu' hv' d _ _ h
  .cases h
 .exact aFf h hu hv (d+1)
theorem aSr{op:iI}{t:eX}{x y r:T}(h:xX P op t x y=some r){u v:fP}(hu:Rd g u x)(hv:Rd g v y)(X Y:gF)(hn:GU X Y x y=true):
  ∃q,(do eqGuard op t X Y u v;binOp op t u v).run P g.w= .ok q g.w/\Rd g q r:=by
 unfold xX at h;split at h
 .cases hu;cases hv;obtain⟨q,h1,h2⟩:=RQ (P:=P) (g:=g) h t;exact⟨q,by simp only[eqGuard_at_int,aO,aW,aH];exact h1,h2⟩
 .cases hu;cases hv;obtain⟨q,h1,h2⟩:=RQ (P:=P) (g:=g) h t;exact⟨q,by simp only[eqGuard_at_int,aO,aW,aH];exact h1,h2⟩
 .split at h
  .rename_i hk;subst hk;cases hu;cases hv;obtain⟨q,h1,h2⟩:=Zq (P:=P) (g:=g) h t;exact⟨q,by simp only[eqGuard_at_int,aO,aW,aH];exact h1,h2⟩
  .cases h
 .obtain⟨a,rfl,rfl⟩:=hu.inv_str;obtain⟨b,rfl,rfl⟩:=hv.inv_str;obtain⟨q,h1,h2⟩:=aBs (P:=P) (g:=g) h t;exact⟨q,by simp only[eqGuard_at_string,aO,aW,aH];exact h1,h2⟩
 .simp only[aF]at h;obtain⟨b,hb,rfl⟩:=h;unfold eqS at hb;split at hb
  .split at hb
   .cases hb
   .rename_i hm;obtain⟨us,rfl,hu'⟩:=hu.inv_agg;obtain⟨vs,rfl,hv'⟩:=hv.inv_agg;refine⟨.bool b,?_,.bool _⟩;rw[aO,run_eqGuard_agg _ _ _ _ _ _ _ (by simpa using hm),aH,run_eql_struct,Fa hb hu hv 9998,aH]
  .have h1:=aFj hb hu hv;have h2:=UX (op:= .eql) (v:=v) hb hu hv X Y hn;refine⟨.bool b,?_,.bool _⟩;rw[h2];unfold NX at hb;split at hb<;>try cases hb
   all_goals
    cases hu;cases hv;simp only[binOp,aO,aW,aH,h1]
 .simp only[aF]at h;obtain⟨b,hb,rfl⟩:=h;unfold eqS at hb;split at hb
  .split at hb
   .cases hb
   .rename_i hm;obtain⟨us,rfl,hu'⟩:=hu.inv_agg;obtain⟨vs,rfl,hv'⟩:=hv.inv_agg;refine⟨.bool (!b),?_,.bool _⟩;rw[aO,run_eqGuard_agg _ _ _ _ _ _ _ (by simpa using hm),aH,run_neq_struct,Fa hb hu hv 9998,aH]
  .have h1:=aFj hb hu hv;have h2:=UX (op:= .neq) (v:=v) hb hu hv X Y hn;refine⟨.bool (!b),?_,.bool _⟩;rw[h2];unfold NX at hb;split at hb<;>try cases hb
   all_goals
    cases hu;cases hv;simp only[binOp,aO,aW,aH,h1]
 .cases h
theorem bEu{op:UnOp}{x r:T}(h:unT op x=some r){u:fP}(hu:Rd g u x):∃q,(Op.unary op u).run P g.w= .ok q g.w/\Rd g q r:=by
 unfold unT at h;split at h<;>try cases h
 .cases hu;exact⟨_,by simp[Op.unary,Op.intArith],.int _ _⟩
 .cases hu;exact⟨_,by simp[Op.unary],.bool _⟩
theorem aMh{s d:eX}{x r:T}(h:LM P s d x=some r){u:fP}(hu:Rd g u x):∃q,(convert s d u).run P g.w= .ok q g.w/\Rd g q r:=by
 unfold LM at h;split at h<;>try cases h
 .rename_i h1 h2;cases hu;exact⟨_,by simp[convert,run_underlying h1,run_underlying h2,Conv.intToInt],.int _ _⟩
 .rename_i h1 h2;obtain⟨a,rfl,rfl⟩:=hu.inv_str;exact⟨_,by simp[convert,run_underlying h1,run_underlying h2],.str _⟩
 .rename_i e full n h1 h2;split at h
  .rename_i he;cases h;cases hu with
   |sl _ _ sz b o cap vs q1 q2 q3 q4 q5 q6 q7 q8=>
    have hsz:1=sz:=q2 (.int .u8 n) (by simp);subst hsz
    match vs,q6 with
    |[v],_ =>
     have hv:=q8 0 v (.int .u8 n) rfl rfl;cases hv;have hl:=JG P g.w b o 1 [.int .u8 n] rfl q7;refine⟨.string (ByteArray.empty.push (UInt8.ofNat n.toNat)),?_,?_⟩
     .rw[run_convert_bytes_string g.w s d e _ _ _ h1 he h2];exact run_bytesToString g.w ⟨b,o,none⟩ 1 cap [n] hl
     .exact .str (ByteArray.empty.push (UInt8.ofNat n.toNat))
  .cases h
theorem add_ok{x r:T}{n:Nat}(h:Jc x n=some r){u:fP}(hu:Rd g u x):∃b o,u= .pointer (some ⟨b,o,none⟩)/\Rd g (.pointer (some ⟨b,o+n,none⟩)) r:=by
 unfold Jc at h;split at h<;>try cases h
 .cases hu with
  |ref _ _ b o vs h1 h2 h3 h4=>exact⟨b,_,rfl,by rw[dG];exact .ref _ _ b o vs h1 h2 h3 h4⟩
 .cases hu with
  |ptr _ _ hl=>exact⟨_,_,rfl,.ptr _ _ hl⟩
theorem Fg{s:eX}{x r:T}{f:Nat}(h:wU P s x f=some r){u:fP}(hu:Rd g u x):∃q,(Instr.fieldAt s u f).run P g.w= .ok q g.w/\Rd g q r:=by
 unfold wU FY tT at h;split at h
 .rename_i fd hfd;split at hfd
  .rename_i fs hd;split at h
   .rename_i n hn;split at h
    .cases h
    .rename_i hn0;simp only[aF]at hn;obtain⟨i,hi,rfl⟩:=hn;obtain⟨b,o,rfl,hr⟩:=add_ok h hu;exact⟨_,by simp[Instr.fieldAt,run_underlying hd,hfd,Instr.sureAddr,fieldPlace,sizeOf,typeInfo,hi,hn0,Addr.add_lit],hr⟩
   .cases h
  .cases hfd
 .cases h
theorem EX{xs:eY}{sz:Nat}(hsz:∀x∈xs,x.cells.length=sz):∀{i:Nat} {y:T},xs[i]? =some y->∀j c,y.cells[j]? =some c->(xs.flatMap T.cells)[i*sz+j]? =some c:=by
 induction xs with
 |nil=>intro i y h;simp at h
 |cons x xs ih=>
  intro i y h j c hc;have hx:=hsz x (by simp);cases i with
  |zero=>
   simp at h;subst h;have hj:j<x.cells.length:=(aK.1 hc).1;simp only[bI,Nat.zero_mul,bN];rw[dD hj];exact hc
  |succ i=>
   simp at h;have:=ih (fun x hx=>hsz x (by simp[hx])) h j c hc;simp only[bI];rw[dL (by rw[hx,cJ];omega),hx];rw[show(i+1)*sz+j-sz=i*sz+j by rw[cJ];omega];exact this
theorem rY{xs:eY}{sz:Nat}(hsz:∀x∈xs,x.cells.length=sz):(xs.flatMap T.cells).length=xs.length*sz:=by
 induction xs with
 |nil=>simp
 |cons x xs ih=>
  simp only[bI,bK,bL,ih (fun y hy=>hsz y (by simp[hy])),hsz x (by simp),cJ];omega
theorem Fv{t:eX}{x i r:T}(h:qM P t x i=some r){u v:fP}(hu:Rd g u x)(hv:Rd g v i):∃q,(Instr.indexAt t u v).run P g.w= .ok q g.w/\Rd g q r:=by
 unfold qM tT at h;split at h
 .rename_i k n;cases hv;split at h
  .rename_i e full xs hd;split at h
   .rename_i h0;split at h
    .rename_i y hy;split at h
     .rename_i s hs;split at h
      .rename_i hys;cases h;simp only[aF]at hs;obtain⟨i,hi,rfl⟩:=hs;cases hu with
       |sl _ _ sz b o cap vs h1 h2 h3 h4 h5 h6 h7 h8=>
        have hlt:n.toNat<xs.length:=(aK.1 hy).1;have hsz:=h2 y (bB hy);have e1:i.size=sz:=by omega
        have hmul:n.toNat*sz+sz<=xs.length*sz:=by rw[<-cJ];exact cI _ hlt
        refine⟨.pointer (some ⟨b,o+n.toNat*sz,none⟩),?_,?_⟩
        .simp[Instr.indexAt,asIntOf,run_underlying hd,sizeOf,typeInfo,hi,e1,Addr.add_lit,h0];omega
        .rw[show(⟨b,o+n.toNat*sz,none⟩:Addr)=⟨b,(o+n.toNat*sz)+0,none⟩from rfl];refine .ref y 0 b (o+n.toNat*sz) ((vs.drop (n.toNat*sz)).take sz) (h1 (by intro e;simp[e]at hlt)) ?_ ?_ ?_
         .simp[h6];omega
         .intro j w hw;rw[bD]at hw;split at hw
          .rw[bO]at hw;rw[dG];exact h7 _ w hw
          .cases hw
         .intro j w c hw hc;rw[bD]at hw;split at hw
          .rw[bO]at hw;exact h8 _ w c hw (EX h2 hy j c hc)
          .cases hw
      .cases h
     .cases h
    .cases h
   .cases h
  .rename_i e full len f hd;split at h
   .rename_i h0;split at h
    .rename_i s hs;split at h
     .rename_i hys;cases h;simp only[aF]at hs;obtain⟨i,hi,rfl⟩:=hs;cases hu with
      |slfn _ _ p=>exact absurd h0.2 (by simp;omega)
      |slf _ _ _ sz b o cap vs h1 h2 h3 h4 h5 h6 h7 h8=>
       have hlt:n.toNat<len:=by omega
       have hsz:=h2 n.toNat hlt;have e1:i.size=sz:=by omega
       have hmul:n.toNat*sz+sz<=len*sz:=by rw[<-cJ];exact cI _ hlt
       refine⟨.pointer (some ⟨b,o+n.toNat*sz,none⟩),?_,?_⟩
       .simp[Instr.indexAt,asIntOf,run_underlying hd,sizeOf,typeInfo,hi,e1,Addr.add_lit,h0]
       .rw[show(⟨b,o+n.toNat*sz,none⟩:Addr)=⟨b,(o+n.toNat*sz)+0,none⟩from rfl];refine .ref (f n.toNat) 0 b (o+n.toNat*sz) ((vs.drop (n.toNat*sz)).take sz) (h1 (by omega)) ?_ ?_ ?_
        .simp[h6];omega
        .intro j w hw;rw[bD]at hw;split at hw
         .rw[bO]at hw;rw[dG];exact h7 _ w hw
         .cases hw
        .intro j w c hw hc;rw[bD]at hw;split at hw
         .rename_i hj;rw[bO]at hw;exact(h8 n.toNat j w c hlt hj hw hc).rd
         .cases hw
     .cases h
    .cases h
   .cases h
  .rename_i e l sz j len hd;split at h
   .rename_i h0;split at h
    .rename_i s hs;split at h
     .rename_i hys;cases h;simp only[aF]at hs;obtain⟨i,hi,rfl⟩:=hs;cases hu with
      |osl _ _ _ _ b o cap h1 h2 h3 h4 h5=>
       obtain⟨rfl,rfl⟩:=h4 (.inl (by omega));refine⟨.pointer (some ⟨g.loc l,(j+n.toNat)*sz,none⟩),?_,.ptr _ _ h1⟩;simp[Instr.indexAt,asIntOf,run_underlying hd,sizeOf,typeInfo,hi,Addr.add_lit,h0,hys,eS]
     .cases h
    .cases h
   .cases h
  .rename_i len e hd;split at h
   .rename_i h0;split at h
    .rename_i s hs;simp only[aF]at hs;obtain⟨i,hi,rfl⟩:=hs;obtain⟨b,o,rfl,hr⟩:=add_ok h hu;refine⟨_,?_,hr⟩;simp[Instr.indexAt,asIntOf,run_underlying hd,Instr.sureAddr,sizeOf,typeInfo,hi,Addr.add_lit,h0]
    .cases h
   .cases h
  .cases h
 .cases h
theorem aGn{t:eX}{x i r:T}(h:zM P t x i=some r){u v:fP}(hu:Rd g u x)(hv:Rd g v i):∃q,(Instr.index t u v).run P g.w= .ok q g.w/\Rd g q r:=by
 unfold zM tT at h;split at h
 .rename_i k n;cases hv;split at h
  .rename_i len e cs hd;split at h
   .rename_i h0;split at h
    .rename_i s hs;simp only[aF]at hs;obtain⟨i,hi,rfl⟩:=hs;obtain⟨vs,rfl,hv⟩:=hu.inv_agg;obtain⟨q,h1,h2⟩:=MS (P:=P) h hv;exact⟨q,by simp[Instr.index,asIntOf,run_underlying hd,sizeOf,typeInfo,hi,h0,h1],h2⟩
    .cases h
   .cases h
  .rename_i s hd;obtain⟨a,rfl,rfl⟩:=hu.inv_str;split at h
   .rename_i h0;simp only[aF]at h;obtain⟨b,hb,rfl⟩:=h;refine⟨_,?_,.int _ _⟩;have hb':a[n.toNat]? =some b:=by
     have hlt:n.toNat<a.data.toList.length:=(aK.1 hb).1;have hlt':n.toNat<a.size:=by simpa [dP]using hlt
     have e:=(aK.1 hb).2;rw[getElem?_pos a n.toNat hlt'];congr 1
    simp[Instr.index,asIntOf,run_underlying hd,h0,hb']
   .cases h
  .cases h
 .cases h
theorem aUn{t:eX}{x r:T}(h:zX P t x=some r){u:fP}(hu:Rd g u x)(tys:Array TypeId)(ht:tys[0]? =some t)(ty:eX):
  ∃q,(Builtin.len_ tys ty #[u]).run P g.w= .ok q g.w/\Rd g q r:=by
 unfold zX at h;split at h<;>try cases h
 all_goals rename_i hd
 .obtain⟨a,rfl,rfl⟩:=hu.inv_str;refine⟨.int .i64 a.size,by simp[Builtin.len_,ht,run_underlying hd,goInt],?_⟩;have e:a.data.toList.length=a.size:=by simp[dP]
  rw[e];exact .int _ _
 .cases hu;exact⟨_,by simp[Builtin.len_,ht,run_underlying hd,goInt],.int _ _⟩
 .cases hu;exact⟨_,by simp[Builtin.len_,ht,run_underlying hd,goInt],.int _ _⟩
 .cases hu with
  |slfn _ _ p=>exact⟨_,by simp[Builtin.len_,ht,run_underlying hd,goInt],.int _ _⟩|slf _ _ _ sz b o cap vs h1 h2 h3 h4 h5 h6 h7 h8=>exact⟨_,by simp[Builtin.len_,ht,run_underlying hd,goInt],.int _ _⟩
 .cases hu;exact⟨_,by simp[Builtin.len_,ht,run_underlying hd,goInt],.int _ _⟩
 .exact⟨_,by simp[Builtin.len_,ht,run_underlying hd,goInt],.int _ _⟩
 .cases hu;exact⟨_,by simp[Builtin.len_,ht,run_underlying hd,goInt],.int _ _⟩
theorem LZ:∀{ts:eY} {x r:T},FE aHq x ts=some r->∀{u:fP} {us:fM},Rd g u x->RdL g us ts->∃q,(us.foldlM Builtin.min2 u).run P g.w= .ok q g.w/\Rd g q r
 |[],x,r,h,u,us,hu,hus=>by
  simp[FE]at h;subst h;have:us=[]:=bR hus.1;subst this;exact⟨u,by simp,hu⟩
 |y::ts,x,r,h,u,[],hu,hus=>by simp[RdL]at hus
 |y::ts,x,r,h,u,v::us,hu,hus=>by
  obtain⟨hv,hus'⟩:=hus.inv_cons;clear hus;simp only[FE]at h;split at h
  .rename_i z hz;unfold aHq at hz;split at hz<;>cases hz;cases hu;cases hv;obtain⟨q,h1,h2⟩:=LZ h (.int _ _) hus';exact⟨q,by simp[Builtin.min2,h1],h2⟩
  .cases h
theorem LY:∀{ts:eY} {x r:T},FE aHn x ts=some r->∀{u:fP} {us:fM},Rd g u x->RdL g us ts->∃q,(us.foldlM Builtin.max2 u).run P g.w= .ok q g.w/\Rd g q r
 |[],x,r,h,u,us,hu,hus=>by
  simp[FE]at h;subst h;have:us=[]:=bR hus.1;subst this;exact⟨u,by simp,hu⟩
 |y::ts,x,r,h,u,[],hu,hus=>by simp[RdL]at hus
 |y::ts,x,r,h,u,v::us,hu,hus=>by
  obtain⟨hv,hus'⟩:=hus.inv_cons;clear hus;simp only[FE]at h;split at h
  .rename_i z hz;unfold aHn at hz;split at hz<;>cases hz;cases hu;cases hv;obtain⟨q,h1,h2⟩:=LY h (.int _ _) hus';exact⟨q,by simp[Builtin.max2,h1],h2⟩
  .cases h
end
end Go.Ps
namespace Go.Ps
theorem ZC(s:gZ)(l h:Nat):(s.extract l h).data.toList=(s.data.toList.take h).drop l:=by
 rw[ByteArray.data_extract,Array.toList_extract,List.extract_eq_take_drop,List.drop_take]
section
variable{P:fA}{g:G}
def RdO(g:G):Option Value->Option T->Prop
 |none,none=>True|some v,some t=>Rd g v t|_,_ =>False
theorem uL{x:iB}{dflt top r:Nat}(h:uI x dflt top=some r){v:Option Value}(hv:RdO g v x):
  (v=none/\r=dflt)\/∃k n,v=some (.int k n)/\0<=n/\n<=top/\n.toNat=r:=by
 unfold uI at h;split at h
 .cases h;left;cases v with
  |none=>exact⟨rfl,rfl⟩|some v=>simp[RdO]at hv
 .rename_i k n;split at h
  .rename_i hn;cases h;cases v with
   |none=>simp[RdO]at hv|some v=>simp only[RdO]at hv;cases hv;exact .inr ⟨k,n,rfl,hn.1,hn.2,rfl⟩
  .cases h
 .cases h
theorem yE{isS:Bool}{len cap:Nat}{lo hi:Option Value}{l h:Nat}
  (hh:(hi=none/\h=len)\/∃k n,hi=some (.int k n)/\0<=n/\n<=(cap:Int)/\n.toNat=h)
  (hl:(lo=none/\l=0)\/∃k n,lo=some (.int k n)/\0<=n/\n<=(h:Int)/\n.toNat=l):
  (Instr.sliceBounds isS len cap lo hi none).run P g.w= .ok (l,h,cap) g.w:=by
 rcases hh with⟨rfl,rfl⟩|⟨k,n,rfl,a0,a1,rfl⟩<;>rcases hl with⟨rfl,rfl⟩|⟨k',n',rfl,b0,b1,rfl⟩<;>simp_all [Instr.sliceBounds,Instr.sliceBound,asIntOf]
theorem Br{xs:eY}{sz:Nat}(hsz:∀x∈xs,x.cells.length=sz)(n:Nat):(xs.take n).flatMap T.cells=(xs.flatMap T.cells).take (n*sz):=by
 induction xs generalizing n with
 |nil=>simp
 |cons x xs ih=>
  have hx:=hsz x (by simp);cases n with
  |zero=>simp
  |succ n=>
   simp only[List.take_succ_cons,bI,ih (fun y hy=>hsz y (by simp[hy]))];rw[List.take_append,hx,dE (l:=x.cells) (by rw[hx,cJ];omega),show(n+1)*sz-sz=n*sz by rw[cJ];omega]
theorem Bq{xs:eY}{sz:Nat}(hsz:∀x∈xs,x.cells.length=sz)(n:Nat):(xs.drop n).flatMap T.cells=(xs.flatMap T.cells).drop (n*sz):=by
 induction xs generalizing n with
 |nil=>simp
 |cons x xs ih=>
  have hx:=hsz x (by simp);cases n with
  |zero=>simp
  |succ n=>
   simp only[List.drop_succ_cons,bI,ih (fun y hy=>hsz y (by simp[hy]))];rw[List.drop_append,hx,dU (l:=x.cells) (by rw[hx,cJ];omega),show(n+1)*sz-sz=n*sz by rw[cJ];omega];simp
theorem aFt{xs:eY}{sz l hh:Nat}(hsz:∀x∈xs,x.cells.length=sz)(_hle:hh<=xs.length)(j:Nat)(c:T)(hc:(((xs.take hh).drop l).flatMap T.cells)[j]? =some c):(xs.flatMap T.cells)[l*sz+j]? =some c:=by
 rw[Bq (fun x hx=>hsz x (dY hx)),Br hsz,bO,bD]at hc;split at hc
 .exact hc
 .cases hc
theorem aJr{t:eX}{x r:T}{lo hi:iB}(h:wY P t x lo hi=some r){u:fP}{vlo vhi:Option Value}(hu:Rd g u x)(hlo:RdO g vlo lo)(hhi:RdO g vhi hi):
  ∃q,(Instr.sliceAt t u vlo vhi none).run P g.w= .ok q g.w/\Rd g q r:=by
 unfold wY at h;split at h
 .rename_i s hd;obtain⟨a,rfl,rfl⟩:=hu.inv_str;have es:a.data.toList.length=a.size:=by simp[dP]
  split at h
  .rename_i hh eh;split at h
   .rename_i l el;cases h;have b1:=uL eh hhi;have b2:=uL el hlo;rw[es]at b1;have hb:=yE (P:=P) (g:=g) (isS:=false) (len:=a.size) (cap:=a.size) b1 b2;refine⟨.string (a.extract l hh),by simp[Instr.sliceAt,Instr.slice,run_underlying hd,hb],?_⟩;rw[<-ZC];exact .str _
   .cases h
  .cases h
 .rename_i e full xs hd;split at h
  .rename_i hh eh;split at h
   .rename_i l el;split at h
    .rename_i s hs;split at h
     .rename_i hok;cases h;simp only[tT,aF]at hs;obtain⟨i,hi,rfl⟩:=hs;cases hu with
      |sl _ _ sz b o cap vs h1 h2 h3 h4 h5 h6 h7 h8=>
       have b1:=uL eh hhi;have b2:=uL el hlo;have b1':(vhi=none/\hh=xs.length)\/∃k n,vhi=some (.int k n)/\0<=n/\n<=(cap:Int)/\n.toNat=hh:=by
        rcases b1 with b1|⟨k,n,e1,e2,e3,e4⟩
        .exact .inl b1
        .exact .inr ⟨k,n,e1,e2,by omega,e4⟩
       have hle:hh<=xs.length:=by rcases b1 with⟨_,b1⟩|⟨k,n,e1,e2,e3,e4⟩<;>omega
       have hl:l<=hh:=by rcases b2 with⟨_,b2⟩|⟨k,n,e1,e2,e3,e4⟩<;>omega
       have hb:=yE (P:=P) (g:=g) (isS:=true) (len:=xs.length) (cap:=cap) b1' b2;have hlen:((xs.take hh).drop l).length=hh-l:=by simp;omega
       refine⟨.slice (some (if cap=l then⟨b,o,none⟩else⟨b,o+l*i.size,none⟩)) (hh-l) (cap-l),?_,?_⟩
       .simp only[Instr.sliceAt,Instr.slice,aO,run_underlying hd,aH,hb,sizeOf,typeInfo,run_program,hi,aW,bW,Addr.add_lit];split<;>rfl
       .rw[<-hlen];have hcap:(full&&hh==xs.length)=true->cap-l=((xs.take hh).drop l).length:=fun q=>by
         simp only[aA,beq_iff_eq]at q;have:=h5 q.1;rw[hlen];omega
        by_cases hnil:(xs.take hh).drop l=[]
        .rw[hnil]at hcap⊢;have:∀(b' o':Nat),Rd g (.slice (some ⟨b',o',none⟩) ([]:List T).length (cap-l)) (.sl (full&&hh==xs.length) []):=fun b' o'=>
          .sl _ [] 0 _ _ _ [] (fun q=>absurd rfl q) (by simp) (by simp) (by omega) hcap (by simp) (by simp) (by simp)
         split
         .exact this _ _
         .exact this _ _
        .have hx0:xs≠[]:=by rintro rfl;simp at hnil
         have hlt:l<hh:=by
          rcases dV l hh with q|q
          .exact q
          .exact absurd (bR (by rw[hlen];omega)) hnil
         have esz:i.size=sz:=by
          cases xs with
          |nil=>exact absurd rfl hx0|cons x xs=>simp only[GL,beq_iff_eq]at hok;rw[<-hok];exact h2 x (by simp)
         rw[if_neg (by omega),esz];have hm1:l*sz<=hh*sz:=cI _ (by omega);have hm2:hh*sz<=xs.length*sz:=cI _ hle;have hsub:∀x∈(xs.take hh).drop l,x.cells.length=sz:=fun x hx=>h2 x (dY (eM hx));refine .sl _ _ sz b (o+l*sz) (cap-l) ((vs.take (hh*sz)).drop (l*sz)) (fun _ =>h1 hx0) hsub (by rw[hlen];omega) (by omega) hcap ?_ ?_ ?_
         .rw[hlen];simp only[cK,dH,h6,Nat.sub_mul];omega
         .intro j w hw;rw[bO,bD]at hw;split at hw
          .rw[dG];exact h7 _ w hw
          .cases hw
         .intro j w c hw hc;rw[bO,bD]at hw;split at hw
          .refine h8 _ w c hw ?_;exact aFt h2 hle j c hc
          .cases hw
     .cases h
    .cases h
   .cases h
  .cases h
 .rename_i e full n f hd;split at h
  .rename_i hh eh;split at h
   .rename_i l el;split at h
    .rename_i s hs;split at h
     .cases h
     .rename_i hok;cases h;simp only[tT,aF]at hs;obtain⟨i,hi,rfl⟩:=hs;cases hu with
      |slfn _ _ p=>
       have b1:=uL eh hhi;have b2:=uL el hlo;have e1:hh=0:=by rcases b1 with⟨_,b1⟩|⟨k,n,e1,e2,e3,e4⟩<;>omega
       have e2:l=0:=by rcases b2 with⟨_,b2⟩|⟨k,n,e1,e2,e3,e4⟩<;>omega
       subst e1;subst e2;have hb:=yE (P:=P) (g:=g) (isS:=true) (len:=0) (cap:=0) b1 b2;exact⟨.slice p 0 0,by cases p<;>simp[Instr.sliceAt,Instr.slice,run_underlying hd,hb,sizeOf,typeInfo,hi],.slfn _ _ p⟩
      |slf _ _ _ sz b o cap vs h1 h2 h3 h4 h5 h6 h7 h8=>
       have b1:=uL eh hhi;have b2:=uL el hlo;have b1':(vhi=none/\hh=n)\/∃k m,vhi=some (.int k m)/\0<=m/\m<=(cap:Int)/\m.toNat=hh:=by
        rcases b1 with b1|⟨k,m,e1,e2,e3,e4⟩
        .exact .inl b1
        .exact .inr ⟨k,m,e1,e2,by omega,e4⟩
       have hle:hh<=n:=by rcases b1 with⟨_,b1⟩|⟨k,m,e1,e2,e3,e4⟩<;>omega
       have hl:l<=hh:=by rcases b2 with⟨_,b2⟩|⟨k,m,e1,e2,e3,e4⟩<;>omega
       have hb:=yE (P:=P) (g:=g) (isS:=true) (len:=n) (cap:=cap) b1' b2;refine⟨.slice (some (if cap=l then⟨b,o,none⟩else⟨b,o+l*i.size,none⟩)) (hh-l) (cap-l),?_,?_⟩
       .simp only[Instr.sliceAt,Instr.slice,aO,run_underlying hd,aH,hb,sizeOf,typeInfo,run_program,hi,aW,bW,Addr.add_lit];split<;>rfl
       .have hcap:(full&&hh==n)=true->cap-l=hh-l:=fun q=>by
         simp only[aA,beq_iff_eq]at q;have:=h5 q.1;omega
        by_cases hlt:l<hh
        .have esz:i.size=sz:=by
          have q:¬(f l).cells.length≠i.size:=fun q=>hok ⟨hlt,q⟩;have:=h2 l (by omega);omega
         rw[if_neg (by omega),esz];have hm1:l*sz<=hh*sz:=cI _ (by omega);have hm2:hh*sz<=n*sz:=cI _ hle;refine .slf _ _ _ sz b (o+l*sz) (cap-l) ((vs.take (hh*sz)).drop (l*sz)) (fun _ =>h1 (by omega)) (fun k hk=>h2 (l+k) (by omega)) (by omega) (by omega) hcap ?_ ?_ ?_
         .simp only[cK,dH,h6,Nat.sub_mul];omega
         .intro j w hw;rw[bO,bD]at hw;split at hw
          .rw[dG];exact h7 _ w hw
          .cases hw
         .intro k j w c hk hj hw hc;rw[bO,bD]at hw;split at hw
          .refine h8 (l+k) j w c (by omega) hj ?_ hc;rw[eS,dG];exact hw
          .cases hw
        .have hz:hh-l=0:=by omega
         rw[hz]at hcap⊢;have:∀(b' o':Nat),Rd g (.slice (some ⟨b',o',none⟩) 0 (cap-l)) (.slf (full&&hh==n) 0 (fun k=>f (l+k))):=fun b' o'=>
          .slf _ 0 _ 0 _ _ _ [] (fun q=>absurd rfl q) (fun k hk=>by omega) (by omega) (by omega) hcap (by simp) (by simp) (fun k j w c hk=>by omega)
         split
         .exact this _ _
         .exact this _ _
    .cases h
   .cases h
  .cases h
 .rename_i e hd;split at h
  .rename_i hh eh;split at h
   .rename_i l el;split at h
    .rename_i hsz;cases h;obtain⟨s,hs⟩:=Option.isSome_iff_exists.1 hsz;simp only[tT,aF]at hs;obtain⟨i,hi,rfl⟩:=hs;cases hu;have b1:=uL eh hhi;have b2:=uL el hlo;have e1:hh=0:=by rcases b1 with⟨_,b1⟩|⟨k,n,e1,e2,e3,e4⟩<;>omega
     have e2:l=0:=by rcases b2 with⟨_,b2⟩|⟨k,n,e1,e2,e3,e4⟩<;>omega
     subst e1;subst e2;have hb:=yE (P:=P) (g:=g) (isS:=true) (len:=0) (cap:=0) b1 b2;exact⟨.slice none 0 0,by simp[Instr.sliceAt,Instr.slice,run_underlying hd,hb,sizeOf,typeInfo,hi],.nils⟩
    .cases h
   .cases h
  .cases h
 .rename_i e l' sz j len hd;split at h
  .rename_i hh eh;split at h
   .rename_i k el;split at h
    .rename_i s hs;split at h
     .rename_i es;cases h;simp only[tT,aF]at hs;obtain⟨i,hi,rfl⟩:=hs;cases hu with
      |osl _ _ _ _ b o cap h1 h2 h3 h4 h5=>
       have b1:=uL eh hhi;have b2:=uL el hlo;have b1':(vhi=none/\hh=len)\/∃k n,vhi=some (.int k n)/\0<=n/\n<=(cap:Int)/\n.toNat=hh:=by
        rcases b1 with b1|⟨k,n,e1,e2,e3,e4⟩
        .exact .inl b1
        .exact .inr ⟨k,n,e1,e2,by omega,e4⟩
       have hle:hh<=len:=by rcases b1 with⟨_,b1⟩|⟨k,n,e1,e2,e3,e4⟩<;>omega
       have hl:k<=hh:=by rcases b2 with⟨_,b2⟩|⟨k,n,e1,e2,e3,e4⟩<;>omega
       have hb:=yE (P:=P) (g:=g) (isS:=true) (len:=len) (cap:=cap) b1' b2;refine⟨.slice (some (if cap=k then⟨b,o,none⟩else⟨b,o+k*i.size,none⟩)) (hh-k) (cap-k),?_,?_⟩
       .simp only[Instr.sliceAt,Instr.slice,aO,run_underlying hd,aH,hb,sizeOf,typeInfo,run_program,hi,aW,bW,Addr.add_lit];split<;>rfl
       .by_cases hck:cap=k
        .rw[if_pos hck];refine .osl l' sz (j+k) (hh-k) b o (cap-k) h1 (by omega) (by omega) (fun q=> ?_) (fun q=> ?_)
         .have:j=0/\k=0:=by omega
          obtain⟨rfl,rfl⟩:=this;simpa using h4 (.inr rfl)
         .have:j=0/\k=0:=by omega
          obtain⟨rfl,rfl⟩:=this;simpa using h5 rfl
        .rw[if_neg hck,es];refine .osl l' sz (j+k) (hh-k) b (o+k*sz) (cap-k) h1 (by omega) (by omega) (fun q=> ?_) (fun q=> ?_)
         .have:=h4 (by omega);refine⟨this.1,?_⟩;rw[this.2,eS]
         .have:j=0/\k=0:=by omega
          obtain⟨rfl,rfl⟩:=this;simpa using h5 rfl
     .cases h
    .cases h
   .cases h
  .cases h
 .cases h
end
end Go.Ps
namespace Go.Ps
section
variable{P:fA}{g:G}
theorem Ca{t:eX}{x:T}(h:EN P t x=true){u:fP}(hu:Rd g u x)(e:Bool)(d:Nat):(Instr.checkKey e (d+1) t u).run P g.w= .ok () g.w:=by
 unfold EN at h;split at h
 .rename_i hd;cases hu;simp[Instr.checkKey,run_underlying hd]
 .rename_i hd;cases hu;simp[Instr.checkKey,run_underlying hd]
 .rename_i hd;cases hu;simp[Instr.checkKey,run_underlying hd]
 .cases h
theorem La{t:eX}{x:T}(h:EN P t x=true){cs:eY}{off:Nat}(hc:cs[off]? =some x):uB P t cs off=some x:=by
 unfold EN at h;unfold uB FL;split at h
 .rename_i hd;rw[hd];exact hc
 .rename_i hd;rw[hd];exact hc
 .rename_i hd;rw[hd];exact hc
 .cases h
theorem Kz{xs:eY}{us:fM}(hu:RdL g us xs)(e:Bool)(d:Nat):∀(fs:List Field),Wd P xs fs=true->
  (forIn fs PUnit.unit (fun f (_ :PUnit)=>if f.name≠ "_" then do
    let v<-part f.type us.toArray f.offset
    Instr.checkKey e (d+1) f.type v
    pure (ForInStep.yield PUnit.unit)
   else pure (ForInStep.yield PUnit.unit)):Sem PUnit).run P g.w= .ok PUnit.unit g.w
 |[],_ =>by simp
 |f::fs,h=>by
  simp only[Wd,aA]at h;obtain⟨h1,h2⟩:=h;split at h1
  .rename_i a ha;simp only[aA,bM,beq_eq_false_iff_ne]at h1;obtain⟨u,e1,r1⟩:=MS (La h1.2 ha) hu;have ih:=Kz hu e d fs h2;simp only[List.forIn_cons,aO,if_pos h1.1,e1,aH,Ca h1.2 r1 e d,aW];exact ih
  .cases h1
theorem Lb{t:eX}{x:T}(h:JB P t x=true){u:fP}(hu:Rd g u x)(e:Bool):(Instr.checkKey e 10000 t u).run P g.w= .ok () g.w:=by
 unfold JB at h;split at h
 .split at h
  .rename_i fs hd;simp only[aA,bM]at h;obtain⟨us,rfl,hu'⟩:=hu.inv_agg;have:=Kz hu' e 9998 fs.toList h.2;rw[Instr.checkKey];simp only[aO,run_underlying hd,aH];rw[<-Array.forIn_toList];simp only[Nat.reduceAdd]at this;rw[this];rfl
  .cases h
 .exact Ca h hu e 9999
theorem EZ{t:eX}{z:T}(h:wN P t=some z):∃v,(zeroValue t).run P g.w= .ok v g.w/\Rd g v z:=by
 unfold wN at h;split at h
 .rename_i i hi;split at h
  .rename_i v hv;exact⟨v,by simp[zeroValue,typeInfo,hi,hv],DK g h⟩
  .cases h
 .cases h
def wH(P:fA)(t:eX)(k:T)(ms:gG)(es:fQ)(i0:Nat):Option (Nat×Nat×T)->Option (Nat×Value)->Prop
 |none,none=>True|some (i,b,x),some (j,v)=>j=i/\i0<=i/\∃m k',ms[i-i0]? =some m/\es[i-i0]? =some (b,k',x)/\m.val=v/\eqK P t k k'=some true|_,_ =>False
theorem rH.inv_cons{m:MapEntry}{ms:gG}{t:Nat×T×T}{es:fQ}(h:rH g (m::ms) (t::es)):m.born=t.1/\Rd g m.key t.2.1/\Rd g m.val t.2.2/\rH g ms es:=by
 obtain⟨h1,h2,h3⟩:=h;simp only[cG,dW]at h1;obtain⟨a,b⟩:=h2.inv_cons;obtain⟨c,d⟩:=h3.inv_cons;exact⟨h1.1,a,c,h1.2,b,d⟩
theorem rH.len{ms:gG}{es:fQ}(h:rH g ms es):ms.length=es.length:=by have:=congrArg List.length h.1;simpa using this
abbrev jA:=Option (Nat×Value)
abbrev iJ:=Option (Nat×Nat×T)
theorem wH.up{t:eX}{k:T}{m:MapEntry}{ms:gG}{e:Nat×T×T}{es:fQ}{i0:Nat}{r:iJ}{q:jA}(h:wH P t k ms es (i0+1) r q):wH P t k (m::ms) (e::es) i0 r q:=by
 unfold wH at h⊢;split at h
 .trivial
 .rename_i i b x j v;obtain⟨h1,h2,m',k',h3,h4,h5,h6⟩:=h;refine⟨h1,by omega,m',k',?_,?_,h5,h6⟩
  .rw[show i-i0=(i-(i0+1))+1 by omega];exact h3
  .rw[show i-i0=(i-(i0+1))+1 by omega];exact h4
 .exact h.elim
theorem Ax{t:eX}{k:T}{u:fP}(hu:Rd g u k):∀(ms:gG) (es:fQ) (i:Nat) (r:iJ),CW P t k es i=some r->rH g ms es->
  ∃q,(Instr.findAsking t u ms i).run P g.w= .ok q g.w/\wH P t k ms es i r q
 |[],[],i,r,h,_ =>by simp only[CW,aD]at h;subst h;exact⟨none,by simp[Instr.findAsking],trivial⟩|[],e::es,_,_,_,hm=>by have:=hm.len;simp at this|m::ms,[],_,_,_,hm=>by have:=hm.len;simp at this
 |m::ms,(b,k',x)::es,i,r,h,hm=>by
  obtain⟨h1,h2,h3,h4⟩:=hm.inv_cons;simp only[CW]at h;split at h
  .rename_i he;cases h;have:=Fa he hu h2 9998;refine⟨some (i,m.val),?_,rfl,aZ _,m,k',by simp,by simp,rfl,he⟩;simp only[Instr.findAsking,aO,Op.equal,Op.maxDepth,this,aH,if_true,aW]
  .rename_i he;have:=Fa he hu h2 9998;obtain⟨q,e1,e2⟩:=Ax hu ms es (i+1) r h h4;refine⟨q,?_,e2.up⟩;simp only[Instr.findAsking,aO,Op.equal,Op.maxDepth,this,aH,bA,if_false,e1]
  .cases h
theorem XN{t:eX}{d:TypeDesc}(hd:P.underlying t=some d){k k':T}{b b':Bool}(h:eqK P t k k'=some b){u v:fP}(hu:Rd g u k)(hv:Rd g v k')(hs:Instr.sameNow d u v=some b'):b'=b:=by
 unfold eqK at h;split at h
 .obtain⟨us,rfl,_⟩:=hu.inv_agg;obtain⟨vs,rfl,_⟩:=hv.inv_agg;simp[Instr.sameNow]at hs
 .unfold eq1 at h;rw[hd]at h;split at h
  .have e1:=bQ ‹some d=some _›;subst e1;split at h
   .rename_i hk;cases h;subst hk;cases hu;cases hv;simp[Instr.sameNow]at hs;exact hs.symm
   .cases h
  .have e1:=bQ ‹some d=some _›;subst e1;cases h;obtain⟨a,rfl,rfl⟩:=hu.inv_str;obtain⟨c,rfl,rfl⟩:=hv.inv_str;simp only[Instr.sameNow,aD]at hs;rw[<-hs,beq_toListBytes,ByteArray.toList_eq,ByteArray.toList_eq]
  .have e1:=bQ ‹some d=some _›;subst e1;cases h;cases hu;cases hv;simp[Instr.sameNow]at hs;exact hs.symm
  .cases h
theorem aHu{t:eX}{d:TypeDesc}(hd:P.underlying t=some d){k:T}{u:fP}(hu:Rd g u k):∀(ms:gG) (es:fQ) (i:Nat) (r:iJ) (q:jA),CW P t k es i=some r->rH g ms es->
  Instr.findNow d u ms i=some q->wH P t k ms es i r q
 |[],[],i,r,q,h,_,hq=>by
  simp only[CW,aD]at h;subst h;simp only[Instr.findNow,aD]at hq;subst hq;trivial
 |[],e::es,_,_,_,_,hm,_ =>by have:=hm.len;simp at this|m::ms,[],_,_,_,_,hm,_ =>by have:=hm.len;simp at this
 |m::ms,(b,k',x)::es,i,r,q,h,hm,hq=>by
  obtain⟨h1,h2,h3,h4⟩:=hm.inv_cons;simp only[CW]at h;simp only[Instr.findNow]at hq;split at h
  .rename_i he;cases h;split at hq
   .cases hq;exact⟨rfl,aZ _,m,k',by simp,by simp,rfl,he⟩
   .rename_i hs;have:=XN hd he hu h2 hs;cases this
   .cases hq
  .rename_i he;split at hq
   .rename_i hs;have:=XN hd he hu h2 hs;cases this
   .exact(aHu hd hu ms es (i+1) r q h h4 hq).up
   .cases hq
  .cases h
theorem JT{t:eX}{d:TypeDesc}(hd:P.underlying t=some d){k:T}{u:fP}(hu:Rd g u k){ms:gG}{es:fQ}{r:iJ}(h:CW P t k es 0=some r)(hm:rH g ms es):
  ∃q,(Instr.findKey t u ms).run P g.w= .ok q g.w/\wH P t k ms es 0 r q:=by
 unfold Instr.findKey;simp only[aO,run_underlying hd,aH];split
 .rename_i q hq;exact⟨q,by simp,aHu hd hu ms es 0 r q h hm hq⟩
 .exact Ax hu ms es 0 r h hm
theorem Cb{t:eX}{x:T}(h:JB P t x=true):∃d,P.underlying t=some d:=by
 unfold JB EN at h;split at h
 .split at h
  .rename_i hd;exact⟨_,hd⟩
  .cases h
 .split at h<;>first|(cases h;done)|exact⟨_,by assumption⟩
theorem Uy{H:Hp}(hs:St g H){x:T}{es:fQ}(h:LT H x=some es){v:fP}(hv:Rd g v x):
  (v= .map none/\es=[])\/∃l ms c,v= .map (some (g.loc l))/\x= .mp l/\g.w.heap[g.loc l]? =some (.map ms c)/\rH g ms.toList es:=by
 unfold LT at h;split at h
 .cases h;cases hv;exact .inl ⟨rfl,rfl⟩
 .rename_i l;split at h
  .rename_i o ho;split at h
   .rename_i c es' hm;cases h;obtain⟨_,_,_,hb,ms,rfl,hr⟩:=hs.ownM l o _ ho hm;cases hv;exact .inr ⟨l,ms,c,rfl,rfl,hb,hr⟩
   .cases h
  .cases h
 .cases h
abbrev iM:=Array MapEntry
theorem qS{w:gI}{r:Nat}{ms:iM}{c:Nat}(h:w.heap[r]? =some (.map ms c)):(getObj r).run P w= .ok (.map ms c) w:=by
 simp only[getObj,Sem.run,h]
theorem aAc{H:Hp}(hs:St g H){t:eX}{x k r:T}{ok:Bool}(h:zY P H t x k ok=some r){u v:fP}(hv:Rd g v x)(hu:Rd g u k):
  ∃q,(Instr.lookup t v u ok).run P g.w= .ok q g.w/\Rd g q r:=by
 unfold zY at h;split at h
 .rename_i kt et hd;split at h
  .rename_i hk;split at h
   .rename_i es hes;obtain⟨d,hkd⟩:=Cb hk
    have key:∀(ms:iM),rH g ms.toList es->(Instr.lookup t v u ok).run P g.w=((do
      Instr.checkKey ms.isEmpty 10000 kt u
      let(v,o)<-match<-Instr.findKey kt u ms.toList with
       |some (_,v)=>pure (v,true)|none=>do pure (<-zeroValue et,false)
      pure (if ok then .tuple #[v,.bool o]else v)):Sem Value).run P g.w->
      ∃q,(Instr.lookup t v u ok).run P g.w= .ok q g.w/\Rd g q r:=by
     intro ms hm hrun;rw[hrun];simp only[aO,Lb hk hu,aH];split at h
     .rename_i i b y hf;cases h;obtain⟨q,e1,e2⟩:=JT hkd hu hf hm;unfold wH at e2;split at e2
      .rename_i e0;cases e0
      .rename_i i' b' x' j w hr;cases hr;obtain⟨_,_,m,k',h1,h2,h3,h4⟩:=e2;simp only[Nat.sub_zero]at h1 h2;have hval:Rd g w y:=by
        rw[<-h3];exact hm.2.2.2 i m.val y (by rw[aY,h1];rfl) (by rw[aY,h2];rfl)
       simp only[e1,aH,aW];cases ok with
       |true=>exact⟨_,rfl,Rd.mk_tup (vs:=[w,.bool true]) (RdL.cons hval (RdL.cons (.bool true) RdL.nil))⟩|false=>exact⟨_,rfl,hval⟩
      .exact e2.elim
     .rename_i hf;obtain⟨q,e1,e2⟩:=JT hkd hu hf hm;unfold wH at e2;split at e2
      .split at h
       .rename_i z hz;cases h;obtain⟨zv,hzv,hr⟩:=EZ (g:=g) hz;simp only[e1,aH,aO,hzv,aW];cases ok with
        |true=>exact⟨_,rfl,Rd.mk_tup (vs:=[zv,.bool false]) (RdL.cons hr (RdL.cons (.bool false) RdL.nil))⟩|false=>exact⟨_,rfl,hr⟩
       .cases h
      .rename_i hr;cases hr
      .exact e2.elim
     .cases h
    rcases Uy hs hes hv with⟨rfl,rfl⟩|⟨l,ms,c,rfl,rfl,hb,hm⟩
    .refine key #[] ⟨rfl,RdL.nil,RdL.nil⟩ ?_;simp only[Instr.lookup,aO,run_underlying hd,aH,aW];rfl
    .refine key ms hm ?_;simp only[Instr.lookup,aO,run_underlying hd,aH,qS hb,aW];rfl
   .cases h
  .cases h
 .cases h
theorem aOk{H:Hp}(hs:St g H){t:eX}{x r:T}(h:WC P H t x=some r){v:fP}(hv:Rd g v x)(tys:Array TypeId)(ht:tys[0]? =some t)(ty:eX):
  zX P t x=some r\/∃u,(Builtin.len_ tys ty #[v]).run P g.w= .ok u g.w/\Rd g u r:=by
 unfold WC at h;split at h
 .rename_i l;split at h
  .rename_i k e hd;split at h
   .rename_i es hes;cases h;rcases Uy hs hes hv with⟨e0,_⟩|⟨l',ms,c,rfl,e,hb,hm⟩
    .subst e0;cases hv
    .right;refine⟨.int .i64 ms.size,?_,?_⟩
     .simp[Builtin.len_,ht,run_underlying hd,qS hb,goInt]
     .have:=hm.len;rw[show(ms.size:Int)=(es.length:Int) by rw[<-this];simp];exact .int _ _
   .cases h
  .exact .inl h
 .exact .inl h
end
end Go.Ps
namespace Go.Ps
section
variable{P:fA}{g:G}
theorem RT(off:Nat):∀(l:fM) (k:Nat) (cs:fU),off+k+l.length<=cs.size->
  ((l.zipIdx k).foldl (fun(cs:fU) (p:Value×Nat)=>cs.setIfInBounds (off+p.2) p.1) cs).toList=cs.toList.take (off+k)++l++cs.toList.drop (off+k+l.length)
 |[],k,cs,_ =>by simp
 |c::l,k,cs,h=>by
  simp only[bL]at h;have hk:off+k<cs.toList.length:=by simp;omega
  rw[List.zipIdx_cons,List.foldl_cons,RT off l (k+1) _ (by simp;omega)];simp only[Array.toList_setIfInBounds,bL];rw[show off+(k+1)=off+k+1 by omega,show off+k+1+l.length=off+k+(l.length+1) by omega];rw[List.drop_set_of_lt (by omega)];rw[List.take_set,List.take_succ_eq_append_getElem hk];have:((cs.toList.take (off+k))++[cs.toList[off+k]]).set (off+k) c=cs.toList.take (off+k)++[c]:=by
   rw[List.set_append];have hl:(cs.toList.take (off+k)).length=off+k:=by simp at hk⊢;omega
   rw[if_neg (by omega),hl];simp
  rw[this];simp
theorem Ii(off:Nat)(vc cs:fU)(h:off+vc.size<=cs.size):
  (vc.zipIdx.foldl (fun(cs:fU) (p:Value×Nat)=>cs.setIfInBounds (off+p.2) p.1) cs).toList=cs.toList.take off++vc.toList++cs.toList.drop (off+vc.size):=by
 have:=RT off vc.toList 0 cs (by simpa using h);rw[<-Array.foldl_toList];simpa using this
def RdP(g:G):List (Nat×Value)->List (Nat×T)->Prop
 |[],[]=>True|(i,v)::vs,(j,t)::ts=>i=j/\Rd g v t/\RdP g vs ts|_,_ =>False
theorem ST{place:iL}:∀{ps:gN} {cs cs':eY},JA place cs ps=some cs'->∀{qs:List (Nat×Value)} {ca:fU},RdP g qs ps->RdL g ca.toList cs->
  ∃ca',Instr.fill place ca qs=some ca'/\RdL g ca'.toList cs'
 |[],cs,cs',h,qs,ca,hq,hc=>by
  simp[JA]at h;subst h;cases qs with
  |nil=>exact⟨ca,rfl,hc⟩|cons q qs=>simp[RdP]at hq
 |(i,t)::ps,cs,cs',h,[],ca,hq,hc=>by simp[RdP]at hq
 |(i,t)::ps,cs,cs',h,(i',v)::qs,ca,hq,hc=>by
  obtain⟨rfl,hv,hq⟩:=hq;simp only[JA]at h;split at h
  .cases h
  .rename_i off size hp;split at h
   .rename_i hcond;obtain⟨h1,h2⟩:=hcond;have hvc:=hv.cells;have e1:v.cells.size=size:=by rw[<-h1,<-hvc.1];simp
    have e2:ca.size=cs.length:=by rw[<-hc.1];simp
    have hle:off+v.cells.size<=ca.size:=by omega
    have hs:=Ii off v.cells ca hle;have hr:RdL g (v.cells.zipIdx.foldl (fun(cs:fU) (p:Value×Nat)=>cs.setIfInBounds (off+p.2) p.1) ca).toList (qT cs off t.cells):=by
     rw[hs];unfold qT;rw[h1,<-e1];exact((hc.take off).append hvc).append (hc.drop _)
    obtain⟨ca',h3,h4⟩:=ST h hq hr;refine⟨ca',?_,h4⟩;simp only[Instr.fill,hp];rw[if_neg (by simp[e1];omega)];exact h3
   .cases h
theorem Cm:∀{fs:List Field} {pl:List (Nat×Nat)},IJ P fs=some pl->(fs.mapM (fun f=>do pure (f.offset,<-sizeOf f.type)):Sem (List (Nat×Nat))).run P g.w= .ok pl g.w
 |[],pl,h=>by simp[IJ]at h;subst h;simp
 |f::fs,pl,h=>by
  simp only[IJ]at h;split at h
  .rename_i s hs;split at h
   .rename_i l hl;cases h;simp only[tT,aF]at hs;obtain⟨i,hi,rfl⟩:=hs;have ih:=Cm hl;simp only[List.mapM_cons,aO,sizeOf,typeInfo,run_program,aH,hi,aW];simp only[sizeOf,typeInfo]at ih;rw[ih];simp
   .cases h
  .cases h
theorem aDw{t:eX}{ps:gN}{r:T}(h:NT P t ps=some r){qs:List (Nat×Value)}(hq:RdP g qs ps):
  ∃q,(Instr.build t qs.toArray).run P g.w= .ok q g.w/\Rd g q r:=by
 unfold NT at h;split at h
 .rename_i z hz;obtain⟨v,hv,hr⟩:=EZ (g:=g) hz;split at h
  .rename_i fs hd;split at h
   .rename_i pl hpl;simp only[aF]at h;obtain⟨cs,hcs,rfl⟩:=h;obtain⟨ca,h1,h2⟩:=ST hcs hq hr.cells;have hp:=Cm (g:=g) hpl;refine⟨.agg ca,?_,by have:=Rd.mk_agg h2;simpa using this⟩;have hpa:(fs.mapM (fun f=>do pure (f.offset,<-sizeOf f.type)):Sem (Array (Nat×Nat))).run P g.w= .ok pl.toArray g.w:=by
     obtain⟨fl⟩:=fs;rw[dA];simp only[eH];simp only at hp;rw[hp];rfl
    have h1':Instr.fill (fun x=>pl.toArray[x]?) v.cells qs=some ca:=by simpa using h1
    simp only[Instr.build,aO,hv,aH,run_underlying hd,hpa,h1',aW]
   .cases h
  .rename_i n e hd;split at h
   .rename_i s hs;simp only[aF]at h;obtain⟨cs,hcs,rfl⟩:=h;simp only[tT,aF]at hs;obtain⟨i,hi,rfl⟩:=hs;obtain⟨ca,h1,h2⟩:=ST hcs hq hr.cells;refine⟨.agg ca,?_,by have:=Rd.mk_agg h2;simpa using this⟩;simp only[Instr.build,aO,hv,aH,run_underlying hd,sizeOf,typeInfo,run_program,hi,aW,h1]
   .cases h
  .cases h
 .cases h
theorem Dh{s:Nat}{ag:Bool}:∀{ps:gN} {xs xs':eY},HI s ag xs ps=some xs'->(∀x∈xs,x.cells.length=s)->
  JA (fun i=>some (i*s,s)) (xs.flatMap T.cells) ps=some (xs'.flatMap T.cells)/\(∀x∈xs',x.cells.length=s)/\xs'.length=xs.length
 |[],xs,xs',h,hs=>by simp[HI]at h;subst h;exact⟨rfl,hs,rfl⟩
 |(i,t)::ps,xs,xs',h,hs=>by
  simp only[HI]at h;split at h
  .rename_i hc;obtain⟨h1,h2,h3⟩:=hc;have hs':∀x∈xs.set i t,x.cells.length=s:=fun x hx=>by
    rcases List.mem_or_eq_of_mem_set hx with hx|rfl
    .exact hs x hx
    .exact h1
   obtain⟨a,b,c⟩:=Dh h hs';refine⟨?_,b,by simpa using c⟩;have hmul:i*s+s<=xs.length*s:=by rw[<-cJ];exact cI _ h3
   simp only[JA];rw[if_pos ⟨h1,by rw[rY hs];exact hmul⟩];rw[show qT (xs.flatMap T.cells) (i*s) t.cells=(xs.set i t).flatMap T.cells from ?_]
   .exact a
   .unfold qT;rw[List.set_eq_take_append_cons_drop,if_pos h3];simp only[dQ,bI,Br hs,Bq hs,h1,cJ,dB]
  .cases h
theorem Pl{z:T}{v:fP}(hz:Rd g v z){n s:Nat}(hs:z.cells.length=s)(h0:0<s):
  RdL g ((Array.range (n*s)).map (v.cells[· %v.cells.size]!)).toList ((List.replicate n z).flatMap T.cells):=by
 have hc:=hz.cells;have hv:v.cells.size=s:=by rw[<-hs,<-hc.1];simp
 have hall:∀x∈List.replicate n z,x.cells.length=s:=fun x hx=>by rw[(List.mem_replicate.1 hx).2];exact hs
 refine⟨by simp[rY hall],fun j u c hu hcc=> ?_⟩;have hj:j<n*s:=by
  have:=(aK.1 hcc).1;rw[rY hall]at this;simpa using this
 have hi:j/s<n:=(Nat.div_lt_iff_lt_mul h0).2 hj;have hr:j%s<s:=Nat.mod_lt _ h0;have hzj:z.cells[j%s]? =some (z.cells[j%s]'(by omega)):=aC _;have hx:(List.replicate n z)[j/s]? =some z:=by simp[hi]
 have h1:=EX hall hx (j%s) _ hzj;rw[show j/s*s+j%s=j by rw[Nat.mul_comm];exact Nat.div_add_mod j s]at h1;rw[hcc]at h1;cases h1;simp[hj]at hu;rw[hv]at hu;have hvj:v.cells.toList[j%s]? =some (v.cells[j%s]'(by omega)):=by simp
 rw[getElem!_pos v.cells (j%s) (by omega)]at hu;subst hu;exact hc.2 (j%s) _ _ hvj hzj
theorem IY{t:eX}{len:Nat}{ps:gN}{r:T}(h:rW P t len ps=some r){qs:List (Nat×Value)}(hq:RdP g qs ps):
  ∃(ca:fU) (e:eX),(Instr.buildSlice t len qs.toArray).run P g.w= .ok (.slice (some ⟨g.w.heap.size,0,none⟩) len len) (g.add (.cells ca e)).w/\
   Rd (g.add (.cells ca e)) (.slice (some ⟨g.w.heap.size,0,none⟩) len len) r/\
   ∃(xs:eY) (s:Nat),r= .sl true xs/\P.underlying t=some (.slice e)/\tT P e=some s/\0<s/\len*s<=65536/\(xs.flatMap T.cells).length=len*s/\RdL g ca.toList (xs.flatMap T.cells):=by
 unfold rW at h;split at h
 .rename_i e hd;split at h
  .rename_i s ag z hs hag hz;split at h
   .rename_i hc;obtain⟨h0,hsmall,hzl,hza⟩:=hc;simp only[aF]at h;obtain⟨xs,hxs,rfl⟩:=h;simp only[tT,aF]at hs;obtain⟨i,hi,rfl⟩:=hs;obtain⟨v,hv,hr⟩:=EZ (g:=g) hz;have hall:∀x∈List.replicate len z,x.cells.length=i.size:=fun x hx=>by rw[(List.mem_replicate.1 hx).2];exact hzl
    obtain⟨h1,h2,h3⟩:=Dh hxs hall;have hz0:=Pl hr (n:=len) hzl h0;obtain⟨ca,h4,h5⟩:=ST h1 hq hz0;have hlen:xs.length=len:=by simpa using h3
    refine⟨ca,e,?_,?_,xs,i.size,rfl,hd,by simp[tT,hi],h0,hsmall,by rw[rY h2,hlen],h5⟩
    .have hnot:¬(len*i.size>2^24):=by omega
     by_cases hl0:len*i.size=0
     .have hlen0:len=0:=by
       rcases Nat.eq_zero_or_pos len with q|q
       .exact q
       .have:=Nat.mul_pos q h0;omega
      subst hlen0;have e0:((Array.range 0).map (fun x=>v.cells[x%v.cells.size]!))= #[]:=by simp
      simp only[Nat.zero_mul,e0]at h4;simp[Instr.buildSlice,run_underlying hd,sizeOf,typeInfo,hi,h4,newRow,G.add,Array.range_zero']
     .simp only[Instr.buildSlice,aO,run_underlying hd,aH,sizeOf,typeInfo,run_program,hi,aW,if_neg hnot,if_neg hl0,hv,h4];simp[newRow,G.add]
    .have hst:=g.add_step (.cells ca e);have h5':=h5.pstep hst;rw[<-hlen];refine .sl true xs i.size g.w.heap.size 0 xs.length ca.toList (fun _ => .inr rfl) h2 (aZ _) ?_ (fun _ =>rfl) ?_ ?_ h5'.2
     .have:len<=len*i.size:=Nat.le_mul_of_pos_right _ h0;simp only[maxLen];omega
     .have:=h5.1;rw[rY h2]at this;simpa using this
     .intro j u hu;rw[bN,G.add_cell];simpa using hu
   .cases h
  .cases h
 .cases h
theorem aSs{x:T}{v:fP}(hv:Rd g v x)(e:eX):
  (Instr.box e v).run P g.w= .ok (.pointer (some ⟨g.w.heap.size,0,none⟩)) (g.add (.cells v.cells e)).w/\Rd (g.add (.cells v.cells e)) (.pointer (some ⟨g.w.heap.size,0,none⟩)) (.ref x 0):=by
 have hst:=g.add_step (.cells v.cells e);have hc:=(hv.pstep hst).cells;refine⟨by simp[Instr.box,newVar,newRow,G.add],?_⟩;exact .ref x 0 g.w.heap.size 0 v.cells.toList (.inr rfl) hc.1 (fun j u hu=>by rw[bN,G.add_cell];simpa using hu) hc.2
abbrev iH:=List Operand
theorem sY{gl:fD}{fr:eY}{a:Act}:∀{xs:iH} {ts:eY},pW gl fr xs=some ts->(∀x∈xs,∀t,pE gl fr x=some t->Rd g (a.eval x) t)->RdL g (xs.map a.eval) ts
 |[],ts,h,_ =>by simp[pW]at h;subst h;exact RdL.nil
 |x::xs,ts,h,hx=>by
  simp only[pW]at h;split at h
  .rename_i t ht;split at h
   .rename_i ts' hts;cases h;exact RdL.cons (hx x (by simp) t ht) (sY hts (fun y hy=>hx y (by simp[hy])))
   .cases h
  .cases h
abbrev jB:=List (Nat×Operand)
theorem MR{gl:fD}{fr:eY}{a:Act}:∀{xs:jB} {ts:gN},BA gl fr xs=some ts->
  (∀p∈xs,∀t,pE gl fr p.2=some t->Rd g (a.eval p.2) t)->RdP g (xs.map fun p=>(p.1,a.eval p.2)) ts
 |[],ts,h,_ =>by simp[BA]at h;subst h;trivial
 |(i,x)::xs,ts,h,hx=>by
  simp only[BA]at h;split at h
  .rename_i t ht;split at h
   .rename_i ts' hts;cases h;exact⟨rfl,hx (i,x) (by simp) t ht,MR hts (fun y hy=>hx y (by simp[hy]))⟩
   .cases h
  .cases h
theorem DH{f:fT}(h:tY P f=true)(args:fU):(callFunc f args).run P g.w= .ok (.enter f args) g.w:=by
 unfold tY at h;unfold callFunc;split at h
 .rename_i fn hf;simp only[aA,bM,Option.isSome_iff_ne_none]at h;obtain⟨h1,h2⟩:=h;have h3:fn.body.isNone=false:=by cases hb:fn.body<;>simp_all
  simp only[aO,run_program,aH,hf,h2,h3];simp
 .cases h
theorem qI(f:Operand->Value)(xs:Array Operand):xs.map f=(xs.toList.map f).toArray:=by
 cases xs;simp
theorem aDy{P:fA}{g:G}{a:Act}{dst:gQ}{s d type:eX}{pos:String}{after:Array Edge}{guard:Option (Nat×Bool)}{x:gF}(hg:qP g){t r:T}(h:Ek P s d t=some r)(hx:Rd g (a.eval x) t):
  POk P ⟨dst,.convert s d x,type,pos,after,guard⟩ a g r:=by
 unfold Ek at h;split at h
 .rename_i u1 e l hu1 hu2;split at h
  .rename_i he;split at h
   .rename_i hl;cases h;generalize hv:a.eval x=v at hx;cases hx with
    |str b=>
    have hrun:=Lib.run_convert_string_bytes g.w s d e b hu1 hu2 he;intro K Q hK;unfold Oper.wp;have hex:(execOp a.eval ⟨dst,.convert s d x,type,pos,after,guard⟩).run P g.w= .ok (.value (.slice (some ⟨g.w.heap.size,0,none⟩) b.size (grownCap g.w b.size 0 e))) (Lib.bytesWorld g.w e b):=by
     simp only[execOp,hv,aO,hrun,aH,aW]
    rw[hex]
    let g':G:={g with w:=Lib.bytesWorld g.w e b,S:=fun k=>g.S k\/k=g.w.heap.size}
    have hsz:=Lib.bytesWorld_size g.w e b;have hge:=grownCap_ge g.w b.size 0 e;have hbl:b.size=b.data.toList.length:=(cQ).symm;have hmx:=grownCap_le_maxLen g.w b.size 0 e (by simp only[maxLen];omega);refine hK _ g' ⟨rfl,?_,?_,by show _ <=(Lib.bytesWorld g.w e b).heap.size;omega,fun k hk=>Lib.bytesWorld_at_old g.w e b k hk,fun k hk=> .inl hk,fun k hk=> ?_,rfl,rfl,rfl⟩ ?_ ?_
    .simp[g',Lib.bytesWorld,World.freeze,World.alloc,World.drew,-World.alloc_eq,-World.drew_eq]
    .simp[g',Lib.bytesWorld,World.freeze,World.alloc,World.drew,-World.alloc_eq,-World.drew_eq]
    .rcases hk with hk|hk
     .exact .inl hk
     .exact .inr (by omega)
    .intro k hk;show k<(Lib.bytesWorld g.w e b).heap.size;rcases hk with hk|hk
     .have:=hg k hk;omega
     .omega
    .have hbs:b.size=(b.data.toList.map fun c=>T.int .u8 c.toNat).length:=by rw[dM];exact hbl
     generalize grownCap g.w b.size 0 e=cp at hge hmx⊢
     conv=>arg 2;rw[hbs]
     refine .sl false _ 1 g.w.heap.size 0 _ (b.data.toList.map fun c=>Value.int .u8 c.toNat) (fun _ => .inr rfl) (fun y hy=> ?_) (by rw[<-hbs];exact hge) hmx (fun q=>by cases q) (by simp) (fun j v hj=> ?_) (fun j v c hj hc=> ?_)
     .obtain⟨c,_,rfl⟩:=bU.1 hy;rfl
     .rw[aY]at hj;obtain⟨c,hc,rfl⟩:=aF.1 hj;have hlt:=(aK.1 hc).1;have:=Lib.bytesWorld_cell g.w e b j (by rw[hbl];exact hlt);rw[bN];show(Lib.bytesWorld g.w e b).cell? _ =_;rw[this,aX,hc];rfl
     .have hfl:((b.data.toList.map fun c=>T.int .u8 c.toNat).flatMap T.cells)=b.data.toList.map fun c=>T.int .u8 c.toNat:=by
       rw[eQ]
       induction b.data.toList with
       |nil=>rfl|cons z zs ih=>simp only[bI,cG,T.cells]at ih⊢;rw[ih];rfl
      rw[hfl]at hc;rw[aY]at hj hc;obtain⟨c1,h1,rfl⟩:=aF.1 hj;obtain⟨c2,h2,rfl⟩:=aF.1 hc;rw[h1]at h2;cases h2;exact .int _ _
   .cases h
  .cases h
 .cases h
theorem FX{E:tW}(hE:tP P E.gl E.pe)(hgl:GlOk E.gl g){own:Bool}{H:Hp}(hH:St g H)(hg:qP g){fr:eY}{a:Act}{o:Oper}{t:T}
  (h:oV P E own H fr o=some t) (hop:∀x∈o.op.operands,∀t,pE E.gl fr x=some t->Rd g (a.eval x) t):POk P o a g t:=by
 obtain⟨dst,op,type,pos,after,guard⟩:=o;cases op<;>simp only[oV]at h<;>simp only[Op.operands]at hop<;>try(cases h;done)
 case move x=>exact qR hg (by simp[execOp]) (hop x (by simp) t h)
 case assign x=>exact qR hg (by simp[execOp]) (hop x (by simp) t h)
 case pick c x y=>
  split at h
  .rename_i b hb;have hc:=(hop c (by simp) _ hb).inv_bool;cases b with
   |true=>exact qR hg (v:=a.eval x) (by simp[execOp,hc,asBool]) (hop x (by simp) t (by simpa using h))|false=>exact qR hg (v:=a.eval y) (by simp[execOp,hc,asBool]) (hop y (by simp) t (by simpa using h))
  .cases h
 case box e x=>
  split at h
  .cases h
  .simp only[aF]at h;obtain⟨y,hy,rfl⟩:=h;obtain⟨h1,h2⟩:=aSs (P:=P) (hop x (by simp) y hy) e;exact Cp hg (by simp only[execOp,aO,h1,aH,aW]) h2
 case build ty parts=>
  split at h
  .rename_i l hl;have hp:=MR (g:=g) (a:=a) hl (fun p hp t ht=>hop p.2 (by simp;exact⟨p.1,by simpa using hp⟩) t ht);obtain⟨q,h1,h2⟩:=aDw h hp;refine qR hg (v:=q) ?_ h2;have e:(parts.map fun x=>(x.1,a.eval x.2))=(parts.toList.map fun p=>(p.1,a.eval p.2)).toArray:=by cases parts;simp
   simp only[execOp,aO,e,h1,aH,aW]
  .cases h
 case buildSlice ty len parts=>
  split at h
  .cases h
  .split at h
   .rename_i l hl;have hp:=MR (g:=g) (a:=a) hl (fun p hp t ht=>hop p.2 (by simp;exact⟨p.1,by simpa using hp⟩) t ht);obtain⟨ca,e,h1,h2,_⟩:=IY h hp;refine Cp hg (ob:= .cells ca e) ?_ h2;have e:(parts.map fun x=>(x.1,a.eval x.2))=(parts.toList.map fun p=>(p.1,a.eval p.2)).toArray:=by cases parts;simp
    simp only[execOp,aO,e,h1,aH,aW]
   .cases h
 case load ty x=>
  split at h
  .rename_i p hp;obtain⟨u,h1,h2⟩:=Wm hH h (hop x (by simp) p hp);exact qR hg (by simp only[execOp,aO,h1,aH,aW]) h2
  .cases h
 case nilCheck x=>
  split at h
  .rename_i p hp;have hr:=hop x (by simp) p hp;unfold IG at h;split at h<;>cases h
   .refine qR hg (v:=a.eval x) ?_ hr;generalize hu:a.eval x=u at hr;cases hr;simp[execOp,hu]
   .refine qR hg (v:=a.eval x) ?_ hr;generalize hu:a.eval x=u at hr;cases hr;simp[execOp,hu]
   .refine qR hg (v:=a.eval x) ?_ hr;generalize hu:a.eval x=u at hr;cases hr;simp[execOp,hu]
   .refine qR hg (v:=a.eval x) ?_ hr;generalize hu:a.eval x=u at hr;cases hr;simp[execOp,hu]
  .cases h
 case binOp op ty x y ty'=>
  split at h
  .rename_i p q hp hq;split at h
   .rename_i hn;obtain⟨u,h1,h2⟩:=aSr (P:=P) h (hop x (by simp) p hp) (hop y (by simp) q hq) x y hn;refine qR hg (v:=u) ?_ h2;simp only[execOp,aO]at h1⊢;simp only[h1,aH,aW]
   .cases h
  .cases h
 case unOp op ty x=>
  split at h
  .rename_i p hp;obtain⟨u,h1,h2⟩:=bEu (P:=P) h (hop x (by simp) p hp);exact qR hg (by simp only[execOp,aO,h1,aH,aW]) h2
  .cases h
 case convert s d x=>
  split at h
  .rename_i p hp;unfold UN at h;split at h
   .rename_i r hr;cases h;obtain⟨u,h1,h2⟩:=aMh (P:=P) hr (hop x (by simp) p hp);exact qR hg (by simp only[execOp,aO,h1,aH,aW]) h2
   .exact aDy hg h (hop x (by simp) p hp)
  .cases h
 case makeFunc f first captured=>
  split at h
  .rename_i p q hp hq;cases h;have h1:=sY (g:=g) (a:=a) hp (fun x hx=>hop x (by simp at hx;simp[hx]));have h2:=sY (g:=g) (a:=a) hq (fun x hx=>hop x (by simp at hx;simp[hx]));exact qR hg (by simp only[execOp,aO,Instr.makeFunc,qI,aW,aH]) (Rd.mk_fn h1 h2)
  .cases h
 case slice ty x lo hi mx=>
  cases mx with
  |some m=>cases h
  |none=>
   simp only at h;split at h
   .rename_i p hp;split at h
    .rename_i l hh hl hhi;have hlo:RdO g (lo.map a.eval) l:=by
      cases lo with
      |none=>simp[IX]at hl;subst hl;trivial
      |some y=>
       simp only[IX]at hl;split at hl
       .rename_i z hz;cases hl;exact hop y (by simp) z hz
       .cases hl
     have hhi':RdO g (hi.map a.eval) hh:=by
      cases hi with
      |none=>simp[IX]at hhi;subst hhi;trivial
      |some y=>
       simp only[IX]at hhi;split at hhi
       .rename_i z hz;cases hhi;exact hop y (by simp) z hz
       .cases hhi
     obtain⟨u,h1,h2⟩:=aJr (P:=P) h (hop x (by simp) p hp) hlo hhi';exact qR hg (by simp only[execOp,aO,Option.map_none,h1,aH,aW]) h2
    .cases h
   .cases h
 case fieldAddr s x f=>
  split at h
  .rename_i p hp;obtain⟨u,h1,h2⟩:=Fg (P:=P) h (hop x (by simp) p hp);exact qR hg (by simp only[execOp,aO,h1,aH,aW]) h2
  .cases h
 case field ty x f=>
  split at h
  .rename_i cs hp;split at h
   .rename_i fd hfd;unfold FY at hfd;split at hfd
    .rename_i fs hd;obtain⟨vs,hv,hr⟩:=(hop x (by simp) _ hp).inv_agg;obtain⟨u,h1,h2⟩:=MS (P:=P) h hr;exact qR hg (v:=u) (by simp only[execOp,Instr.field,aO,run_underlying hd,aH,hfd,hv,asAgg,aW,h1]) h2
    .cases hfd
   .cases h
  .cases h
 case indexAddr ty x i=>
  split at h
  .rename_i p q hp hq;obtain⟨u,h1,h2⟩:=Fv (P:=P) h (hop x (by simp) p hp) (hop i (by simp) q hq);exact qR hg (by simp only[execOp,aO,h1,aH,aW]) h2
  .cases h
 case index ty x i=>
  split at h
  .rename_i p q hp hq;obtain⟨u,h1,h2⟩:=aGn (P:=P) h (hop x (by simp) p hp) (hop i (by simp) q hq);exact qR hg (by simp only[execOp,aO,h1,aH,aW]) h2
  .cases h
 case lookup ty x i ok=>
  split at h
  .rename_i p q hp hq;obtain⟨u,h1,h2⟩:=aAc (P:=P) hH h (hop x (by simp) p hp) (hop i (by simp) q hq);exact qR hg (by simp only[execOp,aO,h1,aH,aW]) h2
  .cases h
 case extract x i=>
  split at h
  .rename_i cs hp;obtain⟨vs,hv,hr⟩:=(hop x (by simp) _ hp).inv_tup;obtain⟨u,h1,h2⟩:=hr.at_ h;exact qR hg (v:=u) (by simp[execOp,Instr.extract,hv,h1]) h2
  .cases h
 case call c=>
  obtain⟨callee,args,tys⟩:=c;unfold uN at h;cases callee with
  |invoke r m=>cases h
  |value f=>
   simp only[Call.operands]at hop;simp only at h;split at h
   .rename_i k first cap hf
    split at h
    .rename_i ars has;obtain⟨vs,us,hv,hr1,hr2⟩:=(hop f (by simp) _ hf).inv_fn;have h3:=sY (g:=g) (a:=a) has (fun x hx=>hop x (by simp at hx;simp[hx]));obtain⟨hk,hc⟩:=hE H k _ t h;have hcall:=hc g _ hg hH hgl ((hr1.append h3).append hr2);intro K Q hK;have hrun:(execOp a.eval {dst,op:= .call ⟨.value f,args,tys⟩,type,pos,after,guard}).run P g.w= .ok (.enter k (vs++args.toList.map a.eval++us).toArray) g.w:=by
      simp only[execOp,resolve,hv,Deferred.ofValue,aO,aW,aH,invoke,qI];rw[DH hk];simp
     unfold Oper.wp;rw[hrun];exact hcall.mono fun e w' ⟨v,g',he,hw,hst,hok,hrd⟩=>by
      subst he;subst hw;exact hK v g' hst hok hrd
    .cases h
   .cases h
  |builtin b=>
   simp only[Call.operands]at hop;cases b<;>try(cases h;done)
   case len=>
    simp only at h;split at h
    .rename_i x t0 ts hx hts;split at h
     .rename_i p hp
      have hr := hop x (by have:x∈args.toList:=by rw[hx];simp
                           simpa using this) p hp
      have e1:args.map a.eval= #[a.eval x]:=by rw[qI,hx];rfl
      have e2:tys[0]? =some t0:=by rw[<-eL,hts];rfl
      obtain⟨u,h1,h2⟩:∃u,(Builtin.len_ tys type #[a.eval x]).run P g.w= .ok u g.w/\Rd g u t:=by
       rcases aOk hH h hr tys e2 type with h|h
       .exact aUn (P:=P) h hr tys e2 type
       .exact h
      exact qR hg (v:=u) (by simp only[execOp,resolve,aO,aW,aH,invoke,builtin,e1,h1]) h2
     .cases h
    .cases h
   case min=>
    simp only at h;split at h
    .rename_i x r hx;have h3:=sY (g:=g) (a:=a) hx (fun x hx=>hop x (by simpa using hx));cases hl:args.toList.map a.eval with
     |nil=>rw[hl]at h3;simp[RdL]at h3
     |cons v vs=>
      rw[hl]at h3;obtain⟨h4,h5⟩:=h3.inv_cons;obtain⟨u,h1,h2⟩:=LZ (P:=P) h h4 h5;refine qR hg (v:=u) ?_ h2;simp only[execOp,resolve,aO,aW,aH,invoke,builtin,qI,hl,Builtin.min_,h1]
    .cases h
   case max=>
    simp only at h;split at h
    .rename_i x r hx;have h3:=sY (g:=g) (a:=a) hx (fun x hx=>hop x (by simpa using hx));cases hl:args.toList.map a.eval with
     |nil=>rw[hl]at h3;simp[RdL]at h3
     |cons v vs=>
      rw[hl]at h3;obtain⟨h4,h5⟩:=h3.inv_cons;obtain⟨u,h1,h2⟩:=LY (P:=P) h h4 h5;refine qR hg (v:=u) ?_ h2;simp only[execOp,resolve,aO,aW,aH,invoke,builtin,qI,hl,Builtin.max_,h1]
    .cases h
end
end Go.Ps
namespace Go.Ps
noncomputable section
structure Fc where
 own:Tmp->Bool
 ed:FuncId->List T->Hp->Option (T×Hp×List Bool)
def oQ:List Bool->Bool
 |[]=>true|c::cs=>c&&oQ cs
def aBw:Option (T×Hp)->Option (T×Hp×List Bool)
 |some (v,H')=>some (v,H',[])|none=>none
def Fc.ee(F:Fc)(f:fT)(ts:eY)(H:Hp):Option (T×Hp):=
 match F.ed f ts H with
 |some (r,H',cs)=>if oQ cs then some (r,H')else none
 |none=>none
structure Fx where
 fr:List T
 H:Hp
 pend:Option (Tmp×TypeId)
def uW(F:Fc)(o:Oper):Bool:=
 match o.dst with
 |some d=>F.own d|none=>false
def sT(ops:fC)(o:Oper)(d:Tmp):Bool:=(o.looksAt ops).contains d||o.dst==some d
def pY:List T->Bool
 |[]=>true|t::ts=>t.one&&pY ts
def tK(P:fA)(H:Hp)(t:eX)(p x:T):Option Hp:=
 match p with
 | .ptr l off=>match H.get l,tT P t with
  |some o,some n=>if x.cells.length=n/\off+n<=o.cells.length/\pY x.cells=true then some (H.put l {o with cells:=qT o.cells off x.cells})else none
  |_,_ =>none
 |_ =>none
def rA(H:Hp):T->Option (List T)
 | .nils=>some []| .sl _ xs=>some (xs.flatMap T.cells)| .slf _ n f=>some ((List.range n).flatMap fun i=>(f i).cells)
 | .osl l sz i len=>match H.get l with
  |some o=>if(i+len)*sz<=o.cells.length then some ((o.cells.drop (i*sz)).take (len*sz))else none
  |none=>none
 | .str s=>some (s.map fun b=> .int .u8 b.toNat)|_ =>none
def wV:T->Option Nat
 | .nils=>some 0| .sl _ xs=>some xs.length| .slf _ n _ =>some n| .osl _ _ _ len=>some len| .str s=>some s.length|_ =>none
def yC(P:fA)(tx:eX)(sz:Nat)(x:T):Bool:=
 match P.underlying tx,x with
 |some (.slice _),.nils|some (.slice _),.sl .. |some (.slice _),.slf .. =>true|some (.slice _),.osl _ sz' _ _ =>sz'==sz|some .string,.str _ =>sz==1|_,_ =>false
def zP(m bytes:Nat):Bool:=decide (m*bytes<=70368744177664)&&decide (m<=70368744177664)
def rT(P:fA)(H:Hp)(t tx:eX)(s x:T):Option (T×Hp):=
 match P.underlying t with
 |some (.slice e)=>
  match P.info? e,rA H x,wV x with
  |some i,some new,some m=>
   if i.size=0\/new.length≠m*i.size\/pY new=false\/(i.zero.map fun z=>z.cells.size)≠some i.size\/yC P tx i.size x=false then none else
   match s with
   | .nils=>if m=0 then some (.nils,H)else if zP m i.bytes then
     some (.osl H.next i.size 0 m,H.new {elem:=e,sz:=i.size,cells:=new})else none
   | .sl true xs=>if m=0 then some (.sl true xs,H)else if zP (xs.length+m) i.bytes&&GL i.size xs then
     some (.osl H.next i.size 0 (xs.length+m),H.new {elem:=e,sz:=i.size,cells:=xs.flatMap T.cells++new})else none
   | .osl l sz' 0 len=>if m=0 then some (.osl l sz' 0 len,H)else match H.get l with
    | some o=>if sz'=i.size/\o.sz=i.size/\o.elem=e/\o.cells.length=len*i.size/\zP (len+m) i.bytes=true then
      some (.osl H.next i.size 0 (len+m),(H.drop l).new {elem:=e,sz:=i.size,cells:=o.cells++new})else none
    |none=>none
   |_ =>none
  |_,_,_ =>none
 |_ =>none
def aWq:T->Option (List T)
 | .sl _ xs=>some xs| .slf _ n f=>some ((List.range n).map f)|_ =>none
def BN(P:fA)(H:Hp)(t tx:eX)(s x:T):Option (T×Hp):=
 match P.underlying t,s,aWq x with
 |some (.slice e),.nils,some xs=>match P.info? e with
  |some i=>if i.size=0\/xs.isEmpty=true\/(xs.all fun y=>Nat.beq y.cells.length i.size)=false\/pY (xs.flatMap T.cells)=false\/(i.zero.map fun z=>z.cells.size)≠some i.size\/yC P tx i.size x=false\/zP xs.length i.bytes=false then none
   else some (.sl false xs,H)
  |none=>none
 |_,_,_ =>none
abbrev fX:=Tmp->Bool
def EW(own:fX):Option Tmp->Bool
 |some d=>own (7000000+d)&& !(own (8000000+d))|none=>false
def NS(P:fA)(pa:Bool)(H:Hp)(t tx:eX)(s x:T):Option (T×Hp):=if pa then BN P H t tx s x else rT P H t tx s x
def rC(P:fA)(H:Hp)(t:eX)(l c:T):Option (T×Hp):=
 match P.underlying t,l,c with
 |some (.slice e),.int .i64 n,.int .i64 m=>
  match tT P e,(P.info? e).map (·.bytes),wN P e with
  | some sz,some bytes,some z=>if 0<sz/\z.cells.length=sz/\0<=n/\n=m/\n.toNat*bytes<=70368744177664/\n<=70368744177664 then
    some (.osl H.next sz 0 n.toNat,H.new {elem:=e,sz:=sz,cells:=(List.replicate n.toNat z).flatMap T.cells})else none
  |_,_,_ =>none
 |_,_,_ =>none
def Ie(k x:T):List (Nat×T×T)->Nat->List (Nat×T×T)
 |[],_ =>[]|(b,_,_)::r,0=>(b,k,x)::r|e::r,i+1=>e::Ie k x r i
def Hw:T->T->Bool
 | .int k a,.int k' b=>decide (k=k')&&a==b| .str a,.str b=>a==b| .bool a,.bool b=>a==b|_,_ =>false
def Hy:List T->List T->Bool
 |[],[]=>true|x::xs,y::ys=>Hw x y&&Hy xs ys|_,_ =>false
def Xl:T->T->Bool
 | .agg xs,.agg ys=>Hy xs ys|x,y=>Hw x y
def Hu:List (Nat×T×T)->Nat->T->Bool
 |[],_,_ =>false|(_,k',_)::_,0,k=>Xl k' k|_ ::r,i+1,k=>Hu r i k
def putM(H:Hp)(l:Nat)(o:Ob)(c:Nat)(es:fQ):Hp:=H.put l {o with me:=some (.map c es)}
def JI(P:fA)(H:Hp)(t:eX)(m k:T):Option (Nat×Ob×Nat×List (Nat×T×T)×TypeId×Option (Nat×Nat×T)):=
 match P.underlying t with
 |some (.map kt et)=>match m with
  | .mp l=>match H.any l with
   |some o=>match o.me with
    | some (.map c es)=>if JB P kt k then match CW P kt k es 0 with
      |some r=>some (l,o,c,es,et,r)|none=>none
     else none
    |_ =>none
   |none=>none
  |_ =>none
 |_ =>none
def YI(P:fA)(H:Hp)(t:eX)(m k x:T):Option Hp:=
 match JI P H t m k with
 |some (l,o,c,es,_,some (i,_,_))=>if Hu es i k then some (putM H l o c (Ie k x es i))else none
 |some (l,o,c,es,_,none)=>some (putM H l o (c+1) (es++[(c,k,x)]))|none=>none
def ED(P:fA)(H:Hp)(t:eX)(m k:T):Option (T×Hp):=
 match JI P H t m k with
 |some (l,o,c,es,_,some (i,b,v))=>if Hu es i k then some (.tup [v,.int .i64 b],putM H l o c (Ie k v es i))else none
 |some (l,o,c,es,et,none)=>match wN P et with
  |some z=>some (.tup [z,.int .i64 c],putM H l o (c+1) (es++[(c,k,z)]))|none=>none
 |none=>none
def Vi(b:Int):List (Nat×T×T)->Nat->Option (Nat×T)
 |[],_ =>none|(c,k,_)::r,i=>if(c:Int)==b then some (i,k)else Vi b r (i+1)
def sL(H:Hp)(m s x:T):Option Hp:=
 match m,s with
 | .mp l,.int _ b=>match H.any l with
  |some o=>match o.me with
   |some (.map c es)=>match Vi b es 0 with
    |some (i,k)=>some (putM H l o c (Ie k x es i))|none=>none
   |_ =>none
  |none=>none
 |_,_ =>none
def Er(P:fA)(H:Hp)(t:eX)(m k:T):Option Hp:=
 match JI P H t m k with
 |some (l,o,c,es,_,some (i,_,_))=>some (putM H l o c (es.eraseIdx i))|some (l,o,c,es,_,none)=>some (putM H l o c es)|none=>none
def VO(P:fA)(t:eX):Option T->Bool
 |none=>true
 |some (.int ..)=>match P.underlying t with
  |some (.map ..)=>true|_ =>false
 |some _ =>false
def rO(P:fA)(E:tW)(F:Fc)(H:Hp)(fr:eY)(o:Oper):Option (T×Hp):=
 let ev:=pE E.gl fr
 match o.op with
 | .alloc t=>match wN P t with
  |some z=>some (.ptr H.next 0,H.new {elem:=t,sz:=0,cells:=z.cells})|none=>none
 | .box t x=>match ev x with
  |some y=>some (.ptr H.next 0,H.new {elem:=t,sz:=0,cells:=y.cells})|none=>none
 | .buildSlice t len parts=>match BA E.gl fr parts.toList with
  |some l=>match P.underlying t,rW P t len l with
   |some (.slice e),some (.sl _ xs)=>match tT P e with
    |some s=>some (.osl H.next s 0 len,H.new {elem:=e,sz:=s,cells:=xs.flatMap T.cells})|none=>none
   |_,_ =>none
  |none=>none
 | .store t p x=>match ev p,ev x with
  |some q,some y=>match tK P H t q y with
   |some H'=>some (oL,H')|none=>none
  |_,_ =>none
 | .makeSlice t l c=>match ev l,ev c with
  |some n,some m=>rC P H t n m|_,_ =>none
 | .makeMap t r=>match IX ev r with
  |some h=>if VO P t h then some (.mp H.next,H.new {elem:=t,sz:=0,cells:=[],me:=some (.map 0 [])})else none
  |none=>none
 | .mapUpdate t m k x| .insert t m k x=>match ev m,ev k,ev x with
  |some a,some b,some v=>match YI P H t a b v with
   |some H'=>some (oL,H')|none=>none
  |_,_,_ =>none
 | .mapEntry t m k=>match ev m,ev k with
  |some a,some b=>ED P H t a b|_,_ =>none
 | .entryStore _ m s x=>match ev m,ev s,ev x with
  |some a,some b,some v=>match sL H a b v with
   |some H'=>some (oL,H')|none=>none
  |_,_,_ =>none
 | .call c=>match c.callee with
  | .value f=>match ev f with
   |some (.fn (.func g) first cap)=>match pW E.gl fr c.args.toList with
    |some ars=>F.ee g (first++ars++cap) H
    |none=>none
   |_ =>none
  | .builtin .delete=>match c.args.toList,c.argTypes.toList with
   |[m,k],t::_ =>match ev m,ev k with
    |some a,some b=>match Er P H t a b with
     |some H'=>some (oL,H')|none=>none
    |_,_ =>none
   |_,_ =>none
  | .builtin .append=>match c.args.toList,c.argTypes.toList with
   |[s,x],[t,t']=>match ev s,ev x with
    |some a,some b=>NS P (EW F.own o.dst) H t t' a b|_,_ =>none
   |_,_ =>none
  |_ =>none
 |_ =>none
def ER:Operand->Tmp->Bool
 | .tmp y,d=>y !=d|_,_ =>true
def rS(F:Fc)(o:Oper):Option (Tmp×TypeId):=
 match o.op with
 | .alloc t=>match o.dst with
  |some d=>if F.own d then none else some (d,t)
  |none=>none
 |_ =>none
def rV(P:fA)(E:tW)(F:Fc)(ops:fC)(s:Fx)(o:Oper):Option Fx:=
 if oW ops s.fr o then
  match oV P E (uW F o) s.H s.fr o with
  |some v=>some {s with fr:=pP s.fr o.dst v}
  |none=>
   match rS F o with
   |some (d,t)=>if s.pend.isSome then none else match tT P t,wN P t with
    |some n,some z=>if z.cells.length=n/\d<s.fr.length then some {s with fr:=s.fr.set d oL,pend:=some (d,t)}else none
    |_,_ =>none
   |none=>match rO P E F s.H s.fr o with
    |some (v,H')=>some {s with fr:=pP s.fr o.dst v,H:=H'}
    |none=>none
 else some {s with fr:=pP s.fr o.dst oL}
def RM(F:Fc)(s:Fx)(d:Tmp)(t:eX)(y:T):Fx:=
 if F.own (d+1000)then{fr:=s.fr.set d (.ptr s.H.next 0),H:=s.H.new {elem:=t,sz:=0,cells:=y.cells},pend:=none}else{s with fr:=s.fr.set d (.ref y 0),pend:=none}
def qU(P:fA)(E:tW)(F:Fc)(ops:fC)(s:Fx)(o:Oper):Option Fx:=
 match s.pend with
 |none=>rV P E F ops s o
 |some (d,t)=>
  match o.op,o.dst,o.guard with
  | .store t' (.tmp d') x,none,none=>
   if d'=d then
    if t'=t/\ER x d=true then
     match pE E.gl s.fr x,tT P t with
     |some y,some n=>if y.cells.length=n/\pY y.cells=true then some (RM F s d t y)else none
     |_,_ =>none
    else none
   else if sT ops o d then none else rV P E F ops s o
  |_,_,_ =>if sT ops o d then none else rV P E F ops s o
def pL(P:fA)(E:tW)(F:Fc)(ops:fC):List Oper->Fx->Option Fx
 |[],s=>some s
 |o::rest,s=>match qU P E F ops s o with
  |some s'=>pL P E F ops rest s'|none=>none
def wP(acc:fN)(o:Oper):Nat:=o.after.toList.foldl (fun s e=>if Region.binds .any e then s|||(2^e.on|||acc.getD e.on 0)else s) 0
def rF:List Oper->List Nat->List Nat
 |[],acc=>acc|o::os,acc=>rF os (acc++[wP acc o])
def tG(A:fN)(i j:Nat):Bool:=(A.getD i 0).testBit j
def xU(ops:fC)(o:Oper):List Tmp:=o.dst.toList++o.looksAt ops
def Tk(ops:fC)(A:fN):Bool:=
 ops.toList.zipIdx.all fun p=>ops.toList.zipIdx.all fun q=>
  p.2==q.2||(match q.1.dst with
   |some d=> !(xU ops p.1).contains d||(if q.2<p.2 then tG A p.2 q.2 else tG A q.2 p.2)
   |none=>true)
def CS(ops:fC):Bool:=ops.toList.zipIdx.all fun p=>p.1.after.toList.all fun e=> !Region.binds .any e||decide (e.on<p.2)
def uU(ops:fC):Bool:=CS ops&&Region.noSelect ops&&Tk ops (rF ops.toList [])
def qA(A:fN)(m n:Nat):Bool:=(List.range' m (n-m)).all fun i=>(List.range i).all fun j=>tG A i j
def yU(ops:fC)(s:Fx)(o:Oper):Bool:=
 match s.pend with
 |some (d,_)=>sT ops o d|none=>false
def uM(s:Fx)(o:Oper):Bool:=
 match o.dst with
 |some d=>decide (d<s.fr.length)|none=>true
def pK(P:fA)(E:tW)(F:Fc)(ops:fC):List Oper->Nat->Fx->Option Fx
 |[],_,s=>match s.pend with
  |none=>some s|some _ =>none
 |o::rest,m,s=>
  if yU ops s o then
   if qA (rF ops.toList []) m ops.size then pL P E F ops (o::rest) s else none
  else if uM s o=false then none
  else if oW ops s.fr o then
   match oV P E (uW F o) s.H s.fr o with
   |some v=>pK P E F ops rest (m+1) {s with fr:=pP s.fr o.dst v}
   |none=>match rS F o with
    |some (d,t)=>if s.pend.isSome then none else match tT P t,wN P t with
     |some n,some z=>if z.cells.length=n then pK P E F ops rest (m+1) {s with fr:=s.fr.set d oL,pend:=some (d,t)}else none
     |_,_ =>none
    |none=>if qA (rF ops.toList []) m ops.size then pL P E F ops (o::rest) s else none
  else pK P E F ops rest (m+1) {s with fr:=pP s.fr o.dst oL}
def MC(o:Oper):Bool:=
 match o.op,o.dst,o.guard with
 | .store ..,none,none=>true|_,_,_ =>false
def sZ:List Oper->Nat->Option Nat
 |[],_ =>none|o::r,k=>if MC o then some k else sZ r (k+1)
def Rn(ops:fC):Bool:=
 match sZ ops.toList 0 with
 |some p=> !(qA (rF ops.toList []) p ops.size)|none=>false
def aMq(ops:fC)(t:Tmp):Bool:=ops.toList.any fun o=>o.dst==some t
def aIy(ops:fC):Nat->Tmp->Option Tmp
 |0,_ =>none
 | k+1,x=>if aMq ops x then match ops.toList.find? fun o=>o.dst==some x with
   |some o=>match o.op with
    | .fieldAddr _ (.tmp y) _ | .indexAddr _ (.tmp y) _ | .move (.tmp y)=>aIy ops k y|_ =>none
   |none=>none
  else some x
def Dt(ops:fC):Option Tmp:=
 match sZ ops.toList 0 with
 |some p=>match ops[p]? with
  |some q=>match q.op with
   | .store _ (.tmp x) _ =>aIy ops 5 x|_ =>none
  |none=>none
 |none=>none
def bCx:T->Option Nat
 | .ptr l _ | .osl l _ _ _ =>some l|_ =>none
def hOk(gl:fD)(l:Nat)(fr:eY)(o:Oper):Bool:=
 match o.op with
 | .load _ a=>match pE gl fr a with
  |some (.ref ..)=>true|some (.ptr l' _)=>l' !=l|_ =>false
 | .call c=>match c.callee with
  | .builtin .len=>c.args.toList.all fun x=>match pE gl fr x with
   |some (.mp _)=>false|_ =>true
  | .builtin _ =>true|_ =>false
 | .lookup .. =>false|_ =>true
def rP(P:fA)(E:tW)(F:Fc)(ops:fC)(A:fN)(p l:Nat):List Oper->Nat->Bool->Fx->Option Fx
 |[],_,af,s=>if af then some s else none
 |o::rest,m,af,s=>
  if(af&&qA A m ops.size)=true then pL P E F ops (o::rest) s
  else if uM s o=false then none
  else if MC o then(if af then none else match o.op with
   | .store t x y=>match pE E.gl s.fr x,pE E.gl s.fr y with
    | some (.ptr l' off),some v=>if l'=l then match tK P s.H t (.ptr l' off) v with
      |some H'=>rP P E F ops A p l rest (m+1) true {s with H:=H'}
      |none=>none
     else none
    |_,_ =>none
   |_ =>none)
  else if oW ops s.fr o then
   if(if af then tG A m p else tG A p m)||hOk E.gl l s.fr o then match oV P E (uW F o) s.H s.fr o with
    |some v=>rP P E F ops A p l rest (m+1) af {s with fr:=pP s.fr o.dst v}
    |none=>none
   else none
  else rP P E F ops A p l rest (m+1) af {s with fr:=pP s.fr o.dst oL}
def qK(P:fA)(E:tW)(F:Fc)(ops:fC)(fr:eY)(H:Hp):Option Fx:=
 if Rn ops then match Dt ops,sZ ops.toList 0 with
  |some b,some p=>match bCx (qW fr b)with
   |some l=>rP P E F ops (rF ops.toList []) p l ops.toList 0 false ⟨fr,H,none⟩|none=>none
  |_,_ =>none
 else pK P E F ops ops.toList 0 ⟨fr,H,none⟩
inductive X where
 |normal
 |exit (id:Nat)
 |ret
def oP(P:fA)(E:tW)(F:Fc)(n:Nat):Code->List T->Hp->Option (X×List T×Hp)
 | .skip,fr,H| .label _,fr,H=>some (.normal,fr,H)
 | .region _ ops draw,fr,H=>
  match(if draw then qK P E F ops fr H else pL P E F ops ops.toList ⟨fr,H,none⟩)with
  |some ⟨fr',H',none⟩=>some (.normal,fr',H')|_ =>none
 | .seq a b,fr,H=>match oP P E F n a fr H with
  |some (.normal,fr',H')=>oP P E F n b fr' H'|r=>r
 | .cond c a b,fr,H=>match pE E.gl fr c with
  |some (.bool t)=>if t then oP P E F n a fr H else oP P E F n b fr H
  |_ =>none
 | .block id c,fr,H=>match oP P E F n c fr H with
  |some (.exit id',fr',H')=>if id'=id then some (.normal,fr',H')else some (.exit id',fr',H')
  |r=>r
 | .loop c,fr,H=>loopN (fun fr H=>oP P E F n c fr H) n fr H| .scope c,fr,H=>oP P E F n c fr H| .exit id,fr,H=>some (.exit id,fr,H)| .ret,fr,H=>some (.ret,fr,H)|_,_,_ =>none
 where
 loopN (f:List T->Hp->Option (X×List T×Hp)):Nat->List T->Hp->Option (X×List T×Hp)
  |0,_,_ =>none
  |k+1,fr,H=>match f fr H with
   |some (.normal,fr',H')=>loopN f k fr' H'|r=>r
def ZO(P:fA)(fr:eY)(H:Hp):ResultVar->Option T
 | .tmp t=>some (qW fr t)| .cell a t=>tX P H t (qW fr a)
def rL(P:fA)(fr:eY)(H:Hp):List ResultVar->Option (List T)
 |[]=>some []
 |r::rs=>match ZO P fr H r with
  |some t=>match rL P fr H rs with
   |some ts=>some (t::ts)|none=>none
  |none=>none
def codeOk:Code->Bool
 | .region _ ops true=>uU ops| .seq a b| .cond _ a b=>codeOk a&&codeOk b| .block _ c| .loop c| .scope c=>codeOk c|_ =>true
end
end Go.Ps
namespace Go.Ps
noncomputable section
structure oX(H:Hp)(g:G)(H':Hp)(g':G):Prop where
 os:g'.w.os=g.w.os
 tape:g'.w.tape=g.w.tape
 output:g'.w.output=g.w.output
 size:g.w.heap.size<=g'.w.heap.size
 block:∀b,b<g.w.heap.size->(∀l o,H.any l=some o->g.loc l≠b)->g'.w.heap[b]? =g.w.heap[b]?
 sub:∀b,g.S b->g'.S b
 fresh:∀b,g'.S b->g.S b\/g.w.heap.size<=b\/∃l o,H.any l=some o/\g.loc l=b
 al:∀l,g.al l->g'.al l
 loc:∀l,g.al l->g'.loc l=g.loc l
 cp:∀l,g.al l->g'.cp l=g.cp l
 live:∀l o,H'.any l=some o->(∃l0 o0,H.any l0=some o0/\g.loc l0=g'.loc l)\/g.w.heap.size<=g'.loc l
theorem PStep.toS{g g':G}{H:Hp}(h:PStep g g'):oX H g H g':=
 ⟨h.os,h.tape,h.output,h.size,fun b hb _ =>h.block b hb,h.sub,fun b hb=>(h.fresh b hb).imp id .inl,fun l hl=>h.al▸hl,fun l _ =>by rw[h.loc],fun l _ =>by rw[h.cp],fun l o ho=> .inl ⟨l,o,ho,by rw[h.loc]⟩⟩
theorem oX.refl(H:Hp)(g:G):oX H g H g:=(PStep.refl g).toS
theorem St.lt{g:G}{H:Hp}(hs:St g H){l:Nat}{o:Ob}(h:H.any l=some o):g.loc l<g.w.heap.size:=(hs.at_ h).2.2
theorem oX.trans{H H' H'':Hp}{a b c:G}(h:oX H a H' b)(k:oX H' b H'' c):oX H a H'' c:=by
 have away:∀i,i<a.w.heap.size->(∀l o,H.any l=some o->a.loc l≠i)->∀l o,H'.any l=some o->b.loc l≠i:=by
  intro i hi hn l o ho e;rcases h.live l o ho with⟨l0,o0,h0,e0⟩|hge
  .exact hn l0 o0 h0 (e0.trans e)
  .omega
 refine⟨k.os.trans h.os,k.tape.trans h.tape,k.output.trans h.output,eF h.size k.size,fun i hi hn=> ?_,fun i hi=>k.sub i (h.sub i hi),fun i hi=> ?_,
  fun l hl=>k.al l (h.al l hl),fun l hl=>(k.loc l (h.al l hl)).trans (h.loc l hl),fun l hl=>(k.cp l (h.al l hl)).trans (h.cp l hl),fun l o ho=> ?_⟩
 .rw[k.block i (bP hi h.size) (away i hi hn),h.block i hi hn]
 .rcases k.fresh i hi with hi|hi|⟨l,o,ho,e⟩
  .exact h.fresh i hi
  .exact .inr (.inl (eF h.size hi))
  .rcases h.live l o ho with⟨l0,o0,h0,e0⟩|hge
   .exact .inr (.inr ⟨l0,o0,h0,e0.trans e⟩)
   .exact .inr (.inl (by omega))
 .rcases k.live l o ho with⟨l0,o0,h0,e0⟩|hge
  .rcases h.live l0 o0 h0 with⟨l1,o1,h1,e1⟩|hge
   .exact .inl ⟨l1,o1,h1,e1.trans e0⟩
   .exact .inr (by omega)
  .exact .inr (eF h.size hge)
theorem oX.cell{H H':Hp}{g g':G}(hs:St g H)(h:oX H g H' g'){b o:Nat}{v:fP}(hS:g.S b)(hc:g.w.cell? ⟨b,o,none⟩=some v):g'.w.cell? ⟨b,o,none⟩=some v:=
 (World.cell?_of_block (w:=g.w) (a:=⟨b,o,none⟩) (h.block b (KC hc) (fun l ob hl e=>(hs.at_ hl).2.1 (e▸hS)))).trans hc
theorem Rd.sstep{H H':Hp}{g g':G}(hs:St g H)(h:oX H g H' g'){v:fP}{t:T}(hr:Rd g v t):Rd g' v t:=by
 induction hr with
 |int k n=>exact .int k n|bool b=>exact .bool b|str s=>exact .str s|nilp=>exact .nilp|ptr l off hl=>rw[<-h.loc l hl];exact .ptr l off (h.al l hl)|ref x off b o vs hS hlen hc _ ih=>exact .ref x off b o vs (h.sub b hS) hlen (fun j v hv=>h.cell hs hS (hc j v hv)) ih|nils=>exact .nils|slfn full f p=>exact .slfn full f p
 |sl full xs sz b o cap vs hS hsz h1 h2 h3 hlen hc _ ih=>
  refine .sl full xs sz b o cap vs (fun hx=>h.sub b (hS hx)) hsz h1 h2 h3 hlen (fun j v hv=> ?_) ih;have hx:xs≠[]:=by
   rintro rfl;simp at hlen;subst hlen;simp at hv
  exact h.cell hs (hS hx) (hc j v hv)
 |slf full n f sz b o cap vs h1 h2 h3 h4 h5 h6 h7 h8=>exact Rd.slf_keep h.sub (fun _ _ _ hS hc=>h.cell hs hS hc) h1 h2 h3 h4 h5 h6 h7 h8|osl l sz i len b o cap hl h1 h2 h3 h4=>exact .osl l sz i len b o cap (h.al l hl) h1 (h.cp l hl▸h2) (fun q=>h.loc l hl▸h3 q) (fun q=>h.cp l hl▸h4 q)|nilf=>exact .nilf|fn f first captured vs us h1 _ h2 _ ih1 ih2=>exact .fn f first captured vs us h1 ih1 h2 ih2
 |nili=>exact .nili|iface t v x _ ih=>exact .iface t v x ih|nilm=>exact .nilm|mp l hl=>rw[<-h.loc l hl];exact .mp l (h.al l hl)|yl l hl=>rw[<-h.loc l hl];exact .yl l (h.al l hl)|agg cs vs h1 _ ih=>exact .agg cs vs h1 ih|tup cs vs h1 _ ih=>exact .tup cs vs h1 ih
theorem RdL.sstep{H H':Hp}{g g':G}(hs:St g H)(h:oX H g H' g'){vs:fM}{ts:eY}(hr:RdL g vs ts):RdL g' vs ts:=⟨hr.1,fun j v c hv hc=>(hr.2 j v c hv hc).sstep hs h⟩
theorem GlOk.sstep{gl:fD}{H H':Hp}{g g':G}(hs:St g H)(h:oX H g H' g')(hg:GlOk gl g):GlOk gl g':=fun k t ht=>by
 obtain⟨h1,h2,cs,e,fz,h3,h4⟩:=hg k t ht;refine⟨h1.sstep hs h,h.sub k h2,cs,e,fz,?_,h4⟩;rw[h.block k (aL.1 h3).1 (fun l o ho e=>(hs.at_ ho).2.1 (e▸h2))];exact h3
def G.own(g:G)(l:Nat)(ob:Obj)(c:Nat):G:=
 {w:={g.w with heap:=g.w.heap.push ob},S:=g.S,al:=fun m=>g.al m\/m=l,loc:=fun m=>if m=l then g.w.heap.size else g.loc m,cp:=fun m=>if m=l then c else g.cp m}
theorem wM{g:G}{H:Hp}(hs:St g H)(ob:Obj)(c:Nat)(o:Ob):oX H g (H.new o) (g.own H.next ob c):=by
 have hn:=hs.new H.next (aZ _);have hne:∀l,g.al l->l≠H.next:=fun l hl e=>hn (e▸hl)
 refine⟨rfl,rfl,rfl,by simp[G.own],fun b hb _ =>by simp only[G.own];rw[eO,if_neg (by omega)],fun _ h=>h,fun b h=> .inl h,fun l hl=> .inl hl,
  fun l hl=>by simp[G.own,hne l hl],fun l hl=>by simp[G.own,hne l hl],fun l o' ho=> ?_⟩
 rw[uG]at ho;split at ho
 .rename_i e;subst e;right;simp[G.own]
 .rename_i e;left;exact⟨l,o',ho,by simp[G.own,Ne.symm e]⟩
theorem EV{g:G}(h:qP g)(l:Nat)(ob:Obj)(c:Nat):qP (g.own l ob c):=by
 intro b hb;have:=h b hb;simp only[G.own,Array.size_push];omega
theorem MQ{g:G}{H:Hp}(hs:St g H)(hg:qP g){ob:Obj}{c:Nat}{o:Ob}
  (hnew:g.w.heap.size=g.w.heap.size->(∀v t,Rd g v t->Rd (g.own H.next ob c) v t)->(o.me=none->∃cs:Array Value,ob= .cells cs o.elem (0,0)/\o.cells.length<=cs.size/\(o.sz=0->cs.size=o.cells.length)/\(o.sz≠0->cs.size=c*o.sz/\c<=maxLen)/\RdL (g.own H.next ob c) (cs.toList.take o.cells.length) o.cells)/\
   (∀m,o.me=some m->MoR (g.own H.next ob c) m ob)):St (g.own H.next ob c) (H.new o):=by
 have hst:=wM hs ob c o;have hn:=hs.new H.next (aZ _);obtain⟨hc,hm⟩:=hnew rfl (fun v t h=>h.sstep hs hst);have hloc:(g.own H.next ob c).loc H.next=g.w.heap.size:=by simp[G.own]
 have hblk:(g.own H.next ob c).w.heap[g.w.heap.size]? =some ob:=by simp only[G.own];exact Array.getElem?_push_size
 have hnS:¬(g.own H.next ob c).S g.w.heap.size:=fun hS=>by
  have:=hg _ hS;omega
 have hold:∀l o',H.any l=some o'->(g.own H.next ob c).loc l=g.loc l/\(g.own H.next ob c).w.heap[g.loc l]? =g.w.heap[g.loc l]? :=fun l o' ho=>by
  obtain⟨h1,h2,h3⟩:=hs.at_ ho;exact⟨hst.loc l h1,by simp only[G.own];rw[eO,if_neg (by omega)]⟩
 refine⟨fun l o' ho=> ?_,fun l o' m ho hme=> ?_,fun l l' o1 o2 h1 h2 e=> ?_,fun l hl=> ?_⟩
 .obtain⟨ha0,hm0⟩:=pJ ho;rw[uG]at ha0;split at ha0
  .rename_i e;subst e;cases ha0;obtain⟨cs,e1,h1,h2,h3,h4⟩:=hc hm0;refine⟨.inr rfl,by rw[hloc];exact hnS,cs,by rw[hloc,hblk,e1],h1,h2,?_,h4⟩;simpa [G.own]using h3
  .rename_i e;obtain⟨ha,hS,cs',hb,q1,q2,q3,q4⟩:=hs.own l o' (yQ ha0 hm0);obtain⟨e1,e2⟩:=hold l o' ha0;refine⟨.inl ha,by rw[e1];exact hS,cs',by rw[e1,e2];exact hb,q1,q2,?_,q4.sstep hs hst⟩;rw[hst.cp l ha];exact q3
 .rw[uG]at ho;split at ho
  .rename_i e;subst e;cases ho;exact⟨.inr rfl,by rw[hloc];exact hnS,ob,by rw[hloc,hblk],hm m hme⟩
  .rename_i e;obtain⟨ha,hS,ms,hb,q1⟩:=hs.ownM l o' m ho hme;obtain⟨e1,e2⟩:=hold l o' ho;exact⟨.inl ha,by rw[e1];exact hS,ms,by rw[e1,e2];exact hb,q1.mono (fun _ _ q=>q.sstep hs hst) (fun l hl=>⟨hst.al l hl,hst.loc l hl⟩)⟩
 .rw[uG]at h1 h2;split at h1
  .rename_i e1;split at h2
   .rename_i e2;rw[<-e1,<-e2]
   .rename_i e2;rw[<-e1,hloc,(hold l' o2 h2).1]at e;have:=hs.lt h2;omega
  .rename_i e1;split at h2
   .rename_i e2;rw[<-e2,hloc,(hold l o1 h1).1]at e;have:=hs.lt h1;omega
   .rw[(hold l o1 h1).1,(hold l' o2 h2).1]at e;exact hs.sep l l' o1 o2 h1 h2 e
 .simp only[Hp.new]at hl;simp only[G.own];rintro(ha|ha)
  .exact hs.new l (by omega) ha
  .omega
theorem WW{g:G}{H:Hp}(hs:St g H)(hg:qP g){cs:fU}{c:Nat}{o:Ob}(h1:o.cells.length<=cs.size)(h2:o.sz=0->cs.size=o.cells.length)
  (h3:o.sz≠0->cs.size=c*o.sz/\c<=maxLen) (h4:RdL g (cs.toList.take o.cells.length) o.cells) (hm:o.me=none:=by rfl):St (g.own H.next (.cells cs o.elem) c) (H.new o):=
 MQ hs hg fun _ keep=>⟨fun _ =>⟨cs,rfl,h1,h2,h3,⟨h4.1,fun j v t hv ht=>keep v t (h4.2 j v t hv ht)⟩⟩,fun m e=>by rw[hm]at e;cases e⟩
theorem aPe{g:G}{H:Hp}(hs:St g H)(hg:qP g)(t:eX):St (g.own H.next (.map #[] 0) 0) (H.new {elem:=t,sz:=0,cells:=[],me:=some (.map 0 [])}):=
 MQ hs hg fun _ _ =>⟨fun e=>(by cases e),fun m e=>(by cases e;exact⟨#[],rfl,rfl,RdL.nil,RdL.nil⟩)⟩
theorem Gu{g:G}(l:Nat)(ob:Obj)(c:Nat):Rd (g.own l ob c) (.pointer (some ⟨g.w.heap.size,0,none⟩)) (.ptr l 0):=by
 have h:=Rd.ptr (g:=g.own l ob c) l 0 (.inr rfl);simpa [G.own]using h
def G.setRow(g:G)(b:Nat)(cs:fU):G:={g with w:=g.w.setRow b cs}
theorem XV{g:G}{H:Hp}{l:Nat}{o:Ob}(ho:H.any l=some o)(cs:fU)(o':Ob):oX H g (H.put l o') (g.setRow (g.loc l) cs):=by
 refine⟨rfl,rfl,rfl,by simp[G.setRow,World.setRow],fun b _ hn=>setRow_other _ _ _ _ (fun e=>hn l o ho e.symm),fun _ h=>h,fun b h=> .inl h,fun _ h=>h,fun _ _ =>rfl,fun _ _ =>rfl,fun m q hq=> ?_⟩;rw[uH]at hq;left;split at hq
 .rename_i e;subst e;exact⟨m,o,ho,rfl⟩
 .exact⟨m,q,hq,rfl⟩
theorem aJm{g:G}{H:Hp}(hs:St g H){l:Nat}{o:Ob}(ho:H.get l=some o){cs old:fU}(hold:g.w.heap[g.loc l]? =some (.cells old o.elem (0,0)))(hsz:cs.size=old.size){cells:eY}(hlen:cells.length=o.cells.length)
  (h4:RdL g (cs.toList.take cells.length) cells):St (g.setRow (g.loc l) cs) (H.put l {o with cells:=cells}):=by
 obtain⟨hoa,hom⟩:=pJ ho;have hst:=XV (g:=g) hoa cs {o with cells:=cells};have hoth:∀m q,m≠l->H.any m=some q->(g.w.setRow (g.loc l) cs).heap[g.loc m]? =g.w.heap[g.loc m]? :=fun m q hne hq=>
  setRow_other _ _ _ _ (fun e'=>hne (hs.sep m l q o hq hoa e'))
 refine⟨fun m q hq=> ?_,fun m q mo hq hme=> ?_,fun m m' q q' h1 h2 e=> ?_,fun m hm=>hs.new m hm⟩
 .rw[get_put H l {o with cells:=cells} m hom]at hq;split at hq
  .rename_i e;subst e;cases hq;obtain⟨ha,hS,c0,hb,q1,q2,q3,q4⟩:=hs.own m o ho;rw[hold]at hb;cases hb;refine⟨ha,hS,cs,setRow_heap _ _ _ _ _ _ hold,by simp only;omega,fun z=>by simp only at z⊢;rw[hsz,hlen];exact q2 z,fun z=>by rw[hsz];exact q3 z,h4.sstep hs hst⟩
  .rename_i e;obtain⟨ha,hS,c0,hb,q1,q2,q3,q4⟩:=hs.own m q hq;refine⟨ha,hS,c0,?_,q1,q2,q3,q4.sstep hs hst⟩;show(g.w.setRow (g.loc l) cs).heap[g.loc m]? =_;rw[hoth m q e (pJ hq).1];exact hb
 .rw[uH]at hq;split at hq
  .cases hq;rw[hom]at hme;cases hme
  .rename_i e;obtain⟨ha,hS,ms,hb,q1⟩:=hs.ownM m q mo hq hme;refine⟨ha,hS,ms,?_,q1.mono (fun _ _ z=>z.sstep hs hst) (fun l hl=>⟨hst.al l hl,hst.loc l hl⟩)⟩;show(g.w.setRow (g.loc l) cs).heap[g.loc m]? =_;rw[hoth m q e hq];exact hb
 .have hex:∀m q,(H.put l {o with cells:=cells}).any m=some q->∃q0,H.any m=some q0:=fun m q hq=>by
   rw[uH]at hq;split at hq
   .rename_i e;subst e;exact⟨o,hoa⟩
   .exact⟨q,hq⟩
  obtain⟨q0,hq0⟩:=hex m q h1;obtain⟨q1,hq1⟩:=hex m' q' h2;exact hs.sep m m' q0 q1 hq0 hq1 e
def G.setOb(g:G)(b:Nat)(o:Obj):G:={g with w:={g.w with heap:=g.w.heap.setIfInBounds b o}}
abbrev G.setMap(g:G)(b:Nat)(ms:iM)(c:Nat):G:=g.setOb b (.map ms c)
theorem vS{g:G}{H:Hp}{l:Nat}{o:Ob}(ho:H.any l=some o)(b':Obj)(o':Ob):oX H g (H.put l o') (g.setOb (g.loc l) b'):=by
 refine⟨rfl,rfl,rfl,by simp[G.setOb],fun b _ hn=> ?_,fun _ h=>h,fun b h=> .inl h,fun _ h=>h,fun _ _ =>rfl,fun _ _ =>rfl,fun m q hq=> ?_⟩
 .simp only[G.setOb];rw[bJ (hn l o ho)]
 .rw[uH]at hq;left;split at hq
  .rename_i e;subst e;exact⟨m,o,ho,rfl⟩
  .exact⟨m,q,hq,rfl⟩
theorem DU{g:G}{H:Hp}(hs:St g H){l:Nat}{o:Ob}(ho:H.any l=some o){b':Obj}{m':Mo}{o':Ob}(hm':o'.me=some m')(hr:MoR g m' b'):
  St (g.setOb (g.loc l) b') (H.put l o'):=by
 have hst:=vS (g:=g) ho b' o';have hlt:=hs.lt ho;have hoth:∀m q,m≠l->H.any m=some q->(g.setOb (g.loc l) b').w.heap[g.loc m]? =g.w.heap[g.loc m]? :=fun m q hne hq=>by
  simp only[G.setOb];rw[bJ (fun e'=>hne (hs.sep m l q o hq ho e'.symm))]
 have hself:(g.setOb (g.loc l) b').w.heap[g.loc l]? =some b':=by
  simp only[G.setOb];rw[cU,if_pos hlt]
 refine⟨fun m q hq=> ?_,fun m q mo hq hme=> ?_,fun m m' q q' h1 h2 e=> ?_,fun m hm=>hs.new m hm⟩
 .obtain⟨hqa,hqm⟩:=pJ hq;rw[uH]at hqa;split at hqa
  .cases hqa;rw[hm']at hqm;cases hqm
  .rename_i e;obtain⟨ha,hS,c0,hb,q1,q2,q3,q4⟩:=hs.own m q (yQ hqa hqm);exact⟨ha,hS,c0,by rw[show(g.setOb (g.loc l) b').loc m=g.loc m from rfl,hoth m q e hqa];exact hb,q1,q2,q3,q4.sstep hs hst⟩
 .rw[uH]at hq;split at hq
  .rename_i e;subst e;cases hq;rw[hm']at hme;cases hme;obtain⟨ha,hS,_⟩:=hs.at_ ho;exact⟨ha,hS,b',hself,hr.mono (fun _ _ z=>z.sstep hs hst) (fun l hl=>⟨hst.al l hl,hst.loc l hl⟩)⟩
  .rename_i e;obtain⟨ha,hS,ms',hb,q1⟩:=hs.ownM m q mo hq hme;exact⟨ha,hS,ms',by rw[show(g.setOb (g.loc l) b').loc m=g.loc m from rfl,hoth m q e hq];exact hb,q1.mono (fun _ _ z=>z.sstep hs hst) (fun l hl=>⟨hst.al l hl,hst.loc l hl⟩)⟩
 .have hex:∀m q,(H.put l o').any m=some q->∃q0,H.any m=some q0:=fun m q hq=>by
   rw[uH]at hq;split at hq
   .rename_i e;subst e;exact⟨o,ho⟩
   .exact⟨q,hq⟩
  obtain⟨q0,hq0⟩:=hex m q h1;obtain⟨q1,hq1⟩:=hex m' q' h2;exact hs.sep m m' q0 q1 hq0 hq1 e
theorem vR{g:G}{H:Hp}{l:Nat}{o:Ob}(ho:H.any l=some o)(ms:iM)(c:Nat)(o':Ob):oX H g (H.put l o') (g.setMap (g.loc l) ms c):=vS ho _ _
theorem yP{g:G}{H:Hp}(hs:St g H){l:Nat}{o:Ob}(ho:H.any l=some o){ms:iM}{c:Nat}{es:fQ}(hr:rH g ms.toList es):
  St (g.setMap (g.loc l) ms c) (putM H l o c es):=DU hs ho (m':= .map c es) rfl ⟨ms,rfl,hr⟩
theorem QT:∀{ts:eY},pY ts=true->∀t∈ts,t.one=true
 |[],_,t,h=>by cases h
 |x::xs,h,t,ht=>by
  simp only[pY,aA]at h;rcases aU.1 ht with rfl|ht
  .exact h.1
  .exact QT h.2 t ht
theorem PX{g:G}{vs:fM}{ts:eY}(h:RdL g vs ts)(ho:pY ts=true):∀v∈vs,v.oneCell'=true:=by
 intro v hv;obtain⟨j,hj,e⟩:=bX hv;have hvj:vs[j]? =some v:=by rw[aC hj,e]
 have htj:ts[j]? =some (ts[j]'(by rw[<-h.1];exact hj)):=aC _;exact(h.2 j v _ hvj htj).oneCell (QT ho _ (bB htj))
theorem aJy{P:fA}{g:G}{H H':Hp}(hs:St g H){t:eX}{p x:T}(h:tK P H t p x=some H'){u v:fP}(hu:Rd g u p)(hv:Rd g v x):
  ∃g',(Instr.storeAt t u v).run P g.w= .ok () g'.w/\oX H g H' g'/\St g' H'/\(qP g->qP g'):=by
 unfold tK at h;split at h
 .rename_i l off;split at h
  .rename_i o n ho hn;split at h
   .rename_i hc;cases h;obtain⟨h1,h2,h3⟩:=hc;simp only[tT,aF]at hn;obtain⟨i,hi,rfl⟩:=hn;cases hu;obtain⟨ha,hS,cs,hb,q1,q2,q3,q4⟩:=hs.own l o ho;have hvc:=hv.cells;have hlen:v.cells.toList.length=i.size:=by rw[hvc.1,h1]
    have hsz:v.cells.size=i.size:=by simpa using hlen
    have hst:=run_storeCells_at (P:=P) (g.loc l) off o.elem v.cells.toList 0 cs g.w hb (by simp only[cQ]at hlen⊢;omega) (PX hvc h3);refine⟨g.setRow (g.loc l) (cs.toList.take (off+0)++v.cells.toList++cs.toList.drop (off+0+v.cells.toList.length)).toArray,?_,XV (pJ ho).1 _ _,?_,fun hg b hb=>by simpa [G.setRow,World.setRow]using hg b hb⟩
    .simp[Instr.storeAt,Instr.sureAddr,storeVar,sizeOf,typeInfo,hi,hsz,hst,G.setRow]
    .have hspl:(qT o.cells off x.cells).length=o.cells.length:=by simp[qT];omega
     refine aJm hs ho hb (by simp;omega) hspl ?_;rw[hspl];have key:(cs.toList.take (off+0)++v.cells.toList++cs.toList.drop (off+0+v.cells.toList.length)).take o.cells.length
       =(cs.toList.take o.cells.length).take off++v.cells.toList++(cs.toList.take o.cells.length).drop (off+x.cells.length):=by
      rw[Nat.add_zero,List.take_append,List.take_append];have e1:(cs.toList.take off).length=off:=by simp;omega
      rw[dE (l:=cs.toList.take off) (by rw[e1];omega),dE (l:=v.cells.toList) (by rw[e1,hlen];omega)];rw[List.take_take,show min off o.cells.length=off by omega];congr 1;rw[List.drop_take,bK,e1,hlen,h1]
     show RdL g (List.take o.cells.length (cs.toList.take (off+0)++v.cells.toList++cs.toList.drop (off+0+v.cells.toList.length)).toArray.toList) _;rw[List.toList_toArray,key];unfold qT;exact((q4.take off).append hvc).append (q4.drop _)
   .cases h
  .cases h
 .cases h
end
end Go.Ps
namespace Go.Ps
noncomputable section
section
variable{P:fA}{g:G}
theorem Db{x y:T}(h:Hw x y=true){u v:fP}(hu:Rd g u x)(hv:Rd g v y)(n:Nat):Instr.sameBits n u v=true:=by
 unfold Hw at h;split at h
 .simp only[aA,aI,beq_iff_eq]at h;obtain⟨rfl,rfl⟩:=h;cases hu;cases hv;cases n<;>simp[Instr.sameBits]
 .have e:=beq_iff_eq.1 h;subst e;obtain⟨a,rfl,ha⟩:=hu.inv_str;obtain⟨b,rfl,hb⟩:=hv.inv_str;have:a=b:=by
   obtain⟨⟨a⟩⟩:=a;obtain⟨⟨b⟩⟩:=b;simp only at ha hb;rw[ha,hb]
  subst this;cases n<;>simp[Instr.sameBits,beq_toListBytes]
 .have e:=beq_iff_eq.1 h;subst e;cases hu;cases hv;cases n<;>simp[Instr.sameBits]
 .cases h
theorem Dc(n:Nat):∀{xs ys:eY} {us vs:fM},Hy xs ys=true->RdL g us xs->RdL g vs ys->us.length=vs.length/\((us.zip vs).all fun p=>Instr.sameBits n p.1 p.2)=true
 |[],[],us,vs,_,hu,hv=>by
  have e1:us=[]:=bR hu.1;have e2:vs=[]:=bR hv.1;subst e1;subst e2;simp
 |x::xs,y::ys,u::us,v::vs,h,hu,hv=>by
  simp only[Hy,aA]at h;obtain⟨a,b⟩:=hu.inv_cons;obtain⟨c,d⟩:=hv.inv_cons;obtain⟨h1,h2⟩:=Dc n h.2 b d;simp[h1,h2,Db h.1 a c n]
 |x::xs,y::ys,[],vs,h,hu,hv=>by have:=hu.1;simp at this|x::xs,y::ys,u::us,[],h,hu,hv=>by have:=hv.1;simp at this|[],_ ::_,_,_,h,_,_ =>by cases h|_ ::_,[],_,_,h,_,_ =>by cases h
theorem Nm{x y:T}(h:Xl x y=true){u v:fP}(hu:Rd g u x)(hv:Rd g v y):Instr.sameBits 10000 u v=true:=by
 unfold Xl at h;split at h
 .obtain⟨us,rfl,hu'⟩:=hu.inv_agg;obtain⟨vs,rfl,hv'⟩:=hv.inv_agg;obtain⟨h1,h2⟩:=Dc 9999 h hu' hv';show Instr.sameBits (9999+1) _ _ =true;simp only[Instr.sameBits,aA];exact⟨by simp[h1],h2⟩
 .exact Db h hu hv 10000
theorem HH:∀{es:fQ} {i:Nat} {k:T},Hu es i k=true->∃e,es[i]? =some e/\Xl e.2.1 k=true
 |(b,k',x)::es,0,k,h=>⟨_,rfl,h⟩
 |e::es,i+1,k,h=>by
  obtain⟨q,h1,h2⟩:=HH (es:=es) (i:=i) (k:=k) h;exact⟨q,by simpa using h1,h2⟩
theorem rH.at_ {ms:gG}{es:fQ}(h:rH g ms es){i:Nat}{t:Nat×T×T}(ht:es[i]? =some t):∃m,ms[i]? =some m/\m.born=t.1/\Rd g m.key t.2.1/\Rd g m.val t.2.2:=by
 have hi:i<ms.length:=by rw[h.len];exact(aK.1 ht).1
 have hm:ms[i]? =some ms[i]:=aC hi;refine⟨ms[i],hm,?_,?_,?_⟩
 .have h1:=congrArg (·[i]?) h.1;simp only[aY,hm,ht,bW,aD]at h1;exact h1
 .exact h.2.1.2 i _ _ (by rw[aY,hm];rfl) (by rw[aY,ht];rfl)
 .exact h.2.2.2 i _ _ (by rw[aY,hm];rfl) (by rw[aY,ht];rfl)
theorem rH.cons{m:MapEntry}{ms:gG}{t:Nat×T×T}{es:fQ}(h1:m.born=t.1)(h2:Rd g m.key t.2.1)(h3:Rd g m.val t.2.2)(h:rH g ms es):rH g (m::ms) (t::es):=
 ⟨by simp[h1,h.1],RdL.cons h2 h.2.1,RdL.cons h3 h.2.2⟩
theorem rH.modify(f:MapEntry->MapEntry)(hf:∀e,(f e).born=e.born){k x:T}:∀{ms:gG} {es:fQ} {i:Nat} {e:MapEntry},rH g ms es->ms[i]? =some e->Rd g (f e).key k->Rd g (f e).val x->rH g (ms.modify i f) (Ie k x es i)
 |[],es,i,e,_,he,_,_ =>by simp at he|m::ms,[],i,e,h,_,_,_ =>by have:=h.len;simp at this
 |m::ms,(b,k',x')::es,0,e,h,he,h1,h2=>by
  obtain⟨q1,q2,q3,q4⟩:=h.inv_cons;simp at he;subst he;exact rH.cons (t:=(b,k,x)) (by rw[hf];exact q1) h1 h2 q4
 |m::ms,(b,k',x')::es,i+1,e,h,he,h1,h2=>by
  obtain⟨q1,q2,q3,q4⟩:=h.inv_cons;exact rH.cons (t:=(b,k',x')) q1 q2 q3 (rH.modify f hf q4 (by simpa using he) h1 h2)
theorem rH.push{ms:gG}{es:fQ}(h:rH g ms es){c:Nat}{u v:fP}{k x:T}(hu:Rd g u k)(hv:Rd g v x):rH g (ms++[{key:=u,val:=v,born:=c}]) (es++[(c,k,x)]):=by
 refine⟨by simp[h.1],?_,?_⟩
 .rw[eU,eU];exact h.2.1.append (RdL.cons hu RdL.nil)
 .rw[eU,eU];exact h.2.2.append (RdL.cons hv RdL.nil)
theorem rH.erase:∀{ms:gG} {es:fQ} (i:Nat),rH g ms es->rH g (ms.eraseIdx i) (es.eraseIdx i)
 |[],[],i,h=>by simpa using h|[],e::es,i,h=>by have:=h.len;simp at this|m::ms,[],i,h=>by have:=h.len;simp at this|m::ms,e::es,0,h=>by obtain⟨q1,q2,q3,q4⟩:=h.inv_cons;exact q4
 |m::ms,e::es,i+1,h=>by obtain⟨q1,q2,q3,q4⟩:=h.inv_cons;exact rH.cons q1 q2 q3 (rH.erase i q4)
theorem IL{H:Hp}(hs:St g H){t:eX}{m k:T}{l:Nat}{o:Ob}{c:Nat}{es:fQ}{et:eX}{r:iJ}(h:JI P H t m k=some (l,o,c,es,et,r)){v u:fP}(hv:Rd g v m)(hu:Rd g u k):
  ∃kt ms q,P.underlying t=some (.map kt et)/\v= .map (some (g.loc l))/\H.any l=some o/\o.me=some (.map c es)/\g.w.heap[g.loc l]? =some (.map ms c)/\rH g ms.toList es/\(∀e,(Instr.checkKey e 10000 kt u).run P g.w= .ok () g.w)/\(Instr.findKey kt u ms.toList).run P g.w= .ok q g.w/\wH P kt k ms.toList es 0 r q:=by
 unfold JI at h;split at h
 .rename_i kt et' hd;split at h
  .rename_i l';split at h
   .rename_i o' ho;split at h
    .rename_i c' es' hme;split at h
     .rename_i hk;split at h
      .rename_i r' hf;simp only[aD,aQ]at h;obtain⟨rfl,rfl,rfl,rfl,rfl,rfl⟩:=h;obtain⟨_,_,_,hb,ms,rfl,hr⟩:=hs.ownM _ _ _ ho hme;obtain⟨d,hkd⟩:=Cb hk;obtain⟨q,e1,e2⟩:=JT hkd hu hf hr;cases hv;exact⟨kt,ms,q,hd,rfl,ho,hme,hb,hr,fun e=>Lb hk hu e,e1,e2⟩
      .cases h
     .cases h
    .cases h
   .cases h
  .cases h
 .cases h
theorem sE{w:gI}{r:Nat}{ms:iM}{c:Nat}(o:Obj)(h:w.heap[r]? =some (.map ms c)):(setObj r o).run P w= .ok () {w with heap:=w.heap.setIfInBounds r o}:=by
 simp only[setObj,Sem.run,h]
theorem wH.some_inv{t:eX}{k:T}{ms:gG}{es:fQ}{i b:Nat}{x:T}{q:jA}(h:wH P t k ms es 0 (some (i,b,x)) q):∃m k',q=some (i,m.val)/\ms[i]? =some m/\es[i]? =some (b,k',x):=by
 unfold wH at h;split at h
 .rename_i e;cases e
 .rename_i e;cases e;obtain⟨rfl,_,m,k',h1,h2,rfl,_⟩:=h;exact⟨m,k',rfl,by simpa using h1,by simpa using h2⟩
 .exact h.elim
theorem wH.none_inv{t:eX}{k:T}{ms:gG}{es:fQ}{q:jA}(h:wH P t k ms es 0 none q):q=none:=by
 unfold wH at h;split at h
 .rfl
 .rename_i e;cases e
 .exact h.elim
theorem Oe{old new:fP}(h:Instr.sameBits 10000 old new=true){w:gI}:(Instr.keyThatStays old new).run P w= .ok new w:=by
 simp[Instr.keyThatStays,h]
theorem aKg{H H':Hp}(hs:St g H){t:eX}{m k x:T}(h:YI P H t m k x=some H'){v u z:fP}(hv:Rd g v m)(hu:Rd g u k)(hz:Rd g z x):
  ∃g',(Instr.mapUpdate t v u z).run P g.w= .ok () g'.w/\oX H g H' g'/\St g' H'/\(qP g->qP g'):=by
 unfold YI at h;split at h
 .rename_i l o c es et i b y hsk;split at h
  .rename_i hsame;cases h;obtain⟨kt,ms,q,hd,rfl,ho,hme,hb,hr,hck,hfk,hfd⟩:=IL hs hsk hv hu;obtain⟨e,k',rfl,h1,h2⟩:=hfd.some_inv;obtain⟨e',h3,h4⟩:=HH hsame;rw[h2]at h3;cases h3;obtain⟨e2,h5,_,h6,_⟩:=hr.at_ h2;rw[h1]at h5;cases h5;have hbit:=Nm h4 h6 hu;have hr':rH g (ms.modify i fun e=>{e with key:=u,val:=z}).toList (Ie k x es i):=by
    rw[Array.toList_modify];exact rH.modify (fun e=>{e with key:=u,val:=z}) (fun _ =>rfl) hr h1 hu hz
   refine⟨g.setMap (g.loc l) (ms.modify i fun e=>{e with key:=u,val:=z}) c,?_,vR ho _ _ _,yP hs ho hr',fun hg b hb'=>by simpa [G.setMap,G.setOb]using hg b hb'⟩;have hmi:ms[i]? =some e:=by simpa using h1
   simp only[Instr.mapUpdate,aO,run_underlying hd,aH,qS hb,hck,hfk,hmi,bW,eR,Oe hbit,sE _ hb];rfl
  .cases h
 .rename_i l o c es et hsk;cases h;obtain⟨kt,ms,q,hd,rfl,ho,hme,hb,hr,hck,hfk,hfd⟩:=IL hs hsk hv hu;have:=hfd.none_inv;subst this;have hr':rH g (ms.push {key:=u,val:=z,born:=c}).toList (es++[(c,k,x)]):=by
   rw[Array.toList_push];exact hr.push hu hz
  refine⟨g.setMap (g.loc l) (ms.push {key:=u,val:=z,born:=c}) (c+1),?_,vR ho _ _ _,yP hs ho hr',fun hg b hb'=>by simpa [G.setMap,G.setOb]using hg b hb'⟩;simp only[Instr.mapUpdate,aO,run_underlying hd,aH,qS hb,hck,hfk,sE _ hb];rfl
 .cases h
theorem aFe{H H':Hp}(hs:St g H){t:eX}{m k r:T}(h:ED P H t m k=some (r,H')){v u:fP}(hv:Rd g v m)(hu:Rd g u k):
  ∃q g',(Instr.mapEntry t v u).run P g.w= .ok q g'.w/\oX H g H' g'/\St g' H'/\(qP g->qP g')/\Rd g' q r:=by
 unfold ED at h;split at h
 .rename_i l o c es et i b y hsk;split at h
  .rename_i hsame;cases h;obtain⟨kt,ms,q,hd,rfl,ho,hme,hb,hr,hck,hfk,hfd⟩:=IL hs hsk hv hu;obtain⟨e,k',rfl,h1,h2⟩:=hfd.some_inv;obtain⟨e',h3,h4⟩:=HH hsame;rw[h2]at h3;cases h3;obtain⟨e2,h5,h8,h6,h7⟩:=hr.at_ h2;rw[h1]at h5;cases h5;have hbit:=Nm h4 h6 hu;have hr':rH g (ms.modify i fun e=>{e with key:=u}).toList (Ie k y es i):=by
    rw[Array.toList_modify];exact rH.modify (fun e=>{e with key:=u}) (fun _ =>rfl) hr h1 hu h7
   have hst:=vR (g:=g) ho (ms.modify i fun e=>{e with key:=u}) c {o with me:=some (.map c (Ie k y es i))};refine⟨.tuple #[e.val,goInt e.born],g.setMap (g.loc l) (ms.modify i fun e=>{e with key:=u}) c,?_,hst,yP hs ho hr',fun hg b hb'=>by simpa [G.setMap,G.setOb]using hg b hb',?_⟩
   .have hmi:ms[i]? =some e:=by simpa using h1
    simp only[Instr.mapEntry,aO,run_underlying hd,aH,qS hb,hck,hfk,hmi,bW,eR,Oe hbit,sE _ hb];rfl
   .exact Rd.mk_tup (vs:=[e.val,goInt e.born]) (RdL.cons (h7.sstep hs hst) (RdL.cons (by rw[h8];exact .int _ _) RdL.nil))
  .cases h
 .rename_i l o c es et hsk;split at h
  .rename_i zt hzt;cases h;obtain⟨kt,ms,q,hd,rfl,ho,hme,hb,hr,hck,hfk,hfd⟩:=IL hs hsk hv hu;have:=hfd.none_inv;subst this;obtain⟨z,hz1,hz2⟩:=EZ (g:=g) hzt;have hr':rH g (ms.push {key:=u,val:=z,born:=c}).toList (es++[(c,k,zt)]):=by
    rw[Array.toList_push];exact hr.push hu hz2
   have hst:=vR (g:=g) ho (ms.push {key:=u,val:=z,born:=c}) (c+1) {o with me:=some (.map (c+1) (es++[(c,k,zt)]))};refine⟨.tuple #[z,goInt c],g.setMap (g.loc l) (ms.push {key:=u,val:=z,born:=c}) (c+1),?_,hst,yP hs ho hr',fun hg b hb'=>by simpa [G.setMap,G.setOb]using hg b hb',?_⟩
   .simp only[Instr.mapEntry,aO,run_underlying hd,aH,qS hb,hck,hfk,hz1,sE _ hb];rfl
   .exact Rd.mk_tup (vs:=[z,goInt c]) (RdL.cons (hz2.sstep hs hst) (RdL.cons (.int _ _) RdL.nil))
  .cases h
 .cases h
theorem VD{b:Int}:∀{es:fQ} {i0 i:Nat} {k:T},Vi b es i0=some (i,k)->∀{ms:gG},rH g ms es->∃j x e,i=i0+j/\ms.findIdx? (fun e=>(e.born:Int)==b)=some j/\es[j]? =some (e,k,x)
 |[],_,_,_,h,_,_ =>by cases h|(c,k',x)::es,i0,i,k,h,[],hr=>by have:=hr.len;simp at this
 |(c,k',x)::es,i0,i,k,h,m::ms,hr=>by
  obtain⟨q1,q2,q3,q4⟩:=hr.inv_cons;simp only at q1;simp only[Vi]at h;split at h
  .rename_i hc;cases h;exact⟨0,x,c,rfl,by simp[List.findIdx?_cons,q1,hc],rfl⟩
  .rename_i hc;obtain⟨j,x',e',h1,h2,h3⟩:=VD h q4;exact⟨j+1,x',e',by omega,by simp[List.findIdx?_cons,q1,hc,h2],by simpa using h3⟩
theorem YZ{H H':Hp}(hs:St g H){m s x:T}(h:sL H m s x=some H')(t:eX){v u z:fP}(hv:Rd g v m)(hu:Rd g u s)(hz:Rd g z x):
  ∃g',(Instr.entryStore t v u z).run P g.w= .ok () g'.w/\oX H g H' g'/\St g' H'/\(qP g->qP g'):=by
 unfold sL at h;split at h
 .rename_i l ik b;split at h
  .rename_i o ho;split at h
   .rename_i c es hme;split at h
    .rename_i i k hf;cases h;obtain⟨_,_,_,hb,ms,rfl,hr⟩:=hs.ownM _ _ _ ho hme;obtain⟨j,x',e',rfl,h2,h3⟩:=VD hf hr;simp only[bN]at*;obtain⟨e,h5,h8,h6,h7⟩:=hr.at_ h3;cases hv;cases hu;have hr':rH g (ms.modify j fun e=>{e with val:=z}).toList (Ie k x es j):=by
      rw[Array.toList_modify];exact rH.modify (fun e=>{e with val:=z}) (fun _ =>rfl) hr h5 h6 hz
     refine⟨g.setMap (g.loc l) (ms.modify j fun e=>{e with val:=z}) c,?_,vR ho _ _ _,yP hs ho hr',fun hg b hb'=>by simpa [G.setMap,G.setOb]using hg b hb'⟩;have hfi:ms.findIdx? (fun e=>(e.born:Int)==b)=some j:=by
      have:ms=ms.toList.toArray:=by simp
      rw[this,List.findIdx?_toArray];exact h2
     simp only[Instr.entryStore,aO,qS hb,aH,asInt,asIntOf,aW,hfi,sE _ hb];rfl
    .cases h
   .cases h
  .cases h
 .cases h
theorem aTd{H H':Hp}(hs:St g H){t:eX}{m k:T}(h:Er P H t m k=some H'){v u:fP}(hv:Rd g v m)(hu:Rd g u k)(tys:Array TypeId)(ht:tys[0]? =some t)(ty:eX):
  ∃g',(Builtin.delete_ tys ty #[v,u]).run P g.w= .ok (.tuple #[]) g'.w/\oX H g H' g'/\St g' H'/\(qP g->qP g'):=by
 unfold Er at h;split at h
 .rename_i l o c es et i b y hsk;cases h;obtain⟨kt,ms,q,hd,rfl,ho,hme,hb,hr,hck,hfk,hfd⟩:=IL hs hsk hv hu;obtain⟨e,k',rfl,h1,h2⟩:=hfd.some_inv;have hr':rH g (ms.eraseIdxIfInBounds i).toList (es.eraseIdx i):=by
   have:(ms.eraseIdxIfInBounds i).toList=ms.toList.eraseIdx i:=by simp
   rw[this];exact hr.erase i
  refine⟨g.setMap (g.loc l) (ms.eraseIdxIfInBounds i) c,?_,vR ho _ _ _,yP hs ho hr',fun hg b hb'=>by simpa [G.setMap,G.setOb]using hg b hb'⟩;simp only[Builtin.delete_,ht,List.getElem?_toArray,cA,dK,aO,run_underlying hd,aH,qS hb,hck,hfk,sE _ hb,aW];rfl
 .rename_i l o c es et hsk;cases h;obtain⟨kt,ms,q,hd,rfl,ho,hme,hb,hr,hck,hfk,hfd⟩:=IL hs hsk hv hu;have:=hfd.none_inv;subst this;refine⟨g.setMap (g.loc l) ms c,?_,vR ho _ _ _,yP hs ho hr,fun hg b hb'=>by simpa [G.setMap,G.setOb]using hg b hb'⟩;simp only[Builtin.delete_,ht,List.getElem?_toArray,cA,dK,aO,run_underlying hd,aH,qS hb,hck,hfk,sE _ hb,aW];rfl
 .cases h
theorem Lt{H:Hp}{t:eX}{h:iB}(hh:VO P t h=true){v:Option Value}(hv:RdO g v h):(Instr.makeMap t v).run P g.w= .ok (.map (some g.w.heap.size)) (g.own H.next (.map #[] 0) 0).w:=by
 cases h with
 |none=>
  cases v with
  |some v=>exact hv.elim|none=>simp only[Instr.makeMap,aO,run_newObj,aH,aW];rfl
 |some x=>
  cases v with
  |none=>exact hv.elim
  |some v=>
   have hv:Rd g v x:=hv;unfold VO at hh;split at hh
   .rename_i e;cases e
   .rename_i k n e;cases e;cases hv;split at hh
    .rename_i hd;simp only[Instr.makeMap,aO,run_underlying hd,asInt,asIntOf,run_newObj,aH,aW];rfl
    .cases hh
   .cases hh
end
end
end Go.Ps
namespace Go.Ps
noncomputable section
section
variable{P:fA}{g:G}{H:Hp}
theorem aOp(hs:St g H)(hg:qP g){t:eX}{l c r:T}{H':Hp}(h:rC P H t l c=some (r,H')){u v:fP}(hu:Rd g u l)(hv:Rd g v c):
  ∃q g',(Instr.makeSlice t u v).run P g.w= .ok q g'.w/\oX H g H' g'/\St g' H'/\qP g'/\Rd g' q r:=by
 unfold rC at h;split at h
 .rename_i e n m hd;cases hu;cases hv;split at h
  .rename_i sz bytes z hsz hby hz;split at h
   .rename_i hc;cases h;obtain⟨h0,hzl,hn0,rfl,hb,hn⟩:=hc;simp only[tT,aF]at hsz hby;obtain⟨i,hi,rfl⟩:=hsz;obtain⟨i',hi',rfl⟩:=hby;rw[hi]at hi';cases hi';have hzz:=hz;unfold wN at hz;rw[hi]at hz;simp only at hz;split at hz
    .rename_i zv hzv;have hrz:=DK g hz;have hbi:(i.bytes:Int)*n<=281474976710656:=by
      have e:(i.bytes:Int)*n=((n.toNat*i.bytes:Nat):Int):=by
       rw[Int.natCast_mul,Int.toNat_of_nonneg hn0,Int.mul_comm]
      rw[e];omega
     have hr:=run_make (P:=P) g.w t e i zv hd hi hzv .i64 .i64 n n hn0 (Int.le_refl _) hbi (by omega);have hcells:RdL g (madeCells zv.cells (n.toNat*i.size)).toList ((List.replicate n.toNat z).flatMap T.cells):=Pl hrz hzl h0;have hall:∀x∈List.replicate n.toNat z,x.cells.length=i.size:=fun x hx=>by rw[(List.mem_replicate.1 hx).2];exact hzl
     have hfl:((List.replicate n.toNat z).flatMap T.cells).length=n.toNat*i.size:=by rw[rY hall];simp
     have hms:(madeCells zv.cells (n.toNat*i.size)).size=n.toNat*i.size:=size_madeCells _ _;refine⟨_,g.own H.next (.cells (madeCells zv.cells (n.toNat*i.size)) e) n.toNat,hr,wM hs _ _ _,?_,EV hg _ _ _,?_⟩
     .refine WW (o:={elem:=e,sz:=i.size,cells:=(List.replicate n.toNat z).flatMap T.cells}) hs hg (by simp only[hfl,hms];omega) (fun q=>by simp only at q;omega) (fun _ =>⟨hms,by simp only[maxLen];omega⟩) ?_;simp only[hfl];rw[dE (by simp[hms])];exact hcells
     .refine .osl H.next i.size 0 n.toNat g.w.heap.size 0 n.toNat (.inr rfl) (aZ _) (by simp[G.own]) (fun _ =>by simp[G.own]) (fun _ =>by simp[G.own])
    .cases hz
   .cases h
  .cases h
 .cases h
theorem aJt(hs:St g H){x:T}{new:eY}{m sz:Nat}(h1:rA H x=some new)(h2:wV x=some m)(h3:new.length=m*sz)(h4:pY new=true){tx:eX}(h5:yC P tx sz x=true)
  {v:fP} (hv:Rd g v x) (h0:0<sz):∃news,Src P sz tx v m news g.w/\RdL g news new:=by
 unfold yC at h5;split at h5
 .rename_i e hd;simp only[rA,wV]at h1 h2;cases h1;cases h2;cases hv;exact⟨[],Src.ofNil g.w hd 0,RdL.nil⟩
 .rename_i e full xs hd;simp only[rA,wV]at h1 h2;cases h1;cases h2;cases hv with
  |sl _ _ sz' b o cap vs q1 q2 q3 q4 q5 q6 q7 q8=>
   have hl:vs.length=xs.length*sz:=by rw[<-h3,rY q2];exact q6
   have hrd:RdL g vs (xs.flatMap T.cells):=⟨by rw[h3];exact hl,q8⟩;exact⟨vs,Src.ofSlice g.w hd ⟨b,o,none⟩ xs.length cap vs hl (fun j u hu=>by rw[Addr.add_lit];exact q7 j u hu) (PX hrd h4),hrd⟩
 .rename_i e full n f hd;simp only[rA,wV]at h1 h2;cases h1;cases h2;cases hv with
  |slfn _ _ p=>
   cases p with
   |none=>exact⟨[],Src.ofNil g.w hd 0,RdL.nil⟩|some a=>exact⟨[],Src.ofSlice g.w hd a 0 0 [] (by simp) (fun j u hu=>by simp at hu) (fun u hu=>by simp at hu),RdL.nil⟩
  |slf _ _ _ sz' b o cap vs q1 q2 q3 q4 q5 q6 q7 q8=>
   have hmap:((List.range m).flatMap fun i=>(f i).cells)=((List.range m).map f).flatMap T.cells:=by rw[eQ]
   have hall:∀x∈(List.range m).map f,x.cells.length=sz':=fun x hx=>by
    obtain⟨i,hi,rfl⟩:=bU.1 hx;exact q2 i (by simpa using hi)
   rw[hmap]at h3 h4⊢;have hl:vs.length=m*sz:=by
    rw[<-h3,rY hall];simpa using q6
   have hrd:RdL g vs (((List.range m).map f).flatMap T.cells):=by
    refine⟨by rw[h3];exact hl,fun j u c hu hc=> ?_⟩;have hjl:j<vs.length:=(aK.1 hu).1;rcases Nat.eq_zero_or_pos sz' with hz|hz
    .rw[q6,hz]at hjl;omega
    .have hjn:j<m*sz':=by omega
     have hi:j/sz'<m:=(Nat.div_lt_iff_lt_mul hz).2 hjn;have hr:j%sz'<sz':=Nat.mod_lt _ hz;have hj:j/sz'*sz'+j%sz'=j:=by rw[Nat.mul_comm];exact Nat.div_add_mod j sz'
     have hfi:=q2 _ hi;have hcj:(f (j/sz')).cells[j%sz']? =some ((f (j/sz')).cells[j%sz']'(by omega)):=aC _;have hx:((List.range m).map f)[j/sz']? =some (f (j/sz')):=by simp[hi]
     have h1:=EX hall hx (j%sz') _ hcj;rw[hj,hc]at h1;cases h1;exact(q8 _ _ u _ hi hr (by rw[hj];exact hu) hcj).rd
   exact⟨vs,Src.ofSlice g.w hd ⟨b,o,none⟩ m cap vs hl (fun j u hu=>by rw[Addr.add_lit];exact q7 j u hu) (PX hrd h4),hrd⟩
 .rename_i e l sz' i len hd;simp only[rA,wV]at h1 h2;cases h2;simp only[beq_iff_eq]at h5;subst h5;split at h1
  .rename_i o ho;split at h1
   .rename_i hle;cases h1;obtain⟨ha,hS,cs,hb,q1,q2,q3,q4⟩:=hs.own l o ho;cases hv with
    |osl _ _ _ _ b' o' cap p1 p2 p3 p4 p5=>
     by_cases hm:m=0
     .subst hm;have hn:((o.cells.drop (i*sz')).take (0*sz'))=[]:=by simp
      rw[hn];exact⟨[],Src.ofSlice g.w hd ⟨b',o',none⟩ 0 cap [] (by simp) (by simp) (by simp),RdL.nil⟩
     .obtain⟨rfl,rfl⟩:=p4 (.inl (by omega));have hmul:(i+m)*sz'=i*sz'+m*sz':=eS _ _ _;have hrd:RdL g (((cs.toList.take o.cells.length).drop (i*sz')).take (m*sz')) ((o.cells.drop (i*sz')).take (m*sz')):=(q4.drop _).take _;refine⟨_,Src.ofSlice g.w hd ⟨g.loc l,i*sz',none⟩ m cap _ (by rw[hrd.1];exact h3) (fun j u hu=> ?_) (PX hrd h4),hrd⟩;rw[Addr.add_lit];rw[bD]at hu;split at hu
      .rw[bO,bD]at hu;split at hu
       .simp[World.cell?,hb]at hu⊢;exact hu
       .cases hu
      .cases hu
   .cases h1
  .cases h1
 .rename_i s hd;simp only[rA,wV]at h1 h2;cases h1;cases h2;simp only[beq_iff_eq]at h5;subst h5;obtain⟨a,rfl,rfl⟩:=hv.inv_str;refine⟨byteCells a,?_,?_⟩
  .have e:a.data.toList.length=a.size:=by simp[dP]
   rw[e];exact Src.ofString g.w hd a
  .refine⟨by simp[byteCells],fun j u c hu hc=> ?_⟩;simp only[byteCells,aY,aF]at hu hc;obtain⟨x,hx,rfl⟩:=hu;obtain⟨y,hy,rfl⟩:=hc;rw[hx]at hy;cases hy;exact .int _ _
 .cases h5
theorem Fk(hs:St g H)(hg:qP g){H0:Hp}(hH0:H0.next=H.next)(hsub:∀l o,H0.any l=some o->H.any l=some o){e:eX}{sz need cap:Nat}{cells:eY}{vs:fM}{rest:fU}(hv:RdL g vs cells)(hlen:cells.length=need*sz)
  (hrest:rest.size=(cap-need)*sz) (hcap:need<=cap) (hmax:cap<=maxLen) (hsz:sz≠0):
  ∃g',g'.w=g.w.drew.alloc (.cells (vs.toArray++rest) e)/\oX H g (H0.new {elem:=e,sz:=sz,cells:=cells}) g'/\St g' (H0.new {elem:=e,sz:=sz,cells:=cells})/\qP g'/\
   Rd g' (.slice (some ⟨g.w.heap.size,0,none⟩) need cap) (.osl H0.next sz 0 need):=by
 have hs0:St g H0:=⟨fun l o ho=>hs.own l o (yQ (hsub l o (pJ ho).1) (pJ ho).2),fun l o m ho=>hs.ownM l o m (hsub l o ho),fun l l' o o' h1 h2=>hs.sep l l' o o' (hsub l o h1) (hsub l' o' h2),fun l hl=>hs.new l (hH0▸hl)⟩
 let gd:G:={g with w:=g.w.drew}
 have hp:PStep g gd:=⟨rfl,rfl,rfl,aZ _,fun _ _ =>rfl,fun _ h=>h,fun _ h=> .inl h,rfl,rfl,rfl⟩;have hsd:=hs0.pstep hp;have hgd:qP gd:=hg;have hdown:oX H g H0 gd:=⟨rfl,rfl,rfl,aZ _,fun _ _ _ =>rfl,fun _ h=>h,fun _ h=> .inl h,fun _ h=>h,fun _ _ =>rfl,fun _ _ =>rfl,fun l o ho=> .inl ⟨l,o,hsub l o ho,rfl⟩⟩;have hvl:vs.length=need*sz:=by rw[hv.1];exact hlen
 have hmul:cap*sz=need*sz+(cap-need)*sz:=by rw[<-eS];congr 1;omega
 refine⟨gd.own H0.next (.cells (vs.toArray++rest) e) cap,rfl,hdown.trans (wM hsd _ _ _),?_,EV hgd _ _ _,?_⟩
 .refine WW (o:={elem:=e,sz:=sz,cells:=cells}) hsd hgd (by simp;omega) (fun q=>absurd q hsz) (fun _ =>⟨by simp[hvl,hrest];omega,hmax⟩) ?_;have:(vs.toArray++rest).toList.take cells.length=vs:=by
   rw[Array.toList_append,hlen,<-hvl];simp
  simp only at this⊢;rw[this];exact hv.pstep hp
 .refine .osl H0.next sz 0 need g.w.heap.size 0 cap (.inr rfl) hcap (by simp[G.own]) (fun _ =>⟨by simp only[G.own,if_true];rfl,by simp⟩) (fun _ =>by simp[G.own])
theorem BG(z:fU)(n:Nat):(Builtin.zeroCells z n).size=n*z.size:=by simp[Builtin.zeroCells]
theorem Py(hs:St g H)(hg:qP g){t tx ty:eX}{s x r:T}{H':Hp}(h:BN P H t tx s x=some (r,H')){u v:fP}(hu:Rd g u s)(hv:Rd g v x):
  ∃q g',(Builtin.append_ #[t,tx] ty #[u,v]).run P g.w= .ok q g'.w/\oX H g H' g'/\St g' H'/\qP g'/\Rd g' q r:=by
 unfold BN at h;split at h
 .rename_i e xs hd hxs;split at h
  .rename_i i hi;split at h
   .cases h
   .rename_i hc;simp only[not_or]at hc;obtain⟨h0,hx,hsz,h2,h3,h4,h5⟩:=hc;have hx:xs≠[]:=fun e=>hx (by rw[e];rfl);have hsc:rA H x=some (xs.flatMap T.cells)/\wV x=some xs.length:=by
     unfold aWq at hxs;split at hxs
     .cases hxs;exact⟨rfl,rfl⟩
     .cases hxs;exact⟨by simp[rA,eQ],by simp[wV]⟩
     .cases hxs
    cases h;have h0':0<i.size:=Nat.pos_of_ne_zero h0;have hsz':∀y∈xs,y.cells.length=i.size:=fun y hy=>by
     have:(xs.all fun y=>Nat.beq y.cells.length i.size)=true:=by simpa using hsz
     exact aB (aG.1 this y hy)
    have hfl:(xs.flatMap T.cells).length=xs.length*i.size:=rY hsz';have h2':pY (xs.flatMap T.cells)=true:=by simpa using h2
    have h4':yC P tx i.size x=true:=by simpa using h4
    have hz:∃z,i.zero=some z/\z.cells.size=i.size:=by
     cases hz:i.zero with
     |none=>simp[hz]at h3|some z=>exact⟨z,rfl,by simpa [hz]using h3⟩
    obtain⟨z,hz,hzs⟩:=hz;have hr:xs.length*i.bytes<=70368744177664/\xs.length<=70368744177664:=by
     have:zP xs.length i.bytes=true:=by simpa using h5
     simpa [zP]using this
    obtain⟨news,hsr,hnew⟩:=aJt (P:=P) hs (m:=xs.length) hsc.1 hsc.2 hfl h2' h4' hv h0';have hnl:news.length=xs.length*i.size:=hsr.newsLen;have hl0:0<xs.length:=List.length_pos_iff.2 hx;cases hu;have hrun:=run_append_grow_src (P:=P) g.w t tx ty e i z hd hi hz none 0 0 [] (by simp[Builtin.firstCells]) v xs.length news hsr (by omega) (by omega) (growslice_fits (by omega) (by rw[bN];omega));have hge:=grownCap_ge g.w (0+xs.length) 0 e;have hmx:=grownCap_le_maxLen g.w (0+xs.length) 0 e (by simp only[maxLen];omega);simp only[bN,List.nil_append]at hrun hge hmx
    let gd:G:={g with w:=g.w.drew}
    have hp:PStep g gd:=⟨rfl,rfl,rfl,aZ _,fun _ _ =>rfl,fun _ h=>h,fun _ h=> .inl h,rfl,rfl,rfl⟩;have hgd:qP gd:=hg;obtain⟨ca,hca⟩:∃ca,news.toArray++Builtin.zeroCells z.cells (grownCap g.w xs.length 0 e-xs.length)=ca:=⟨_,rfl⟩;rw[hca]at hrun;have hp2:=hp.trans (G.add_step gd (.cells ca e));refine⟨_,gd.add (.cells ca e),by rw[hrun];rfl,hp2.toS,hs.pstep hp2,G.add_ok hgd _,?_⟩;refine .sl false xs i.size g.w.heap.size 0 _ news (fun _ => .inr rfl) hsz' hge hmx (by simp) hnl (fun j u hu=> ?_) (fun j u c hu hc=> ?_)
    .rw[bN];have:=G.add_cell gd ca e j;refine this.trans ?_;rw[<-hca,Array.getElem?_append_left (by have:=(aK.1 hu).1;simpa using this)];simpa using hu
    .exact(hnew.2 j u c hu hc).pstep hp2
  .cases h
 .cases h
theorem Yp(hs:St g H)(hg:qP g){t tx ty:eX}{s x r:T}{H':Hp}(h:rT P H t tx s x=some (r,H')){u v:fP}(hu:Rd g u s)(hv:Rd g v x):
  ∃q g',(Builtin.append_ #[t,tx] ty #[u,v]).run P g.w= .ok q g'.w/\oX H g H' g'/\St g' H'/\qP g'/\Rd g' q r:=by
 unfold rT at h;split at h
 .rename_i e hd;split at h
  .rename_i i new m hi hsrc hm;split at h
   .cases h
   .rename_i hc;simp only[not_or]at hc;obtain⟨h0,h1,h2,h3,h4⟩:=hc;have h0':0<i.size:=Nat.pos_of_ne_zero h0;have h1':new.length=m*i.size:=by omega
    have h2':pY new=true:=by simpa using h2
    have h4':yC P tx i.size x=true:=by simpa using h4
    have hz:∃z,i.zero=some z/\z.cells.size=i.size:=by
     cases hz:i.zero with
     |none=>simp[hz]at h3|some z=>exact⟨z,rfl,by simpa [hz]using h3⟩
    obtain⟨z,hz,hzs⟩:=hz;obtain⟨news,hsr,hnew⟩:=aJt (P:=P) hs hsrc hm h1' h2' h4' hv h0';have hnl:news.length=m*i.size:=hsr.newsLen;have room:∀{n b:Nat},zP n b=true->n*b<=70368744177664/\n<=70368744177664:=fun q=>by simpa [zP]using q
    split at h
    .cases hu;split at h
     .rename_i hm0;cases h;subst hm0;refine⟨.slice none 0 0,g,?_,.refl _ _,hs,hg,.nils⟩;rcases hsr.kind with⟨e',hk⟩|hk<;>simp[Builtin.append_,run_underlying hd,run_underlying hk,sizeOf,typeInfo,hi,hsr.len,hsr.cells]
     .rename_i hm0;split at h
      .rename_i hr;cases h;obtain⟨r1,r2⟩:=room hr;have hrun:=run_append_grow_src (P:=P) g.w t tx ty e i z hd hi hz none 0 0 [] (by simp[Builtin.firstCells]) v m news hsr (by omega) (by omega) (growslice_fits (by omega) (by rw[bN];omega));have hge:=grownCap_ge g.w (0+m) 0 e;have hmx:=grownCap_le_maxLen g.w (0+m) 0 e (by simp only[maxLen];omega);simp only[bN,List.nil_append]at hrun hge hmx;obtain⟨g',e1,e2,e3,e4,e5⟩:=Fk (e:=e) hs hg (H0:=H) rfl (fun _ _ q=>q) hnew h1' (rest:=Builtin.zeroCells z.cells (grownCap g.w m 0 e-m)) (by rw[BG,hzs]) hge hmx h0;exact⟨_,g',by rw[hrun,e1],e2,e3,e4,e5⟩
      .cases h
    .rename_i xs;cases hu with
     |sl _ _ sz' b o cap vs q1 q2 q3 q4 q5 q6 q7 q8=>
      have hcap:=q5 rfl;subst hcap;split at h
      .rename_i hm0;cases h;subst hm0;have hn0:news=[]:=bR (by omega);subst hn0;refine⟨_,g,?_,.refl _ _,hs,hg,.sl true xs sz' b o xs.length vs q1 q2 q3 q4 q5 q6 q7 q8⟩;rcases hsr.kind with⟨e',hk⟩|hk<;>simp[Builtin.append_,run_underlying hd,run_underlying hk,sizeOf,typeInfo,hi,hsr.len,hsr.cells,storeCells]
      .rename_i hm0;split at h
       .rename_i hr;cases h;simp only[aA]at hr;obtain⟨r1,r2⟩:=room hr.1;have hszz:xs=[]\/sz'=i.size:=by
         cases xs with
         |nil=>exact .inl rfl|cons y ys=>right;have h5:=hr.2;simp only[GL,beq_iff_eq]at h5;rw[<-h5];exact(q2 y (by simp)).symm
        have hvl:vs.length=xs.length*i.size:=by
         rcases hszz with rfl|rfl
         .simpa using q6
         .exact q6
        have hxl:(xs.flatMap T.cells).length=xs.length*i.size:=by
         rcases hszz with rfl|rfl
         .simp
         .exact rY q2
        have hold:(Builtin.firstCells i.size xs.length (.slice (some ⟨b,o,none⟩) xs.length xs.length)).run P g.w.drew= .ok vs.toArray g.w.drew:=
         run_firstCells_some (P:=P) g.w.drew i.size xs.length ⟨b,o,none⟩ xs.length xs.length vs hvl (fun j u hu=>by rw[Addr.add_lit];exact q7 j u hu)
        have hrun:=run_append_grow_src (P:=P) g.w t tx ty e i z hd hi hz (some ⟨b,o,none⟩) xs.length xs.length vs hold v m news hsr (by omega) (by omega) (growslice_fits (by omega) (by omega));have hge:=grownCap_ge g.w (xs.length+m) xs.length e;have hmx:=grownCap_le_maxLen g.w (xs.length+m) xs.length e (by simp only[maxLen];omega);have hvs:RdL g vs (xs.flatMap T.cells):=⟨by rw[hxl];exact hvl,q8⟩;obtain⟨g',e1,e2,e3,e4,e5⟩:=Fk (e:=e) hs hg (H0:=H) rfl (fun _ _ q=>q) (hvs.append hnew) (need:=xs.length+m) (by rw[bK,hxl,h1',eS]) (rest:=Builtin.zeroCells z.cells (grownCap g.w (xs.length+m) xs.length e-(xs.length+m))) (by rw[BG,hzs]) hge hmx h0;exact⟨_,g',by rw[hrun,e1],e2,e3,e4,e5⟩
       .cases h
    .rename_i l sz' len;cases hu with
     |osl _ _ _ _ b o cap p1 p2 p3 p4 p5=>
      obtain⟨rfl,rfl⟩:=p4 (.inr rfl);have hcp:=p5 rfl;subst hcp;simp only[Nat.zero_mul]at*;split at h
      .rename_i hm0;cases h;subst hm0;have hn0:news=[]:=bR (by omega);subst hn0;refine⟨.slice (some ⟨g.loc l,0,none⟩) len (g.cp l),g,?_,.refl _ _,hs,hg,.osl l sz' 0 len (g.loc l) 0 (g.cp l) p1 p2 (by omega) (fun _ =>⟨rfl,by simp⟩) (fun _ =>rfl)⟩;rcases hsr.kind with⟨e',hk⟩|hk<;>simp[Builtin.append_,run_underlying hd,run_underlying hk,sizeOf,typeInfo,hi,hsr.len,hsr.cells,storeCells,p2]
      .rename_i hm0;split at h
       .rename_i ob hob;split at h
        .rename_i hcc;cases h;obtain⟨c1,c2,c3,c4,c5⟩:=hcc;obtain⟨r1,r2⟩:=room c5;subst c3;obtain⟨ha,hS,cs,hb,o1,o2,o3,o4⟩:=hs.own l ob hob;obtain⟨o3,o5⟩:=o3 (by omega);rw[c2]at o3;obtain⟨hoba,hobm⟩:=pJ hob;have hdrop:∀l' o',(H.drop l).any l'=some o'->H.any l'=some o':=fun l' o' q=>by
          rw[sJ]at q;split at q
          .cases q
          .exact q
         have hnl':∀l' o',(H.drop l).any l'=some o'->l'≠l:=fun l' o' q e=>by
          rw[sJ,if_pos e]at q;cases q
         by_cases hroom:len+m<=g.cp l
         .have hle:len*i.size+m*i.size<=cs.size:=by rw[o3,<-eS];exact cI _ hroom
          have hone:=hsr.one;have hstc:=run_storeCells_at (P:=P) (g.loc l) (len*i.size) ob.elem news 0 cs g.w hb (by omega) hone;simp only[Nat.add_zero]at hstc
          let cs':=(cs.toList.take (len*i.size)++news++cs.toList.drop (len*i.size+news.length)).toArray
          have hcs':cs'.size=cs.size:=by simp[cs'];omega
          let g':G:={w:=g.w.setRow (g.loc l) cs',S:=g.S,al:=fun k=>g.al k\/k=H.next,loc:=fun k=>if k=H.next then g.loc l else g.loc k,cp:=fun k=>if k=H.next then g.cp l else g.cp k}
          have hn:=hs.new H.next (aZ _);have hne:∀k,g.al k->k≠H.next:=fun k hk q=>hn (q▸hk);have hstep:oX H g ((H.drop l).new {elem:=ob.elem,sz:=i.size,cells:=ob.cells++new}) g':=by
           refine⟨rfl,rfl,rfl,by simp[g',World.setRow],fun k _ hk=>setRow_other _ _ _ _ (fun q=>hk l ob hoba q.symm),fun _ q=>q,fun _ q=> .inl q,fun k hk=> .inl hk,fun k hk=>by simp[g',hne k hk],fun k hk=>by simp[g',hne k hk],fun k o' ho'=> ?_⟩;rw[uG]at ho';split at ho'
           .rename_i q;exact .inl ⟨l,ob,hoba,by simp only[Hp.drop]at q;simp[g',q]⟩
           .rename_i q;have:=hdrop k o' ho';simp only[Hp.drop]at q;exact .inl ⟨k,o',this,by simp[g',Ne.symm q]⟩
          refine⟨.slice (some ⟨g.loc l,0,none⟩) (len+m) (g.cp l),g',?_,hstep,?_,fun k hk=>by simpa [g',World.setRow]using hg k hk,?_⟩
          .rcases hsr.kind with⟨e',hk⟩|hk<;>simp[Builtin.append_,run_underlying hd,run_underlying hk,sizeOf,typeInfo,hi,hsr.len,hsr.cells,hroom,Addr.add_lit,hstc,g',cs']
          .have hrow:RdL g (cs'.toList.take (ob.cells++new).length) (ob.cells++new):=by
            have e1:(ob.cells++new).length=len*i.size+m*i.size:=by rw[bK,c4,h1']
            have e2:cs'.toList.take (ob.cells++new).length=cs.toList.take (len*i.size)++news:=by
             simp only[cs'];have e3:(cs.toList.take (len*i.size)++news).length=len*i.size+m*i.size:=by simp;omega
             rw[e1,<-e3,List.take_left]
            rw[e2];rw[c4]at o4;exact o4.append hnew
           have hothr:∀k o',¬(H.drop l).next=k->(H.drop l).any k=some o'->g'.loc k=g.loc k/\(g.w.setRow (g.loc l) cs').heap[g.loc k]? =g.w.heap[g.loc k]? :=fun k o' q ho'=>by
            have hk:=hdrop k o' ho';exact⟨hstep.loc k (hs.at_ hk).1,setRow_other _ _ _ _ (fun q'=>hnl' k o' ho' (hs.sep k l o' ob hk hoba q'))⟩
           refine⟨fun k o' ho'=> ?_,fun k o' kc ho' hme=> ?_,fun k k' o1' o2' hk1 hk2 q=> ?_,fun k hk=> ?_⟩
           .obtain⟨ha0,hm0⟩:=pJ ho';rw[uG]at ha0;split at ha0
            .rename_i q;cases ha0;simp only[Hp.drop]at q;subst q;refine⟨.inr rfl,by simpa [g']using hS,cs',?_,?_,fun q=>by simp only at q;omega,fun _ =>⟨by simp[g',hcs',o3],by simpa [g']using o5⟩,hrow.sstep hs hstep⟩
             .simp only[g',if_true];exact setRow_heap _ _ _ _ _ _ hb
             .rw[hcs'];simp only[bK,c4,h1'];omega
            .rename_i q;have hk:=hdrop k o' ha0;obtain⟨ha',hS',cs'',hb',p1',p2',p3',p4'⟩:=hs.own k o' (yQ hk hm0);obtain⟨hloc,hbk⟩:=hothr k o' q ha0;have hcp':g'.cp k=g.cp k:=hstep.cp k ha';refine⟨.inl ha',by rw[hloc];exact hS',cs'',?_,p1',p2',by rw[hcp'];exact p3',p4'.sstep hs hstep⟩;rw[hloc];show(g.w.setRow (g.loc l) cs').heap[g.loc k]? =_;rw[hbk];exact hb'
           .rw[uG]at ho';split at ho'
            .cases ho';cases hme
            .rename_i q;have hk:=hdrop k o' ho';obtain⟨ha',hS',ms',hb',p1'⟩:=hs.ownM k o' kc hk hme;obtain⟨hloc,hbk⟩:=hothr k o' q ho';refine⟨.inl ha',by rw[hloc];exact hS',ms',?_,p1'.mono (fun _ _ z=>z.sstep hs hstep) (fun l hl=>⟨hstep.al l hl,hstep.loc l hl⟩)⟩;rw[hloc];show(g.w.setRow (g.loc l) cs').heap[g.loc k]? =_;rw[hbk];exact hb'
           .rw[uG]at hk1 hk2;have hnx:(H.drop l).next=H.next:=rfl;rw[hnx]at hk1 hk2;have hex:∀k o',¬H.next=k->(H.drop l).any k=some o'->H.any k=some o'/\k≠l/\g'.loc k=g.loc k:=fun k o' q ho'=>by
             have:=hdrop k o' ho';exact⟨this,hnl' k o' ho',by simp[g',Ne.symm q]⟩
            split at hk1
            .rename_i q1;split at hk2
             .rename_i q2;rw[<-q1,<-q2]
             .rename_i q2;obtain⟨a1,a2,a3⟩:=hex k' o2' q2 hk2;rw[a3]at q;simp only[g',if_pos q1.symm]at q;exact absurd (hs.sep k' l o2' ob a1 hoba q.symm) a2
            .rename_i q1;obtain⟨a1,a2,a3⟩:=hex k o1' q1 hk1;split at hk2
             .rename_i q2;rw[a3]at q;simp only[g',if_pos q2.symm]at q;exact absurd (hs.sep k l o1' ob a1 hoba q) a2
             .rename_i q2;obtain⟨b1,b2,b3⟩:=hex k' o2' q2 hk2;rw[a3,b3]at q;exact hs.sep k k' o1' o2' a1 b1 q
           .simp only[Hp.new,Hp.drop]at hk;rintro(q|q)
            .exact hs.new k (by omega) q
            .omega
          .refine .osl H.next i.size 0 (len+m) (g.loc l) 0 (g.cp l) (.inr rfl) hroom (by simp[g']) (fun _ =>by simp[g']) (fun _ =>by simp[g'])
         .have hold:(Builtin.firstCells i.size len (.slice (some ⟨g.loc l,0,none⟩) len (g.cp l))).run P g.w.drew= .ok (cs.toList.take ob.cells.length).toArray g.w.drew:=
           run_firstCells_some (P:=P) g.w.drew i.size len ⟨g.loc l,0,none⟩ len (g.cp l) _ (by rw[o4.1];exact c4) (fun j u hu=>by
            rw[Addr.add_lit,bN];rw[bD]at hu;split at hu
            .have hb':g.w.drew.heap[g.loc l]? =some (.cells cs ob.elem (0,0)):=hb;simp[World.cell?,hb']at hu⊢;exact hu
            .cases hu)
          have hrun:=run_append_grow_src (P:=P) g.w t tx ty ob.elem i z hd hi hz (some ⟨g.loc l,0,none⟩) len (g.cp l) _ hold v m news hsr (by omega) (by omega) (growslice_fits (by omega) (by omega));have hge:=grownCap_ge g.w (len+m) (g.cp l) ob.elem;have hmx:=grownCap_le_maxLen g.w (len+m) (g.cp l) ob.elem (by simp only[maxLen];omega);obtain⟨g',e1,e2,e3,e4,e5⟩:=Fk (e:=ob.elem) hs hg (H0:=H.drop l) rfl hdrop (o4.append hnew) (need:=len+m) (by rw[bK,c4,h1',eS]) (rest:=Builtin.zeroCells z.cells (grownCap g.w (len+m) (g.cp l) ob.elem-(len+m))) (by rw[BG,hzs]) hge hmx h0;exact⟨_,g',by rw[hrun,e1],e2,e3,e4,e5⟩
        .cases h
       .cases h
    .cases h
  .cases h
 .cases h
abbrev fE:=FuncId->List T->Hp->Option (T×Hp)
def rG(P:fA)(gl:fD)(ee:fE):Prop:=
 ∀f ts H r H',ee f ts H=some (r,H')->tY P f=true/\∀(g:G) (vs:fM),qP g->St g H->GlOk gl g->RdL g vs ts->
  Calls P f vs.toArray g.w fun e w'=>∃v g',e= .returned v/\g'.w=w'/\oX H g H' g'/\qP g'/\St g' H'/\Rd g' v r
def EOk(P:fA)(o:Oper)(a:Act)(g:G)(H:Hp)(t:T)(H':Hp):Prop:=
 ∀(K:gH) (Q:fF),(∀v g',oX H g H' g'->qP g'->St g' H'->Rd g' v t->K (a.put o.dst v) g'.w)->o.wp P a g.w K Q
theorem aLj(hs:St g H)(hg:qP g){pa:Bool}{t tx ty:eX}{s x r:T}{H':Hp}(h:NS P pa H t tx s x=some (r,H')){u v:fP}(hu:Rd g u s)(hv:Rd g v x):
  ∃q g',(Builtin.append_ #[t,tx] ty #[u,v]).run P g.w= .ok q g'.w/\oX H g H' g'/\St g' H'/\qP g'/\Rd g' q r:=by
 unfold NS at h;split at h
 .exact Py hs hg h hu hv
 .exact Yp hs hg h hu hv
theorem xO{o:Oper}{a:Act}{t:T}{v:fP}{H':Hp}{g':G}(hr:(execOp a.eval o).run P g.w= .ok (.value v) g'.w)(h1:oX H g H' g')(h2:St g' H')(h3:qP g')(h:Rd g' v t):EOk P o a g H t H':=by
 intro K Q hK;unfold Oper.wp;rw[hr];exact hK v g' h1 h3 h2 h
theorem LU{o:Oper}{a:Act}{H':Hp}{g':G}(hr:(execOp a.eval o).run P g.w= .ok .skip g'.w)(h1:oX H g H' g')(h2:St g' H')(h3:qP g'):EOk P o a g H oL H':=by
 intro K Q hK;unfold Oper.wp;rw[hr];exact hK undef g' h1 h3 h2 Rd.undef
theorem Ew{E:tW}{F:Fc}(hF:rG P E.gl F.ee)(hgl:GlOk E.gl g)(hs:St g H)(hg:qP g){fr:eY}{a:Act}{o:Oper}{t:T}{H':Hp}
  (h:rO P E F H fr o=some (t,H')) (hop:∀x∈o.op.operands,∀t,pE E.gl fr x=some t->Rd g (a.eval x) t):EOk P o a g H t H':=by
 obtain⟨dst,op,type,pos,after,guard⟩:=o;cases op<;>simp only[rO]at h<;>simp only[Op.operands]at hop<;>try(cases h;done)
 case alloc e=>
  split at h
  .rename_i z hz;cases h;obtain⟨v,hv,hr⟩:=EZ (g:=g) hz;have hc:=hr.cells;have hlen:v.cells.size=z.cells.length:=by rw[<-hc.1];simp
   refine xO (g':=g.own H.next (.cells v.cells e) 0) (v:= .pointer (some ⟨g.w.heap.size,0,none⟩)) ?_ (wM hs _ _ _) ?_ (EV hg _ _ _) (Gu _ _ _)
   .simp only[execOp,Instr.alloc,aO,hv,aH,newVar,newRow,run_newObj,aW];rfl
   .refine WW (o:={elem:=e,sz:=0,cells:=z.cells}) hs hg (by simp only;omega) (fun _ =>hlen) (fun q=>absurd rfl q) ?_;simp only;rw[dE (by rw[hc.1];exact aZ _)];exact hc
  .cases h
 case box e x=>
  split at h
  .rename_i y hy;cases h;have hr:=hop x (by simp) y hy;have hc:=hr.cells;have hlen:(a.eval x).cells.size=y.cells.length:=by rw[<-hc.1];simp
   refine xO (g':=g.own H.next (.cells (a.eval x).cells e) 0) (v:= .pointer (some ⟨g.w.heap.size,0,none⟩)) ?_ (wM hs _ _ _) ?_ (EV hg _ _ _) (Gu _ _ _)
   .simp only[execOp,Instr.box,aO,aH,newVar,newRow,run_newObj,aW];rfl
   .refine WW (o:={elem:=e,sz:=0,cells:=y.cells}) hs hg (by simp only;omega) (fun _ =>hlen) (fun q=>absurd rfl q) ?_;simp only;rw[dE (by rw[hc.1];exact aZ _)];exact hc
  .cases h
 case buildSlice ty len parts=>
  split at h
  .rename_i l hl;split at h
   .rename_i e f xs hd hb;split at h
    .rename_i s hsz;cases h;have hp:=MR (g:=g) (a:=a) hl (fun p hp t ht=>hop p.2 (by simp;exact⟨p.1,by simpa using hp⟩) t ht);obtain⟨ca,e',h1,_,xs',s',hr,hd',hs',h0,hsm,hfl,hrd⟩:=IY hb hp;cases hr;rw[hd]at hd';cases hd';rw[hsz]at hs';cases hs';have hca:ca.size=len*s:=by rw[<-hfl,<-hrd.1];simp
     have e1:(parts.map fun x=>(x.1,a.eval x.2))=(parts.toList.map fun p=>(p.1,a.eval p.2)).toArray:=by cases parts;simp
     have hle:len<=len*s:=Nat.le_mul_of_pos_right _ h0;refine xO (g':=g.own H.next (.cells ca e) len) (v:= .slice (some ⟨g.w.heap.size,0,none⟩) len len) ?_ (wM hs _ _ _) ?_ (EV hg _ _ _) ?_
     .simp only[execOp,aO,e1,h1,aH,aW];rfl
     .refine WW (o:={elem:=e,sz:=s,cells:=xs.flatMap T.cells}) hs hg (by simp only[hfl,hca];omega) (fun q=>by simp only at q;omega) (fun _ =>⟨hca,by simp only[maxLen];omega⟩) ?_;simp only[hfl];rw[dE (by simp[hca])];exact hrd
     .exact .osl H.next s 0 len g.w.heap.size 0 len (.inr rfl) (aZ _) (by simp[G.own]) (fun _ =>by simp[G.own]) (fun _ =>by simp[G.own])
    .cases h
   .cases h
  .cases h
 case store e p x=>
  split at h
  .rename_i q y hq hy;split at h
   .rename_i H1 hH1;cases h;obtain⟨g',h1,h2,h3,h4⟩:=aJy (P:=P) hs hH1 (hop p (by simp) q hq) (hop x (by simp) y hy);exact LU (g':=g') (by simp only[execOp,aO,h1,aH,aW]) h2 h3 (h4 hg)
   .cases h
  .cases h
 case makeSlice e l c=>
  split at h
  .rename_i n m hn hm;obtain⟨q,g',h1,h2,h3,h4,h5⟩:=aOp (P:=P) hs hg h (hop l (by simp) n hn) (hop c (by simp) m hm);exact xO (g':=g') (v:=q) (by simp only[execOp,aO,h1,aH,aW]) h2 h3 h4 h5
  .cases h
 case makeMap e r=>
  split at h
  .rename_i hh hr;split at h
   .rename_i hok;cases h;have hro:RdO g (r.map a.eval) hh:=by
     cases r with
     |none=>simp[IX]at hr;subst hr;trivial
     |some y=>
      simp only[IX]at hr;split at hr
      .rename_i z hz;cases hr;exact hop y (by simp) z hz
      .cases hr
    refine xO (g':=g.own H.next (.map #[] 0) 0) (v:= .map (some g.w.heap.size)) ?_ (wM hs _ _ _) (aPe hs hg e) (EV hg _ _ _) ?_
    .simp only[execOp,aO,Lt (P:=P) (g:=g) (H:=H) hok hro,aH,aW]
    .have:=Rd.mp (g:=g.own H.next (.map #[] 0) 0) H.next (.inr rfl);simpa [G.own]using this
   .cases h
  .cases h
 case mapUpdate e m k x=>
  split at h
  .rename_i q y z hq hy hz;split at h
   .rename_i H1 hH1;cases h;obtain⟨g',h1,h2,h3,h4⟩:=aKg (P:=P) hs hH1 (hop m (by simp) q hq) (hop k (by simp) y hy) (hop x (by simp) z hz);exact LU (g':=g') (by simp only[execOp,aO,h1,aH,aW]) h2 h3 (h4 hg)
   .cases h
  .cases h
 case insert e m k x=>
  split at h
  .rename_i q y z hq hy hz;split at h
   .rename_i H1 hH1;cases h;obtain⟨g',h1,h2,h3,h4⟩:=aKg (P:=P) hs hH1 (hop m (by simp) q hq) (hop k (by simp) y hy) (hop x (by simp) z hz);exact LU (g':=g') (by simp only[execOp,aO,h1,aH,aW]) h2 h3 (h4 hg)
   .cases h
  .cases h
 case mapEntry e m k=>
  split at h
  .rename_i q y hq hy;obtain⟨u,g',h1,h2,h3,h4,h5⟩:=aFe (P:=P) hs h (hop m (by simp) q hq) (hop k (by simp) y hy);exact xO (g':=g') (v:=u) (by simp only[execOp,aO,h1,aH,aW]) h2 h3 (h4 hg) h5
  .cases h
 case entryStore e m s x=>
  split at h
  .rename_i q y z hq hy hz;split at h
   .rename_i H1 hH1;cases h;obtain⟨g',h1,h2,h3,h4⟩:=YZ (P:=P) hs hH1 e (hop m (by simp) q hq) (hop s (by simp) y hy) (hop x (by simp) z hz);exact LU (g':=g') (by simp only[execOp,aO,h1,aH,aW]) h2 h3 (h4 hg)
   .cases h
  .cases h
 case call c=>
  obtain⟨callee,args,tys⟩:=c;simp only[Call.operands]at hop;simp only at h;split at h
  .rename_i f;split at h
   .rename_i k first cap hf
    split at h
    .rename_i ars has;obtain⟨vs,us,hv,hr1,hr2⟩:=(hop f (by simp) _ hf).inv_fn;have h3:=sY (g:=g) (a:=a) has (fun x hx=>hop x (by simp at hx;simp[hx]));obtain⟨hk,hc⟩:=hF k _ H t H' h;have hcall:=hc g _ hg hs hgl ((hr1.append h3).append hr2);intro K Q hK;have hrun:(execOp a.eval {dst,op:= .call ⟨.value f,args,tys⟩,type,pos,after,guard}).run P g.w= .ok (.enter k (vs++args.toList.map a.eval++us).toArray) g.w:=by
      simp only[execOp,resolve,hv,Deferred.ofValue,aO,aW,aH,invoke,qI];rw[DH hk];simp
     unfold Oper.wp;rw[hrun];exact hcall.mono fun e w' ⟨v,g',he,hw,hst,hok,hst',hrd⟩=>by
      subst he;subst hw;exact hK v g' hst hok hst' hrd
    .cases h
   .cases h
  .split at h
   .rename_i m k t0 ts hargs htys;split at h
    .rename_i p q hp hq;split at h
     .rename_i H1 hH1;cases h;have e1:args= #[m,k]:=by cases args;simp at hargs;simp[hargs]
      have e2:tys[0]? =some t0:=by rw[<-eL,htys];rfl
      subst e1;obtain⟨g',h1,h2,h3,h4⟩:=aTd (P:=P) hs hH1 (hop m (by simp) p hp) (hop k (by simp) q hq) tys e2 type;exact xO (g':=g') (v:= .tuple #[]) (by simp[execOp,resolve,invoke,builtin,h1]) h2 h3 (h4 hg) Rd.undef
     .cases h
    .cases h
   .cases h
  .split at h
   .rename_i s x t0 t1 hargs htys;split at h
    .rename_i p q hp hq;have e1:args= #[s,x]:=by cases args;simp at hargs;simp[hargs]
     have e2:tys= #[t0,t1]:=by cases tys;simp at htys;simp[htys]
     subst e1;subst e2;obtain⟨u,g',h1,h2,h3,h4,h5⟩:=aLj (P:=P) (ty:=type) hs hg h (hop s (by simp) p hp) (hop x (by simp) q hq);exact xO (g':=g') (v:=u) (by simp[execOp,resolve,invoke,builtin,h1]) h2 h3 h4 h5
    .cases h
   .cases h
  .cases h
end
end
end Go.Ps
namespace Go.Ps
def CJ(g:G)(a:Act)(fr:eY)(sk:gQ):Prop:=
 a.tmps.size=fr.length/\∀(j:Nat) (v:fP) (c:T),sk≠some j->a.tmps[j]? =some v->fr[j]? =some c->Rd g v c
theorem CJ.of{g:G}{a:Act}{fr:eY}(h:RdL g a.tmps.toList fr)(sk:gQ):CJ g a fr sk:=⟨by simpa using h.1,fun j v c _ hv hc=>h.2 j v c (by simpa using hv) hc⟩
theorem CJ.all{g:G}{a:Act}{fr:eY}(h:CJ g a fr none):RdL g a.tmps.toList fr:=⟨by simpa using h.1,fun j v c hv hc=>h.2 j v c (by simp) (by simpa using hv) hc⟩
section
variable{g:G}{a:Act}{fr:eY}{sk:gQ}
theorem CJ.get(h:CJ g a fr sk){t:Tmp}(ht:sk≠some t):Rd g (a.tmps.getD t undef) (qW fr t):=by
 rw[sG];by_cases hlt:t<fr.length
 .have hlt':t<a.tmps.size:=by rw[h.1];exact hlt
  have:=h.2 t (a.tmps[t]'hlt') (fr[t]'hlt) ht (by simp[hlt']) (by simp[hlt]);simpa [hlt,hlt']using this
 .have hlt':¬t<a.tmps.size:=by rw[h.1];exact hlt
  have e1:a.tmps.getD t undef=undef:=by simp[cT (bT hlt')]
  have e2:fr.getD t oL=oL:=by simp[bH (bT hlt)]
  rw[e1,e2];exact Rd.undef
theorem CJ.eval{gl:fD}(h:CJ g a fr sk)(hgl:GlOk gl g){x:gF}(hx:∀t,x= .tmp t->sk≠some t){r:T}(hr:pE gl fr x=some r):Rd g (a.eval x) r:=by
 cases x with
 |tmp t=>simp only[pE,aD]at hr;subst hr;exact h.get (hx t rfl)|const v=>exact DK g hr|global k=>exact(hgl k r hr).1|func f=>simp only[pE,aD]at hr;subst hr;exact Rd.mk_fn RdL.nil RdL.nil
theorem CJ.put(h:CJ g a fr sk){dst:gQ}{v:fP}{t:T}(hv:Rd g v t):CJ g (a.put dst v) (pP fr dst t) sk:=by
 cases dst with
 |none=>exact h
 |some d=>
  refine⟨by simp[Act.put,pP,h.1],fun j u c hj hu hc=> ?_⟩;simp only[Act.put,pP]at hu hc;rw[Array.getElem?_setIfInBounds]at hu;rw[cZ]at hc;by_cases hd:d=j
  .rw[if_pos hd]at hu hc;split at hu
   .split at hc
    .cases hu;cases hc;exact hv
    .cases hc
   .cases hu
  .rw[if_neg hd]at hu hc;exact h.2 j u c hj hu hc
theorem CJ.step{g':G}(h:CJ g a fr sk)(hk:∀v t,Rd g v t->Rd g' v t):CJ g' a fr sk:=⟨h.1,fun j v c hj hv hc=>hk _ _ (h.2 j v c hj hv hc)⟩
theorem Tp{ops:fC}(h:CJ g a fr sk)(j:Nat)(hj:∀d,(ops[j]?).bind (·.dst)=some d->sk≠some d):yielded ops a.tmps j=xW ops fr j:=by
 unfold yielded xW;cases hd:(ops[j]?).bind (·.dst)with
 |none=>rfl
 |some d=>
  simp only[dN];have hne:=hj d hd;by_cases hlt:d<fr.length
  .have hlt':d<a.tmps.size:=by rw[h.1];exact hlt
   have hv:a.tmps[d]? =some a.tmps[d]:=by simp[hlt']
   have hc:fr[d]? =some fr[d]:=by simp[hlt]
   have:=h.2 d _ _ hne hv hc;rw[hv,hc];generalize a.tmps[d]=u at this;generalize fr[d]=c at this;cases this<;>rfl
  .have hlt':¬d<a.tmps.size:=by rw[h.1];exact hlt
   rw[cT (bT hlt'),bH (bT hlt)]
theorem xS{ops:fC}{o:Oper}{t:Tmp}(h:(Operand.tmp t)∈o.op.operands):t∈o.looksAt ops:=by
 unfold Oper.looksAt;refine bZ.2 (.inl ?_);exact List.mem_filterMap.2 ⟨.tmp t,by simpa using h,rfl⟩
theorem vG{ops:fC}{o:Oper}{j:Nat}{w:Bool}(hg:o.guard=some (j,w)){d:Tmp}(hd:(ops[j]?).bind (·.dst)=some d):d∈o.looksAt ops:=by
 unfold Oper.looksAt;refine bZ.2 (.inr ?_);rw[hg];simp[hd]
theorem IR{ops:fC}(h:CJ g a fr sk){o:Oper}(hl:∀d∈o.looksAt ops,sk≠some d):Region.wanted o (yielded ops a.tmps)=oW ops fr o:=by
 unfold Region.wanted oW;cases hg:o.guard with
 |none=>rfl
 |some p=>
  obtain⟨j,w⟩:=p;simp only;rw[Tp h j (fun d hd=>hl d (vG hg hd))]
end
def TN(P:fA)(g0 g:G)(H:Hp)(a:Act)(d:Tmp)(t:eX):Prop:=
 ∃(b:Nat) (cs:fU),a.tmps[d]? =some (.pointer (some ⟨b,0,none⟩))/\g0.w.heap.size<=b/\¬g.S b/\(∀l o,H.any l=some o->g.loc l≠b)/\g.w.heap[b]? =some (.cells cs t (0,0))/\tT P t=some cs.size
structure Inv(P:fA)(E:tW)(g0:G)(H0:Hp)(g:G)(a:Act)(s:Fx):Prop where
 ok:qP g
 st:St g s.H
 gl:GlOk E.gl g
 df:a.defers=[]
 fr:CJ g a s.fr (s.pend.map (·.1))
 pd:∀d t,s.pend=some (d,t)->TN P g0 g s.H a d t
 step:oX H0 g0 s.H g
theorem TN.pstep{P:fA}{g0 g g':G}{H:Hp}{a:Act}{d:Tmp}{t:eX}(h:TN P g0 g H a d t)(hp:PStep g g'):TN P g0 g' H a d t:=by
 obtain⟨b,cs,h1,h2,h3,h4,h5,h6⟩:=h;have hlt:b<g.w.heap.size:=(aL.1 h5).1;exact⟨b,cs,h1,h2,fun q=>(hp.fresh b q).elim h3 (fun q=>by omega),fun l o ho=>by rw[hp.loc];exact h4 l o ho,by rw[hp.block b hlt];exact h5,h6⟩
theorem TN.sstep{P:fA}{g0 g g':G}{H H':Hp}{a:Act}{d:Tmp}{t:eX}(h:TN P g0 g H a d t)(hp:oX H g H' g'):TN P g0 g' H' a d t:=by
 obtain⟨b,cs,h1,h2,h3,h4,h5,h6⟩:=h;have hlt:b<g.w.heap.size:=(aL.1 h5).1;refine⟨b,cs,h1,h2,fun q=> ?_,fun l o ho e=> ?_,by rw[hp.block b hlt h4];exact h5,h6⟩
 .rcases hp.fresh b q with q|q|⟨l,o,q1,q2⟩
  .exact h3 q
  .omega
  .exact h4 l o q1 q2
 .rcases hp.live l o ho with⟨l0,o0,q1,q2⟩|q
  .exact h4 l0 o0 q1 (q2.trans e)
  .omega
theorem TN.put{P:fA}{g0 g:G}{H:Hp}{a:Act}{d:Tmp}{t:eX}(h:TN P g0 g H a d t){dst:gQ}(hd:dst≠some d)(v:fP):TN P g0 g H (a.put dst v) d t:=by
 obtain⟨b,cs,h1,h2⟩:=h;refine⟨b,cs,?_,h2⟩;cases dst with
 |none=>exact h1
 |some e=>
  have:e≠d:=fun q=>hd (by rw[q]);simp only[Act.put,bJ this];exact h1
theorem rQ(a:Act)(d:gQ)(v:fP):(a.put d v).defers=a.defers:=by cases d<;>rfl
section
variable{P:fA}{E:tW}{F:Fc}{g0 g:G}{H0:Hp}{a:Act}{s:Fx}
theorem Inv.pnext(h:Inv P E g0 H0 g a s){g':G}(hp:PStep g g')(hok:qP g'){dst:gQ}{v:fP}{t:T}(hv:Rd g' v t)(hd:∀d,s.pend.map (·.1)=some d->dst≠some d):
  Inv P E g0 H0 g' (a.put dst v) {s with fr:=pP s.fr dst t}:=
 ⟨hok,h.st.pstep hp,h.gl.pstep hp,by rw[rQ];exact h.df,(h.fr.step fun _ _ q=>q.pstep hp).put hv,fun d ty hpd=>((h.pd d ty hpd).pstep hp).put (hd d (by rw[hpd];rfl)) v,h.step.trans hp.toS⟩
theorem Inv.enext(h:Inv P E g0 H0 g a s){g':G}{H':Hp}(hp:oX s.H g H' g')(hok:qP g')(hst:St g' H'){dst:gQ}{v:fP}{t:T}(hv:Rd g' v t)(hd:∀d,s.pend.map (·.1)=some d->dst≠some d):
  Inv P E g0 H0 g' (a.put dst v) {s with fr:=pP s.fr dst t,H:=H'}:=
 ⟨hok,hst,h.gl.sstep h.st hp,by rw[rQ];exact h.df,(h.fr.step fun _ _ q=>q.sstep h.st hp).put hv,fun d ty hpd=>((h.pd d ty hpd).sstep hp).put (hd d (by rw[hpd];rfl)) v,h.step.trans hp⟩
theorem KR{ops:fC}{o:Oper}{d:Tmp}(h:sT ops o d=false):d∉o.looksAt ops/\o.dst≠some d:=by
 simp only[sT,eN]at h;exact⟨by simpa using h.1,by simpa using h.2⟩
theorem Pv(h:Inv P E g0 H0 g a s)(hpn:s.pend=none){o:Oper}{t:eX}{d:Tmp}{n:Nat}{z:T}(ho:o.op= .alloc t)(hdst:o.dst=some d)(hn:tT P t=some n)(hz:wN P t=some z)(hzl:z.cells.length=n)(hd:d<s.fr.length)
  {K:gH} {Q:fF} (hK:∀a' g',PStep g g'->Inv P E g0 H0 g' a' {s with fr:=s.fr.set d oL,pend:=some (d,t)}->K a' g'.w):o.wp P a g.w K Q:=by
 obtain⟨v,hv,hr⟩:=EZ (g:=g) hz
 let g':G:={g with w:={g.w with heap:=g.w.heap.push (.cells v.cells t)}}
 have hp:PStep g g':=⟨rfl,rfl,rfl,by simp[g'],fun b hb=>by simp only[g'];rw[eO,if_neg (by omega)],fun _ q=>q,fun _ q=> .inl q,rfl,rfl,rfl⟩;have hok:qP g':=fun b hb=>by have:=h.ok b hb;simp only[g',Array.size_push];omega
 have hrun:(execOp a.eval o).run P g.w= .ok (.value (.pointer (some ⟨g.w.heap.size,0,none⟩))) g'.w:=by
  simp only[execOp,ho,Instr.alloc,aO,hv,aH,newVar,newRow,run_newObj,aW];rfl
 unfold Oper.wp;rw[hrun];show K (a.put o.dst (.pointer (some ⟨g.w.heap.size,0,none⟩))) g'.w;have hfr:CJ g a s.fr none:=by have:=h.fr;rw[hpn]at this;exact this
 have hsz:a.tmps.size=s.fr.length:=hfr.1;refine hK _ g' hp ⟨hok,h.st.pstep hp,h.gl.pstep hp,by rw[rQ];exact h.df,?_,fun d' t' hpd=> ?_,h.step.trans hp.toS⟩
 .refine⟨by simp[hdst,Act.put,hsz],fun j u c hj hu hc=> ?_⟩;have hne:d≠j:=fun q=>hj (by simp[q]);simp only[hdst,Act.put,bJ hne]at hu;simp only[cX hne]at hc;exact(hfr.2 j u c (by simp) hu hc).pstep hp
 .simp only[aD,aQ]at hpd;obtain⟨rfl,rfl⟩:=hpd;have hc:=hr.cells;refine⟨g.w.heap.size,v.cells,?_,h.step.size,fun q=> ?_,fun l ob hl=> ?_,?_,?_⟩
  .simp only[hdst,Act.put];rw[cU,if_pos (by rw[hsz];exact hd)]
  .exact absurd (h.ok _ q) (by omega)
  .have:=h.st.lt hl;show g.loc l≠_;omega
  .simp only[g'];exact Array.getElem?_push_size
  .rw[hn,<-hzl,<-hc.1];simp
theorem Tj(h:Inv P E g0 H0 g a s){o:Oper}{t:eX}{d:Tmp}{x:gF}{y:T}{n:Nat}(hpn:s.pend=some (d,t))(ho:o.op= .store t (.tmp d) x)(hdst:o.dst=none)(hx:ER x d=true)(hy:pE E.gl s.fr x=some y)(hn:tT P t=some n)(hyl:y.cells.length=n)(h1:pY y.cells=true)
  {K:gH} {Q:fF} (hK:∀a' g',Inv P E g0 H0 g' a' {s with fr:=s.fr.set d (.ref y 0),pend:=none}->K a' g'.w):o.wp P a g.w K Q:=by
 obtain⟨b,cs,p1,p2,p3,p4,p5,p6⟩:=h.pd d t hpn;have hfr:CJ g a s.fr (some d):=by have:=h.fr;rw[hpn]at this;exact this
 have hr:Rd g (a.eval x) y:=hfr.eval h.gl (fun k e=>by subst e;simp only[ER,bne_iff_ne]at hx;intro q;cases q;exact hx rfl) hy;have hc:=hr.cells;rw[hn]at p6;have hcs:cs.size=n:=by simpa using p6.symm
 have hvs:(a.eval x).cells.size=n:=by rw[<-hyl,<-hc.1];simp
 have hlt:b<g.w.heap.size:=(aL.1 p5).1;have hst:=run_storeCells_at (P:=P) b 0 t (a.eval x).cells.toList 0 cs g.w p5 (by simp;omega) (PX hc h1);have hall:(cs.toList.take (0+0)++(a.eval x).cells.toList++cs.toList.drop (0+0+(a.eval x).cells.toList.length)).toArray=(a.eval x).cells:=by
  have:cs.toList.drop (0+0+(a.eval x).cells.toList.length)=[]:=dU (by simp;omega);rw[this];simp
 rw[hall]at hst
 let g':G:={g with w:=g.w.setRow b (a.eval x).cells,S:=fun k=>g.S k\/k=b}
 have hblk:∀k,k≠b->g'.w.heap[k]? =g.w.heap[k]? :=fun k hk=>setRow_other _ _ _ _ hk;have hbb:g'.w.heap[b]? =some (.cells (a.eval x).cells t (0,0)):=setRow_heap _ _ _ _ _ _ p5;have hcell:∀k o v,g.S k->g.w.cell? ⟨k,o,none⟩=some v->g'.w.cell? ⟨k,o,none⟩=some v:=fun k o v hk hv=>
  (World.cell?_of_block (w:=g.w) (a:=⟨k,o,none⟩) (hblk k (fun e=>p3 (e▸hk)))).trans hv
 have keep:∀v t,Rd g v t->Rd g' v t:=by
  intro v t hv
  induction hv with
  |int k n=>exact .int k n|bool b=>exact .bool b|str s=>exact .str s|nilp=>exact .nilp|ptr l off hl=>exact .ptr (g:=g') l off hl|ref x off b o vs hS hlen hc _ ih=>exact .ref x off b o vs (.inl hS) hlen (fun j v hv=>hcell _ _ _ hS (hc j v hv)) ih|nils=>exact .nils|slfn full f p=>exact .slfn full f p
  |sl full xs sz b o cap vs hS hsz q1 q2 q3 hlen hc _ ih=>
   refine .sl full xs sz b o cap vs (fun hx=> .inl (hS hx)) hsz q1 q2 q3 hlen (fun j v hv=> ?_) ih;have hx:xs≠[]:=by
    rintro rfl;simp at hlen;subst hlen;simp at hv
   exact hcell _ _ _ (hS hx) (hc j v hv)
  |slf full n f sz b o cap vs h1 h2 h3 h4 h5 h6 h7 h8=>exact Rd.slf_keep (g:=g) (g':=g') (fun _ q=>Or.inl q) hcell h1 h2 h3 h4 h5 h6 h7 h8|osl l sz i len b o cap hl q1 q2 q3 q4=>exact .osl (g:=g') l sz i len b o cap hl q1 q2 q3 q4|nilf=>exact .nilf|fn f first captured vs us q1 _ q2 _ ih1 ih2=>exact .fn f first captured vs us q1 ih1 q2 ih2
  |nili=>exact .nili|iface t v x _ ih=>exact .iface t v x ih|nilm=>exact .nilm|mp l hl=>exact .mp (g:=g') l hl|yl l hl=>exact .yl (g:=g') l hl|agg cs vs q1 _ ih=>exact .agg cs vs q1 ih|tup cs vs q1 _ ih=>exact .tup cs vs q1 ih
 have hpd:a.eval (.tmp d)= .pointer (some ⟨b,0,none⟩):=by simp[Act.eval,p1]
 obtain⟨i,hi,hin⟩:∃i,P.info? t=some i/\i.size=n:=by simpa [tT]using hn
 have hrun:(execOp a.eval o).run P g.w= .ok .skip g'.w:=by
  simp[execOp,ho,Instr.storeAt,hpd,Instr.sureAddr,storeVar,sizeOf,typeInfo,hi,hin,hvs,hst,g']
 unfold Oper.wp;rw[hrun];show K (a.put o.dst undef) g'.w;rw[hdst];show K a g'.w;refine hK a g' ⟨fun k hk=> ?_,⟨fun l ob hl=> ?_,fun l ob kc hl hme=> ?_,fun l l' q q' e1 e2 e3=>h.st.sep l l' q q' e1 e2 e3,fun l hl=>h.st.new l hl⟩,fun k r hk=>⟨keep _ _ (h.gl k r hk).1,.inl (h.gl k r hk).2.1,by rw[hblk k (fun e=>p3 (e▸(h.gl k r hk).2.1))];exact(h.gl k r hk).2.2⟩,h.df,?_,fun d' t' q=>by simp at q,?_⟩
 .have:g'.w.heap.size=g.w.heap.size:=by simp[g',World.setRow]
  rw[this];rcases hk with hk|hk
  .exact h.ok k hk
  .omega
 .obtain⟨ha,hS,c0,hb,q1,q2,q3,q4⟩:=h.st.own l ob hl;refine⟨ha,fun q=>q.elim hS (p4 l ob (pJ hl).1),c0,?_,q1,q2,q3,⟨q4.1,fun j v c hv hc=>keep _ _ (q4.2 j v c hv hc)⟩⟩;rw[hblk _ (p4 l ob (pJ hl).1)];exact hb
 .obtain⟨ha,hS,ms,hb,q1⟩:=h.st.ownM l ob kc hl hme;refine⟨ha,fun q=>q.elim hS (p4 l ob hl),ms,?_,q1.mono keep (fun l hl=>⟨hl,rfl⟩)⟩;rw[hblk _ (p4 l ob hl)];exact hb
 .refine⟨by simp[hfr.1],fun j v c _ hv hcc=> ?_⟩;rw[cZ]at hcc;by_cases hj:d=j
  .rw[if_pos hj]at hcc;split at hcc
   .cases hcc;subst hj;rw[p1]at hv;cases hv;have hc':=(keep _ _ hr).cells;exact .ref y 0 b 0 (a.eval x).cells.toList (.inr rfl) hc'.1 (fun k u hu=>by simp[World.cell?,hbb]at hu⊢;exact hu) hc'.2
   .cases hcc
  .rw[if_neg hj]at hcc;exact keep _ _ (hfr.2 j v c (by simpa using hj) hv hcc)
 .have hs:=h.step;refine⟨hs.os,hs.tape,hs.output,by simp[g',World.setRow];exact hs.size,fun k hk hno=> ?_,fun k hk=> .inl (hs.sub k hk),fun k hk=> ?_,hs.al,hs.loc,hs.cp,hs.live⟩
  .rw[hblk k (by omega)];exact hs.block k hk hno
  .rcases hk with hk|hk
   .exact hs.fresh k hk
   .exact .inr (.inl (by omega))
theorem aBr(h:Inv P E g0 H0 g a s){o:Oper}{t:eX}{d:Tmp}{x:gF}{y:T}{n:Nat}(hpn:s.pend=some (d,t))(ho:o.op= .store t (.tmp d) x)(hdst:o.dst=none)(hx:ER x d=true)(hy:pE E.gl s.fr x=some y)(hn:tT P t=some n)(hyl:y.cells.length=n)(h1:pY y.cells=true)
  {K:gH} {Q:fF} (hK:∀a' g',Inv P E g0 H0 g' a' {fr:=s.fr.set d (.ptr s.H.next 0),H:=s.H.new {elem:=t,sz:=0,cells:=y.cells},pend:=none}->K a' g'.w):o.wp P a g.w K Q:=by
 obtain⟨b,cs,p1,p2,p3,p4,p5,p6⟩:=h.pd d t hpn;have hfr:CJ g a s.fr (some d):=by have:=h.fr;rw[hpn]at this;exact this
 have hr:Rd g (a.eval x) y:=hfr.eval h.gl (fun k e=>by subst e;simp only[ER,bne_iff_ne]at hx;intro q;cases q;exact hx rfl) hy;have hc:=hr.cells;rw[hn]at p6;have hcs:cs.size=n:=by simpa using p6.symm
 have hvs:(a.eval x).cells.size=n:=by rw[<-hyl,<-hc.1];simp
 have hlt:b<g.w.heap.size:=(aL.1 p5).1;have hst:=run_storeCells_at (P:=P) b 0 t (a.eval x).cells.toList 0 cs g.w p5 (by simp;omega) (PX hc h1);have hall:(cs.toList.take (0+0)++(a.eval x).cells.toList++cs.toList.drop (0+0+(a.eval x).cells.toList.length)).toArray=(a.eval x).cells:=by
  have:cs.toList.drop (0+0+(a.eval x).cells.toList.length)=[]:=dU (by simp;omega);rw[this];simp
 rw[hall]at hst
 let g':G:={w:=g.w.setRow b (a.eval x).cells,S:=g.S,al:=fun l=>g.al l\/l=s.H.next,loc:=fun l=>if l=s.H.next then b else g.loc l,cp:=g.cp}
 have hnl:∀l,g.al l->l≠s.H.next:=fun l hl e=>h.st.new l (by omega) hl;have hloc:∀l,g.al l->g'.loc l=g.loc l:=fun l hl=>if_neg (hnl l hl);have hblk:∀k,k≠b->g'.w.heap[k]? =g.w.heap[k]? :=fun k hk=>setRow_other _ _ _ _ hk;have hbb:g'.w.heap[b]? =some (.cells (a.eval x).cells t (0,0)):=setRow_heap _ _ _ _ _ _ p5;have hcell:∀k o v,g.S k->g.w.cell? ⟨k,o,none⟩=some v->g'.w.cell? ⟨k,o,none⟩=some v:=fun k o v hk hv=>
  (World.cell?_of_block (w:=g.w) (a:=⟨k,o,none⟩) (hblk k (fun e=>p3 (e▸hk)))).trans hv
 have keep:∀v t,Rd g v t->Rd g' v t:=by
  intro v t hv
  induction hv with
  |int k n=>exact .int k n|bool b=>exact .bool b|str s=>exact .str s|nilp=>exact .nilp|ptr l off hl=>rw[<-hloc l hl];exact .ptr (g:=g') l off (.inl hl)|ref x off b o vs hS hlen hc _ ih=>exact .ref x off b o vs hS hlen (fun j v hv=>hcell _ _ _ hS (hc j v hv)) ih|nils=>exact .nils|slfn full f p=>exact .slfn full f p
  |sl full xs sz b o cap vs hS hsz q1 q2 q3 hlen hc _ ih=>
   refine .sl full xs sz b o cap vs hS hsz q1 q2 q3 hlen (fun j v hv=> ?_) ih;have hx:xs≠[]:=by
    rintro rfl;simp at hlen;subst hlen;simp at hv
   exact hcell _ _ _ (hS hx) (hc j v hv)
  |slf full n f sz b o cap vs h1 h2 h3 h4 h5 h6 h7 h8=>exact Rd.slf_keep (g:=g) (g':=g') (fun _ q=>q) hcell h1 h2 h3 h4 h5 h6 h7 h8|osl l sz i len b o cap hl q1 q2 q3 q4=>exact .osl (g:=g') l sz i len b o cap (.inl hl) q1 q2 (fun q=>by rw[hloc l hl];exact q3 q) q4|nilf=>exact .nilf|fn f first captured vs us q1 _ q2 _ ih1 ih2=>exact .fn f first captured vs us q1 ih1 q2 ih2
  |nili=>exact .nili|iface t v x _ ih=>exact .iface t v x ih|nilm=>exact .nilm|mp l hl=>rw[<-hloc l hl];exact .mp (g:=g') l (.inl hl)|yl l hl=>rw[<-hloc l hl];exact .yl (g:=g') l (.inl hl)|agg cs vs q1 _ ih=>exact .agg cs vs q1 ih|tup cs vs q1 _ ih=>exact .tup cs vs q1 ih
 have hpd:a.eval (.tmp d)= .pointer (some ⟨b,0,none⟩):=by simp[Act.eval,p1]
 obtain⟨i,hi,hin⟩:∃i,P.info? t=some i/\i.size=n:=by simpa [tT]using hn
 have hrun:(execOp a.eval o).run P g.w= .ok .skip g'.w:=by
  simp[execOp,ho,Instr.storeAt,hpd,Instr.sureAddr,storeVar,sizeOf,typeInfo,hi,hin,hvs,hst,g']
 unfold Oper.wp;rw[hrun];show K (a.put o.dst undef) g'.w;rw[hdst];show K a g'.w;have hsz:g'.w.heap.size=g.w.heap.size:=by simp[g',World.setRow]
 have hget:∀l ob,(s.H.new {elem:=t,sz:=0,cells:=y.cells}).any l=some ob->(l=s.H.next/\ob={elem:=t,sz:=0,cells:=y.cells})\/(l≠s.H.next/\s.H.any l=some ob):=by
  intro l ob hl;rw[uG]at hl;split at hl
  .rename_i e;cases hl;exact .inl ⟨e.symm,rfl⟩
  .rename_i e;exact .inr ⟨fun q=>e q.symm,hl⟩
 have hln:g'.loc s.H.next=b:=if_pos rfl;refine hK a g' ⟨fun k hk=>by rw[hsz];exact h.ok k hk,⟨fun l ob hl=> ?_,fun l ob kc hl hme=> ?_,fun l l' q q' e1 e2 e3=> ?_,fun l hl=> ?_⟩,fun k r hk=>⟨keep _ _ (h.gl k r hk).1,(h.gl k r hk).2.1,by rw[hblk k (fun e=>p3 (e▸(h.gl k r hk).2.1))];exact(h.gl k r hk).2.2⟩,h.df,?_,fun d' t' q=>by simp at q,?_⟩
 .rcases hget l ob (pJ hl).1 with⟨rfl,rfl⟩|⟨hne,hl'⟩
  .have hc':RdL g' (a.eval x).cells.toList y.cells:=⟨hc.1,fun j v c hv hcc=>keep _ _ (hc.2 j v c hv hcc)⟩;refine⟨.inr rfl,by rw[hln];exact p3,(a.eval x).cells,by rw[hln];exact hbb,?_,fun _ => ?_,fun q=>absurd rfl q,?_⟩
   .show y.cells.length<=_;omega
   .show _ =y.cells.length;omega
   .have:(a.eval x).cells.toList.take y.cells.length=(a.eval x).cells.toList:=dE (by simp;omega);show RdL g' ((a.eval x).cells.toList.take y.cells.length) y.cells;rw[this];exact hc'
  .obtain⟨ha,hS,c0,hb,q1,q2,q3,q4⟩:=h.st.own l ob (yQ hl' (pJ hl).2);have e:=hloc l ha;refine⟨.inl ha,by rw[e];exact hS,c0,?_,q1,q2,q3,⟨q4.1,fun j v c hv hc=>keep _ _ (q4.2 j v c hv hc)⟩⟩;rw[e,hblk _ (p4 l ob hl')];exact hb
 .rcases hget l ob hl with⟨rfl,rfl⟩|⟨hne,hl'⟩
  .cases hme
  .obtain⟨ha,hS,ms,hb,q1⟩:=h.st.ownM l ob kc hl' hme;have e:=hloc l ha;refine⟨.inl ha,by rw[e];exact hS,ms,?_,q1.mono keep (fun l hl=>⟨.inl hl,hloc l hl⟩)⟩;rw[e,hblk _ (p4 l ob hl')];exact hb
 .rcases hget l q e1 with⟨rfl,rfl⟩|⟨hne,e1'⟩
  .rcases hget l' q' e2 with⟨rfl,rfl⟩|⟨hne',e2'⟩
   .rfl
   .rw[hln,hloc l' (h.st.at_ e2').1]at e3;exact absurd e3.symm (p4 l' q' e2')
  .rcases hget l' q' e2 with⟨rfl,rfl⟩|⟨hne',e2'⟩
   .rw[hln,hloc l (h.st.at_ e1').1]at e3;exact absurd e3 (p4 l q e1')
   .rw[hloc l (h.st.at_ e1').1,hloc l' (h.st.at_ e2').1]at e3;exact h.st.sep l l' q q' e1' e2' e3
 .rintro(ha|ha)
  .exact h.st.new l (by simp only[Hp.new]at hl;omega) ha
  .simp only[Hp.new]at hl;omega
 .refine⟨by simp[hfr.1],fun j v c _ hv hcc=> ?_⟩;rw[cZ]at hcc;by_cases hj:d=j
  .rw[if_pos hj]at hcc;split at hcc
   .cases hcc;subst hj;rw[p1]at hv;cases hv;rw[<-hln];exact .ptr (g:=g') s.H.next 0 (.inr rfl)
   .cases hcc
  .rw[if_neg hj]at hcc;exact keep _ _ (hfr.2 j v c (by simpa using hj) hv hcc)
 .have hs:=h.step;refine⟨hs.os,hs.tape,hs.output,by rw[hsz];exact hs.size,fun k hk hno=> ?_,hs.sub,hs.fresh,fun l hl=> .inl (hs.al l hl),fun l hl=>by rw[hloc l (hs.al l hl)];exact hs.loc l hl,hs.cp,fun l ob hl=> ?_⟩
  .rw[hblk k (by omega)];exact hs.block k hk hno
  .rcases hget l ob hl with⟨rfl,rfl⟩|⟨hne,hl'⟩
   .exact .inr (by rw[hln];omega)
   .rw[hloc l (h.st.at_ hl').1];exact hs.live l ob hl'
theorem LC{o:Oper}{d:Tmp}{t:eX}(h:rS F o=some (d,t)):o.op= .alloc t/\o.dst=some d:=by
 unfold rS at h;split at h
 .rename_i t' ho;split at h
  .rename_i d' hd;split at h
   .cases h
   .cases h;exact⟨ho,hd⟩
  .cases h
 .cases h
theorem NH(hE:tP P E.gl E.pe)(hF:rG P E.gl F.ee){ops:fC}{o:Oper}{s':Fx}(h:Inv P E g0 H0 g a s)(he:qU P E F ops s o=some s'){i:Nat}(hi:ops[i]? =some o)
  {K:gH} {Q:fF} (hK:∀a' g',Inv P E g0 H0 g' a' s'->K a' g'.w):wpOp P ops Q i K a g.w:=by
 unfold wpOp;rw[hi];simp only;have plain:(∀d,s.pend.map (·.1)=some d->d∉o.looksAt ops/\o.dst≠some d)->rV P E F ops s o=some s'->
   (if Region.wanted o (yielded ops a.tmps)=true then o.wp P a g.w K Q\/o.asks P a g.w/\LetsOut Q else K (a.put o.dst undef) g.w):=by
  intro hnt hp;unfold rV at hp;have hsk:∀d∈o.looksAt ops,s.pend.map (·.1)≠some d:=fun d hd q=>(hnt d q).1 hd;rw[IR h.fr hsk];have hop:∀x∈o.op.operands,∀t,pE E.gl s.fr x=some t->Rd g (a.eval x) t:=fun x hx t ht=>
   h.fr.eval h.gl (fun k e=>by subst e;exact hsk k (xS hx)) ht
  have hdst:∀d,s.pend.map (·.1)=some d->o.dst≠some d:=fun d q=>(hnt d q).2;by_cases hw:oW ops s.fr o=true
  .rw[if_pos hw]at hp⊢;left;split at hp
   .rename_i v hv;cases hp;exact FX hE h.gl h.st h.ok hv hop K Q (fun u g' hst hok hr=>hK _ g' (h.pnext hst hok hr hdst))
   .have eff:rO P E F s.H s.fr o=none\/∃v H',rO P E F s.H s.fr o=some (v,H'):=by
     cases rO P E F s.H s.fr o with
     |none=>exact .inl rfl|some p=>exact .inr ⟨p.1,p.2,rfl⟩
    have run:(match rO P E F s.H s.fr o with
      |some (v,H')=>some {s with fr:=pP s.fr o.dst v,H:=H'}
      |none=>none)=some s'->o.wp P a g.w K Q:=by
     intro hh;rcases eff with e|⟨v,H',e⟩
     .rw[e]at hh;cases hh
     .rw[e]at hh;cases hh;exact Ew hF h.gl h.st h.ok e hop K Q (fun u g' hst hok hs' hr=>hK _ g' (h.enext hst hok hs' hr hdst))
    split at hp
    .rename_i d t hal;obtain⟨hop',hd'⟩:=LC hal;split at hp
     .cases hp
     .rename_i hpn;have hpn':s.pend=none:=by simpa using hpn
      split at hp
      .rename_i n z hn hz;split at hp
       .rename_i hc;cases hp;exact Pv h hpn' hop' hd' hn hz hc.1 hc.2 (fun a' g' _ hi'=>hK a' g' hi')
       .cases hp
      .cases hp
    .exact run hp
  .rw[if_neg hw]at hp⊢;cases hp;exact hK _ g (h.pnext (PStep.refl g) h.ok Rd.undef hdst)
 unfold qU at he;split at he
 .rename_i hpn;exact plain (fun d q=>by rw[hpn]at q;cases q) he
 .rename_i d t hpn;have free:sT ops o d=false->∀d',s.pend.map (·.1)=some d'->d'∉o.looksAt ops/\o.dst≠some d':=fun q d' e=>by
   rw[hpn]at e;cases e;exact KR q
  split at he
  .rename_i t' d' x ho hd hgd;split at he
   .rename_i e;subst e;split at he
    .rename_i hc;split at he
     .rename_i y n hy hn;split at he
      .rename_i hcc;cases he;obtain⟨rfl,hx⟩:=hc;have hw:Region.wanted o (yielded ops a.tmps)=true:=by simp[Region.wanted,hgd]
       rw[if_pos hw];unfold RM at hK;by_cases hown:F.own (d'+1000)=true
       .simp only[hown,if_true]at hK;exact .inl (aBr h hpn ho hd hx hy hn hcc.1 hcc.2 (fun a' g' hi'=>hK a' g' hi'))
       .simp only[hown]at hK;exact .inl (Tj h hpn ho hd hx hy hn hcc.1 hcc.2 (fun a' g' hi'=>hK a' g' hi'))
      .cases he
     .cases he
    .cases he
   .split at he
    .cases he
    .rename_i ht;exact plain (free (by simpa using ht)) he
  .split at he
   .cases he
   .rename_i ht;exact plain (free (by simpa using ht)) he
abbrev fS:=List Oper
theorem XQ(hE:tP P E.gl E.pe)(hF:rG P E.gl F.ee){ops:fC}{Q:fF}:∀(l:fS) (k:Nat) (s s':Fx) (a:Act) (g:G),(∀j,l[j]? =ops[k+j]?)->Inv P E g0 H0 g a s->pL P E F ops l s=some s'->
  (∀a' g',Inv P E g0 H0 g' a' s'->Q .normal a' g'.w)->wpOps P ops Q (List.range' k l.length) a g.w
 |[],k,s,s',a,g,_,h,he,hQ=>by
  simp only[pL,aD]at he;subst he;exact hQ a g h
 |o::l,k,s,s',a,g,hl,h,he,hQ=>by
  simp only[pL]at he;split at he
  .rename_i s1 hs1;have h0:ops[k]? =some o:=by simpa using(hl 0).symm
   rw[bL,eJ,wpOps_cons];refine NH hE hF h hs1 h0 (fun a' g' h'=> ?_);exact XQ hE hF l (k+1) s1 s' a' g' (fun j=>by have:=hl (j+1);simpa [dG,Nat.add_comm 1 j]using this) h' he hQ
  .cases he
end
end Go.Ps
