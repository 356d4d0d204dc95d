/- literal.QuoteBytes, by the kit's walk. -/
import Derived.Test.YthfdachbgpjafaaGreatDoorXd2
import Derived.Deep.RegionHeld
set_option linter.all false
namespace Go.Proofs.Tryz
open Go.RowKit Go.Ps
set_option maxRecDepth 100000
def lJ:ByteArray:=⟨#[48,49,50,51,52,53,54,55,56,57,97,98,99,100,101,102]⟩
def kS(c:UInt8):ByteArray:=lJ.extract (c.toNat/16) (c.toNat/16+1)++lJ.extract (c.toNat%16) (c.toNat%16+1)
theorem Nk(c:UInt8):(kS c).size=2:=by
 have h:=c.toNat_lt;have e:lJ.size=16:=rfl;unfold kS;rw[ByteArray.size_append,ByteArray.size_extract,ByteArray.size_extract,e];omega
def Tu(s:gH):List UInt8:=s.flatMap λc=>(kS c).data.toList
theorem TX:∀s:List UInt8,(Tu s).length=2*s.length
 |[]=>rfl
 |c::r=>by
  have i:=TX r;have h:(kS c).data.toList.length=2:=Nk c;unfold Tu at i⊢;rw[bP,aU,i,h,aZ];omega
theorem aKp(s:iL)(i:Nat)(c:UInt8)(x y:Nat)(m:kS c=lJ.extract x (x+1)++lJ.extract y (y+1))(u:s.size<=40){w0 wr:iG}(g:s.data.toList[i]? =some c)
  (o:Lib.IsBuilder 135 5 w0.heap.size w0.heap.size (Lib.byteCells (Tu (s.data.toList.take i))) wr) (n:Below w0.heap.size w0 wr):
  Calls prog 78 #[.pointer (some ⟨w0.heap.size,0,none⟩),.string ((⟨#[48,49,50,51,52,53,54,55,56,57,97,98,99,100,101,102]⟩:ByteArray).extract x (x+1)++(⟨#[48,49,50,51,52,53,54,55,56,57,97,98,99,100,101,102]⟩:ByteArray).extract y (y+1))] wr.drew λe w=>(∃v,e= .returned v)/\Lib.IsBuilder 135 5 w0.heap.size w0.heap.size (Lib.byteCells (Tu (s.data.toList.take (i+1)))) w/\Below w0.heap.size w0 w:=by
 have f:=TX (s.data.toList.take i);have k:(s.data.toList.take i).length<=40:=by rw[cY];have:=Lib.size_eq s;omega
 have b:Tu (s.data.toList.take (i+1))=Tu (s.data.toList.take i)++(kS c).data.toList:=by
  rw[List.take_add_one,g];unfold Tu;rw[dG];simp
 have p:(⟨#[48,49,50,51,52,53,54,55,56,57,97,98,99,100,101,102]⟩:ByteArray)=lJ:=rfl;rw[p,<-m];have j:(Lib.byteCells (Tu (s.data.toList.take i))).length+(kS c).size<=140737488355328:=by
  unfold Lib.byteCells;rw[dQ,f,Nk];omega
 have q:=Any.Builder_WriteString (ρ:=wV) {OI with} uA w0.heap.size w0.heap.size _ (kS c) wr.drew (o.elim (λh=> .inl h.drew) (λh=> .inr h.drew)) j n.size;refine q.mono ?_;rintro e w ⟨rfl,d,a⟩;refine⟨⟨_,rfl⟩,.inr ?_,n.trans ⟨a.os,a.tape,a.output,a.size,a.block⟩⟩;rw[b];unfold Lib.byteCells at d⊢;rw[eX];exact d
set_option maxHeartbeats 40000000 in
theorem aSq(s:iL)(K:s.size<=40)(w:iG):Calls prog 255 #[.string s] w λe j=>e= .returned (.string ((⟨#[120,34]⟩:ByteArray)++⟨(Tu s.data.toList).toArray⟩++⟨#[34]⟩))/\Below w.heap.size w j:=by
 have m:prog.follows .mixedOrders=true:=follows
 go_enter func255,ntmps255
 go_wp2_with (fail)
 go_loopg [7] (s.size) (λg I p=>∃i:Nat,i<=s.size/\s.size-i=g/\I= .int .i64 i/\Lib.IsBuilder 135 5 w.heap.size w.heap.size (Lib.byteCells (Tu (s.data.toList.take i))) p/\Below w.heap.size w p)
 case atStart=>exact⟨0,by omega,by omega,rfl,Lib.fresh_isBuilder 135 5 w,(Below.refl _ w).alloc (bB _) _⟩
 case round=>
  obtain⟨i,U,S,F,b,d⟩:=hrel;subst F;by_cases h:i<s.size
  .have L:(i:Int)<(s.size:Int):=by omega
   go_wp2_with (fail)
   obtain⟨c,M⟩:∃c,s[i]'h=c:=⟨_,rfl⟩;have H:=c.toNat_lt;obtain⟨x,J⟩:∃x:Nat,c.toNat/16=x:=⟨_,rfl⟩;obtain⟨y,B⟩:∃y:Nat,c.toNat%16=y:=⟨_,rfl⟩;have a:kS c=lJ.extract x (x+1)++lJ.extract y (y+1):=by unfold kS;rw[J,B]
   have P:IntKind.u8.wrap ((c.toNat:Int)/16)=(x:Int):=by rw[IntKind.wrap_u8];omega
   have Z:IntKind.u8.wrap ((x:Int)+1)=(x:Int)+1:=by rw[IntKind.wrap_u8];omega
   have V:(c.toNat:Int).tmod 16=(y:Int):=by rw[Int.tmod_eq_emod_of_nonneg (by omega)];omega
   have N:IntKind.u8.wrap ((y:Int)+1)=(y:Int)+1:=by rw[IntKind.wrap_u8];omega
   have Q:(⟨#[48,49,50,51,52,53,54,55,56,57,97,98,99,100,101,102]⟩:ByteArray).size=16:=rfl;have b1:(0:Int)<=(x:Int)+1:=by omega
   have b2:(x:Int)+1<=16:=by omega
   have b3:(x:Int)<=(x:Int)+1:=by omega
   have b4:(0:Int)<=(y:Int)+1:=by omega
   have b5:(y:Int)+1<=16:=by omega
   have O:(y:Int)<=(y:Int)+1:=by omega
   have Y:((x:Int)+1).toNat=x+1:=by omega
   have R:((y:Int)+1).toNat=y+1:=by omega
   have o:=aKp s i c x y a K (w0:=w) (wr:=wr) (by rw[<-M];exact Lib.data_getElem? s i h) b d;have n:=Any.hidJ o;clear o a
   go_region_held (λ_ =>True) (trivial) (first|(refine n.out.mono ?_;rintro e j ⟨⟨v,rfl⟩,f,k⟩))
   all_goals go_wp2
   all_goals go_roundg (gk-1)
   all_goals first
    |omega
    |exact⟨i+1,by omega,by omega,by simp,f,k⟩
  .have L:¬(i:Int)<(s.size:Int):=by omega
   have E:s.data.toList.take i=s.data.toList:=dC (by have:=Lib.size_eq s;omega);rw[E]at b;have W:=TX s.data.toList;have C:s.data.toList.length<=40:=by have:=Lib.size_eq s;omega
   have u:¬9223372036854775807<2+(Tu s.data.toList).length:=by omega
   have z:¬9223372036854775807<2+(Tu s.data.toList).length+1:=by omega
   go_wp2_with (fail)
   refine(Any.Builder_String_any (ρ:=wV) {OI with} uA w.heap.size w.heap.size (Tu s.data.toList) wr b d.size).mono ?_;rintro e j ⟨rfl,D⟩
   go_wp2
   go_ret
   exact⟨rfl,d.trans D⟩
theorem bDd{m:Int}{C:gB}(s:gH)(i:s.length<=40):∃r:List UInt8,r.length<=83/\fj prog (fo m C) 255 [.str s] (.str r):=by
 obtain⟨q,c⟩:∃q:ByteArray,(⟨#[120,34]⟩:ByteArray)++⟨(Tu s).toArray⟩++⟨#[34]⟩=q:=⟨_,rfl⟩;have p:=TX s;have b:q.size<=83:=by
  rw[<-c,ByteArray.size_append,ByteArray.size_append];show 2+(Tu s).toArray.size+1<=83;rw[List.size_toArray];omega
 refine⟨q.data.toList,b,vL (by kernel_rfl) λg f o a=> ?_⟩
 match f,a with
 |[v],a=>
  have k:=vQ (a.I).1;subst k;refine⟨.string q,λn=>Rd.str (g:=n) q,?_⟩;have h:=aSq ⟨s.toArray⟩ (by show s.toArray.size<=40;simpa using i) g.w;refine h.mono λe u ⟨d,j⟩=>⟨?_,j⟩;rw[d,<-c]
 |[],a=>have:=a.1;simp at this|_ ::_ ::_,a=>have:=a.1;simp at this
end Go.Proofs.Tryz
