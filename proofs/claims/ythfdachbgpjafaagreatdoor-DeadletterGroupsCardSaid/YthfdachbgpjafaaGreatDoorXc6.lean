/- Lemmas for the card; no conditions. -/
import Derived.Tactics
import Derived.Tactics2
import Derived.StillTactics
import Derived.Laws.IdiomStrings
import Derived.Laws.OwnMore
import Derived.Laws.Cells
import Derived.Laws.NewBlocks
import Derived.Test.YthfdachbgpjafaaGreatDoorXc5
import Derived.Lib.SliceRun
set_option linter.unusedSimpArgs false
set_option linter.unusedVariables false
set_option linter.unusedSectionVars false
namespace Go.Proofs.Tryz
open Go.RowKit Go.Ps
def shB(b d:Int)(c:UInt8):UInt8:=if b<=(c.toNat:Int)/\((c.toNat:Int)-b)%256<26 then UInt8.ofNat (wrap64 ((c.toNat:Int)+d)%256).toNat else c
def Bw(s:jC)(b d:Int)(i:Nat)(C:gX):Prop:=s.size<=C.size/\∀j (hj:j<s.size),C[j]? =some (.int .u8 (((if j<i then shB b d s[j]else s[j]):UInt8).toNat:Int))
theorem Bw.same{s:jC}{b d:Int}{i:Nat}{C:gX}(h:Bw s b d i C)(hi:i<s.size){x:UInt8}(hx:s[i]=x)(hs:shB b d x=x):Bw s b d (i+1) C:=by
 refine⟨h.1,λj hj=> ?_⟩;rw[h.2 j hj];by_cases h1:j<i
 .rw[if_pos h1,if_pos (by omega)]
 .by_cases h2:j=i
  .subst h2;rw[if_neg h1,if_pos (by omega),hx,hs]
  .rw[if_neg h1,if_neg (by omega)]
theorem Bw.step{s:jC}{b d:Int}{i:Nat}{C:gX}(h:Bw s b d i C)(hi:i<s.size){x:UInt8}(hx:s[i]=x){v:Int}(hv:((shB b d x).toNat:Int)=v):Bw s b d (i+1) (C.setIfInBounds i (.int .u8 v)):=by
 refine⟨by rw[Array.size_setIfInBounds];exact h.1,λj hj=> ?_⟩;have:=h.1;by_cases h2:j=i
 .subst h2;rw[Array.getElem?_setIfInBounds_self_of_lt (by omega),if_pos (by omega),hx,hv]
 .rw[bJ (by omega),h.2 j hj];by_cases h1:j<i
  .rw[if_pos h1,if_pos (by omega)]
  .rw[if_neg h1,if_neg (by omega)]
theorem bJw(b o i:Nat):(⟨b,o,none⟩:Addr).add i=⟨b,o+i,none⟩:=by unfold Addr.add;split<;>simp_all
set_option maxHeartbeats 4000000 in
set_option maxRecDepth 1000000 in
theorem aSg(s:jC)(b d:Int)(w:iK)(hb0:0<=b)(hb1:b<=255)(hsz:s.size<=4000000000):Calls prog 302 #[.string s,.int .u8 b,.int .i64 d] w λe w'=>e= .returned (.string ⟨(s.data.toList.map (shB b d)).toArray⟩)/\Below w.heap.size w w':=by
 have hconv:=run_bytes_of_string (P:=prog) w 9 128 5 s (by kernel_rfl) (by kernel_rfl) (by kernel_rfl);obtain⟨cap,hcap⟩:∃cap,grownCap w s.size 0 5=cap:=⟨_,rfl⟩;rw[hcap]at hconv;obtain⟨C0,hC0⟩:∃C0,bytesRow s cap=C0:=⟨_,rfl⟩;have hrow:Bw s b d 0 C0:=by
  refine⟨?_,λj hj=> ?_⟩
  .rw[<-hC0];simp[bytesRow];
  .rw[<-hC0,bytesRow_at s cap j hj];simp;rfl
 rw[hC0]at hconv;obtain⟨w1,hw1⟩:∃w1,w.drew.alloc (.cells C0 5 (C0.size,C0.size+1))=w1:=⟨_,rfl⟩;have hb:Below w.heap.size w w1:=by rw[<-hw1];exact((Below.refl _ w).drew).alloc (aZ _) _
 have hblk:w1.heap[w.heap.size]? =some (.cells C0 5 (C0.size,C0.size+1)):=by
  rw[<-hw1];show(w.heap.push _)[w.heap.size]? =_;simp
 rw[hw1]at hconv;clear hw1 hC0 hcap
 go_enter func302,ntmps302
 go_wp2
 have HR:Aside (Bw s b d 0 C0):=hrow;clear hrow
 go_loopg [8,9,14] s.size (λg _ _ s14 wx=>∃i:Nat,i+g=s.size/\s14= .int .i64 (i:Int)/\Below w.heap.size w wx/\∃C,wx.heap[w.heap.size]? =some (.cells C 5 (C.size,C.size+1))/\Bw s b d i C)
 case atStart=>exact⟨0,by omega,rfl,hb,C0,hblk,HR.out⟩
 case round=>
  obtain⟨i,hig,rfl,hbw,C,hC,hR⟩:=hrel;have HR2:Aside (Bw s b d i C):=hR;clear hR HR;have hcell:∀j,wr.cell? ⟨w.heap.size,j,none⟩=C[j]? :=λj=>by unfold World.cell?;rw[hC];rfl
  have hfrz:∀j,wr.frozen? ⟨w.heap.size,j,none⟩=(decide (C.size<=j)&&decide (j<C.size+1)):=λj=>by unfold World.frozen?;rw[hC]
  cases gk with
  |zero=>
   obtain rfl:i=s.size:=by omega
   have hback:(convert 128 9 (.slice (some ⟨w.heap.size,0,none⟩) s.size cap)).run prog wr= .ok (.string ⟨(s.data.toList.map (shB b d)).toArray⟩) wr:=by
    have hl:(s.data.toList.map (shB b d)).length=s.size:=by rw[dV];exact(Lib.size_eq s).symm
    have:=run_convert_bytes_back (P:=prog) wr 128 9 5 ⟨w.heap.size,0,none⟩ cap (s.data.toList.map (shB b d)) (by kernel_rfl) (by kernel_rfl) (by kernel_rfl) (λj hj=>by
     rw[bJw,bP,hcell];have hj':j<s.size:=by omega
     rw[HR2.out.2 j hj',if_pos hj'];simp
     rfl)
    rwa [hl]at this
   go_wp2
   go_ret
   exact⟨rfl,hbw⟩
  |succ g=>
   have hi:i<s.size:=by omega
   obtain⟨x,hx⟩:∃x:UInt8,s[i]'hi=x:=⟨_,rfl⟩;have hxc:wr.cell? ⟨w.heap.size,i,none⟩=some (.int .u8 (x.toNat:Int)):=by
    rw[hcell,HR2.out.2 i hi,if_neg (by omega),hx]
   have hxz:wr.frozen? ⟨w.heap.size,i,none⟩=false:=by
    have:=HR2.out.1;rw[hfrz,decide_eq_false (by omega)];rfl
   have hil:(i:Int)<(s.size:Int):=by omega
   have hwi:wrap64 ((i:Int)+1)=((i+1:Nat):Int):=by unfold wrap64;omega
   have hwx:wrap64 (x.toNat:Int)=(x.toNat:Int):=by have:=x.toNat_lt;unfold wrap64;omega
   clear hcell hfrz;by_cases h1:b<=(x.toNat:Int)
   .by_cases h2:((x.toNat:Int)-b)%256<26
    .go_wp2
     go_roundg g
     case measure=>omega
     case rel=>
      refine⟨i+1,by omega,rfl,hbw.setCell (p:=⟨w.heap.size,i,none⟩) (aZ _) _,C.setIfInBounds i (.int .u8 (wrap64 ((x.toNat:Int)+d)%256)),?_,HR2.out.step hi hx (by rw[shB,if_pos ⟨h1,h2⟩];simp;omega)⟩;rw[Array.size_setIfInBounds];simp only[World.setCell,Array.getElem?_modify,if_true,hC];rfl
    .go_wp2
     go_roundg g
     case measure=>omega
     case rel=>exact⟨i+1,by omega,rfl,hbw,C,hC,HR2.out.same hi hx (by rw[shB,if_neg (λq=>by omega)])⟩
   .go_wp2
    go_roundg g
    case measure=>omega
    case rel=>exact⟨i+1,by omega,rfl,hbw,C,hC,HR2.out.same hi hx (by rw[shB,if_neg (λq=>by omega)])⟩
def bJu(ts:fU)(r:T):Prop:=∃s',r= .str s'/\∀s,ts.head? =some (.str s)->s'.length=s.length
theorem bHw{m:Int}{te:fS}(s:gU)(b d:Int)(hb0:0<=b)(hb1:b<=255)(hs:s.length<=4000000000):pW prog (glZ m te) 302 [.str s,.int .u8 b,.int .i64 d] (.str (s.map (shB b d))):=by
 refine CM (by kernel_rfl) λg vs hgl hv=> ?_
 match vs,hv with
 |[v,u,z],hv=>
  have e1:=CE (hv.inv_cons).1;have h2:=((hv.inv_cons).2.inv_cons).1;have h3:=(((hv.inv_cons).2.inv_cons).2.inv_cons).1;subst e1;cases h2;cases h3;refine⟨.string ⟨(s.map (shB b d)).toArray⟩,λg'=> ?_,?_⟩
  rotate_left
  .have:=aSg ⟨s.toArray⟩ b d g.w hb0 hb1 (by show s.toArray.size<=_;simpa using hs);simpa using this
  .have:=Rd.str (g:=g') ⟨(s.map (shB b d)).toArray⟩;simpa using this
 |[],hv=>have:=hv.1;simp at this|[_],hv=>have:=hv.1;simp at this|[_,_],hv=>have:=hv.1;simp at this|_ ::_ ::_ ::_ ::_,hv=>have:=hv.1;simp at this
set_option maxHeartbeats 2000000 in
set_option maxRecDepth 1000000 in
theorem aZn(a:Addr)(w:iK):Calls prog 68 #[.slice (some a) 0 0] w λe w'=>∃p,e= .returned (.slice p 0 0)/\Below w.heap.size w w':=by
 have q:∀(w:iK) (a:Option Addr) (n c n' c':Nat),(binOp .eql 30 (.slice a n c) (.slice none n' c')).run prog w= .ok (.bool a.isNone) w:=λw a n c n' c'=>Lib.run_eql_slice_nil w _ _ a n c n' c' (show prog.underlying 30=some (.slice 3) by kernel_rfl)
 go_enter func68,ntmps68
 go_wp2
 go_ret
 exact⟨_,rfl,(Below.refl _ w).alloc (aZ _) _⟩
theorem Below.ps{g:G}{W':iK}(h:Below g.w.heap.size g.w W'):PStep g {g with w:=W'}:=⟨h.os,h.tape,h.output,h.size,h.block,λ_ h=>h,λ_ h=> .inl h,rfl,rfl,rfl⟩
noncomputable section
section
variable(m:Int)(te:fS)
theorem bLi:pW prog (glZ m te) 68 [.nils] .nils:=
 u_ok (cxZ m te) rfl (f:=68) (by kernel_rfl) (by kernel_rfl) func68 (by kernel_rfl) (by kernel_rfl) (ds:=[true]) (b:=true) (by kernel_rfl) rfl
def row(n:Nat)(p:iG):T:= .sl false ((List.range n).map λi=> .int .i64 (p i))
def FO:Fc:=⟨λs=>Nat.beq s 5,λ_ _ _ =>none⟩
theorem cxO:Cx prog (DZ m te) FO:=⟨follows,(cxZ m te).hE,rG⟩
theorem u68(p:iG):∀n:Nat,n<=6->(u (DZ m te) FO f68 [row n p] [false]).map (λq=>(q.1,qA q.2))=some (row n p,true):=by
 intro n h;rcases n with _ |_ |_ |_ |_ |_ |_ |n<;>first|omega|kernel_rfl
theorem bMs(p:iG):∀n:Nat,n<=6->mapO (qJ 40 ⟨0,.nl⟩) [row n p]=some [row n p]:=by
 intro n h;rcases n with _ |_ |_ |_ |_ |_ |_ |n<;>first|omega|kernel_rfl
theorem aYl{g:G}{v:gQ}{n:Nat}{p:iG}(h:Rd g v (row n p)):Rd g v (aJm n p):=
 aYh h (λx hx=>by obtain⟨j,_,rfl⟩:=bQ.1 hx;rfl) (by simp) λi hi=>by rw[bA,dP hi];rfl
theorem aJn{g:G}{b o cap n:Nat}{p:iG}{vs:gM}{sz:Nat}(h1:n≠0->g.S b)(h2:∀i,i<n->(T.int .i64 (p i)).cells.length=sz)(h3:n<=cap)(h4:cap<=maxLen)(h6:vs.length=n*sz)(h7:∀(j:Nat) (v:gQ),vs[j]? =some v->g.w.cell? ⟨b,o+j,none⟩=some v)
  (h8:∀(i j:Nat) (v:gQ) (c:T),i<n->j<sz->vs[i*sz+j]? =some v->(T.int .i64 (p i)).cells[j]? =some c->HH g v c):Rd g (.slice (some ⟨b,o,none⟩) n cap) (row n p):=by
 have hl:((List.range n).map λi=>T.int .i64 (p i)).length=n:=by simp
 have key:Rd g (.slice (some ⟨b,o,none⟩) ((List.range n).map λi=>T.int .i64 (p i)).length cap) (.sl false ((List.range n).map λi=>T.int .i64 (p i))):=by
  refine .sl false _ sz b o cap vs (λq=>h1 (λe=>q (by subst e;rfl))) (λx hx=> ?_) (by rw[hl];exact h3) h4 (λe=>by cases e) (by rw[hl];exact h6) h7 λj v c hj hc=> ?_
  .obtain⟨i,hi,rfl⟩:=bQ.1 hx;exact h2 i (dJ.1 hi)
  .have hfm:((List.range n).map λi=>T.int .i64 (p i)).flatMap T.cells=(List.range n).map λi=>T.int .i64 (p i):=by
    have:∀l:List Nat,(l.map λi=>T.int .i64 (p i)).flatMap T.cells=l.map λi=>T.int .i64 (p i):=by
     intro l
     induction l with
     |nil=>rfl|cons a l ih=>simp only[cB,bG,ih];rfl
    exact this _
   rw[hfm]at hc;have hjn:j<n:=by have:=(aO.1 hc).1;simpa using this
   have hsz:sz=1:=(h2 j hjn).symm;subst hsz;rw[bA,dP hjn]at hc;cases hc;exact(h8 j 0 v _ hjn (by decide) (by simpa using hj) rfl).rd
 rw[hl]at key;exact key
theorem c68{n:Nat}(hn:n<=6)(p:iG):pW prog (glZ m te) 68 [aJm n p] (aJm n p):=by
 have hrow:=(u_ok (cxO m te) rfl (f:=68) (by kernel_rfl) (by kernel_rfl) func68 (by kernel_rfl) (bMs p n hn) (u68 m te p n hn) rfl).mono λg v h=>aYl h;refine⟨hrow.1,λG vs hg hN hgl hv=> ?_⟩;obtain⟨v,rfl,hr⟩:∃v,vs=[v]/\Rd G v (aJm n p):=by
  match vs,hv with
  |[v],hv=>exact⟨v,rfl,hv.2 0 v _ rfl rfl⟩|[],hv=>have:=hv.1;simp at this|_ ::_ ::_,hv=>have:=hv.1;simp at this
 cases hr with
 |slfn _ _ q=>
  cases q with
  |none=>exact((bLi m te).mono λg v h=>(aAo false _ h)).2 G _ hg hN hgl (RdL.cons .nils RdL.nil)
  |some a=>
   refine(aZn a G.w).mono λe W' ⟨q,e1,hb⟩=> ?_;subst e1;exact⟨_,{G with w:=W'},rfl,rfl,Below.ps hb,λb hb'=>bT (hg b hb') hb.size,.slfn _ _ _⟩
 |slf _ _ _ sz b o cap vs h1 h2 h3 h4 h5 h6 h7 h8=>exact hrow.2 G _ hg hN hgl (RdL.cons (aJn h1 h2 h3 h4 h6 h7 h8) RdL.nil)
end
end
end Go.Proofs.Tryz
