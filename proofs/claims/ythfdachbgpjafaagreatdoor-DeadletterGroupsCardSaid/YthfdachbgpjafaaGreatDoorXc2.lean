/- Lemmas for the card; no conditions. -/
import Derived.Test.YthfdachbgpjafaaGreatDoorXc1
import Derived.Laws.IdiomRangeMap
import Derived.Laws.RangeString
import Derived.RangeFuncNested
import Derived.RangeFuncLeaves
import Derived.RangeFuncCalls
import Derived.Shelf.Small.Utf8
import Derived.Shelf.Small.Strs
import Derived.Shelf.LaysC
import Derived.Shelf.Strconv.ErrVarAll
import Derived.Shelf.Strings.Search1
import Derived.Shelf.Strings.Cut
import Derived.Shelf.Strings.IndexAnyAll
import Derived.Shelf.Unicode.ValidAny
import Derived.Test.YthfdachbgpjafaaGreatDoorProg
import Derived.KernelRfl
import Derived.WalkMore
import Derived.Shelf.RegionOpenPlain
import Derived.Deep.QuietTactic
import Derived.Deep.Draws
import Derived.Laws.RangeAny
import Derived.Laws.Runes
import Derived.Shelf.Strings.Repeat
import Derived.Shelf.Unicode.DecodeAny
import Derived.Lib.TrimU
set_option linter.unusedSimpArgs false
set_option linter.unusedVariables false
set_option linter.unusedSectionVars false
set_option maxRecDepth 100000
namespace Go.Ps
noncomputable section
theorem qF.dropO(H:Hp)(g:G)(l:Nat):qF H g (H.drop l) g:=by
 refine⟨rfl,rfl,rfl,aZ _,λ_ _ _ =>rfl,λ_ h=>h,λ_ h=> .inl h,λ_ h=>h,λ_ _ =>rfl,λ_ _ =>rfl,λm o ho=> ?_⟩;rw[sA]at ho;split at ho
 .cases ho
 .exact .inl ⟨m,o,ho,rfl⟩
theorem St.dropO{g:G}{H:Hp}(hs:St g H)(l:Nat):St g (H.drop l):=by
 have hany:∀m q,(H.drop l).any m=some q->H.any m=some q:=λm q hq=>by
  rw[sA]at hq;split at hq
  .cases hq
  .exact hq
 refine⟨λm q hq=> ?_,λm q mo hq hme=>hs.ownM m q mo (hany m q hq) hme,λm m' q q' h1 h2 e=>hs.sep m m' q q' (hany m q h1) (hany m' q' h2) e,λm hm=>hs.new m hm⟩;obtain⟨hqa,hqm⟩:=qP hq;exact hs.own m q (yC (hany m q hqa) hqm)
theorem JI{g:G}(h:rZ g)(b:Nat)(o:Obj):rZ (g.setOb b o):=λk hk=>by
 have:=h k hk;simpa [G.setOb]using this
section
variable{P:fV}{gl:fY}{g:G}
abbrev jM:=Nat->Bool
theorem sT.filter(p:jM):∀{ms:iH} {es:gS},sT g ms es->sT g (ms.filter λe=>p e.born) (es.filter λe=>p e.1)
 |[],[],_ =>⟨rfl,RdL.nil,RdL.nil⟩|[],_ ::_,h=>by have:=h.len;simp at this|_ ::_,[],h=>by have:=h.len;simp at this
 |m::ms,e::es,h=>by
  obtain⟨h1,h2,h3,h4⟩:=h.inv_cons;have:=sT.filter p h4;rw[List.filter_cons,List.filter_cons,h1];cases p e.1 with
  |true=>exact sT.cons h1 h2 h3 this|false=>exact this
theorem Kt{w:iK}{r bm since last c:Nat}{seen:gI}{ms:jQ}(hr:w.heap[r]? =some (.mapIter (some bm) since seen.toArray last))(hb:w.heap[bm]? =some (.map ms c))(hold:∀x∈ms.toList,x.born<since)(hsc:since<=last)(ty:fS):
  ((leftOf ms seen.toArray).size=0/\(Instr.next (.pointer (some ⟨r,0,none⟩)) false ty).run P w= .ok (.tuple #[.bool false]) w)\/
  ∃e∈(leftOf ms seen.toArray).toList,∃w1:World,(w1=w\/w1=w.drew)/\(Instr.next (.pointer (some ⟨r,0,none⟩)) false ty).run P w= .ok (.tuple #[.bool true,e.key,e.val]) {w1 with heap:=w1.heap.setIfInBounds r (.mapIter (some bm) since (seen.toArray.push e.born) c)}:=by
 simp only[Instr.next,getObj,aP,Sem.run,hr,hb,Result.andThen,next_test_false seen.toArray ms since last hold hsc,aY,if_false];unfold leftOf;have hmem:∀x∈(Array.filter (λe=> !seen.toArray.contains e.born) ms).toList,x.born<since:=λx hx=>hold x (by simp at hx⊢;exact hx.1);generalize Array.filter (λe=> !seen.toArray.contains e.born) ms=L at hmem⊢;have e1:L.filter (λx=>decide (x.born<since))=L:=Array.filter_eq_self.2 (λx hx=>by simpa using hmem x (by simpa using hx));have e2:L.filter (λx=>decide (x.born>=since))= #[]:=by
  rw[Array.filter_eq_empty_iff];intro x hx;have:=hmem x (by simpa using hx);simp;omega
 simp only[e1,e2,Array.append_empty];by_cases h0:L.size=0
 .left;have:L= #[]:=Array.eq_empty_of_size_eq_zero h0;subst this;refine⟨rfl,?_⟩;simp[choose,Sem.run,Question.forced]
 .right;have hne:L.isEmpty=false:=by simp[Array.isEmpty,h0]
  simp only[hne,aY,if_false,Array.empty_append,Array.size_map];have hch:∃(j:Nat) (w1:iK),j<L.size/\(w1=w\/w1=w.drew)/\(choose (Question.mapNext L.size)).run P w= .ok j w1:=by
   by_cases hf:L.size<=1
   .exact⟨0,w,by omega,.inl rfl,by simp[choose,Sem.run,Question.forced,hf]⟩
   .exact⟨_,w.drew,Nat.mod_lt _ (by omega),.inr rfl,by
     simp only[choose,Sem.run,Question.forced,aJ,hf,if_false,Question.cut]
     rfl⟩
  obtain⟨j,w1,hj,hal,hrun⟩:=hch;refine⟨L[j],by simp,w1,hal,?_⟩;have hr1:w1.heap[r]? =some (.mapIter (some bm) since seen.toArray last):=by rcases hal with rfl|rfl<;>exact hr
  have hset:∀o',(setObj r o').run P w1= .ok () {w1 with heap:=w1.heap.setIfInBounds r o'}:=λo'=>by simp[setObj,Sem.run,hr1]
  simp only[hrun,Array.getElem?_map,Array.getElem?_eq_getElem hj,cH,aP,hset,Result.andThen];rfl
abbrev kF:=List (T×Hp)
theorem aRg{H:Hp}(hs:St g H)(hg:rZ g){isS:Bool}{x:T}{cs:kF}(h:Er H isS x=some cs){v:gQ}(hv:Rd g v x)(ty:fS):
  ∃t H1 u g',(t,H1)∈cs/\(Instr.next v isS ty).run P g.w= .ok u g'.w/\qF H g H1 g'/\rZ g'/\St g' H1/\Rd g' u t:=by
 unfold Er at h;split at h
 .rename_i l;have hv':v= .pointer (some ⟨g.loc l,0,none⟩):=by cases hv;rfl
  subst hv';split at h
  .rename_i o ho;split at h
   .rename_i m since seen last hm;split at h
    .cases h
    .rename_i hisS;have hisS:isS=false:=by simpa using hisS
     subst hisS;split at h
     .rename_i om hom;split at h
      .rename_i c es hme;split at h
       .rename_i hc;simp only[aA]at hc;obtain⟨hal,hSl,b,hb,hmo⟩:=hs.ownM l o _ ho hm;obtain⟨ham,e⟩:=hmo;subst e;obtain⟨_,_,b2,hb2,ms,e2,hmr⟩:=hs.ownM m om _ hom hme;subst e2;have hold:∀x∈ms.toList,x.born<since:=by
         intro x hx;obtain⟨i,hi,rfl⟩:=List.mem_iff_getElem.1 hx;have h1:=hmr.1;have hi':i<es.length:=by rw[<-hmr.len];exact hi
         have h2:ms.toList[i].born=(es[i]).1:=by
          have:=congrArg (λl=>l[i]?) h1;simp only[bA,aB hi,aB hi',cH]at this;exact bX this
         rw[h2];have h3:=hc.1;rw[aH]at h3;exact aXu.1 (h3 _ (cK hi'))
        have hleft:sT g (leftOf ms seen.toArray).toList (wC seen es):=by
         have:=sT.filter (λb=> !seen.contains b) hmr;have e:(leftOf ms seen.toArray).toList=ms.toList.filter λe=> !seen.contains e.born:=by
          unfold leftOf;rw[Array.toList_filter];congr 1;funext e;simp
         rw[e];exact this
        rcases Kt (P:=P) hb hb2 hold (aXu.1 hc.2) ty with⟨h0,hrun⟩|⟨e,he,w1,hw1,hrun⟩
        .have hnil:wC seen es=[]:=by
          have:=hleft.len;rw[dH,h0]at this;exact dR.1 this.symm
         rw[hnil]at h;cases h;exact⟨_,_,_,g,bV.2 rfl,hrun,qF.dropO H g l,hg,hs.dropO l,Rd.mk_tup (vs:=[.bool false]) (RdL.cons (.bool false) RdL.nil)⟩
        .obtain⟨i,hi,rfl⟩:=List.mem_iff_getElem.1 he;have hi':i<(wC seen es).length:=by rw[<-hleft.len];exact hi
         obtain⟨e2,q1,q2,q3,q4⟩:=hleft.at_ (aB hi');rw[aB hi]at q1;cases bX q1;split at h
         .rename_i hnil;rw[hnil]at hi';simp at hi'
         .cases h;obtain⟨gd,hgd⟩:∃gd:G,gd={g with w:=w1}:=⟨_,rfl⟩;have hp:PStep g gd:=by
           rw[hgd];rcases hw1 with rfl|rfl
           .exact PStep.refl g
           .exact⟨rfl,rfl,rfl,aZ _,λ_ _ =>rfl,λ_ h=>h,λ_ h=> .inl h,rfl,rfl,rfl⟩
          have hokd:rZ gd:=λb hb=>bT (hg b (by rw[hgd]at hb;exact hb)) hp.size;have hlocd:∀k,gd.loc k=g.loc k:=λk=>by rw[hgd]
          have hmo':MoR gd (.mit m since (seen++[(wC seen es)[i].1]) c) (.mapIter (some (g.loc m)) since (seen.toArray.push (leftOf ms seen.toArray).toList[i].born) c):=by
           refine⟨by rw[hgd];exact ham,?_⟩;rw[hlocd,<-q2];simp
          refine⟨.tup [.bool true,(wC seen es)[i].2.1,(wC seen es)[i].2.2],H.put l (KR (.mit m since (seen++[(wC seen es)[i].1]) c)),.tuple #[.bool true,(leftOf ms seen.toArray).toList[i].key,(leftOf ms seen.toArray).toList[i].val],gd.setOb (gd.loc l) (.mapIter (some (g.loc m)) since (seen.toArray.push (leftOf ms seen.toArray).toList[i].born) c),?_,?_,hp.toS.trans (yH ho _ _),JI hokd _ _,JJ (hs.pstep hp) ho rfl hmo',?_⟩
          .exact bQ.2 ⟨_,cK hi',rfl⟩
          .rw[hrun,hlocd,hgd];rfl
          .have hstp:=yH (g:=gd) (H:=H) ho (.mapIter (some (g.loc m)) since (seen.toArray.push (leftOf ms seen.toArray).toList[i].born) c) (KR (.mit m since (seen++[(wC seen es)[i].1]) c));exact(Rd.mk_tup (vs:=[.bool true,_,_]) (RdL.cons (.bool true) (RdL.cons (q3.pstep hp) (RdL.cons (q4.pstep hp) RdL.nil)))).sstep (hs.pstep hp) hstp
       .cases h
      .cases h
     .cases h
   .rename_i s pos hm;split at h
    .rename_i hisS;subst hisS;obtain⟨hal,hSl,b,hb,u,hu,e⟩:=hs.ownM l o _ ho hm;subst e;have hsz:u.size=s.length:=by rw[<-hu];rfl
     split at h
     .rename_i c hc;split at h
      .rename_i hlt;cases h;have hpos:pos<u.size:=by rw[hsz];exact(aO.1 hc).1
       have hbyte:u[pos]'hpos=c:=by
        have h1:u.data.toList[pos]? =some c:=by rw[hu];exact hc
        rw[fF]at h1;obtain⟨h2,h3⟩:=aK.1 h1;exact h3
       have hasc:(u[pos]'hpos).toNat<128:=by rw[hbyte];exact aXu.1 hlt
       refine⟨_,_,.tuple #[.bool true,.int .i64 pos,.int .i32 c.toNat],g.setOb (g.loc l) (.stringIter u (pos+1)),bV.2 rfl,?_,yH ho _ _,JI hg _ _,JJ hs ho rfl ⟨u,hu,rfl⟩,Rd.mk_tup (vs:=[.bool true,_,_]) (RdL.cons (.bool true) (RdL.cons (.int _ _) (RdL.cons (.int _ _) RdL.nil)))⟩;have hset:∀o',(setObj (g.loc l) o').run P g.w= .ok () {g.w with heap:=g.w.heap.setIfInBounds (g.loc l) o'}:=λo'=>by simp[setObj,Sem.run,hb]
       simp only[Instr.next,getObj,aP,Sem.run,hb,Result.andThen,hpos,if_true,decode_ascii u pos hpos hasc,hset];rw[hbyte];simp[goInt,G.setOb]
      .cases h
     .rename_i hc;cases h;have hpos:¬pos<u.size:=λq=>by
       rw[hsz]at q;rw[aB q]at hc;cases hc
      refine⟨_,_,_,g,bV.2 rfl,?_,qF.dropO H g l,hg,hs.dropO l,Rd.mk_tup (vs:=[.bool false]) (RdL.cons (.bool false) RdL.nil)⟩;simp[Instr.next,getObj,Sem.run,hb,hpos]
    .cases h
   .cases h
  .cases h
 .cases h
theorem Nw{b:Nat}:∀{ms:iH} {es:gS} {e:Nat×T×T},sT g ms es->es.find? (λe=>Nat.beq e.1 b)=some e->∃m,ms.find? (λm=>m.born==b)=some m/\Rd g m.key e.2.1/\Rd g m.val e.2.2
 |[],[],e,_,h=>by cases h|[],_ ::_,_,h,_ =>by have:=h.len;simp at this|_ ::_,[],_,h,_ =>by have:=h.len;simp at this
 |m::ms,x::es,e,h,hf=>by
  obtain⟨h1,h2,h3,h4⟩:=h.inv_cons;rw[List.find?_cons]at hf⊢;by_cases hb:x.1=b
  .rw[show Nat.beq x.1 b=true from bPj.2 hb]at hf;cases hf;exact⟨m,by rw[h1];simp[hb],h2,h3⟩
  .have hn:Nat.beq x.1 b=false:=by
    cases e:Nat.beq x.1 b with
    |false=>rfl|true=>exact absurd (aF e) hb
   rw[hn]at hf;obtain⟨m',q1,q2⟩:=Nw h4 hf;exact⟨m',by rw[h1,show(x.1==b)=false by simpa using hb];exact q1,q2⟩
theorem aSj{H:Hp}(hs:St g H)(hg:rZ g){x:T}{cs:kF}(h:stepT H x=some cs){v:gQ}(hv:Rd g v x):
  ∃t H1 u g',(t,H1)∈cs/\(Instr.entry v).run P g.w= .ok u g'.w/\qF H g H1 g'/\rZ g'/\St g' H1/\Rd g' u t:=by
 unfold stepT at h;split at h
 .rename_i l;have hv':v= .pointer (some ⟨g.loc l,0,none⟩):=by cases hv;rfl
  subst hv';split at h
  .rename_i o ho;split at h
   .rename_i m since seen last hm;split at h
    .rename_i b om hlast hom;split at h
     .rename_i c es hme;split at h
      .rename_i hc;split at h
       .rename_i e he;cases h;obtain⟨hal,hSl,bo,hb,ham,e1⟩:=hs.ownM l o _ ho hm;subst e1;obtain⟨_,_,b2,hb2,ms,e2,hmr⟩:=hs.ownM m om _ hom hme;subst e2;obtain⟨mm,q1,q2,q3⟩:=Nw hmr he;refine⟨_,_,.tuple #[mm.key,mm.val],g,bV.2 rfl,?_,qF.refl H g,hg,hs,Rd.mk_tup (vs:=[mm.key,mm.val]) (RdL.cons q2 (RdL.cons q3 RdL.nil))⟩;have hback:seen.toArray.back? =some b:=by simpa using hlast
        have hfind:ms.find? (λm=>m.born==b)=some mm:=by rw[<-q1,<-Array.find?_toList]
        simp only[Instr.entry,getObj,aP,Sem.run,hb,hb2,Result.andThen,hback,aF hc,hfind];simp
       .cases h
      .cases h
     .cases h
    .cases h
   .cases h
  .cases h
 .cases h
theorem aLg{H H1:Hp}(hs:St g H)(hg:rZ g){ty:fS}{x t:T}(h:ZE P H ty x=some (t,H1)){v:gQ}(hv:Rd g v x):
  ∃u g',(Instr.range ty v).run P g.w= .ok u g'.w/\qF H g H1 g'/\rZ g'/\St g' H1/\Rd g' u t:=by
 unfold ZE at h;split at h
 .rename_i m;split at h
  .rename_i kt et o hty ho;split at h
   .rename_i c es hme;cases h;obtain⟨ham,_,b,hb,ms,e,hmr⟩:=hs.ownM m o _ ho hme;subst e;have hv':v= .map (some (g.loc m)):=by cases hv;rfl
    subst hv';have hst:=xY hs (.mapIter (some (g.loc m)) c #[] c) 0 (KR (.mit m c [] c));have hn:m≠H.next:=λe=>hs.new H.next (aZ _) (e▸ham);refine⟨_,g.own H.next (.mapIter (some (g.loc m)) c #[] c) 0,?_,hst,GM hg _ _ _,OP hs hg λ_ keep=>⟨λe=>(by cases e),λmo e=> ?_⟩,Kf _ _ _⟩
    .rw[run_range_map g.w ty kt et _ ms c hty hb];rfl
    .cases e;exact⟨.inl ham,by simp[G.own,hn]⟩
   .cases h
  .cases h
 .rename_i s;split at h
  .rename_i hty;cases h;obtain⟨u,rfl,hu⟩:=hv.inv_str;refine⟨_,g.own H.next (.stringIter u 0) 0,?_,xY hs _ 0 (KR (.sit s 0)),GM hg _ _ _,OP hs hg λ_ keep=>⟨λe=>(by cases e),λmo e=> ?_⟩,Kf _ _ _⟩
   .rw[run_range_string g.w ty u hty];rfl
   .cases e;exact⟨u,hu,rfl⟩
  .cases h
 .cases h
end
open Go.RowKit
structure EK(H:Hp)(g g':G):Prop where
 os:g'.w.os=g.w.os
 tape:g'.w.tape=g.w.tape
 output:g'.w.output=g.w.output
 size:g.w.heap.size<=g'.w.heap.size
 keepS:∀b,g.S b->g'.w.heap[b]? =g.w.heap[b]?
 keepO:∀l o,H.any l=some o->g'.w.heap[g.loc l]? =g.w.heap[g.loc l]?
 sub:∀b,g.S b->g'.S b
 fresh:∀b,g'.S b->g.S b\/g.w.heap.size<=b
 al:g'.al=g.al
 loc:g'.loc=g.loc
 cp:g'.cp=g.cp
theorem Rd.keepS{g g':G}(hS:∀b,g.S b->g'.S b)(hb:∀b,g.S b->g'.w.heap[b]? =g.w.heap[b]?)(hal:∀l,g.al l->g'.al l/\g'.loc l=g.loc l/\g'.cp l=g.cp l){v:gQ}{t:T}(hr:Rd g v t):Rd g' v t:=by
 have hc:∀b o v,g.S b->g.w.cell? ⟨b,o,none⟩=some v->g'.w.cell? ⟨b,o,none⟩=some v:=λb o v hs h=>(World.cell?_of_block (w:=g.w) (a:=⟨b,o,none⟩) (hb b hs)).trans h
 induction hr with
 |int k n=>exact .int k n|bool b=>exact .bool b|str s=>exact .str s|nilp=>exact .nilp|ptr l off hl=>rw[<-(hal l hl).2.1];exact .ptr l off (hal l hl).1|ref x off b o vs hs hlen hc' _ ih=>exact .ref x off b o vs (hS b hs) hlen (λj v hv=>hc _ _ _ hs (hc' j v hv)) ih|nils=>exact .nils|slfn full f p=>exact .slfn full f p
 |sl full xs sz b o cap vs hs hsz h1 h2 h3 hlen hc' _ ih=>
  refine .sl full xs sz b o cap vs (λhx=>hS b (hs hx)) hsz h1 h2 h3 hlen (λj v hv=> ?_) ih;have hn:xs≠[]:=by
   rintro rfl;simp at hlen;subst hlen;simp at hv
  exact hc _ _ _ (hs hn) (hc' j v hv)
 |slf full n f sz b o cap vs h1 h2 h3 h4 h5 h6 h7 h8=>exact Rd.slf_keep hS hc h1 h2 h3 h4 h5 h6 h7 h8
 |osl l sz i len b o cap hl h1 h2 h3 h4=>
  obtain⟨q1,q2,q3⟩:=hal l hl;exact .osl l sz i len b o cap q1 h1 (q3▸h2) (λq=>q2▸h3 q) (λq=>q3▸h4 q)
 |nilf=>exact .nilf|fn f first captured vs us h1 _ h2 _ ih1 ih2=>exact .fn f first captured vs us h1 ih1 h2 ih2
 |nili=>exact .nili|iface t v x _ ih=>exact .iface t v x ih|nilm=>exact .nilm|mp l hl=>rw[<-(hal l hl).2.1];exact .mp l (hal l hl).1|yl l hl=>rw[<-(hal l hl).2.1];exact .yl l (hal l hl).1|agg cs vs h1 _ ih=>exact .agg cs vs h1 ih|tup cs vs h1 _ ih=>exact .tup cs vs h1 ih
theorem RdL.keepS{g g':G}(hS:∀b,g.S b->g'.S b)(hb:∀b,g.S b->g'.w.heap[b]? =g.w.heap[b]?)(hal:∀l,g.al l->g'.al l/\g'.loc l=g.loc l/\g'.cp l=g.cp l){vs:gM}{ts:fU}(hr:RdL g vs ts):RdL g' vs ts:=
 ⟨hr.1,λj v c hv hc=>(hr.2 j v c hv hc).keepS hS hb hal⟩
theorem GlOk.keepS{gl:fY}{g g':G}(hS:∀b,g.S b->g'.S b)(hb:∀b,g.S b->g'.w.heap[b]? =g.w.heap[b]?)(hal:∀l,g.al l->g'.al l/\g'.loc l=g.loc l/\g'.cp l=g.cp l)(hg:GlOk gl g):GlOk gl g':=λk t ht=>by
 obtain⟨h1,h2,cs,e,fz,h3,h4⟩:=hg k t ht;exact⟨h1.keepS hS hb hal,hS k h2,cs,e,fz,by rw[hb k h2];exact h3,h4⟩
section
variable{H:Hp}{g g':G}
theorem EK.ga(h:EK H g g'):∀l,g.al l->g'.al l/\g'.loc l=g.loc l/\g'.cp l=g.cp l:=λl hl=>⟨h.al▸hl,by rw[h.loc],by rw[h.cp]⟩
theorem EK.rdl(h:EK H g g'){vs:gM}{ts:fU}(hr:RdL g vs ts):RdL g' vs ts:=hr.keepS h.sub h.keepS h.ga
theorem EK.gl(h:EK H g g'){gl:fY}(hr:GlOk gl g):GlOk gl g':=hr.keepS h.sub h.keepS h.ga
theorem EK.st(h:EK H g g')(hs:St g H):St g' H:=by
 refine⟨λl o ho=> ?_,λl o m ho hm=> ?_,λl l' o o' h1 h2 e=>hs.sep l l' o o' h1 h2 (by rw[h.loc]at e;exact e),λl hl=>by rw[h.al];exact hs.new l hl⟩
 .obtain⟨ha,hS,cs,hb,h1,h2,h3,h4⟩:=hs.own l o ho;have hlt:g.loc l<g.w.heap.size:=(aK.1 hb).1;refine⟨h.al▸ha,?_,cs,?_,h1,h2,?_,h.rdl h4⟩
  .rw[h.loc];exactλq=>(h.fresh _ q).elim hS (λq'=>by omega)
  .rw[h.loc,h.keepO l o (qP ho).1];exact hb
  .rw[h.cp];exact h3
 .obtain⟨ha,hS,ms,hb,h1⟩:=hs.ownM l o m ho hm;have hlt:g.loc l<g.w.heap.size:=(aK.1 hb).1;refine⟨h.al▸ha,?_,ms,?_,h1.mono (λ_ _ q=>q.keepS h.sub h.keepS h.ga) (λl hl=>⟨(h.ga l hl).1,(h.ga l hl).2.1⟩)⟩
  .rw[h.loc];exactλq=>(h.fresh _ q).elim hS (λq'=>by omega)
  .rw[h.loc,h.keepO l o ho];exact hb
theorem EK.sstep(h:EK H g g'){H0:Hp}{g0:G}(k:qF H0 g0 H g)(hb:∀b,b<g0.w.heap.size->g'.w.heap[b]? =g.w.heap[b]?):qF H0 g0 H g':=by
 have e:∀b,g0.w.heap.size<=b\/b<g0.w.heap.size:=λb=>by omega
 refine⟨h.os.trans k.os,h.tape.trans k.tape,h.output.trans k.output,fB k.size h.size,λb hlt hn=>(hb b hlt).trans (k.block b hlt hn),λb q=>h.sub b (k.sub b q),λb q=> ?_,
  λl q=>h.al▸k.al l q,λl q=>by rw[h.loc];exact k.loc l q,λl q=>by rw[h.cp];exact k.cp l q,λl o ho=>by rw[h.loc];exact k.live l o ho⟩
 rcases h.fresh b q with q|q
 .exact k.fresh b q
 .exact .inr (.inl (fB k.size q))
end
structure MU(H:Hp)(g:G)(b:Nat):Prop where
 s:¬g.S b
 o:∀l o,H.any l=some o->g.loc l≠b
theorem JD{H:Hp}{g:G}{l:Nat}(hf:MU H g l)(o:Obj):EK H g {g with w:=g.w.putObj l o}:=
 ⟨rfl,rfl,rfl,by simp,λb hb=>World.putObj_heap_other (λe=>hf.s (e▸hb)),λm q hq=>World.putObj_heap_other (hf.o m q hq),λ_ h=>h,λ_ h=> .inl h,rfl,rfl,rfl⟩
abbrev iU:=List (List T)
structure YP(P:fV)(gl:fY)(l:Nat)(xs:iU)(J Jx:List (List T)->G->Prop):Prop where
 cj:∀pre g g',J pre g->PStep g g'->rZ g'->J pre g'
 cx:∀pre g g',Jx pre g->PStep g g'->rZ g'->Jx pre g'
 y :∀pre x (args:gM) g1,(pre++[x])<+:xs->rZ g1->(∀l,¬g1.al l)->GlOk gl g1->RdL g1 args x->J pre g1->YieldAt (Fw none) 0 P l args.toArray g1.w λe W'=>
   g1.w.heap.size<=W'.heap.size/\(∀b,g1.S b->W'.heap[b]? =g1.w.heap[b]?)/\((e= .returned (.bool true)/\J (pre++[x]) {g1 with w:=W'})\/(e= .returned (.bool false)/\Jx (pre++[x]) {g1 with w:=W'}))
def Mg(P:fV)(gl:fY)(gf:gV)(cap:fU)(xs:iU):Prop:=
 ∀(g:G) (lb:gM),rZ g->(∀l,¬g.al l)->GlOk gl g->RdL g lb cap->∀(l:Nat) (J Jx:List (List T)->G->Prop),YP P gl l xs J Jx->J [] g->
  CallsIn (Fw none) 0 P gf (#[.func (.yield l) #[] #[]]++lb.toArray) g.w λe W'=>(∃v,e= .returned v)/\((∃g',g'.w=W'/\J xs g')\/∃pre g',g'.w=W'/\Jx pre g')
abbrev iR:=List Tmp
def FF(ps:iR)(x:fU)(fr:fU):List T:=(ps.zip x).foldl (λf p=>f.set p.1 p.2) fr
section
variable(P:fV)(E:tY)(F:Fc)(n:Nat)(ps:iR)(a_s bd:Code)(fr:fU)
def ZK(x:fU)(H:Hp):Option (X×Hp):=
 match pU P E F n a_s (FF ps x fr) H with
 |some (.normal,fr1,H1)=>match pU P E F n bd fr1 H1 with
  |some (q,_,H2)=>some (q,H2)|none=>none
 |_ =>none
def HU:List (List T)->Hp->Option (X×Hp)
 |[],H=>some (.normal,H)
 |x::r,H=>match ZK P E F n ps a_s bd fr x H with
  |some (.normal,H2)=>HU r H2|q=>q
end
theorem Rl{g:G}:∀(ps:iR) (args:gM) (x:fU) (vs:gX) (fr:fU),RdL g args x->RdL g vs.toList fr->
  RdL g ((ps.zip args).foldl (λt p=>t.setIfInBounds p.1 p.2) vs).toList (FF ps x fr):=by
 intro ps
 induction ps with
 |nil=>intro args x vs fr _ h;simpa [FF]using h
 |cons p ps ih=>
  intro args x vs fr ha h;cases args with
  |nil=>
   have:x=[]:=by have:=ha.1;simp at this;exact dR.1 this.symm
   subst this;simpa [FF]using h
  |cons u args=>
   cases x with
   |nil=>have:=ha.1;simp at this
   |cons t x=>
    obtain⟨h1,h2⟩:=ha.inv_cons;have:=ih args x (vs.setIfInBounds p u) (fr.set p t) h2 (by simpa using h.set p h1);simpa [FF]using this
theorem Tc(ps:Array Tmp)(args:gM)(vs:gX):(ps.zip args.toArray).foldl (λt (p,v)=>t.setIfInBounds p v) vs=(ps.toList.zip args).foldl (λt p=>t.setIfInBounds p.1 p.2) vs:=by
 have:ps=ps.toList.toArray:=by simp
 rw[this,List.zip_toArray,List.foldl_toArray]
theorem yW(a:Act):DS [] a=a:=by cases a;simp[DS]
theorem KG{k N:Nat}:∀{ts ts':fU},mapO (qJ k ⟨0,.nl⟩) ts=some ts'->mapO (qJ k ⟨N,.nl⟩) ts=some ts'
 |[],_,h=>h
 |t::ts,rs,h=>by
  simp only[mapO]at h⊢;split at h
  .rename_i a ha;split at h
   .rename_i b hb;rw[HW k 0 _ _ _ ha,KG hb];exact h
   .cases h
  .cases h
def X.jump:X->Option Code
 | .normal=>none| .exit id=>some (.exit id)| .ret=>some .ret
section
variable{P:fV}{E:tY}{F:Fc}
theorem qT.kstep{g0 g g':G}{H0 H:Hp}{a:Act}{fr:fU}(h:qT E g0 H0 g a fr H)(k:EK H g g')(ho:rZ g')(hb:∀b,b<g0.w.heap.size->g'.w.heap[b]? =g.w.heap[b]?):qT E g0 H0 g' a fr H:=
 ⟨ho,k.st h.st,k.gl h.gl,h.df,k.rdl h.fr,k.sstep h.step hb⟩
theorem qT.pstep{g0 g g':G}{H0 H:Hp}{a:Act}{fr:fU}(h:qT E g0 H0 g a fr H)(k:PStep g g')(ho:rZ g'):qT E g0 H0 g' a fr H:=
 ⟨ho,h.st.pstep k,h.gl.pstep k,h.df,h.fr.pstep k,h.step.trans k.toS⟩
structure RJ(E:tY)(g0:G)(H0:Hp)(a:Act)(fr:fU)(L D:Nat)(lp:Loop)(G1 gk:G)(Hk:Hp):Prop where
 w:gk.w=G1.w
 sub:∀b,G1.S b->gk.S b
 ci:qT E g0 H0 gk a fr Hk
 l:gk.w.heap[L]? =some (.loop lp)
 d:gk.w.heap[D]? =some (.deferred (some []))
 fl:MU Hk gk L
 fd:MU Hk gk D
theorem RJ.step{g0:G}{H0:Hp}{a:Act}{fr:fU}{L D:Nat}{lp:Loop}{G1 G2 gk:G}{Hk:Hp}(h:RJ E g0 H0 a fr L D lp G1 gk Hk)(k:PStep G1 G2)(ho:rZ G2):
  RJ E g0 H0 a fr L D lp G2 {gk with w:=G2.w,S:=λb=>gk.S b\/G2.S b} Hk:=by
 have hw:=h.w;have hp:PStep gk {gk with w:=G2.w,S:=λb=>gk.S b\/G2.S b}:=by
  refine⟨by rw[hw];exact k.os,by rw[hw];exact k.tape,by rw[hw];exact k.output,by rw[hw];exact k.size,λb hb=>by rw[hw]at hb⊢;exact k.block b hb,λb hb=> .inl hb,λb hb=> ?_,rfl,rfl,rfl⟩;rcases hb with hb|hb
  .exact .inl hb
  .rcases k.fresh b hb with q|q
   .exact .inl (h.sub b q)
   .exact .inr (by rw[hw];exact q)
 have hl:=(aK.1 h.l).1;have hd:=(aK.1 h.d).1;have sf:∀b,b<gk.w.heap.size->¬gk.S b->¬(gk.S b\/G2.S b):=λb hb hs q=>by
  rcases hp.fresh b q with q|q
  .exact hs q
  .omega
 refine⟨rfl,λb hb=> .inr hb,h.ci.pstep hp ?_,(hp.block L hl).trans h.l,(hp.block D hd).trans h.d,⟨sf L hl h.fl.s,h.fl.o⟩,⟨sf D hd h.fd.s,h.fd.o⟩⟩;intro b hb;rcases hb with hb|hb
 .have:=h.ci.ok b hb;exact bT this hp.size
 .exact ho b hb
theorem qF.free{H H':Hp}{g g':G}{b:Nat}(h:qF H g H' g')(hf:MU H g b)(hb:b<g.w.heap.size){o:Obj}(ho:g.w.heap[b]? =some o):MU H' g' b/\g'.w.heap[b]? =some o:=by
 have e:=(h.block b hb hf.o).trans ho;refine⟨⟨λq=> ?_,λl o hl e=> ?_⟩,e⟩
 .rcases h.fresh b q with q|q|⟨l,o,q1,q2⟩
  .exact hf.s q
  .omega
  .exact hf.o l o q1 q2
 .rcases h.live l o hl with⟨l0,o0,q1,q2⟩|q
  .exact hf.o l0 o0 q1 (q2.trans e)
  .omega
theorem Vz(hm:P.follows .mixedOrders=true)(hz:wR E.gl)(hE:vP P E.gl E.pe)(hF:tX P E.gl F.ee){n m k:Nat}{gv:jF}{ps:Array Tmp}{a_s bd:Code}(hoa:codeOk a_s=true)(hia:tR a_s=true)(hob:codeOk bd=true)(hib:tR bd=true)
  {gf:gV} {cap cap':fU} {xs:iU} (hof:vL P gf=true) (hit:Mg P E.gl gf cap' xs) (hxs:∀x∈xs,x.length=ps.size) {fr:fU} {H H':Hp} (hcap:mapO (qJ k ⟨0,.nl⟩) cap=some cap')
  (hg:qG E.gl fr gv=some (.fn (.func gf) [] cap)) {x:X} (hfold:HU P E F m ps.toList a_s bd fr xs H=some (x,H')) {g0 g:G} {H0:Hp} {a:Act} (hc:qT E g0 H0 g a fr H) {ds:iI}
  (Q:gC) (hQ:∀D g',qT E g0 H0 g' a fr H'->g0.w.heap.size<=D->MU H' g' D->g'.w.heap[D]? =some (.deferred (some []))->Q x.exit_ (DS ({target:= .collected D,args:= #[]}::ds) a) g'.w):
  (Code.rangeFunc gv ps a_s bd).wpIn (Fw none) n P Q (DS ds a) g.w:=by
 have hv:=(EB.of hc.fr none).eval hc.gl (λ_ _ =>by simp) hg;obtain⟨us,hev,hus⟩:∃us:List Value,a.eval gv= .func (.func gf) #[] us.toArray/\RdL g us cap:=by
  revert hv;generalize a.eval gv=u;intro hv;cases hv with
  |fn f first captured vs us h1 h2 h3 h4=>
   have:vs=[]:=by simpa using h1
   subst this;exact⟨us,rfl,h3,h4⟩
 refine wpIn_rangeFunc λfn hfn=> ?_
 let D:=g.w.heap.size
 let L:=g.w.heap.size+1
 obtain⟨rec,hrec⟩:∃rec:LoopState->Option Code->Loop,rec=λst pe=>{state:=st,pending:=pe,fn,tmps:=a.tmps,params:=ps,assign:=a_s,body:=bd,defers:=D}:=⟨_,rfl⟩;obtain⟨W1,hW1⟩:∃W1,(g.w.alloc (.deferred (some []))).alloc (.loop (rec .ready none))=W1:=⟨_,rfl⟩;have hL1:W1.heap[L]? =some (.loop (rec .ready none)):=by
  rw[<-hW1];have:=World.alloc_heap_new (g.w.alloc (.deferred (some []))) (.loop (rec .ready none));rwa [World.size_alloc]at this
 have hD1:W1.heap[D]? =some (.deferred (some [])):=by
  rw[<-hW1];exact(Below.heap_alloc _ _ _ (by simp[D])).trans (World.alloc_heap_new g.w _)
 have hb1:Below g.w.heap.size g.w W1:=by
  rw[<-hW1];exact(((Below.refl _ g.w).alloc (aZ _) _).alloc (by simp) _)
 have HF:PStep g {g with w:=W1}:=⟨hb1.os,hb1.tape,hb1.output,hb1.size,hb1.block,λ_ h=>h,λ_ h=> .inl h,rfl,rfl,rfl⟩;have hok1:rZ {g with w:=W1}:=λb hb=>bT (hc.ok b hb) hb1.size;have hc1:qT E g0 H0 {g with w:=W1} a fr H:=hc.pstep HF hok1;have hg0:g0.w.heap.size<=g.w.heap.size:=hc.step.size;refine⟨L,[{target:= .collected D,args:= #[]}],W1,{target:= .fn (.func gf) us.toArray,args:= #[.func (.yield L) #[] #[]]},W1,gf, #[.func (.yield L) #[] #[]]++us.toArray,W1,?_,?_,?_,?_,λh=>(by cases h),?_⟩
 .rw[<-hW1,hrec];exact run_enterLoop_outer _ _ _ _ _
 .have hev':(DS ds a).eval gv= .func (.func gf) #[] us.toArray:=hev;simp only[resolve,rangeCall,hev'];simp[go_sem]
 .intro _ _;trivial
 .have:=FA (g:={g with w:=W1}) hof (#[.func (.yield L) #[] #[]]++us.toArray);simp[invoke,go_sem]at this⊢;exact this
 .have hbare:St {g with w:=W1} ⟨H.next,.nl⟩:=hc1.st.bare
  let G0:G:={w:=W1,S:=g.S,al:=λ_ =>False,loc:=g.loc,cp:=g.cp}
  have hus':RdL G0 us cap':=by
   have:=JW (g0:=G0) hbare (KG hcap) (hus.pstep HF);rw[AQ]at this;exact this
  have hgl0:GlOk E.gl G0:=by
   have:=GlOk.frz (g0:=G0) hz hbare hc1.gl;rw[AQ]at this;exact this
  have ea:{DS ds a with defers:=[{target:= .collected D,args:= #[]}]++(DS ds a).defers}=DS ({target:= .collected D,args:= #[]}::ds) a:=by simp[DS,hc.df]
  have hDL:D≠L:=by show g.w.heap.size≠g.w.heap.size+1;omega
  have hLg:g0.w.heap.size<=L:=by show g0.w.heap.size<=g.w.heap.size+1;omega
  have low:∀b,b<g0.w.heap.size->b≠L:=λb hb e=>by omega
  refine uY.2 ((uY.1 (hit G0 us hok1 (λ_ q=>q) hgl0 hus' L
   (λpre G1=>∃gk Hk rest,xs=pre++rest/\HU P E F m ps.toList a_s bd fr rest Hk=some (x,H')/\RJ E g0 H0 a fr L D (rec .ready none) G1 gk Hk)
   (λ_ G1=>∃gk c,x.jump=some c/\RJ E g0 H0 a fr L D (rec .done (some c)) G1 gk H')
   ⟨λpre G1 G2 ⟨gk,Hk,rest,h1,h2,h3⟩ hp ho=>⟨_,Hk,rest,h1,h2,h3.step hp ho⟩,λpre G1 G2 ⟨gk,c,h1,h3⟩ hp ho=>⟨_,c,h1,h3.step hp ho⟩,?_⟩ ?_)).mono ?_)
  .intro pre y args G1 hpre hok hno1 hgl hra ⟨gk,Hk,rest,hx,hf,hr⟩;obtain⟨t,ht⟩:=hpre;have hrest:rest=y::t:=by
    rw[hx,dS]at ht;exact(List.append_cancel_left ht).symm
   subst hrest;have hsz:args.toArray.size=(rec .ready none).params.size:=by
    rw[hrec];show args.toArray.size=ps.size;rw[<-hxs y (by rw[hx];simp)];simpa using hra.1
   have hl:G1.w.heap[L]? =some (.loop (rec .ready none)):=by rw[<-hr.w];exact hr.l
   have hy:=run_yield (P:=P) (args:=args.toArray) hl hsz;rw[hrec]at hy;refine⟨_,_,_,_,hy,roundIn_of_wpIn (F:=Fw none) hfn ?_⟩;clear hy;rw[Tc];have hra':RdL gk args y:=hra.keepS hr.sub (λb _ =>by rw[hr.w]) (λl hl=>absurd hl (hno1 l));have hc2:qT E gk Hk gk {tmps:=(ps.toList.zip args).foldl (λt p=>t.setIfInBounds p.1 p.2) a.tmps,defers:=[]} (FF ps.toList y fr) Hk:=
    ⟨hr.ci.ok,hr.ci.st,hr.ci.gl,rfl,Rl _ _ _ _ _ hra' hr.ci.fr,qF.refl Hk gk⟩
   unfold HU ZK at hf;have hwG:G1.w=gk.w:=hr.w.symm;rw[hwG];cases he1:pU P E F m a_s (FF ps.toList y fr) Hk with
   |none=>rw[he1]at hf;cases hf
   |some r1=>
    obtain⟨x1,fr1,H1⟩:=r1;rw[he1]at hf;cases x1 with
    |exit _ =>cases hf|ret=>cases hf
    |normal=>
     simp only at hf;cases he2:pU P E F m bd fr1 H1 with
     |none=>rw[he2]at hf;cases hf
     |some r2=>
      obtain⟨q,fr2,H2⟩:=r2;rw[he2]at hf;simp only at hf;have key:=NP (ds:=[]) (ro:=some L) (n:=0) hm hE hF m a_s _ Hk .normal fr1 H1 hoa hia he1 gk gk Hk _ hc2 (λe a' w'=>e= .normal/\∃g',g'.w=w'/\qT E gk Hk g' a' fr1 H1)
       (λa w h=>by cases h.1) (λa' g' hc'=>⟨rfl,g',rfl,by rw[yW];exact hc'⟩)
      rw[yW]at key;refine wpIn_mono key ?_;rintro e a' w' ⟨rfl,g1',rfl,hc3⟩;have hfree:MU Hk gk L:=hr.fl;have hfreeD:MU Hk gk D:=hr.fd;obtain⟨hf1,hl1⟩:=hc3.step.free hfree (aK.1 hr.l).1 hr.l;obtain⟨hfD1,hd1⟩:=hc3.step.free hfreeD (aK.1 hr.d).1 hr.d;refine⟨_,run_beginRound hl1 (by rw[hrec]),?_⟩;obtain⟨g2,hg2⟩:∃g2:G,g2={g1' with w:=g1'.w.putObj L (.loop {rec .ready none with state:= .busy})}:=⟨_,rfl⟩;have k2:EK H1 g1' g2:=by rw[hg2];exact JD hf1 _
      have hok2:rZ g2:=λb hb=>bT (hc3.ok b (by rw[hg2]at hb;exact hb)) k2.size;have hc4:qT E g2 H1 g2 a' fr1 H1:=⟨hok2,k2.st hc3.st,k2.gl hc3.gl,hc3.df,k2.rdl hc3.fr,qF.refl H1 g2⟩;have hs2:qF H0 g0 H1 g2:=k2.sstep (hr.ci.step.trans hc3.step) (λb hb=>by rw[hg2];exact World.putObj_heap_other (low b hb));have hl2:g2.w.heap[L]? =some (.loop {rec .ready none with state:= .busy}):=by rw[hg2];exact World.putObj_heap_same (aK.1 hl1).1
      have hd2:g2.w.heap[D]? =some (.deferred (some [])):=by rw[hg2];exact(World.putObj_heap_other hDL).trans hd1
      have hf2:MU H1 g2 L:=by rw[hg2];exact⟨hf1.s,hf1.o⟩
      have hfD2:MU H1 g2 D:=by rw[hg2];exact⟨hfD1.s,hfD1.o⟩
      have hw2:g1'.w.putObj L (.loop {rec .ready none with state:= .busy})=g2.w:=by rw[hg2]
      rw[hw2];have key2:=NP (ds:=[]) (ro:=some L) (n:=0) hm hE hF m bd _ H1 q fr2 H2 hob hib he2 g2 g2 H1 _ hc4 (λe a' w'=>e=q.exit_ /\∃g',g'.w=w'/\qT E g2 H1 g' a' fr2 H2)
       (λa w h=>by cases q<;>cases h.1) (λa' g' hc'=>⟨rfl,g',rfl,by rw[yW];exact hc'⟩)
      rw[yW]at key2;refine wpIn_mono key2 ?_;rintro e a3 w3 ⟨rfl,g3,rfl,hc5⟩;obtain⟨hf3,hl3⟩:=hc5.step.free hf2 (aK.1 hl2).1 hl2;obtain⟨hfD3,hd3⟩:=hc5.step.free hfD2 (aK.1 hd2).1 hd2;have hlt3:=(aK.1 hl3).1;have hkeep:∀b,gk.S b->g3.S b/\g3.w.heap[b]? =gk.w.heap[b]? :=λb hb=>by
       have n0:∀l o,Hk.any l=some o->gk.loc l≠b:=λl o ho e=>(hr.ci.st.at_ ho).2.1 (e▸hb);have b1:=hc3.step.sub b hb;have n1:∀l o,H1.any l=some o->g2.loc l≠b:=λl o ho e=>(hc4.st.at_ ho).2.1 (e▸k2.sub b b1);have l0:=hr.ci.ok b hb;refine⟨hc5.step.sub b (k2.sub b b1),(hc5.step.block b (hok2 b (k2.sub b b1)) n1).trans ((k2.keepS b b1).trans (hc3.step.block b l0 n0))⟩
      have hal:∀l,gk.al l->g3.al l/\g3.loc l=gk.loc l/\g3.cp l=gk.cp l:=λl hl=>by
       have a1:=hc3.step.al l hl;have a2:=(k2.ga l a1).1;exact⟨hc5.step.al l a2,(hc5.step.loc l a2).trans ((k2.ga l a1).2.1.trans (hc3.step.loc l hl)),(hc5.step.cp l a2).trans ((k2.ga l a1).2.2.trans (hc3.step.cp l hl))⟩
      have fin:∀(lp:Loop),RJ E g0 H0 a fr L D lp {G1 with w:=g3.w.putObj L (.loop lp)} {g3 with w:=g3.w.putObj L (.loop lp)} H2:=λlp=>by
       have k3:=JD hf3 (.loop lp)
       refine⟨rfl,λb hb=>(hkeep b (hr.sub b hb)).1,⟨λb hb=>bT (hc5.ok b hb) k3.size,k3.st hc5.st,k3.gl hc5.gl,hc.df,?_,k3.sstep (hs2.trans hc5.step) (λb hb=>World.putObj_heap_other (low b hb))⟩,
        World.putObj_heap_same hlt3,(World.putObj_heap_other hDL).trans hd3,⟨hf3.s,hf3.o⟩,⟨hfD3.s,hfD3.o⟩⟩
       exact k3.rdl (hr.ci.fr.keepS (λb hb=>(hkeep b hb).1) (λb hb=>(hkeep b hb).2) hal)
      have hsize:∀o,gk.w.heap.size<=(g3.w.putObj L o).heap.size:=λo=>by
       have:=hc3.step.size;have:=k2.size;have:=hc5.step.size;simp[World.putObj];omega
      have hk3:∀o b,G1.S b->(g3.w.putObj L o).heap[b]? =gk.w.heap[b]? :=λo b hb=>by
       have hbk:=hr.sub b hb;exact(World.putObj_heap_other (λe=>hr.fl.s (by rw[<-e];exact hbk))).trans (hkeep b hbk).2
      cases q with
      |normal=>
       have hfin:=fin (rec .ready none);have hx2:xs=pre++[y]++t:=by rw[hx];simp
       refine⟨_,_,run_endRound none hl3,hsize _,hk3 _,.inl ⟨rfl,{g3 with w:=g3.w.putObj L (.loop (rec .ready none))},H2,t,hx2,hf,?_⟩⟩;rw[hrec]at hfin⊢;exact hfin
      |exit id=>
       simp only[aC,aU]at hf;obtain⟨rfl,rfl⟩:=hf;have this:=fin (rec .done (some (.exit id)));refine⟨_,_,run_endRound (some (.exit id)) hl3,hsize _,hk3 _,.inr ⟨rfl,{g3 with w:=g3.w.putObj L (.loop (rec .done (some (.exit id))))},(.exit id),rfl,?_⟩⟩;rw[hrec]at this⊢;exact this
      |ret=>
       simp only[aC,aU]at hf;obtain⟨rfl,rfl⟩:=hf;have this:=fin (rec .done (some .ret));refine⟨_,_,run_endRound (some .ret) hl3,hsize _,hk3 _,.inr ⟨rfl,{g3 with w:=g3.w.putObj L (.loop (rec .done (some .ret)))},.ret,rfl,?_⟩⟩;rw[hrec]at this⊢;exact this
  .exact⟨{g with w:=W1},H,xs,rfl,hfold,rfl,λ_ h=>h,hc1,hL1,hD1,⟨λq=>(by have:=hc.ok _ q;omega),λl o ho=>(by have:=hc.st.lt ho;show g.loc l≠_;omega)⟩,⟨λq=>(by have:=hc.ok _ q;omega),λl o ho=>(by have:=hc.st.lt ho;show g.loc l≠_;omega)⟩⟩
  .rintro e W2 ⟨⟨v,rfl⟩,(⟨g',rfl,gk,Hk,rest,hx,hf,hr⟩|⟨pre,g',rfl,gk,c,hj,hr⟩)⟩
   .have hrest:rest=[]:=by
     have:=congrArg List.length hx;simp at this;exact this
    subst hrest;simp only[HU,aC,aU]at hf;obtain⟨rfl,rfl⟩:=hf;have hl:g'.w.heap[L]? =some (.loop (rec .ready none)):=by rw[<-hr.w];exact hr.l
    have hfree:MU Hk gk L:=hr.fl;have k3:=JD hfree (.loop {rec .ready none with state:= .exhausted});refine⟨none,_,by have:=run_endLoop (P:=P) hl (by rw[hrec];simp);rw[hrec]at this;exact this,?_⟩;show Q .normal _ _;rw[ea];have:=hQ D _ (hr.ci.kstep k3 (λb hb=>bT (hr.ci.ok b hb) k3.size) (λb hb=>World.putObj_heap_other (low b hb))) hg0 ⟨hr.fd.s,hr.fd.o⟩ ((World.putObj_heap_other hDL).trans hr.d);rw[hrec]at this;rw[<-hr.w];exact this
   .have hl:g'.w.heap[L]? =some (.loop (rec .done (some c))):=by rw[<-hr.w];exact hr.l
    have hfree:MU H' gk L:=hr.fl;have k3:=JD hfree (.loop {rec .done (some c)with state:= .exhausted});have hq:=hQ D _ (hr.ci.kstep k3 (λb hb=>bT (hr.ci.ok b hb) k3.size) (λb hb=>World.putObj_heap_other (low b hb))) hg0 ⟨hr.fd.s,hr.fd.o⟩ ((World.putObj_heap_other hDL).trans hr.d);refine⟨some c,_,by have:=run_endLoop (P:=P) hl (by rw[hrec];simp);rw[hrec]at this;exact this,?_⟩;show c.wpIn _ _ _ _ _ _;rw[ea,<-hr.w];rw[hrec]at hq;cases x with
    |normal=>cases hj|exit id=>cases hj;exact wpIn_exit hq|ret=>cases hj;exact wpIn_ret hq
end
open Go.RowKit
abbrev iJ:=FuncId->List T->Option (List (List T))
def xW(P:fV)(E:tY)(F:Fc)(It:iJ)(n k:Nat):Code->List T->Hp->Option (X×List T×Hp)
 | .seq a b,fr,H=>match xW P E F It n k a fr H with
  |some (.normal,fr',H')=>xW P E F It n k b fr' H'|r=>r
 | .cond c a b,fr,H=>match qG E.gl fr c with
  |some (.bool t)=>if t then xW P E F It n k a fr H else xW P E F It n k b fr H
  |_ =>none
 | .block id c,fr,H=>match xW P E F It n k c fr H with
  |some (.exit id',fr',H')=>if id'=id then some (.normal,fr',H')else some (.exit id',fr',H')
  |r=>r
 | .rangeFunc gv ps a_s bd,fr,H=>match qG E.gl fr gv with
  |some (.fn (.func gf) [] cap)=>match mapO (qJ k ⟨0,.nl⟩) cap with
   |some cap'=>match It gf cap' with
    | some xs=>if xs.all λx=>Nat.beq x.length ps.size then match HU P E F n ps.toList a_s bd fr xs H with
      |some (x,H')=>some (x,fr,H')|none=>none
     else none
    |none=>none
   |none=>none
  |_ =>none
 |c,fr,H=>pU P E F n c fr H
def GY:Code->Bool
 | .seq a b| .cond _ a b=>GY a&&GY b| .block _ c=>GY c| .rangeFunc _ _ a_s bd=>(codeOk a_s&&tR a_s)&&(codeOk bd&&tR bd)|c=>codeOk c&&tR c
structure Mk(g0 g:G)(H:Hp)(ds:iI):Prop where
 at_ :∀d∈ds,∃D,d={target:= .collected D,args:= #[]}/\g0.w.heap.size<=D/\MU H g D/\g.w.heap[D]? =some (.deferred (some []))
 nd:ds.Nodup
def aNk(P:fV)(gl:fY)(It:iJ):Prop:=∀f cap xs,It f cap=some xs->vL P f=true/\Mg P gl f cap xs
section
variable{P:fV}{E:tY}{F:Fc}{It:iJ}
theorem Mk.sstep{g0 g g':G}{H H':Hp}{ds:iI}(h:Mk g0 g H ds)(hs:qF H g H' g'):Mk g0 g' H' ds:=by
 refine⟨λd hd=> ?_,h.nd⟩;obtain⟨D,e,q1,q2,q3⟩:=h.at_ d hd;obtain⟨hf,q⟩:=hs.free q2 (aK.1 q3).1 q3;exact⟨D,e,q1,hf,q⟩
theorem qT.based{g0 g g':G}{H0 H H':Hp}{a a':Act}{fr fr':fU}(h:qT E g0 H0 g a fr H)(k:qT E g H g' a' fr' H'):qT E g0 H0 g' a' fr' H':=
 ⟨k.ok,k.st,k.gl,k.df,k.fr,h.step.trans k.step⟩
theorem qT.self{g0 g:G}{H0 H:Hp}{a:Act}{fr:fU}(h:qT E g0 H0 g a fr H):qT E g H g a fr H:=
 ⟨h.ok,h.st,h.gl,h.df,h.fr,qF.refl H g⟩
theorem XC(hm:P.follows .mixedOrders=true)(hz:wR E.gl)(hE:vP P E.gl E.pe)(hF:tX P E.gl F.ee)(hI:aNk P E.gl It){n m k:Nat}:∀(c:Code) (fr:fU) (H:Hp) (x:X) (fr':fU) (H':Hp),GY c=true->xW P E F It m k c fr H=some (x,fr',H')->
  ∀(g0 g:G) (H0:Hp) (a:Act) (ds:iI),qT E g0 H0 g a fr H->Mk g0 g H ds->∀(Q:gC),(∀a w,¬Q .outgrown a w)->
   (∀a' g' ds',qT E g0 H0 g' a' fr' H'->Mk g0 g' H' ds'->Q x.exit_ (DS ds' a') g'.w)->c.wpIn (Fw none) n P Q (DS ds a) g.w:=by
 intro c;have plain:∀(c:Code) (fr:fU) (H:Hp) (x:X) (fr':fU) (H':Hp),(codeOk c&&tR c)=true->pU P E F m c fr H=some (x,fr',H')->
  ∀(g0 g:G) (H0:Hp) (a:Act) (ds:iI),qT E g0 H0 g a fr H->Mk g0 g H ds->∀(Q:gC),(∀a w,¬Q .outgrown a w)->
   (∀a' g' ds',qT E g0 H0 g' a' fr' H'->Mk g0 g' H' ds'->Q x.exit_ (DS ds' a') g'.w)->c.wpIn (Fw none) n P Q (DS ds a) g.w:=by
  intro c fr H x fr' H' hok he g0 g H0 a ds hc hd Q hno hQ;simp only[aA]at hok;exact NP hm hE hF m c fr H x fr' H' hok.1 hok.2 he g g H a hc.self Q hno (λa' g' hc'=>hQ a' g' ds (hc.based hc') (hd.sstep hc'.step))
 induction c with
 |seq c1 c2 ih1 ih2=>
  intro fr H x fr' H' hok he g0 g H0 a ds hc hd Q hno hQ;simp only[GY,aA]at hok;simp only[xW]at he;refine wpIn_seq ?_;split at he
  .rename_i f1 h1 hr;exact ih1 _ _ _ _ _ hok.1 hr g0 g H0 a ds hc hd _ (uV hno) (λa' g' ds' hc' hd'=>ih2 _ _ _ _ _ hok.2 he g0 g' H0 a' ds' hc' hd' Q hno hQ)
  .rename_i hr;refine ih1 _ _ _ _ _ hok.1 he g0 g H0 a ds hc hd _ (uV hno) (λa' g' ds' hc' hd'=> ?_);cases x with
   |normal=>exact absurd he (hr _ _)|exit id=>exact hQ a' g' ds' hc' hd'|ret=>exact hQ a' g' ds' hc' hd'
 |cond o c1 c2 ih1 ih2=>
  intro fr H x fr' H' hok he g0 g H0 a ds hc hd Q hno hQ;simp only[GY,aA]at hok;simp only[xW]at he;split at he
  .rename_i b hb;have hr:=(EB.of hc.fr none).eval hc.gl (λ_ _ =>by simp) hb;refine wpIn_cond (t:=b) (show(DS ds a).eval o= .bool b from hr.inv_bool) ?_;cases b with
   |true=>exact ih1 _ _ _ _ _ hok.1 (by simpa using he) g0 g H0 a ds hc hd Q hno hQ|false=>exact ih2 _ _ _ _ _ hok.2 (by simpa using he) g0 g H0 a ds hc hd Q hno hQ
  .cases he
 |block id c ih=>
  intro fr H x fr' H' hok he g0 g H0 a ds hc hd Q hno hQ;simp only[GY]at hok;simp only[xW]at he;refine wpIn_block ?_;have hnb:∀a w,¬Exit.inBlock id Q .outgrown a w:=λa w h=>hno a w h;split at he
  .rename_i id' f1 h1 hr;refine ih _ _ _ _ _ hok hr g0 g H0 a ds hc hd _ hnb (λa' g' ds' hc' hd'=> ?_);simp only[X.exit_,Exit.inBlock];split at he
   .rename_i e;cases he;rw[if_pos e];exact hQ a' g' ds' hc' hd'
   .rename_i e;cases he;rw[if_neg e];exact hQ a' g' ds' hc' hd'
  .rename_i hr;refine ih _ _ _ _ _ hok he g0 g H0 a ds hc hd _ hnb (λa' g' ds' hc' hd'=> ?_);cases x with
   |normal=>exact hQ a' g' ds' hc' hd'|exit id'=>exact absurd he (hr _ _ _)|ret=>exact hQ a' g' ds' hc' hd'
 |rangeFunc gv ps a_s bd _ _ =>
  intro fr H x fr' H' hok he g0 g H0 a ds hc hd Q hno hQ;simp only[GY,aA]at hok;simp only[xW]at he;split at he
  .rename_i gf cap hg;split at he
   .rename_i cap' hcap;split at he
    .rename_i xs hxs;split at he
     .rename_i hall;split at he
      .rename_i x1 H1 hfold;cases he;obtain⟨h1,h2⟩:=hI gf cap' xs hxs;refine Vz hm hz hE hF hok.1.1 hok.1.2 hok.2.1 hok.2.2 h1 h2 (λy hy=> ?_) hcap hg hfold hc.self Q (λD g' hc' q1 q2 q3=> ?_)
       .rw[aH]at hall;exact aF (hall y hy)
       .refine hQ a g' _ (hc.based hc') ⟨λd hdm=> ?_,?_⟩
        .rcases aR.1 hdm with rfl|hdm
         .exact⟨D,rfl,fB hc.step.size q1,q2,q3⟩
         .exact(hd.sstep hc'.step).at_ d hdm
        .refine eK.2 ⟨λhdm=> ?_,hd.nd⟩;obtain⟨D',e,_,_,q⟩:=hd.at_ _ hdm;cases e;have:=(aK.1 q).1;omega
      .cases he
     .cases he
    .cases he
   .cases he
  .cases he
 |_ =>
  intro fr H x fr' H' hok he;simp only[GY]at hok;simp only[xW]at he;exact plain _ _ _ _ _ _ hok he
def UN(P:fV)(E:tY)(F:Fc)(It:iJ)(n k:Nat)(f:gV)(args:fU)(H:Hp):Option (T×Hp):=
 match P.funcs[f]? with
 |some fn=>match fn.body with
  |some c=>match xW P E F It n k c (args++List.replicate (fn.ntmps-args.length) pV) H with
   |some (.normal,fr,H')|some (.ret,fr,H')=>match sS P fr H' fn.results.toList with
    |some [t]=>some (t,H')|some ts=>some (.tup ts,H')|none=>none
   |_ =>none
  |none=>none
 |none=>none
def Yv(P:fV)(f:gV):Bool:=
 match P.funcs[f]? with
 |some fn=>match fn.body with
  |some c=>GY c|none=>false
 |none=>false
theorem BX{fn:Func}{n:Nat}{R:jW}{g0:G}{H0 H:Hp}{a:Act}{fr:fU}(hR:∀g',qT E g0 H0 g' a fr H->LeavesIn (Fw none) n P fn a.tmps R [] .returning g'.w):
  ∀(ds:iI) (g:G),qT E g0 H0 g a fr H->Mk g0 g H ds->LeavesInM (Fw none) n P fn a.tmps R ds .returning g.w
 |[],g,hc,_ =>hR g hc
 |d::ds,g,hc,hd=>by
  obtain⟨D,rfl,q1,q2,q3⟩:=hd.at_ d (by simp);have hfree:MU H g D:=q2;have k:=JD hfree (.deferred none);refine⟨by simp,.inl ⟨D,_,rfl,run_takeDeferred q3,?_⟩⟩;refine BX hR ds {g with w:=g.w.putObj D (.deferred none)} (hc.kstep k (λb hb=>bT (hc.ok b hb) k.size) (λb hb=>World.putObj_heap_other (by omega))) ⟨λd' hd'=> ?_,(eK.1 hd.nd).2⟩;obtain⟨D',rfl,r1,r2,r3⟩:=hd.at_ d' (by simp[hd']);have hne:D'≠D:=λe=>(eK.1 hd.nd).1 (by rw[e]at hd';exact hd');exact⟨D',rfl,r1,⟨r2.s,r2.o⟩,(World.putObj_heap_other hne).trans r3⟩
theorem aWr(hm:P.follows .mixedOrders=true)(hz:wR E.gl)(hE:vP P E.gl E.pe)(hF:tX P E.gl F.ee)(hI:aNk P E.gl It){n k:Nat}{f:gV}(hok:Yv P f=true){ts:fU}{H H':Hp}{r:T}(he:UN P E F It n k f ts H=some (r,H'))
  (g:G) (vs:gM) (hg:rZ g) (hs:St g H) (hgl:GlOk E.gl g) (hv:RdL g vs ts):
  Calls P f vs.toArray g.w λe w'=>∃v g',e= .returned v/\g'.w=w'/\qF H g H' g'/\rZ g'/\St g' H'/\Rd g' v r:=by
 unfold UN at he;unfold Yv at hok;split at he
 .rename_i fn hfn;rw[hfn]at hok;simp only at hok;split at he
  .rename_i c hc;rw[hc]at hok;simp only at hok;have hframe:RdL g (vs.toArray++Array.replicate (fn.ntmps-vs.toArray.size) undef).toList (ts++List.replicate (fn.ntmps-ts.length) pV):=by
    have:(vs.toArray++Array.replicate (fn.ntmps-vs.toArray.size) undef).toList=vs++List.replicate (fn.ntmps-ts.length) undef:=by simp[hv.1]
    rw[this];exact hv.append (RdL.replicate _ Rd.undef)
   have hinv:qT E g H g {tmps:=vs.toArray++Array.replicate (fn.ntmps-vs.toArray.size) undef,defers:=[]} (ts++List.replicate (fn.ntmps-ts.length) pV) H:=⟨hg,hs,hgl,rfl,hframe,qF.refl H g⟩
   have fin:∀(fr:fU) (H1:Hp),(match sS P fr H1 fn.results.toList with
     |some [t]=>some (t,H1)|some ts=>some (.tup ts,H1)|none=>none)=some (r,H')->∀(a':Act) (g':G),qT E g H g' a' fr H1->LeavesIn (Fw none) 0 P fn a'.tmps (λe w'=>∃v g',e= .returned v/\g'.w=w'/\qF H g H' g'/\rZ g'/\St g' H'/\Rd g' v r) [] .returning g'.w:=by
    intro fr H1 hr a' g' hci;have hH:H1=H':=by
     split at hr
     .cases hr;rfl
     .cases hr;rfl
     .cases hr
    subst hH;show∃v,_;split at hr
    .rename_i t ht;cases hr;obtain⟨us,h1,h2⟩:=uJ (P:=P) hci.st hci.fr ht
     match us,h2 with
     |[u],h2=>
      refine⟨u,?_,u,g',rfl,rfl,hci.step,hci.ok,hci.st,(h2.inv_cons).1⟩;have:fn.results=fn.results.toList.toArray:=by simp
      rw[uE,this,dM];simp only[aP,eY];rw[h1];simp
     |[],h2=>simp[RdL]at h2|_ ::_ ::_,h2=>simp[RdL]at h2
    .rename_i ts' hne ht;cases hr;obtain⟨us,h1,h2⟩:=uJ (P:=P) hci.st hci.fr ht;refine⟨.tuple us.toArray,?_,_,g',rfl,rfl,hci.step,hci.ok,hci.st,Rd.mk_tup h2⟩;have:fn.results=fn.results.toList.toArray:=by simp
     rw[uE,this,dM];simp only[aP,eY];rw[h1];have hl:us.length≠1:=λq=>by
      rw[h2.1]at q;obtain⟨t,rfl⟩:=fC.1 q;exact hne t rfl
     simp[hl]
    .cases hr
   have fin2:∀(fr:fU) (H1:Hp),(match sS P fr H1 fn.results.toList with
     |some [t]=>some (t,H1)|some ts=>some (.tup ts,H1)|none=>none)=some (r,H')->∀(a':Act) (g':G) (ds:iI),qT E g H g' a' fr H1->Mk g g' H1 ds->LeavesInM (Fw none) 0 P fn (DS ds a').tmps (λe w'=>∃v g',e= .returned v/\g'.w=w'/\qF H g H' g'/\rZ g'/\St g' H'/\Rd g' v r) (DS ds a').defers .returning g'.w:=by
    intro fr H1 hr a' g' ds hci hd;have e:(DS ds a').defers=ds:=by simp[DS,hci.df]
    rw[e];exact BX (λg2 h2=>fin fr H1 hr a' g2 h2) ds g' hci hd
   refine uY.1 (callsIn_of_wp_marks (F:=Fw none) (n:=0) hfn hc trivial ?_ rfl);have e0:(DS [] {tmps:=vs.toArray++Array.replicate (fn.ntmps-vs.toArray.size) undef,defers:=[]})={tmps:=vs.toArray++Array.replicate (fn.ntmps-vs.toArray.size) undef,defers:=[]}:=yW _;have hmk:Mk g g H []:=⟨λd hd=>by simp at hd,List.nodup_nil⟩;split at he
   .rename_i fr H1 hev;have:=XC (n:=0) hm hz hE hF hI c _ _ _ _ _ hok hev g g H _ [] hinv hmk (λe a w=>e≠ .outgrown/\bodyPostM (Fw none) 0 P fn (λe w'=>∃(v:gQ) (g':G),e= .returned v/\g'.w=w'/\qF H g H' g'/\rZ g'/\St g' H'/\Rd g' v r) e a w)
     (λa w h=>h.1 rfl) (λa' g' ds hci hd=>⟨by simp[X.exit_],fin2 fr H1 he a' g' ds hci hd⟩)
    rw[e0]at this;exact wpIn_mono this (λe a w h=>h.2)
   .rename_i fr H1 hev;have:=XC (n:=0) hm hz hE hF hI c _ _ _ _ _ hok hev g g H _ [] hinv hmk (λe a w=>e≠ .outgrown/\bodyPostM (Fw none) 0 P fn (λe w'=>∃(v:gQ) (g':G),e= .returned v/\g'.w=w'/\qF H g H' g'/\rZ g'/\St g' H'/\Rd g' v r) e a w)
     (λa w h=>h.1 rfl) (λa' g' ds hci hd=>⟨by simp[X.exit_],fin2 fr H1 he a' g' ds hci hd⟩)
    rw[e0]at this;exact wpIn_mono this (λe a w h=>h.2)
   .cases he
  .cases he
 .cases he
end
def Tk(P:fV)(gl:fY)(yd:gF):Prop:=
 ∀l ts H b H',yd l ts H=some (b,H')->∀(g:G) (vs:gM),rZ g->St g H->GlOk gl g->RdL g vs ts->
  YieldAt (Fw none) 0 P (g.loc l) vs.toArray g.w λe w'=>∃g',e= .returned (.bool b)/\g'.w=w'/\qF H g H' g'/\rZ g'/\St g' H'
theorem Wd{ro:iB}{n:Nat}{P:fV}{l:Nat}{f:gV}{tmps:gX}{a_s bd:Code}{w:iK}{R:jW}(h:RoundIn (Fw none) 0 P l f tmps a_s bd w R):RoundIn (Fw ro) n P l f tmps a_s bd w R:=
 ⟨h.1,λc cs _ =>h.2 c cs (λ_ h=>by cases h)⟩
section
variable{P:fV}{gl:fY}{ee:gB}{yd:gF}{n:Nat}
end
open Go.RowKit
section
variable{P:fV}{gl:fY}{ee:gB}{yd:gF}{n:Nat}
theorem aNa(hY:Tk P gl yd){ops:fZ}(hp:uD ops=true){i:Nat}{o:Oper}(hi:ops[i]? =some o){fr:fU}{H H':Hp}{l:Nat}{ars:fU}{b:Bool}(hq:AL gl fr o=some (l,ars))(hy:yd l ars H=some (b,H'))
  (hw:qH ops fr o=true) {g0 g:G} {H0:Hp} {a:Act} (hc:qT (Xb gl) g0 H0 g a fr H) {ro:iB} {m:Nat} {ds:iI} {K:iP} {Q:gC}
  (hK:∀g',qT (Xb gl) g0 H0 g' (a.put o.dst (.bool b)) (qU fr o.dst (.bool b)) H'->qF H g H' g'->K (DS ds (a.put o.dst (.bool b))) g'.w):wpOpIn (Fw ro) m P ops Q i K (DS ds a) g.w:=by
 have hx:=EB.of hc.fr none;have hwd:Region.wanted o (yielded ops (DS ds a).tmps)=true:=by
  rw[Hh,SQ hx (λd _ =>by simp)];exact hw
 unfold wpOpIn;rw[hi];simp only[hwd,if_true];refine⟨λ_ _ =>trivial,?_⟩;have ep:o.semAt (Fw ro).round (DS ds a).eval=execOp a.eval o:=Oper.semAt_eq _ _ _ (JA hp hi);rw[ep];unfold AL at hq;split at hq
 .rename_i c hop;split at hq
  .rename_i f hcal;split at hq
   .rename_i l1 hev;split at hq
    .rename_i ars' hars;simp only[aC,aU]at hq;obtain⟨rfl,rfl⟩:=hq;obtain⟨callee,args,tys⟩:=c;simp only at hcal hars;subst hcal;have hv:a.eval f= .func (.yield (g.loc l1)) #[] #[]:=by
      have:=hx.eval hc.gl (λ_ _ =>by simp) hev;revert this;generalize a.eval f=u;intro this;cases this;rfl
     have h3:=vC (g:=g) (a:=a) hars (λx hx' t ht=>hx.eval hc.gl (λ_ _ =>by simp) ht);obtain⟨fn,tmps,a_s,bd,hy',hR⟩:=hY l1 ars' H b H' hy g (args.toList.map a.eval) hc.ok hc.st hc.gl h3;have hrun:(execOp a.eval o).run P g.w= .ok (.round (g.loc l1) fn tmps a_s bd) g.w:=by
      simp only[execOp,hop,resolve,hv,Deferred.ofValue,aP,aX,aI,invoke,rP];simpa using hy'
     rw[hrun];refine⟨λh=>(by cases h),Wd (hR.mono ?_)⟩;rintro e W' ⟨g',rfl,rfl,hs,hok,hst⟩;have:=hK g' ⟨hok,hst,hc.gl.sstep hc.st hs,by rw[tJ];exact hc.df,((EB.of (hc.fr.sstep hc.st hs) none).put (Rd.bool b)).all,hc.step.trans hs⟩ hs
     rwa [LK]at this
    .cases hq
   .cases hq
  .cases hq
 .cases hq
theorem Qc{fr:fU}(h:fr.length=n):(FT.of fr 0 .nl).view n=fr/\(FT.of fr 0 .nl).Wf n:=by
 obtain⟨h1,h2⟩:=aRi (n:=n) (l:=fr) (by omega);refine⟨?_,h2⟩;rw[h1,h,Nat.sub_self];simp
theorem Dv{g:G}{H:Hp}{l:Nat}{o:Ob}(ho:H.any l=some o)(b':Obj):qF H g (H.drop l) (g.setOb (g.loc l) b'):=by
 refine⟨rfl,rfl,rfl,by simp[G.setOb],λb _ hn=> ?_,λ_ h=>h,λb h=> .inl h,λ_ h=>h,λ_ _ =>rfl,λ_ _ =>rfl,λm q hq=> ?_⟩
 .simp only[G.setOb];rw[bJ (hn l o ho)]
 .rw[sA]at hq;split at hq
  .cases hq
  .exact .inl ⟨m,q,hq,rfl⟩
theorem aOy{g:G}{H:Hp}(hs:St g H){l:Nat}{o:Ob}(ho:H.any l=some o)(b':Obj):St (g.setOb (g.loc l) b') (H.drop l):=by
 have hst:=Dv (g:=g) ho b';have hoth:∀m q,m≠l->H.any m=some q->(g.setOb (g.loc l) b').w.heap[g.loc m]? =g.w.heap[g.loc m]? :=λm q hne hq=>by
  simp only[G.setOb];rw[bJ (λe'=>hne (hs.sep m l q o hq ho e'.symm))]
 have hany:∀m q,(H.drop l).any m=some q->m≠l/\H.any m=some q:=λm q hq=>by
  rw[sA]at hq;split at hq
  .cases hq
  .rename_i e;exact⟨e,hq⟩
 refine⟨λm q hq=> ?_,λm q mo hq hme=> ?_,λm m' q q' h1 h2 e=> ?_,λm hm=>hs.new m hm⟩
 .obtain⟨hqa,hqm⟩:=qP hq;obtain⟨e,hqa⟩:=hany m q hqa;obtain⟨ha,hS,c0,hb,q1,q2,q3,q4⟩:=hs.own m q (yC hqa hqm);exact⟨ha,hS,c0,by rw[show(g.setOb (g.loc l) b').loc m=g.loc m from rfl,hoth m q e hqa];exact hb,q1,q2,q3,q4.sstep hs hst⟩
 .obtain⟨e,hqa⟩:=hany m q hq;obtain⟨ha,hS,ms',hb,q1⟩:=hs.ownM m q mo hqa hme;exact⟨ha,hS,ms',by rw[show(g.setOb (g.loc l) b').loc m=g.loc m from rfl,hoth m q e hqa];exact hb,q1.mono (λ_ _ z=>z.sstep hs hst) (λl hl=>⟨hst.al l hl,hst.loc l hl⟩)⟩
 .exact hs.sep m m' q q' (hany m q h1).2 (hany m' q' h2).2 e
theorem xX{Z:Type}{H:Hp}{l:Nat}{k:Lr->Option Z}{r:Z}(h:RM H l k=some r):∃o rc,H.any l=some o/\o.me=some (.loop rc)/\k rc=some r:=by
 unfold RM at h;obtain⟨o,h1,h⟩:=aAa h;obtain⟨m,h2,h⟩:=aAa h;split at h
 .exact⟨o,_,h1,h2,h⟩
 .cases h
theorem OG{g:G}{H:Hp}(hs:St g H){l:Nat}{o:Ob}{r:Lr}(ho:H.any l=some o)(hm:o.me=some (.loop r)):g.al l/\∃fn tmps D,g.w.heap[g.loc l]? =some (.loop {state:=r.st,pending:=r.pe,fn,tmps,params:=r.ps,assign:=r.asg,body:=r.bd,defers:=D})/\RdL g tmps.toList (r.fr.view r.n)/\r.fr.Wf r.n:=by
 obtain⟨h1,_,b,hb,fn,tmps,D,e,h2,h3⟩:=hs.ownM l o _ ho hm;exact⟨h1,fn,tmps,D,by rw[hb,e],h2,h3⟩
theorem aIf{ro:iB}{g0 g:G}{H0 H:Hp}{a:Act}{fr:fU}{ds:iI}(hc:qT (Xb gl) g0 H0 g a fr H)(hd:Mk g0 g H ds)(hro:∀l,ro=some l->g0.al l)(hok:Qp H ro=true)(fn:gV)(tmps:gX)(ps:Array Tmp)(asg bd:Code):
  ∃(w':iK) (D:Nat) (mark:iI),(Instr.enterLoop fn tmps ps asg bd (ro.map g0.loc)).run P g.w= .ok (w'.heap.size,mark) (w'.alloc (.loop {state:= .ready,pending:=none,fn,tmps,params:=ps,assign:=asg,body:=bd,defers:=D}))/\
   PStep g {g with w:=w'}/\rZ {g with w:=w'}/\Mk g0 {g with w:=w'} H (mark++ds):=by
 cases ro with
 |none=>
  have hb:Below g.w.heap.size g.w (g.w.alloc (.deferred (some []))):=(Below.refl _ g.w).alloc (aZ _) _;have hp:PStep g {g with w:=g.w.alloc (.deferred (some []))}:=⟨hb.os,hb.tape,hb.output,hb.size,hb.block,λ_ h=>h,λ_ h=> .inl h,rfl,rfl,rfl⟩;refine⟨g.w.alloc (.deferred (some [])),g.w.heap.size,[{target:= .collected g.w.heap.size,args:= #[]}],?_,hp,λb hb'=>bT (hc.ok b hb') hp.size,λd hdm=> ?_,?_⟩
  .rw[World.size_alloc];exact run_enterLoop_outer _ _ _ _ _
  .rcases aR.1 hdm with rfl|hdm
   .refine⟨g.w.heap.size,rfl,hc.step.size,⟨λq=> ?_,λl o ho e=> ?_⟩,World.alloc_heap_new g.w _⟩
    .have:=hc.ok _ q;omega
    .have:=hc.st.lt ho;have e':g.loc l=g.w.heap.size:=e;omega
   .exact(hd.sstep hp.toS).at_ d hdm
  .refine eK.2 ⟨λhdm=> ?_,hd.nd⟩;obtain⟨D',e,_,_,q⟩:=hd.at_ _ hdm;cases e;have:=(aK.1 q).1;omega
 |some lo=>
  unfold Qp aQa at hok;simp only at hok;split at hok
  .rename_i o ho;split at hok
   .rename_i r hm;obtain⟨_,fn',tmps',D,hb,_,_⟩:=OG hc.st ho hm;have hl:g0.loc lo=g.loc lo:=(hc.step.loc lo (hro lo rfl)).symm;refine⟨g.w,D,[],?_,PStep.refl g,hc.ok,hd⟩;rw[cH,hl];have:=run_enterLoop_inner (P:=P) hb fn tmps ps asg bd;exact this
   .cases hok
  .cases hok
end
open Go.RowKit
section
variable{P:fV}{gl:fY}{ee:gB}{yd:gF}{n:Nat}
theorem aIe{l:Nat}{tr:FT}{H:Hp}{L:List (X×FT×Hp)}(h:aPc l tr H=some L):∃o rc x,H.any l=some o/\o.me=some (.loop rc)/\rc.st≠ .busy/\L=[(x,tr,H.drop l)]/\
  ((x= .normal/\rc.pe=none)\/(∃id,x= .exit id/\rc.pe=some (.exit id))\/(x= .ret/\rc.pe=some .ret)):=by
 obtain⟨o,rc,h1,h2,h3⟩:=xX h;split at h3
 .cases h3
 .rename_i hb;split at h3
  .rename_i hp;cases h3;exact⟨o,rc,.normal,h1,h2,hb,rfl,.inl ⟨rfl,hp⟩⟩
  .rename_i id hp;cases h3;exact⟨o,rc,.exit id,h1,h2,hb,rfl,.inr (.inl ⟨id,rfl,hp⟩)⟩
  .rename_i hp;cases h3;exact⟨o,rc,.ret,h1,h2,hb,rfl,.inr (.inr ⟨rfl,hp⟩)⟩
  .cases h3
theorem Vy(hF:tX P gl ee){ro:iB}{m:Nat}{g0:G}{H0:Hp}(hro:∀l,ro=some l->g0.al l){gv:jF}{ps:Array Tmp}{asg bd:Code}{ow:hD}{tr:FT}{H H2:Hp}{L:List (X×FT×Hp)}{gf:gV}{cap:fU}{v:T}(hw:tr.Wf n)(he:qG gl (tr.view n) gv=some (.fn (.func gf) [] cap))
  (hrok:Qp H ro=true) (hcall:ee gf (.yl H.next::cap) (H.new (DE ⟨.ready,none,tr,n,ps,asg,bd,ow⟩))=some (v,H2)) (h:aPc H.next tr H2=some L) {g:G} {a:Act} {ds:iI} (hc:qT (Xb gl) g0 H0 g a (tr.view n) H) (hd:Mk g0 g H ds) {Q:gC}
  (hQ:∀p∈L,∀a' g' ds',qT (Xb gl) g0 H0 g' a' (p.2.1.view n) p.2.2->p.2.1.Wf n->Mk g0 g' p.2.2 ds'->Q p.1.exit_ (DS ds' a') g'.w):(Code.rangeFunc gv ps asg bd).wpIn (Fw (ro.map g0.loc)) m P Q (DS ds a) g.w:=by
 obtain⟨o2,rc,x,ho2,hm2,hst2,rfl,hx⟩:=aIe h;have hv:=(EB.of hc.fr none).eval hc.gl (λ_ _ =>by simp) he;obtain⟨us,hev,hus⟩:∃us:List Value,a.eval gv= .func (.func gf) #[] us.toArray/\RdL g us cap:=by
  revert hv;generalize a.eval gv=u;intro hv;cases hv with
  |fn f first captured vs us h1 h2 h3 h4=>
   have:vs=[]:=by simpa using h1
   subst this;exact⟨us,rfl,h3,h4⟩
 refine wpIn_rangeFunc λfn hfn=> ?_;obtain⟨w',D,mark,hent,HF,hok1,hmk1⟩:=aIf (P:=P) hc hd hro hrok fn a.tmps ps asg bd;obtain⟨g1,hg1⟩:∃g1:G,g1={g with w:=w'}:=⟨_,rfl⟩;rw[<-hg1]at HF hok1 hmk1;have hw1:w'=g1.w:=by rw[hg1]
 rw[hw1]at hent;have hc1:qT (Xb gl) g0 H0 g1 a (tr.view n) H:=hc.pstep HF hok1;obtain⟨rec,hrec⟩:∃rec:Loop,rec={state:= .ready,pending:=none,fn,tmps:=a.tmps,params:=ps,assign:=asg,body:=bd,defers:=D}:=⟨_,rfl⟩;rw[<-hrec]at hent;obtain⟨r0,hr0⟩:∃r0:Lr,r0=⟨.ready,none,tr,n,ps,asg,bd,ow⟩:=⟨_,rfl⟩;rw[<-hr0]at hcall;obtain⟨hokf,hcon⟩:=hF _ _ _ _ _ hcall;obtain⟨g2,hg2⟩:∃g2:G,g2=g1.own H.next (.loop rec) 0:=⟨_,rfl⟩;have hs2:qF H g1 (H.new (DE r0)) g2:=by rw[hg2];exact xY hc1.st _ _ _
 have hok2:rZ g2:=by rw[hg2];exact GM hc1.ok _ _ _
 have hst2':St g2 (H.new (DE r0)):=by
  rw[hg2];refine OP hc1.st hc1.ok λ_ keep=>⟨λe=>(by cases e),λm e=> ?_⟩;cases e;refine⟨fn,a.tmps,D,?_,?_,?_⟩
  .rw[hr0,hrec]
  .rw[hr0];exact⟨hc1.fr.1,λj v c hv hc=>keep v c (hc1.fr.2 j v c hv hc)⟩
  .rw[hr0];exact hw
 have hgl2:GlOk gl g2:=hc1.gl.sstep hc1.st hs2;have hloc:g2.loc H.next=g1.w.heap.size:=by rw[hg2];simp[G.own]
 have hW:g1.w.alloc (.loop rec)=g2.w:=by rw[hg2];rfl
 rw[hW]at hent;have hargs:RdL g2 (.func (.yield g1.w.heap.size) #[] #[]::us) (.yl H.next::cap):=by
  refine RdL.cons ?_ ((hus.pstep HF).sstep hc1.st hs2);rw[<-hloc];exact .yl H.next (by rw[hg2];exact .inr rfl)
 refine⟨g1.w.heap.size,mark,g2.w,{target:= .fn (.func gf) us.toArray,args:= #[.func (.yield g1.w.heap.size) #[] #[]]},g2.w,gf, #[.func (.yield g1.w.heap.size) #[] #[]]++us.toArray,g2.w,hent,?_,?_,?_,λh=>(by cases h),?_⟩
 .have hev':(DS ds a).eval gv= .func (.func gf) #[] us.toArray:=hev;simp only[resolve,hev'];simp[go_sem]
 .intro _ _;trivial
 .have:=FA (g:=g2) hokf (#[.func (.yield g1.w.heap.size) #[] #[]]++us.toArray);simp[invoke,go_sem]at this⊢;exact this
 .have ea:({DS ds a with defers:=mark++(DS ds a).defers}:Act)=DS (mark++ds) a:=by simp[DS,hc.df]
  have eargs:(#[.func (.yield g1.w.heap.size) #[] #[]]++us.toArray:Array Value)=(Value.func (.yield g1.w.heap.size) #[] #[]::us).toArray:=by simp
  rw[eargs];refine uY.2 ((hcon g2 _ hok2 hst2' hgl2 hargs).mono ?_);rintro e w3 ⟨v',g3,rfl,rfl,hs3,hok3,hst3,_⟩;obtain⟨hal3,fn3,tmps3,D3,hb3,_,_⟩:=OG hst3 ho2 hm2;have hl3:g3.loc H.next=g1.w.heap.size:=by rw[<-hloc];exact hs3.loc H.next (by rw[hg2];exact .inr rfl)
  rw[hl3]at hb3;have hend:=run_endLoop (P:=P) hb3 (by simpa using hst2);obtain⟨g4,hg4⟩:∃g4:G,g4=g3.setOb (g3.loc H.next) (.loop {state:= .exhausted,pending:=rc.pe,fn:=fn3,tmps:=tmps3,params:=rc.ps,assign:=rc.asg,body:=rc.bd,defers:=D3}):=⟨_,rfl⟩;have hs4:qF H2 g3 (H2.drop H.next) g4:=by rw[hg4];exact Dv ho2 _
  have hst4:St g4 (H2.drop H.next):=by rw[hg4];exact aOy hst3 ho2 _
  have hok4:rZ g4:=by rw[hg4];exact JI hok3 _ _
  have hw4:(g3.w.putObj g1.w.heap.size (.loop {state:= .exhausted,pending:=rc.pe,fn:=fn3,tmps:=tmps3,params:=rc.ps,assign:=rc.asg,body:=rc.bd,defers:=D3}))=g4.w:=by rw[hg4,hl3];rfl
  rw[hw4]at hend;have hall:qF H g1 (H2.drop H.next) g4:=(hs2.trans hs3).trans hs4;have hc4:qT (Xb gl) g0 H0 g4 a (tr.view n) (H2.drop H.next):=⟨hok4,hst4,hc1.gl.sstep hc1.st hall,hc.df,hc1.fr.sstep hc1.st hall,hc1.step.trans hall⟩;have hq:=hQ _ (bV.2 rfl) a g4 (mark++ds) hc4 hw (hmk1.sstep hall);refine⟨rc.pe,g4.w,hend,?_⟩;rw[ea];rcases hx with⟨rfl,hp⟩|⟨id,rfl,hp⟩|⟨rfl,hp⟩
  .rw[hp];exact hq
  .rw[hp];exact wpIn_exit hq
  .rw[hp];exact wpIn_ret hq
theorem qT.cast{E E':tY}(e:E.gl=E'.gl){g0 g:G}{H0 H:Hp}{a:Act}{fr:fU}(h:qT E g0 H0 g a fr H):qT E' g0 H0 g a fr H:=⟨h.ok,h.st,e▸h.gl,h.df,h.fr,h.step⟩
end
open Go.RowKit
section
variable{P:fV}{gl:fY}{ee:gB}{yd:gF}{pc:gG}{n:Nat}
theorem Mk.none{g0 g:G}{H:Hp}:Mk g0 g H []:=⟨λd hd=>by simp at hd,List.nodup_nil⟩
theorem aEc{l:Nat}{g0 g:G}{H0 H:Hp}{a:Act}{fr:fU}(hc:qT (Xb gl) g0 H0 g a fr H)(h0:g0.al l){x:X}{b:Bool}{H':Hp}(h:MI l H x=some (b,H')):
  roundPost P (g0.loc l) (λe w'=>∃g',e= .returned (.bool b)/\g'.w=w'/\qF H0 g0 H' g'/\rZ g'/\St g' H') x.exit_ a g.w:=by
 obtain⟨o,rc,ho,hm,h⟩:=xX h;obtain⟨_,fn,tmps,D,hb,hr,hw⟩:=OG hc.st ho hm;have hl:g0.loc l=g.loc l:=(hc.step.loc l h0).symm;rw[hl];have fin:∀(st:LoopState) (pe:Option Code),∃g',g'.w=g.w.putObj (g.loc l) (.loop {state:=st,pending:=pe,fn,tmps,params:=rc.ps,assign:=rc.asg,body:=rc.bd,defers:=D})/\qF H0 g0 (H.put l (DE {rc with st:=st,pe:=pe})) g'/\rZ g'/\St g' (H.put l (DE {rc with st:=st,pe:=pe})):=by
  intro st pe;refine⟨g.setOb (g.loc l) (.loop {state:=st,pending:=pe,fn,tmps,params:=rc.ps,assign:=rc.asg,body:=rc.bd,defers:=D}),rfl,hc.step.trans (yH ho _ _),JI hc.ok _ _,JJ hc.st ho rfl ⟨fn,tmps,D,rfl,hr,hw⟩⟩
 cases x with
 |normal=>
  cases(show some (true,H.put l (DE {rc with st:= .ready,pe:=none}))=some (b,H')from h);obtain⟨g',e1,e2,e3,e4⟩:=fin .ready none;exact⟨_,_,run_endRound none hb,g',rfl,e1,e2,e3,e4⟩
 |exit id=>
  cases(show some (false,H.put l (DE {rc with st:= .done,pe:=some (.exit id)}))=some (b,H')from h);obtain⟨g',e1,e2,e3,e4⟩:=fin .done (some (.exit id));exact⟨_,_,run_endRound (some (.exit id)) hb,g',rfl,e1,e2,e3,e4⟩
 |ret=>
  cases(show some (false,H.put l (DE {rc with st:= .done,pe:=some .ret}))=some (b,H')from h);obtain⟨g',e1,e2,e3,e4⟩:=fin .done (some .ret);exact⟨_,_,run_endRound (some .ret) hb,g',rfl,e1,e2,e3,e4⟩
end
end
end Go.Ps
namespace Go.Proofs.Tryz
open Go.Shelf
def Pf:Go.Shelf.Ren:=⟨λ|213=>66|265=>110|n=>n,λ|9=>9|3=>3|n=>n,λ|n=>n⟩
theorem aQn:Go.Proofs.Lays.n213 prog Pf:={
 mixed:=by kernel_rfl
 f213:=func66.trans (congrArg some (by kernel_rfl))
 f265:=func110.trans (congrArg some (by kernel_rfl))
 t3:=underlying3
 a3:=isAgg3
 z3:=sizeOf3
 v3:=zeroValue3
 t9:=underlying9
 a9:=isAgg9
 z9:=sizeOf9
 v9:=zeroValue9}
def GF:Go.Shelf.Ren:=⟨λ|171=>40|243=>74|246=>114|283=>169|284=>170|285=>171|286=>172|129=>109|317=>244|318=>245|319=>246|320=>247|337=>306|338=>307|n=>n,λ|3=>3|9=>9|2=>2|4=>4|171=>234|0=>0|53=>186|37=>128|5=>5|173=>236|212=>301|51=>184|20=>20|213=>302|46=>122|232=>351|233=>352|n=>n,λ|17=>4|18=>5|19=>6|n=>n⟩
theorem aJw:Go.Proofs.LaysM.n171 prog GF:={
 mixed:=by kernel_rfl
 f129:=func109.trans (congrArg some (by kernel_rfl))
 f171:=func40.trans (congrArg some (by kernel_rfl))
 f243:=func74.trans (congrArg some (by kernel_rfl))
 f246:=func114.trans (congrArg some (by kernel_rfl))
 f283:=func169.trans (congrArg some (by kernel_rfl))
 f284:=func170.trans (congrArg some (by kernel_rfl))
 f285:=func171.trans (congrArg some (by kernel_rfl))
 f286:=func172.trans (congrArg some (by kernel_rfl))
 f317:=func244.trans (congrArg some (by kernel_rfl))
 f318:=func245.trans (congrArg some (by kernel_rfl))
 f319:=func246.trans (congrArg some (by kernel_rfl))
 f320:=func247.trans (congrArg some (by kernel_rfl))
 f337:=func306.trans (congrArg some (by kernel_rfl))
 f338:=func307.trans (congrArg some (by kernel_rfl))
 t0:=underlying0
 a0:=isAgg0
 z0:=sizeOf0
 v0:=zeroValue0
 t2:=underlying2
 a2:=isAgg2
 z2:=sizeOf2
 v2:=zeroValue2
 t3:=underlying3
 a3:=isAgg3
 z3:=sizeOf3
 v3:=zeroValue3
 t4:=underlying4
 a4:=isAgg4
 z4:=sizeOf4
 v4:=zeroValue4
 t5:=underlying5
 a5:=isAgg5
 z5:=sizeOf5
 v5:=zeroValue5
 t9:=underlying9
 a9:=isAgg9
 z9:=sizeOf9
 v9:=zeroValue9
 t20:=underlying20
 a20:=isAgg20
 z20:=sizeOf20
 v20:=zeroValue20
 t37:=underlying128
 a37:=isAgg128
 z37:=sizeOf128
 v37:=zeroValue128
 t46:=underlying122
 a46:=isAgg122
 z46:=sizeOf122
 v46:=zeroValue122
 t51:=underlying184
 a51:=isAgg184
 z51:=sizeOf184
 v51:=zeroValue184
 t53:=underlying186
 a53:=isAgg186
 z53:=sizeOf186
 v53:=zeroValue186
 t171:=underlying234
 a171:=isAgg234
 z171:=sizeOf234
 v171:=zeroValue234
 t173:=underlying236
 a173:=isAgg236
 z173:=sizeOf236
 v173:=zeroValue236
 t212:=underlying301
 a212:=isAgg301
 z212:=sizeOf301
 v212:=zeroValue301
 t213:=underlying302
 a213:=isAgg302
 z213:=sizeOf302
 t232:=underlying351
 a232:=isAgg351
 z232:=sizeOf351
 v232:=zeroValue351
 t233:=underlying352
 a233:=isAgg352
 z233:=sizeOf352
 v233:=zeroValue352
 g17:=by kernel_rfl
 g18:=by kernel_rfl
 g19:=by kernel_rfl
 i0:=by kernel_rfl
 i2:=by kernel_rfl
 i3:=by kernel_rfl
 i4:=by kernel_rfl
 i5:=by kernel_rfl
 i9:=by kernel_rfl
 i20:=by kernel_rfl
 i37:=by kernel_rfl
 i46:=by kernel_rfl
 i51:=by kernel_rfl
 i53:=by kernel_rfl
 i171:=by kernel_rfl
 i173:=by kernel_rfl
 i212:=by kernel_rfl
 i232:=by kernel_rfl
 i233:=by kernel_rfl
 m17:=by kernel_rfl
 m18:=by kernel_rfl
 m19:=by kernel_rfl}
def Jr:Go.Shelf.Ren:=⟨λ|172=>208|244=>285|245=>286|247=>318|279=>319|280=>320|281=>321|282=>322|287=>339|316=>340|171=>40|205=>341|321=>350|322=>351|243=>74|246=>114|283=>169|284=>170|285=>171|286=>172|129=>109|317=>244|318=>245|319=>246|320=>247|337=>306|338=>307|n=>n,λ|9=>9|3=>3|75=>138|76=>139|4=>4|5=>5|167=>341|37=>128|0=>0|85=>342|2=>2|168=>344|53=>186|175=>358|46=>122|210=>361|127=>197|145=>374|143=>372|21=>21|171=>234|173=>236|212=>301|51=>184|20=>20|213=>302|232=>351|233=>352|80=>141|n=>n,λ|15=>7|16=>8|17=>4|18=>5|19=>6|n=>n⟩
theorem YE:Go.Proofs.LaysC.n172 prog Jr:={
 mixed:=by kernel_rfl
 f129:=func109.trans (congrArg some (by kernel_rfl))
 f171:=func40.trans (congrArg some (by kernel_rfl))
 f172:=func208.trans (congrArg some (by kernel_rfl))
 f205:=func341.trans (congrArg some (by kernel_rfl))
 f243:=func74.trans (congrArg some (by kernel_rfl))
 f244:=func285.trans (congrArg some (by kernel_rfl))
 f245:=func286.trans (congrArg some (by kernel_rfl))
 f246:=func114.trans (congrArg some (by kernel_rfl))
 f247:=func318.trans (congrArg some (by kernel_rfl))
 f279:=func319.trans (congrArg some (by kernel_rfl))
 f280:=func320.trans (congrArg some (by kernel_rfl))
 f281:=func321.trans (congrArg some (by kernel_rfl))
 f282:=func322.trans (congrArg some (by kernel_rfl))
 f283:=func169.trans (congrArg some (by kernel_rfl))
 f284:=func170.trans (congrArg some (by kernel_rfl))
 f285:=func171.trans (congrArg some (by kernel_rfl))
 f286:=func172.trans (congrArg some (by kernel_rfl))
 f287:=func339.trans (congrArg some (by kernel_rfl))
 f316:=func340.trans (congrArg some (by kernel_rfl))
 f317:=func244.trans (congrArg some (by kernel_rfl))
 f318:=func245.trans (congrArg some (by kernel_rfl))
 f319:=func246.trans (congrArg some (by kernel_rfl))
 f320:=func247.trans (congrArg some (by kernel_rfl))
 f321:=func350.trans (congrArg some (by kernel_rfl))
 f322:=func351.trans (congrArg some (by kernel_rfl))
 f337:=func306.trans (congrArg some (by kernel_rfl))
 f338:=func307.trans (congrArg some (by kernel_rfl))
 t0:=underlying0
 a0:=isAgg0
 z0:=sizeOf0
 v0:=zeroValue0
 t2:=underlying2
 a2:=isAgg2
 z2:=sizeOf2
 v2:=zeroValue2
 t3:=underlying3
 a3:=isAgg3
 z3:=sizeOf3
 v3:=zeroValue3
 t4:=underlying4
 a4:=isAgg4
 z4:=sizeOf4
 v4:=zeroValue4
 t5:=underlying5
 a5:=isAgg5
 z5:=sizeOf5
 v5:=zeroValue5
 t9:=underlying9
 a9:=isAgg9
 z9:=sizeOf9
 v9:=zeroValue9
 t20:=underlying20
 a20:=isAgg20
 z20:=sizeOf20
 v20:=zeroValue20
 t21:=underlying21
 a21:=isAgg21
 z21:=sizeOf21
 v21:=zeroValue21
 t37:=underlying128
 a37:=isAgg128
 z37:=sizeOf128
 v37:=zeroValue128
 t46:=underlying122
 a46:=isAgg122
 z46:=sizeOf122
 v46:=zeroValue122
 t51:=underlying184
 a51:=isAgg184
 z51:=sizeOf184
 v51:=zeroValue184
 t53:=underlying186
 a53:=isAgg186
 z53:=sizeOf186
 v53:=zeroValue186
 t75:=underlying138
 a75:=isAgg138
 z75:=sizeOf138
 v75:=zeroValue138
 t76:=underlying139
 a76:=isAgg139
 z76:=sizeOf139
 v76:=zeroValue139
 t85:=underlying342
 a85:=isAgg342
 z85:=sizeOf342
 v85:=zeroValue342
 t127:=underlying197
 a127:=isAgg197
 z127:=sizeOf197
 v127:=zeroValue197
 t143:=underlying372
 a143:=isAgg372
 z143:=sizeOf372
 v143:=zeroValue372
 t145:=underlying374
 a145:=isAgg374
 z145:=sizeOf374
 v145:=zeroValue374
 t167:=underlying341
 a167:=isAgg341
 z167:=sizeOf341
 v167:=zeroValue341
 t168:=underlying344
 a168:=isAgg344
 z168:=sizeOf344
 v168:=zeroValue344
 t171:=underlying234
 a171:=isAgg234
 z171:=sizeOf234
 v171:=zeroValue234
 t173:=underlying236
 a173:=isAgg236
 z173:=sizeOf236
 v173:=zeroValue236
 t175:=underlying358
 a175:=isAgg358
 z175:=sizeOf358
 v175:=zeroValue358
 t210:=underlying361
 a210:=isAgg361
 z210:=sizeOf361
 v210:=zeroValue361
 t212:=underlying301
 a212:=isAgg301
 z212:=sizeOf301
 v212:=zeroValue301
 t213:=underlying302
 a213:=isAgg302
 z213:=sizeOf302
 t232:=underlying351
 a232:=isAgg351
 z232:=sizeOf351
 v232:=zeroValue351
 t233:=underlying352
 a233:=isAgg352
 z233:=sizeOf352
 v233:=zeroValue352
 g15:=by kernel_rfl
 g16:=by kernel_rfl
 g17:=by kernel_rfl
 g18:=by kernel_rfl
 g19:=by kernel_rfl
 t80:=underlying141
 a80:=isAgg141
 z80:=sizeOf141
 v80:=zeroValue141
 i0:=by kernel_rfl
 i2:=by kernel_rfl
 i3:=by kernel_rfl
 i4:=by kernel_rfl
 i5:=by kernel_rfl
 i9:=by kernel_rfl
 i20:=by kernel_rfl
 i21:=by kernel_rfl
 i37:=by kernel_rfl
 i46:=by kernel_rfl
 i51:=by kernel_rfl
 i53:=by kernel_rfl
 i75:=by kernel_rfl
 i76:=by kernel_rfl
 i80:=by kernel_rfl
 i85:=by kernel_rfl
 i127:=by kernel_rfl
 i143:=by kernel_rfl
 i145:=by kernel_rfl
 i167:=by kernel_rfl
 i168:=by kernel_rfl
 i171:=by kernel_rfl
 i173:=by kernel_rfl
 i175:=by kernel_rfl
 i210:=by kernel_rfl
 i212:=by kernel_rfl
 i232:=by kernel_rfl
 i233:=by kernel_rfl
 m15:=by kernel_rfl
 m16:=by kernel_rfl
 m17:=by kernel_rfl
 m18:=by kernel_rfl
 m19:=by kernel_rfl
 c0:=by kernel_rfl
 c2:=by kernel_rfl
 c3:=by kernel_rfl
 c4:=by kernel_rfl
 c5:=by kernel_rfl
 c9:=by kernel_rfl
 c20:=by kernel_rfl
 c21:=by kernel_rfl
 c37:=by kernel_rfl
 c46:=by kernel_rfl
 c51:=by kernel_rfl
 c53:=by kernel_rfl
 c75:=by kernel_rfl
 c76:=by kernel_rfl
 c80:=by kernel_rfl
 c85:=by kernel_rfl
 c127:=by kernel_rfl
 c143:=by kernel_rfl
 c145:=by kernel_rfl
 c167:=by kernel_rfl
 c168:=by kernel_rfl
 c171:=by kernel_rfl
 c173:=by kernel_rfl
 c175:=by kernel_rfl
 c210:=by kernel_rfl
 c212:=by kernel_rfl
 c213:=by kernel_rfl
 c232:=by kernel_rfl
 c233:=by kernel_rfl}
def Pg:Go.Shelf.Ren:=⟨λ|217=>113|266=>168|n=>n,λ|9=>9|5=>5|3=>3|n=>n,λ|n=>n⟩
theorem aQo:Go.Proofs.Lays.n217 prog Pg:={
 mixed:=by kernel_rfl
 f217:=func113.trans (congrArg some (by kernel_rfl))
 f266:=func168.trans (congrArg some (by kernel_rfl))
 t3:=underlying3
 a3:=isAgg3
 z3:=sizeOf3
 v3:=zeroValue3
 t5:=underlying5
 a5:=isAgg5
 z5:=sizeOf5
 v5:=zeroValue5
 t9:=underlying9
 a9:=isAgg9
 z9:=sizeOf9
 v9:=zeroValue9}
def Pc:Go.Shelf.Ren:=⟨λ|145=>207|220=>284|219=>314|217=>113|225=>250|224=>249|267=>334|266=>168|314=>348|n=>n,λ|9=>9|4=>4|59=>274|3=>3|5=>5|46=>122|146=>366|51=>184|n=>n,λ|1=>2|n=>n⟩
theorem aQj:Go.Proofs.Lays.n145 prog Pc:={
 mixed:=by kernel_rfl
 f145:=func207.trans (congrArg some (by kernel_rfl))
 f217:=func113.trans (congrArg some (by kernel_rfl))
 f219:=func314.trans (congrArg some (by kernel_rfl))
 f220:=func284.trans (congrArg some (by kernel_rfl))
 f224:=func249.trans (congrArg some (by kernel_rfl))
 f225:=func250.trans (congrArg some (by kernel_rfl))
 f266:=func168.trans (congrArg some (by kernel_rfl))
 f267:=func334.trans (congrArg some (by kernel_rfl))
 f314:=func348.trans (congrArg some (by kernel_rfl))
 t3:=underlying3
 a3:=isAgg3
 z3:=sizeOf3
 v3:=zeroValue3
 t4:=underlying4
 a4:=isAgg4
 z4:=sizeOf4
 v4:=zeroValue4
 t5:=underlying5
 a5:=isAgg5
 z5:=sizeOf5
 v5:=zeroValue5
 t9:=underlying9
 a9:=isAgg9
 z9:=sizeOf9
 v9:=zeroValue9
 t46:=underlying122
 a46:=isAgg122
 z46:=sizeOf122
 v46:=zeroValue122
 t51:=underlying184
 a51:=isAgg184
 z51:=sizeOf184
 v51:=zeroValue184
 t59:=underlying274
 a59:=isAgg274
 z59:=sizeOf274
 v59:=zeroValue274
 t146:=underlying366
 a146:=isAgg366
 z146:=sizeOf366
 v146:=zeroValue366
 g1:=by kernel_rfl}
def TN:Go.Shelf.Ren:=⟨λ|153=>115|152=>173|226=>174|227=>175|228=>176|137=>72|119=>248|224=>249|225=>250|217=>113|266=>168|n=>n,λ|9=>9|3=>3|4=>4|5=>5|21=>21|117=>241|116=>240|0=>0|46=>122|124=>304|n=>n,λ|n=>n⟩
theorem aQk:Go.Proofs.Lays.n153 prog TN:={
 mixed:=by kernel_rfl
 f119:=func248.trans (congrArg some (by kernel_rfl))
 f137:=func72.trans (congrArg some (by kernel_rfl))
 f152:=func173.trans (congrArg some (by kernel_rfl))
 f153:=func115.trans (congrArg some (by kernel_rfl))
 f217:=func113.trans (congrArg some (by kernel_rfl))
 f224:=func249.trans (congrArg some (by kernel_rfl))
 f225:=func250.trans (congrArg some (by kernel_rfl))
 f226:=func174.trans (congrArg some (by kernel_rfl))
 f227:=func175.trans (congrArg some (by kernel_rfl))
 f228:=func176.trans (congrArg some (by kernel_rfl))
 f266:=func168.trans (congrArg some (by kernel_rfl))
 t0:=underlying0
 a0:=isAgg0
 z0:=sizeOf0
 v0:=zeroValue0
 t3:=underlying3
 a3:=isAgg3
 z3:=sizeOf3
 v3:=zeroValue3
 t4:=underlying4
 a4:=isAgg4
 z4:=sizeOf4
 v4:=zeroValue4
 t5:=underlying5
 a5:=isAgg5
 z5:=sizeOf5
 v5:=zeroValue5
 t9:=underlying9
 a9:=isAgg9
 z9:=sizeOf9
 v9:=zeroValue9
 t21:=underlying21
 a21:=isAgg21
 z21:=sizeOf21
 v21:=zeroValue21
 t46:=underlying122
 a46:=isAgg122
 z46:=sizeOf122
 v46:=zeroValue122
 t116:=underlying240
 a116:=isAgg240
 z116:=sizeOf240
 t117:=underlying241
 a117:=isAgg241
 z117:=sizeOf241
 v117:=zeroValue241
 t124:=underlying304
 a124:=isAgg304
 z124:=sizeOf304
 v124:=zeroValue304}
def Pd:Go.Shelf.Ren:=⟨λ|196=>56|259=>87|n=>n,λ|9=>9|4=>4|3=>3|5=>5|12=>12|119=>153|0=>0|46=>122|139=>156|138=>155|53=>186|n=>n,λ|3=>0|4=>1|n=>n⟩
theorem aQl:Go.Proofs.Lays.n196 prog Pd:={
 mixed:=by kernel_rfl
 f196:=func56.trans (congrArg some (by kernel_rfl))
 f259:=func87.trans (congrArg some (by kernel_rfl))
 t0:=underlying0
 a0:=isAgg0
 z0:=sizeOf0
 v0:=zeroValue0
 t3:=underlying3
 a3:=isAgg3
 z3:=sizeOf3
 v3:=zeroValue3
 t4:=underlying4
 a4:=isAgg4
 z4:=sizeOf4
 v4:=zeroValue4
 t5:=underlying5
 a5:=isAgg5
 z5:=sizeOf5
 v5:=zeroValue5
 t9:=underlying9
 a9:=isAgg9
 z9:=sizeOf9
 v9:=zeroValue9
 t12:=underlying12
 a12:=isAgg12
 z12:=sizeOf12
 v12:=zeroValue12
 t46:=underlying122
 a46:=isAgg122
 z46:=sizeOf122
 v46:=zeroValue122
 t53:=underlying186
 a53:=isAgg186
 z53:=sizeOf186
 v53:=zeroValue186
 t119:=underlying153
 a119:=isAgg153
 z119:=sizeOf153
 t138:=underlying155
 a138:=isAgg155
 z138:=sizeOf155
 v138:=zeroValue155
 t139:=underlying156
 a139:=isAgg156
 z139:=sizeOf156
 v139:=zeroValue156
 g3:=by kernel_rfl
 g4:=by kernel_rfl}
end Go.Proofs.Tryz
namespace Go.Proofs.Tryz
open Go.Ps
noncomputable section
theorem follows:prog.follows .mixedOrders=true:=by kernel_rfl
def glT:Nat->Option T:=λn=>if n=4 then some (.ref (.agg (Lib.pow10Tab.map (T.int .u64))) 0)else none
theorem tab{g:G}(hg:GlOk glT g)(n:Int)(h0:-9223372036854775808<=n)(h1:n<=9223372036854775807):Calls prog 40 #[.int .i64 n] g.w λe w'=>e= .returned (.string ⟨(Lib.itoa n).toArray⟩)/\∃k os,w'=Sort.grow (g.w.drewN k) os:=by
 refine Any.strconv_Itoa aJw n h0 h1 g.w ?_;obtain⟨e,fz,h⟩:=aZh (hg 4 _ rfl);unfold Lib.TabIs World.var?;rw[show prog.globalNamed _ =some 4 by kernel_rfl];simp only[eL,h]
def bBx:List T->Option T
 |[.str a,.str b]=>some (.int .i64 (Lib.compareBytes a b))|_ =>none
def bCw:List T->Option T
 |[.str a,.int .u8 c]=>some (.int .i64 (Lib.indexByte a c.toNat.toUInt8))|_ =>none
def peT(f:gV)(ts:fU):Option T:=if f=40 then Zg ts else if f=66 then bBx ts else if f=113 then bCw ts else none
theorem aAu{f:gV}{ts:fU}{r:T}(h0:vL prog f=true)(h:∀(g:G) (vs:gM),RdL g vs ts->∃v,Rd g v r/\Calls prog f vs.toArray g.w λe w'=>e= .returned v/\w'=g.w):pW prog glT f ts r:=by
 refine⟨h0,λg vs hg _ _ hv=> ?_⟩;obtain⟨v,h1,h2⟩:=h g vs hv;refine h2.mono ?_;rintro e w' ⟨rfl,rfl⟩;exact⟨v,g,rfl,rfl,PStep.refl g,hg,h1⟩
theorem Vt{f:gV}{ts:fU}{r:T}(h:peT f ts=some r):pW prog glT f ts r:=by
 unfold peT at h;split at h
 .rename_i e;subst e;exact Zh (U:=GF) (by kernel_rfl) (λg hg n h0 h1=>tab hg n h0 h1) ts r h
 .split at h
  .rename_i e;subst e;refine aAu (by kernel_rfl) λg vs hv=> ?_;unfold bBx at h;split at h
   .cases h
    match vs,hv with
    |[u,v],hv=>
     obtain⟨h1,h2⟩:=hv.inv_cons;obtain⟨a,rfl,ha⟩:=h1.inv_str;obtain⟨b,rfl,hb⟩:=(h2.inv_cons).1.inv_str;refine⟨_,.int _ _,?_⟩;have:=Any.bytealg_CompareString aQn a b g.w;rw[ha,hb]at this;exact this
    |[],hv=>have:=hv.1;simp at this|[_],hv=>have:=hv.1;simp at this|_ ::_ ::_ ::_,hv=>have:=hv.1;simp at this
   .cases h
  .split at h
   .rename_i e;subst e;refine aAu (by kernel_rfl) λg vs hv=> ?_;unfold bCw at h;split at h
    .rename_i a0 c0;cases h
     match vs,hv with
     |[u,v],hv=>
      obtain⟨h1,h2⟩:=hv.inv_cons;obtain⟨a,rfl,ha⟩:=h1.inv_str;have h3:=(h2.inv_cons).1.inv_int;subst h3;refine⟨_,.int _ _,?_⟩;have:=Any.stringslite_IndexByte aQo a c0 g.w;rw[ha]at this;exact this
     |[],hv=>have:=hv.1;simp at this|[_],hv=>have:=hv.1;simp at this|_ ::_ ::_ ::_,hv=>have:=hv.1;simp at this
    .cases h
   .cases h
end
end Go.Proofs.Tryz
namespace Go.Proofs.Tryz
open Go.Shelf Go.RowKit Go.Lib
variable{P:Ps.fV}{U:Ren}
set_option maxHeartbeats 4000000 in
set_option maxRecDepth 1000000 in
theorem Ot(L:Lays.n152 P U)(s:Ps.jC)(w:Ps.iK)(hs:∀(j:Nat) b,s.data.toList[j]? =some b->b.toNat<128):
  Calls P (U.f 152) #[.string s,.int .i32 65533] w λe w'=>e= .returned (.int .i64 (-1))/\w'=w.iter s s.size:=by
 have HA:Aside (∀(j:Nat) b,s.data.toList[j]? =some b->b.toNat<128):=hs;clear hs;have t3:=L.t3;have a3:=L.a3;have z3:=L.z3;have v3:=L.v3;have t4:=L.t4;have a4:=L.a4;have z4:=L.z4;have v4:=L.v4;have t5:=L.t5;have a5:=L.a5;have z5:=L.z5;have v5:=L.v5;have t9:=L.t9;have a9:=L.a9;have z9:=L.z9;have v9:=L.v9;have t21:=L.t21;have a21:=L.a21;have z21:=L.z21;have v21:=L.v21
 go_enter L.f152,Body.n152_ntmps U
 go_wp2
 go_loopg [5,6] s.size (λg _ _ wx=>∃i:Nat,i+g=s.size/\wx=w.iter s i)
 case atStart=>exact⟨0,by omega,rfl⟩
 case round=>
  obtain⟨i,hig,rfl⟩:=hrel;cases gk with
  |zero=>
   obtain rfl:i=s.size:=by omega
   have hnx:=run_next_end (P:=P) w s s.size
   go_wp2
   go_ret
   exact⟨rfl,rfl⟩
  |succ g=>
   have hi:i<s.size:=by omega
   obtain⟨x,hx⟩:∃x:UInt8,s[i]'hi=x:=⟨_,rfl⟩;have hxl:s.data.toList[i]? =some x:=by rw[<-hx];exact Lib.data_getElem? s i hi
   have hx128:x.toNat<128:=HA.out i x hxl;have hne:((x.toNat:Int)==65533)=false:=beq_eq_false_iff_ne.2 (by omega);have hnx:=λty=>run_next_ascii (P:=P) w s i ty hi (by rw[hx];exact hx128);rw[hx]at hnx;clear hxl hx
   go_wp2
   go_roundg g
   case measure=>omega
   case rel=>exact⟨i+1,by omega,rfl⟩
set_option maxHeartbeats 4000000 in
set_option maxRecDepth 1000000 in
theorem Jn(L:Lays.n152 P U)(s:Ps.jC)(r:Int)(w:Ps.iK)(hs:∀(j:Nat) b,s.data.toList[j]? =some b->b.toNat<128)(h0:128<=r)(h1:r≠65533)(hsz:s.size<4294967281):
  Calls P (U.f 152) #[.string s,.int .i32 r] w λe w'=>e= .returned (.int .i64 (-1))/\∃n,w'=w.drewN n:=by
 have HA:Aside (∀(j:Nat) b,s.data.toList[j]? =some b->b.toNat<128):=hs;clear hs;have t3:=L.t3;have a3:=L.a3;have z3:=L.z3;have v3:=L.v3;have t4:=L.t4;have a4:=L.a4;have z4:=L.z4;have v4:=L.v4;have t5:=L.t5;have a5:=L.a5;have z5:=L.z5;have v5:=L.v5;have t9:=L.t9;have a9:=L.a9;have z9:=L.z9;have v9:=L.v9;have t21:=L.t21;have a21:=L.a21;have z21:=L.z21;have v21:=L.v21;have e137:∀args w,(callFunc (U.f 137) args).run P w= .ok (.enter (U.f 137) args) w:=enters_of L.f137 (by kernel_rfl) rfl;have e119:∀args w,(callFunc (U.f 119) args).run P w= .ok (.enter (U.f 119) args) w:=enters_of L.f119 (by kernel_rfl) rfl;have mixed:=L.mixed;have hlt:decide (r<128)=false:=decide_eq_false (by omega);have hne:(r==65533)=false:=beq_eq_false_iff_ne.2 h1
 go_enter L.f152,Body.n152_ntmps U
 cases hv:Lib.validRune r
 .go_wp2_with (go_at_fn (U.f 119);refine(Any.utf8_ValidRune {L with} _ _).mono ?_;rintro e w' ⟨rfl,hw⟩;rw[hw,hv])
  go_ret
  exact⟨rfl,0,rfl⟩
 .have hval:Utf8.valid r=true:=by
   rw[validRune_eq];unfold Go.validRune;unfold Lib.validRune at hv;have:=of_decide_eq_true hv;exact decide_eq_true (by omega)
  obtain⟨q1,q2,q3⟩:=encode_facts r hval h0;have hcv:∀w,(convert (U.t 21) (U.t 9) (.int .i32 r)).run P w= .ok (.string (Utf8.encode r)) w:=λw=>run_convert_int_string w _ _ _ _ (by rw[L.t21];rfl) L.t9;generalize Utf8.encode r=rs at q1 q2 q3 hcv;obtain⟨m,hm⟩:∃m,rs.size=m+1:=⟨rs.size-1,by omega⟩;have hmi:(rs.size:Int)-1=(m:Int):=by omega
  go_wp2_with (go_at_fn (U.f 119);refine(Any.utf8_ValidRune {L with} _ _).mono ?_;rintro e w' ⟨rfl,hw⟩;rw[hw,hv])
  go_step3
  go_wp2
  go_loopg [9] 1 (λg s9 wx=>g=1/\s9= .int .i64 (m:Int)/\wx=w)
  case atStart=>exact⟨rfl,rfl,rfl⟩
  case round=>
   obtain⟨rfl,rfl,rfl⟩:=hrel;by_cases hls:m<s.size
   .have hlz:(m:Int)<(s.size:Int):=by omega
    have hlr:(m:Int)<(rs.size:Int):=by omega
    have hlr':m<rs.size:=by omega
    have hlr2:(m:Int)<(m:Int)+1:=by omega
    have hb:∃x:UInt8,s[m]'hls=x/\x.toNat<128:=⟨_,rfl,HA.out m _ (Lib.data_getElem? s _ hls)⟩;obtain⟨x,hx,hx128⟩:=hb;have hy:∃y:UInt8,rs[m]'hlr'=y/\128<=y.toNat:=⟨_,rfl,by have:=q3 (by omega);simpa [show rs.size-1=m by omega]using this⟩;obtain⟨y,hyy,hy128⟩:=hy;have hxy:((x.toNat:Int)==(y.toNat:Int))=false:=beq_eq_false_iff_ne.2 (by omega)
    go_wp2
    go_step3
    go_wp2
    have hm1:(m:Int)+1<=(s.size:Int):=by omega
    have hm0:(0:Int)<=(m:Int)+1:=by omega
    have hwr:IntKind.i64.wrap ((m:Int)+1)=(m:Int)+1:=wrap_small _ (by omega) (by omega);have hmn:((m:Int)+1).toNat=m+1:=by omega
    have hcall:∀a e w,Calls P (U.f 137) #[.string (s.extract a e),.int .u8 y.toNat] w λe w'=>e= .returned (.int .i64 (-1))/\w'=w:=λa e w=>by
     refine(Any.strings_IndexByte {L with} _ _ _).mono ?_;rintro e w' ⟨rfl,hw⟩;refine⟨?_,hw⟩;have e1:((y.toNat:Int)).toNat.toUInt8=y:=by simp
     rw[e1,<-Lib.firstIdx_eq,firstIdx_ascii s _ _ y (λb hb=>by obtain⟨j,hj,rfl⟩:=cO hb;exact HA.out j _ (aB hj)) hy128]
    go_quiet_o (fail)
    go_wp2
    go_quiet_o (first|(go_at_fn (U.f 137);refine(hcall _ _ _).mono ?_;rintro e w' ⟨rfl,rfl⟩;exact⟨rfl,_,rfl⟩))
    go_wp2
    rw[Exit.noGoto_ret];show Exit.noGoto _ Exit.ret _ _;rw[Exit.noGoto_ret];change bodyPost P (Body.n152 U) (λe w'=>e=Ending.returned (Value.int IntKind.i64 (-1))/\∃n,w'=wr.drewN n) Exit.ret _ _
    go_ret
    exact⟨rfl,_,rfl⟩
   .have hlz:¬(m:Int)<(s.size:Int):=by omega
    go_wp2
    go_ret
    exact⟨rfl,0,rfl⟩
theorem IQ{B:Nat}{a w:Ps.iK}(h:Below B a w):∀q,Below B a (w.drewN q)
 |0=>h|q+1=>(IQ h q).drew
theorem aQc(L:Lays.n152 P U)(s:Ps.jC)(r:Int)(w:Ps.iK)(hs:∀(j:Nat) b,s.data.toList[j]? =some b->b.toNat<128)(h0:128<=r)(hsz:s.size<4294967281):
  Calls P (U.f 152) #[.string s,.int .i32 r] w λe w'=>e= .returned (.int .i64 (-1))/\Below w.heap.size w w':=by
 by_cases h1:r=65533
 .subst h1;refine(Ot L s w hs).mono ?_;rintro e w' ⟨rfl,rfl⟩;exact⟨rfl,(Below.refl _ w).alloc (aZ _) _⟩
 .refine(Jn L s r w hs h0 h1 hsz).mono ?_;rintro e w' ⟨rfl,n,rfl⟩;exact⟨rfl,IQ (Below.refl _ w) n⟩
theorem YA(s:Ps.jC)(i k:Nat)(hk:1<=k)(h:k<(Utf8.decode s i).2):128<=(s.get! (i+k)).toNat:=by
 have key:∀j,(decide (i+j<s.size)&&(s.get! (i+j)).toNat/64==2)=true->128<=(s.get! (i+j)).toNat:=λj hj=>by
  simp only[aA,beq_iff_eq]at hj;omega
 simp only[Utf8.decode]at h;split at h
 .simp only at h;omega
 .split at h
  .rename_i hc;simp only[aA]at hc;split at h<;>simp only at h
   .obtain rfl:k=1:=by omega
    exact key 1 (by simpa using hc.2)
   .omega
  .split at h
   .rename_i hc;simp only[aA]at hc;split at h<;>simp only at h
    .rcases(by omega:k=1\/k=2)with rfl|rfl
     .exact key 1 (by simpa using hc.1.2)
     .exact key 2 (by simpa using hc.2)
    .omega
   .split at h
    .rename_i hc;simp only[aA]at hc;split at h<;>simp only at h
     .rcases(by omega:k=1\/k=2\/k=3)with rfl|rfl|rfl
      .exact key 1 (by simpa using hc.1.1.2)
      .exact key 2 (by simpa using hc.1.2)
      .exact key 3 (by simpa using hc.2)
     .omega
    .simp only at h;omega
theorem Bn{s chars:Ps.jC}{i wd:Nat}(hac:∀(j:Nat) b,chars.data.toList[j]? =some b->b.toNat<128)(h:Lib.NoAny s.data.toList chars.data.toList i)(hi:i<s.size)(hx:128<=(s[i]'hi).toNat)(hwd:(Utf8.decode s i).2=wd):
  Lib.NoAny s.data.toList chars.data.toList (i+wd):=by
 have hno:∀b:UInt8,128<=b.toNat->chars.data.toList.contains b=false:=λb hb=>by
  cases hc:chars.data.toList.contains b with
  |false=>rfl
  |true=>
   obtain⟨j,hj,rfl⟩:=cO (List.contains_iff_mem.1 hc);have:=hac j _ (aB hj);omega
 intro j b hj hb;by_cases h1:j<i
 .exact h j b h1 hb
 .have hjs:j<s.size:=by have:=(aO.1 hb).1;rw[Lib.size_eq];exact this
  have hbj:s[j]'hjs=b:=by have:=Lib.data_getElem? s j hjs;rw[this]at hb;exact bX hb
  by_cases h2:j=i
  .subst h2;exact hno b (by rw[<-hbj];exact hx)
  .refine hno b ?_;have:=YA s i (j-i) (by omega) (by omega);rw[show i+(j-i)=j by omega]at this;have hg:s.get! j=s[j]'hjs:=by simp[ByteArray.get!,getElem!_pos,hjs];rfl
   rw[hg,hbj]at this;exact this
theorem Oo(w2:Ps.iK)(k:Nat)(s:Ps.jC)(pos:Nat)(ty:Ps.fS)(hk:w2.heap[k]? =some (.stringIter s pos))(h:pos<s.size):
  (Instr.next (.pointer (some ⟨k,0,none⟩)) true ty).run P w2= .ok (.tuple #[.bool true,.int .i64 pos,.int .i32 (Utf8.decode s pos).1]) {w2 with heap:=w2.heap.setIfInBounds k (.stringIter s (pos+(Utf8.decode s pos).2))}:=by
 simp only[Instr.next,getObj,setObj,aP,Sem.run,hk,Result.andThen,h,if_true];simp[goInt]
theorem Oq(w2:Ps.iK)(k:Nat)(s:Ps.jC)(pos:Nat)(ty:Ps.fS)(hk:w2.heap[k]? =some (.stringIter s pos))(h:¬pos<s.size):
  (Instr.next (.pointer (some ⟨k,0,none⟩)) true ty).run P w2= .ok (.tuple #[.bool false]) w2:=by
 simp[Instr.next,getObj,Sem.run,hk,h]
set_option maxHeartbeats 8000000 in
set_option maxRecDepth 1000000 in
theorem aJr(L:Lays.n153 P U)(s chars:Ps.jC)(w:Ps.iK)(h2:2<=chars.size)(h8:s.size<=8)(hcs:chars.size<4294967281)(hac:∀(j:Nat) b,chars.data.toList[j]? =some b->b.toNat<128):
  Calls P (U.f 153) #[.string s,.string chars] w λe w'=>e= .returned (.int .i64 (Lib.indexAny s.data.toList chars.data.toList))/\Below w.heap.size w w':=by
 have HA:Aside (∀(j:Nat) b,chars.data.toList[j]? =some b->b.toNat<128):=hac;clear hac;have hemp:chars.toList.isEmpty=false:=by
  rw[Lib.toList_data];cases h:chars.data.toList with
  |nil=>have:=Lib.size_eq chars;rw[h,List.length_nil]at this;omega|cons _ _ =>rfl
 have hn1:((chars.size:Int)==1)=false:=beq_eq_false_iff_ne.2 (by omega);have h8z:decide ((8:Int)<(s.size:Int))=false:=decide_eq_false (by omega);have t3:=L.t3;have a3:=L.a3;have z3:=L.z3;have v3:=L.v3;have t4:=L.t4;have a4:=L.a4;have z4:=L.z4;have v4:=L.v4;have t5:=L.t5;have a5:=L.a5;have z5:=L.z5;have v5:=L.v5;have t9:=L.t9;have a9:=L.a9;have z9:=L.z9;have v9:=L.v9;have t21:=L.t21;have a21:=L.a21;have z21:=L.z21;have v21:=L.v21;have e152:∀args w,(callFunc (U.f 152) args).run P w= .ok (.enter (U.f 152) args) w:=enters_of L.f152 (by kernel_rfl) rfl;have e226:∀args w,(callFunc (U.f 226) args).run P w= .ok (.enter (U.f 226) args) w:=enters_of L.f226 (by kernel_rfl) rfl
 go_enter L.f153,Body.n153_ntmps U
 go_wp2_with (go_at_fn (U.f 226);refine(Any.strings_shouldUseASCIISet {L with} _ _).mono ?_;rintro e w' ⟨rfl,hw⟩;rw[hw,h8z])
 go_loopg [9,10] s.size (λg _ _ wx=>∃i:Nat,s.size<=i+g/\wx.heap[w.heap.size]? =some (.stringIter s i)/\Below w.heap.size w wx/\Lib.NoAny s.data.toList chars.data.toList i)
 case atStart=>exact⟨0,by omega,World.iter_heap w s 0,(Below.refl _ w).alloc (aZ _) _,Lib.NoAny.zero _ _⟩
 case round=>
  obtain⟨i,hig,hit,hbw,hno⟩:=hrel;have HN:Aside (Lib.NoAny s.data.toList chars.data.toList i):=hno;clear hno;have hk:w.heap.size<wr.heap.size:=(aK.1 hit).1;by_cases hi:i<s.size
  .obtain⟨g,rfl⟩:∃g,gk=g+1:=⟨gk-1,by omega⟩;obtain⟨x,hx⟩:∃x:UInt8,s[i]'hi=x:=⟨_,rfl⟩;have hxl:s.data.toList[i]? =some x:=by rw[<-hx];exact Lib.data_getElem? s i hi
   have hnx:=λty=>Oo (P:=P) wr w.heap.size s i ty hit hi;obtain⟨w1,hw1⟩:∃w1:World,{wr with heap:=wr.heap.setIfInBounds w.heap.size (.stringIter s (i+(Utf8.decode s i).2))}=w1:=⟨_,rfl⟩;have hb1:Below w.heap.size w w1:=by
    rw[<-hw1];refine⟨hbw.os,hbw.tape,hbw.output,by simpa using hbw.size,λk hk'=> ?_⟩;show(wr.heap.setIfInBounds w.heap.size _)[k]? =_;rw[bJ (by omega)];exact hbw.block k hk'
   have hit1:w1.heap[w.heap.size]? =some (.stringIter s (i+(Utf8.decode s i).2)):=by
    rw[<-hw1];show(wr.heap.setIfInBounds w.heap.size _)[w.heap.size]? =_;rw[Array.getElem?_setIfInBounds_self_of_lt hk]
   rw[hw1]at hnx;by_cases hx128:x.toNat<128
   .have hd:Utf8.decode s i=(x.toNat,1):=by rw[<-hx]at hx128⊢;exact decode_ascii s i hi hx128
    rw[hd]at hnx hit1;simp only at hnx hit1;have Hx:Aside (s.data.toList[i]? =some x):=hxl;have H1:Aside (Below w.heap.size w w1/\w1.heap[w.heap.size]? =some (.stringIter s (i+1))):=⟨hb1,hit1⟩;clear hxl hx hw1 hb1 hit1 hit hbw hd;have hcon:=Lib.contains_iff_indexByte chars.data.toList x;have hback:((x.toNat:Int)).toNat.toUInt8=x:=by simp
    cases hin:chars.data.toList.contains x
    .rw[hin]at hcon;have hlt:¬((0:Int)<=Lib.indexByte chars.data.toList x):=of_decide_eq_false hcon.symm;clear hcon
     go_wp2_with (go_at_fn (U.f 152);refine(Any.strings_IndexRune_ascii {L with} _ _ _ (by omega) (by omega)).mono ?_;rintro e w' ⟨rfl,hw⟩;rw[hw,hback])
     go_roundg g
     case measure=>omega
     case rel=>exact⟨i+1,by omega,H1.out.2,H1.out.1,HN.out.succ Hx.out hin⟩
    .rw[hin]at hcon;have hge:(0:Int)<=Lib.indexByte chars.data.toList x:=of_decide_eq_true hcon.symm;clear hcon
     go_wp2_with (go_at_fn (U.f 152);refine(Any.strings_IndexRune_ascii {L with} _ _ _ (by omega) (by omega)).mono ?_;rintro e w' ⟨rfl,hw⟩;rw[hw,hback])
     go_ret
     exact⟨by rw[Lib.indexAny_hit HN.out Hx.out hin];rfl,H1.out.1⟩
   .obtain⟨q1,q2⟩:=decode_high s i hi (by rw[hx];omega);have q3:=decode_le s i;obtain⟨rn,hrn⟩:∃rn:Nat,(Utf8.decode s i).1=rn:=⟨_,rfl⟩;obtain⟨wd,hwd⟩:∃wd:Nat,(Utf8.decode s i).2=wd:=⟨_,rfl⟩;rw[hrn]at hnx;rw[hrn]at q1 q3;rw[hwd]at q2 hit1;have H1:Aside (Below w.heap.size w w1/\w1.heap[w.heap.size]? =some (.stringIter s (i+wd))/\Lib.NoAny s.data.toList chars.data.toList (i+wd)/\w.heap.size<w1.heap.size):=⟨hb1,hit1,Bn HA.out HN.out hi (by rw[hx];omega) hwd,(aK.1 hit1).1⟩;clear hxl hx hw1 hb1 hit1 hit hbw hk
    go_wp2_with (go_at_fn (U.f 152);refine(aQc {L with} _ _ _ HA.out (by omega) hcs).mono ?_;rintro e w' ⟨rfl,hw⟩)
    go_roundg g
    case measure=>omega
    case rel=>
     obtain⟨b1,b2,b3,b4⟩:=H1.out;have hlt:w.heap.size<w1.heap.size:=b4;refine⟨i+wd,by omega,by rw[hw.block _ hlt];exact b2,⟨hw.os.trans b1.os,hw.tape.trans b1.tape,hw.output.trans b1.output,fB b1.size hw.size,λk hk=>(hw.block k (by omega)).trans (b1.block k hk)⟩,b3⟩
  .have hnx:=λty=>Oq (P:=P) wr w.heap.size s i ty hit hi
   go_wp2
   go_ret
   exact⟨by rw[Lib.indexAny_none (λj b hj hb=>HN.out j b (by have:=Lib.size_eq s;omega) hb)];rfl,hbw⟩
theorem aXe(L:Lays.n153 P U)(hv116:∀w,(zeroValue (U.t 116)).run P w= .ok (.agg (Array.replicate 256 (.bool false))) w)(hi116:(P.info? (U.t 116)).map (·.size)=some 256)(s chars:Ps.jC)(w:Ps.iK)(h2:2<=chars.size)(hs:s.size<4294967281)(hcs:chars.size<4294967281)
  (hac:∀(j:Nat) b,chars.data.toList[j]? =some b->b.toNat<128):
  Calls P (U.f 153) #[.string s,.string chars] w λe w'=>e= .returned (.int .i64 (Lib.indexAny s.data.toList chars.data.toList))/\Below w.heap.size w w':=by
 by_cases h8:s.size<=8
 .exact aJr L s chars w h2 h8 hcs hac
 .refine(Any.strings_IndexAny_long L hv116 hi116 s chars w h2 (by omega) hs hcs hac).mono ?_;rintro e w' ⟨rfl,rfl⟩;exact⟨rfl,((Below.refl _ w).alloc (aZ _) _).alloc (by simp) _⟩
end Go.Proofs.Tryz
namespace Go.Proofs.Tryz
open Go.Ps Go.RowKit
def errT(te:fS):T:= .iface te (.ref (.agg []) 0)
def firstA:T:= .agg ((List.range 256).map λc=>T.int .u8 (Lib.firstT c))
def accA:T:= .agg ((List.range 16).flatMap λi=>[T.int .u8 (Lib.accLo i),T.int .u8 (Lib.accHi i)])
variable(m:Int)(te:fS)
def glZ:Nat->Option T:=λn=>
 if n=4 then some (.ref (.agg (Lib.pow10Tab.map (T.int .u64))) 0)else if n=2 then some (.ref (.int .i64 m) 0)else if n=7 then some (.ref (errT te) 0)else if n=8 then some (.ref (errT te) 0)
 else if n=0 then some (.ref firstA 0)else if n=1 then some (.ref accA 0)else none
theorem aPm{m:Int}{te:fS}(k:Nat)(t:T)(h:glT k=some t):glZ m te k=some t:=by
 unfold glT at h;split at h
 .rename_i e;subst e;exact h
 .cases h
theorem rC:wR (glZ m te):=by
 intro k t h;unfold glZ at h;split at h
 .cases h;exact⟨5,by kernel_rfl⟩
 .split at h
  .cases h;exact⟨5,rfl⟩
  .split at h
   .cases h;exact⟨5,rfl⟩
   .split at h
    .cases h;exact⟨5,rfl⟩
    .split at h
     .cases h;exact⟨5,by kernel_rfl⟩
     .split at h
      .cases h;exact⟨5,by kernel_rfl⟩
      .cases h
theorem aJe{m:Int}{te:fS}{g:G}(h:GlOk (glZ m te) g):GlOk glT g:=λk t ht=>h k t (aPm k t ht)
theorem aAi{m:Int}{te:fS}{f:gV}{ts:fU}{r:T}(h:pW prog glT f ts r):pW prog (glZ m te) f ts r:=
 ⟨h.1,λg vs hg hN hgl hv=>h.2 g vs hg hN (aJe hgl) hv⟩
theorem XP{g:G}{k:Nat}{x:T}(h:PQ g k (.ref x 0))(j:Nat){c:T}(hc:x.cells[j]? =some c):∃v,g.w.cell? ⟨k,j,none⟩=some v/\Rd g v c:=by
 obtain⟨h1,_,_⟩:=h;generalize ha:(Value.pointer (some ⟨k,0,none⟩))=v at h1;generalize ht:(T.ref x 0)=t at h1;cases h1<;>cases ht;rename_i b o vs hS hcell hl hr;simp only[Value.pointer.injEq,aC,Addr.mk.injEq]at ha;obtain⟨rfl,ho,_⟩:=ha;have ho0:o=0:=by omega
 subst ho0;have hj:j<vs.length:=by rw[hl];exact(aO.1 hc).1
 have hv:vs[j]? =some (vs[j]'hj):=aB hj;exact⟨_,by have:=hcell j _ hv;simpa using this,hr j _ c hv hc⟩
theorem aMk{m:Int}{te:fS}{g:G}(h:GlOk (glZ m te) g):Lib.Utf8Tabs 0 1 g.w:=by
 refine⟨λc hc=> ?_,λi hi=> ?_⟩
 .obtain⟨v,h1,h2⟩:=XP (h 0 (.ref firstA 0) rfl) c (c:=T.int .u8 (Lib.firstT c)) (by simp[firstA,T.cells,hc]);cases h2;exact h1
 .have hh:∀(n:Nat) (f:Nat->T×T) (i:Nat),i<n->((List.range n).flatMap λi=>[(f i).1,(f i).2])[2*i]? =some (f i).1/\((List.range n).flatMap λi=>[(f i).1,(f i).2])[2*i+1]? =some (f i).2:=by
   intro n
   induction n with
   |zero=>intro f i h;omega
   |succ n ih=>
    intro f i h;have hl:∀n,((List.range n).flatMap λi=>[(f i).1,(f i).2]).length=2*n:=by
     intro n
     induction n with
     |zero=>rfl|succ n ih=>rw[fG,dY,bI,ih];simp;omega
    rw[fG,dY,dT,dT,hl n];by_cases hin:i<n
    .rw[if_pos (by omega),if_pos (by omega)];exact ih f i hin
    .obtain rfl:i=n:=by omega
     rw[if_neg (by omega),if_neg (by omega)];simp
  have h2:=hh 16 (λi=>(T.int .u8 (Lib.accLo i),T.int .u8 (Lib.accHi i))) i hi;obtain⟨v,e1,e2⟩:=XP (h 1 (.ref accA 0) rfl) (2*i) h2.1;obtain⟨u,e3,e4⟩:=XP (h 1 (.ref accA 0) rfl) (2*i+1) h2.2;cases e2;cases e4;exact⟨e1,e3⟩
theorem Yz{g:G}{k:Nat}{x:T}(hx:x.cells=[x])(h:PQ g k (.ref x 0)):∃v,g.w.cell? ⟨k,0,none⟩=some v/\Rd g v x:=by
 obtain⟨h1,_,_⟩:=h;generalize ha:(Value.pointer (some ⟨k,0,none⟩))=v at h1;generalize ht:(T.ref x 0)=t at h1;cases h1<;>cases ht;rename_i b o vs hS hc hl hr;simp only[Value.pointer.injEq,aC,Addr.mk.injEq]at ha;obtain⟨rfl,ho,_⟩:=ha;have ho0:o=0:=by omega
 subst ho0;rw[hx]at hl hr;have hv:vs[0]? =some (vs[0]'(by simp at hl;omega)):=aB _;exact⟨_,by have:=hc 0 _ hv;simpa using this,hr 0 _ x hv rfl⟩
theorem aDj{m:Int}{te:fS}{g:G}(h:GlOk (glZ m te) g):g.w.cell? ⟨2,0,none⟩=some (.int .i64 m):=by
 obtain⟨v,h1,h2⟩:=Yz rfl (h 2 (.ref (.int .i64 m) 0) rfl);cases h2;exact h1
theorem aIl{m:Int}{te:fS}{g:G}(h:GlOk (glZ m te) g){k:Nat}(hk:k=7\/k=8):∃ev,g.w.cell? ⟨k,0,none⟩=some ev/\∃t p,ev= .iface t p:=by
 have hg:glZ m te k=some (.ref (errT te) 0):=by rcases hk with rfl|rfl<;>rfl
 obtain⟨v,h1,h2⟩:=Yz rfl (h k _ hg);cases h2;exact⟨_,h1,_,_,rfl⟩
theorem aWd{m:Int}{te:fS}(s sep:gU)(hs:s.length<4294967281):pW prog (glZ m te) 207 [.str s,.str sep] (.tup [.str (Lib.cut s sep).1,.str (Lib.cut s sep).2.1,.bool (Lib.cut s sep).2.2]):=by
 refine⟨by kernel_rfl,λg vs hg hN hgl hv=> ?_⟩
 match vs,hv with
 |[v,u],hv=>
  have e1:=CE (hv.inv_cons).1;have e2:=CE ((hv.inv_cons).2.inv_cons).1;subst e1;subst e2;have hsz:(⟨s.toArray⟩:ByteArray).size<4294967281:=by show s.toArray.size<_;simpa using hs
  refine(Any.strings_Cut aQj ⟨s.toArray⟩ ⟨sep.toArray⟩ m g.w hsz (aDj hgl)).mono λe w' ⟨he,n,hw⟩=> ?_;subst hw;have hB:Below g.w.heap.size g.w (g.w.drewN n):=⟨by simp[World.drewN],by simp[World.drewN],by simp[World.drewN],by simp[World.drewN],λk _ =>by simp[World.drewN]⟩;refine⟨_,{g with w:=g.w.drewN n},he,rfl,yN hB,EV hg hB.size,?_⟩;refine .tup _ [_,_,_] rfl (λj v c hv hc=> ?_)
  match j with
  |0=>simp at hv hc;subst hv;subst hc;have:=Rd.str (g:={g with w:=g.w.drewN n}) ⟨(Lib.cut s sep).1.toArray⟩;simpa using this
  |1=>simp at hv hc;subst hv;subst hc;have:=Rd.str (g:={g with w:=g.w.drewN n}) ⟨(Lib.cut s sep).2.1.toArray⟩;simpa using this
  |2=>simp at hv hc;subst hv;subst hc;exact .bool _|k+3=>simp at hv
 |[],hv=>simp[RdL]at hv|[_],hv=>simp[RdL]at hv|_ ::_ ::_ ::_,hv=>simp[RdL]at hv
noncomputable def aV(s:gU):Int:=match Lib.atoiAll s with
 | .ok v=>v| .range=>Lib.atoiSat s|_ =>0
noncomputable def aE(s:gU):T:=match Lib.atoiAll s with
 | .ok _ => .nili|_ =>errT 344
theorem aNw{m:Int}{te:fS}(s:gU)(hs:s.length<=281474976710656):pW prog (glZ m te) 208 [.str s] (.tup [.int .i64 (aV s),aE s]):=by
 refine⟨by kernel_rfl,λg vs hg hN hgl hv=> ?_⟩
 match vs,hv with
 |[v],hv=>
  have e1:=CE (hv.inv_cons).1;subst e1;have hsz:(⟨s.toArray⟩:ByteArray).size<=281474976710656:=by show s.toArray.size<=_;simpa using hs
  have bad:∀(x:Int) (e:Ending) (w':iK) (N:Nat) (cs:gX),e= .returned (.tuple #[.int .i64 x,.iface 344 (.pointer (some ⟨N,0,none⟩))])->g.w.heap.size<=N->w'.heap[N]? =some (.cells cs 361 (0,0))->Below g.w.heap.size g.w w'->
    ∃v g',e= .returned v/\g'.w=w'/\PStep g g'/\rZ g'/\Rd g' v (.tup [.int .i64 x,errT 344]):=by
   intro x e w' N cs he hN hc hB;have hlt:N<w'.heap.size:=(aK.1 hc).1;refine⟨_,{g with w:=w',S:=λb=>g.S b\/b=N},he,rfl,⟨hB.os,hB.tape,hB.output,hB.size,hB.block,λb q=> .inl q,λb q=>q.elim .inl (λe=> .inr (by omega)),rfl,rfl,rfl⟩,λb hb=> ?_,?_⟩
   .rcases hb with hb|hb
    .have:=hg b hb;have:=hB.size;show b<w'.heap.size;omega
    .show b<w'.heap.size;omega
   .refine .tup _ [_,_] rfl (λj v c hv hc=> ?_)
    match j with
    |0=>simp at hv hc;subst hv;subst hc;exact .int _ _
    |1=>
     simp at hv hc;subst hv;subst hc;refine .iface _ _ _ ?_;exact Rd.ref (.agg []) 0 N 0 [] (.inr rfl) rfl (λj v h=>by simp at h) (λj v c h=>by simp at h)
    |k+2=>simp at hv
  cases hA:Lib.atoiAll s
  case ok v=>
   have e1:aV s=v:=by unfold aV;rw[hA]
   have e2:aE s= .nili:=by unfold aE;rw[hA]
   rw[e1,e2];refine(Any.strconv_Atoi_ok YE ⟨s.toArray⟩ (by omega) v (by simpa using hA) g.w).mono λe w' ⟨he,hw⟩=> ?_;have hB:Below g.w.heap.size g.w w':=by
    rcases hw with rfl|⟨t,rfl⟩
    .exact Below.refl _ _
    .exact Lib.bytesWorld_below _ _ _
   refine⟨_,{g with w:=w'},he,rfl,yN hB,EV hg hB.size,?_⟩;refine .tup _ [_,_] rfl (λj v c hv hc=> ?_)
   match j with
   |0=>simp at hv hc;subst hv;subst hc;exact .int _ _|1=>simp at hv hc;subst hv;subst hc;exact .nili|k+2=>simp at hv
  case range=>
   have e1:aV s=Lib.atoiSat s:=by unfold aV;rw[hA]
   have e2:aE s=errT 344:=by unfold aE;rw[hA]
   rw[e1,e2];obtain⟨ev,h1,h2⟩:=aIl hgl (.inr rfl);refine(Any.strconv_Atoi_range YE ⟨s.toArray⟩ hsz (by simpa using hA) ev g.w h1 (.inr h2)).mono λe w' ⟨N,he,hN,hc,hB⟩=> ?_;exact bad _ e w' N _ he hN hc hB
  case _ =>
   have e1:aV s=0:=by unfold aV;rw[hA]
   have e2:aE s=errT 344:=by unfold aE;rw[hA]
   rw[e1,e2];obtain⟨ev,h1,h2⟩:=aIl hgl (.inl rfl);refine(Any.strconv_Atoi_syntax YE ⟨s.toArray⟩ hsz (by simpa using hA) ev g.w h1 (.inr h2)).mono λe w' ⟨N,he,hN,hc,hB⟩=> ?_;exact bad 0 e w' N _ he hN hc hB
 |[],hv=>simp[RdL]at hv|_ ::_ ::_,hv=>simp[RdL]at hv
def Bf:List UInt8:=[46,91,63]
theorem CM{f:gV}{gl:fY}{ts:fU}{r:T}(h0:vL prog f=true)(h:∀(g:G) (vs:gM),GlOk gl g->RdL g vs ts->∃v,(∀g',Rd g' v r)/\Calls prog f vs.toArray g.w λe w'=>e= .returned v/\Below g.w.heap.size g.w w'):pW prog gl f ts r:=by
 refine⟨h0,λg vs hg _ hgl hv=> ?_⟩;obtain⟨v,h1,h2⟩:=h g vs hgl hv;refine h2.mono ?_;rintro e w' ⟨rfl,hB⟩;exact⟨v,{g with w:=w'},rfl,rfl,yN hB,EV hg hB.size,h1 _⟩
theorem bCx{m:Int}{te:fS}(s:gU)(hs:s.length<4294967281):pW prog (glZ m te) 115 [.str s,.str Bf] (.int .i64 (Lib.indexAny s Bf)):=by
 refine CM (by kernel_rfl) λg vs hgl hv=> ?_
 match vs,hv with
 |[v,u],hv=>
  have e1:=CE (hv.inv_cons).1;have e2:=CE ((hv.inv_cons).2.inv_cons).1;subst e1;subst e2;refine⟨_,λg'=> .int _ _,?_⟩;have hz:(prog.info? (TN.t 116)).map (λi=>(i.zero,i.size))=some (some (.agg (Array.replicate 256 (.bool false))),256):=by kernel_rfl
  refine aXe aQk (zero_of_info hz).1 (zero_of_info hz).2 ⟨s.toArray⟩ ⟨Bf.toArray⟩ g.w (by decide) (by show s.toArray.size<_;simpa using hs) (by decide) (λj b hb=> ?_);have hb:Bf[j]? =some b:=by simpa using hb
  match j,hb with
  |0,hb=>cases hb;decide|1,hb=>cases hb;decide|2,hb=>cases hb;decide|j+3,hb=>simp[Bf]at hb
 |[],hv=>have:=hv.1;simp at this|[_],hv=>have:=hv.1;simp at this|_ ::_ ::_ ::_,hv=>have:=hv.1;simp at this
theorem aMr{m:Int}{te:fS}(s:gU)(hs:s.length<=9223372036854775807):pW prog (glZ m te) 56 [.str s] (.bool (Lib.validD s)):=by
 refine CM (by kernel_rfl) λg vs hgl hv=> ?_
 match vs,hv with
 |[v],hv=>
  have e1:=CE (hv.inv_cons).1;subst e1;refine⟨_,λg'=> .bool _,?_⟩;exact Any.utf8_ValidString aQl ⟨s.toArray⟩ g.w (by show s.toArray.size<=_;simpa using hs) (aMk hgl)
 |[],hv=>have:=hv.1;simp at this|_ ::_ ::_,hv=>have:=hv.1;simp at this
open Classical in
noncomputable def peZ:FuncId->List T->Option T:=λf ts=>
 if f=115 then(match ts with
  |[.str a,.str b]=>if a.length<4294967281/\b=Bf then some (.int .i64 (Lib.indexAny a b))else none
  |_ =>none)
 else if f=207 then(match ts with
  |[.str a,.str b]=>if a.length<4294967281 then some (.tup [.str (Lib.cut a b).1,.str (Lib.cut a b).2.1,.bool (Lib.cut a b).2.2])else none
  |_ =>none)
 else if f=208 then(match ts with
  |[.str a]=>if a.length<=281474976710656 then some (.tup [.int .i64 (aV a),aE a])else none
  |_ =>none)
 else if f=56 then(match ts with
  |[.str a]=>if a.length<=9223372036854775807 then some (.bool (Lib.validD a))else none
  |_ =>none)
 else if f=40 then Zg ts
 else none
theorem Qi{m:Int}{te:fS}{f:gV}{ts:fU}{r:T}(h:peZ f ts=some r):pW prog (glZ m te) f ts r:=by
 unfold peZ at h;split at h
 .rename_i e;subst e;split at h
  .split at h
   .rename_i hc;obtain⟨h1,rfl⟩:=hc;cases h;exact bCx _ h1
   .cases h
  .cases h
 .split at h
  .rename_i e;subst e;split at h
   .split at h
    .rename_i hc;cases h;exact aWd _ _ hc
    .cases h
   .cases h
  .split at h
   .rename_i e;subst e;split at h
    .split at h
     .rename_i hc;cases h;exact aNw _ hc
     .cases h
    .cases h
   .split at h
    .rename_i e;subst e;split at h
     .split at h
      .rename_i hc;cases h;exact aMr _ hc
      .cases h
     .cases h
    .split at h
     .rename_i e;subst e;exact aAi (Zh (U:=GF) (by kernel_rfl) (λg hg n h0 h1=>tab hg n h0 h1) ts r h)
     .cases h
theorem PcOk.of{P:fV}{gl:fY}{pe:gG}(h:∀f ts r,pe f ts=some r->pW P gl f ts r):PcOk P gl pe:=λf ts r hr=>
 ⟨(h f ts r hr).1,λg vs hg hal hgl hv=>(h f ts r hr).2 g vs hg ⟨0,λl _ =>hal l⟩ hgl hv⟩
theorem aYc:PcOk prog (glZ m te) peZ:=PcOk.of λf ts r h=>Qi h
end Go.Proofs.Tryz
namespace Go.Ps
noncomputable section
open Go.RowKit
abbrev E0:Hp:=⟨0,.nl⟩
def Ax:Hp->Bool
 |⟨n,l⟩=>Nat.beq n 0&&(match l with
  | .nl=>true|_ =>false)
theorem XZ{H:Hp}(h:Ax H=true):H=E0:=by
 obtain⟨n,l⟩:=H;unfold Ax at h;simp only[aA]at h;have:=aF h.1;subst this;cases l with
 |nl=>rfl|nd o a b=>simp at h
def JM(gl:fY)(fr:fU)(o:Oper):Option (Nat×List T):=
 match o.op with
 | .call c=>match c.callee with
  | .value f=>match qG gl fr f with
   |some (.fn (.yield l) [] [])=>match uO gl fr c.args.toList with
    |some ars=>some (l,ars)|none=>none
   |_ =>none
  |_ =>none
 |_ =>none
abbrev Ba:=List (Nat×List T)
inductive Xc where
 |y (q:Nat×List T)
 |ask (f:gV) (ts:fU) (outs:Ba) (rt rs:T)
abbrev MZ:=List Xc
def Xc.vals:Xc->Ba
 | .y q=>[q]| .ask _ _ outs _ _ =>outs
def vals:MZ->Ba
 |[]=>[]|i::r=>i.vals++vals r
theorem CW:∀(a b:MZ),vals (a++b)=vals a++vals b
 |[],_ =>rfl|i::a,b=>by simp[vals,CW a b]
abbrev iV:=FuncId->List T->Option (Ba×T×T)
def Mw(Yc:iV)(gl:fY)(fr:fU)(o:Oper):Option (Xc×T×T):=
 match o.op with
 | .call c=>match c.callee with
  | .value f=>match qG gl fr f with
   |some (.fn (.func g) first cap)=>match uO gl fr c.args.toList with
    |some ars=>match Yc g (first++ars++cap)with
     |some (outs,rt,rs)=>some (.ask g (first++ars++cap) outs rt rs,rt,rs)
     |none=>none
    |none=>none
   |_ =>none
  |_ =>none
 |_ =>none
def aId(Yc:iV)(gl:fY)(fr:fU)(o:Oper):Option (Xc×T×T):=
 match JM gl fr o with
 |some q=>some (.y q,.bool true,.bool false)|none=>Mw Yc gl fr o
def X.isN:X->Bool
 | .normal=>true|_ =>false
def exB(id:Nat):X->X
 | .exit id'=>if id'=id then .normal else .exit id'
 |x=>x
section
variable(P:fV)(E:tY)(F:Fc)(Yc:iV)(n:Nat)
def PB(ops:fZ):List Oper->Fx->Option ((List T×MZ)×List (List T))
 |[],s=>match s.pend with
  |none=>if Ax s.H then some ((s.fr,[]),[])else none
  |some _ =>none
 |o::rest,s=>
  match(if qH ops s.fr o&&(s.pend.isNone&&Ax s.H)then aId Yc E.gl s.fr o else none)with
  |some (it,rt,rs)=>match PB ops rest ⟨qU s.fr o.dst rt,E0,none⟩with
   |some ((fr',o'),st)=>match qL P E F ops rest ⟨qU s.fr o.dst rs,E0,none⟩with
    |some ⟨f2,H2,none⟩=>if Ax H2 then some ((fr',it::o'),f2::st)else none
    |_ =>none
   |none=>none
  |none=>match sE P E F ops s o with
   |some s'=>if Ax s'.H then PB ops rest s' else none
   |none=>none
def Ak(b:Code):List (X×List T)->Option (List (X×List T))
 |[]=>some []
 |(x,f)::r=>match Ak b r with
  |some r'=>match x with
   | .normal=>match pU P E F n b f E0 with
    |some (x',f',H')=>if Ax H' then some ((x',f')::r')else none
    |none=>none
   |x=>some ((x,f)::r')
  |none=>none
abbrev YR:=(X×List T×MZ)×List (X×List T)
def OE(f:List T->Option YR):Nat->List T->Option YR
 |0,_ =>none
 |k+1,fr=>match f fr with
  | some ((x,fr',o),st)=>if st.all λq=> !q.1.isN then match x with
    | .normal=>match OE f k fr' with
     |some ((x2,f2,o2),s2)=>some ((x2,f2,o++o2),st++s2)|none=>none
    |x=>some ((x,fr',o),st)
   else none
  |none=>none
def wJ:Code->List T->Option YR
 | .region id ops draw,fr=>if draw then match pU P E F n (.region id ops draw) fr E0 with
   |some (x,fr',H')=>if Ax H' then some ((x,fr',[]),[])else none
   |none=>none
  else match PB P E F Yc ops ops.toList ⟨fr,E0,none⟩with
   |some ((fr',o),st)=>some ((.normal,fr',o),st.map λf=>(.normal,f))|none=>none
 | .seq a b,fr=>match wJ a fr with
  |some ((x1,fr1,o1),s1)=>match Ak P E F n b s1 with
   |some s1'=>match x1 with
    | .normal=>match wJ b fr1 with
     |some ((x2,fr2,o2),s2)=>some ((x2,fr2,o1++o2),s1'++s2)|none=>none
    |x=>some ((x,fr1,o1),s1')
   |none=>none
  |none=>none
 | .cond c a b,fr=>match qG E.gl fr c with
  |some (.bool t)=>if t then wJ a fr else wJ b fr
  |_ =>none
 | .block id c,fr=>match wJ c fr with
  |some ((x,fr',o),st)=>some ((exB id x,fr',o),st.map λq=>(exB id q.1,q.2))|none=>none
 | .loop c,fr=>OE (wJ c) n fr
 |c,fr=>match pU P E F n c fr E0 with
  |some (x,fr',H')=>if Ax H' then some ((x,fr',[]),[])else none
  |none=>none
end
structure KS(g g':G):Prop where
 sub:∀b,g.S b->g'.S b
 keep:∀b,g.S b->g'.w.heap[b]? =g.w.heap[b]?
theorem KS.trans{a b c:G}(h:KS a b)(k:KS b c):KS a c:=⟨λx q=>k.sub x (h.sub x q),λx q=>(k.keep x (h.sub x q)).trans (h.keep x q)⟩
theorem PStep.ks{g g':G}(hok:rZ g)(h:PStep g g'):KS g g':=⟨h.sub,λb hb=>h.block b (hok b hb)⟩
def YF(P:fV)(gl:fY)(L:Nat)(f:gV)(ts:fU)(outs:Ba)(rt rs:T):Prop:=
 vL P f=true/\∀xs J Jx,YP P gl L xs J Jx->∀(p:iU) (g:G) (vs:gM),(p++outs.map Prod.snd)<+:xs->(∀q∈outs,q.1=L)->rZ g->(∀l,¬g.al l)->GlOk gl g->RdL g vs ts->J p g->
  Calls P f vs.toArray g.w λe W'=>∃v g',e= .returned v/\g'.w=W'/\KS g g'/\rZ g'/\(∀l,¬g'.al l)/\((J (p++outs.map Prod.snd) g'/\Rd g' v rt)\/(∃pre,Jx pre g'/\Rd g' v rs))
def Xc.Ok(P:fV)(gl:fY)(L:Nat):Xc->Prop
 | .y q=>q.1=L| .ask f ts outs rt rs=>YF P gl L f ts outs rt rs/\∀q∈outs,q.1=L
abbrev CI(E:tY)(g:G)(a:Act)(fr:fU):Prop:=qT E g E0 g a fr E0
theorem CI.no{E:tY}{g:G}{a:Act}{fr:fU}(h:CI E g a fr):∀l,¬g.al l:=λl=>h.st.new l (Nat.zero_le _)
section
variable{P:fV}{E:tY}{F:Fc}{Yc:iV}{L:Nat}
theorem bHy{g:G}(h:∀l,¬g.al l):St g E0:=St.empty g h
theorem CI.mk'{g:G}{a:Act}{fr:fU}(h1:rZ g)(h2:∀l,¬g.al l)(h3:GlOk E.gl g)(h4:a.defers=[])(h5:RdL g a.tmps.toList fr):CI E g a fr:=⟨h1,bHy h2,h3,h4,h5,qF.refl _ _⟩
theorem qT.toP{g0 g:G}{a:Act}{fr:fU}(h:qT E g0 E0 g a fr E0)(h0:∀l,¬g0.al l):∃g':G,g'.w=g.w/\PStep g0 g'/\CI E g' a fr:=by
 have hn:∀l,¬g.al l:=λl=>h.st.new l (Nat.zero_le _);have hk:∀l,g.al l->g0.al l/\g0.loc l=g.loc l/\g0.cp l=g.cp l:=λl q=>absurd q (hn l)
 refine⟨{w:=g.w,S:=g.S,al:=g0.al,loc:=g0.loc,cp:=g0.cp},rfl,⟨h.step.os,h.step.tape,h.step.output,h.step.size,λb hb=>h.step.block b hb (λl o ho=>(by rw[uI]at ho;cases ho)),h.step.sub,λb hb=> ?_,rfl,rfl,rfl⟩,
  CI.mk' h.ok h0 (GlOk.keepS (g:=g) (g':={w:=g.w,S:=g.S,al:=g0.al,loc:=g0.loc,cp:=g0.cp}) (λ_ q=>q) (λ_ _ =>rfl) hk h.gl) h.df (RdL.keepS (g:=g) (g':={w:=g.w,S:=g.S,al:=g0.al,loc:=g0.loc,cp:=g0.cp}) (λ_ q=>q) (λ_ _ =>rfl) hk h.fr)⟩
 rcases h.step.fresh b hb with q|q|⟨l,o,ho,_⟩
 .exact .inl q
 .exact .inr q
 .rw[uI]at ho;cases ho
theorem CI.next{g g':G}{a:Act}{fr:fU}(h:CI E g a fr)(hk:KS g g')(h1:rZ g')(h2:∀l,¬g'.al l){d:jA}{v:gQ}{t:T}(hv:Rd g' v t):CI E g' (a.put d v) (qU fr d t):=by
 have hal:∀l,g.al l->g'.al l/\g'.loc l=g.loc l/\g'.cp l=g.cp l:=λl q=>absurd q (h.no l);have hf:RdL g' a.tmps.toList fr:=h.fr.keepS hk.sub hk.keep hal;exact CI.mk' h1 h2 (h.gl.keepS hk.sub hk.keep hal) (by rw[tJ];exact h.df) ((EB.of hf none).put hv).all
theorem aLy(hE:vP P E.gl E.pe)(hF:tX P E.gl F.ee){xs:iU}{J Jx:List (List T)->G->Prop}(hJ:YP P E.gl L xs J Jx){ops:fZ}(hp:uD ops=true){Q:gC}(hno:∀a w,¬Q .outgrown a w):
  ∀(l:gW) (k:Nat) (s:Fx) (fr':fU) (o:MZ) (st:iU),(∀j,l[j]? =ops[k+j]?)->PB P E F Yc ops l s=some ((fr',o),st)->
  ∀(p:iU) (g0 g:G) (a:Act),Inv P E g0 E0 g a s->rZ g0->(∀l,¬g0.al l)->J p g0->(p++(vals o).map Prod.snd)<+:xs->(∀q∈o,q.Ok P E.gl L)->
   (∀a' g',CI E g' a' fr'->J (p++(vals o).map Prod.snd) g'->KS g0 g'->Q .normal a' g'.w)->(∀f∈st,∀a' g' pre,CI E g' a' f->Jx pre g'->KS g0 g'->Q .normal a' g'.w)->
   wpOpsIn (Fw none) 0 P ops Q (List.range' k l.length) a g.w:=by
 intro l
 induction l with
 |nil=>
  intro k s fr' o st _ he p g0 g a hi hok0 hn0 hJp hpre hL hQ _;simp only[PB]at he;split at he
  .rename_i hpn;split at he
   .rename_i hH;simp only[aC,aU]at he;obtain⟨⟨rfl,rfl⟩,rfl⟩:=he;have hH':=XZ hH;have hci:=hi.toC (qF.refl E0 g0) hpn;rw[hH']at hci;obtain⟨g',e,hps,hci'⟩:=hci.toP hn0;show Q .normal a g.w;rw[<-e];have:=hJ.cj _ _ _ hJp hps hci'.ok;exact hQ a g' hci' (by simpa [vals]using this) (hps.ks hok0)
   .cases he
  .cases he
 |cons o l ih=>
  intro k s fr' os st hl he p g0 g a hi hok0 hn0 hJp hpre hL hQ hQx;have h0:ops[k]? =some o:=by simpa using(hl 0).symm
  have hl':∀j,l[j]? =ops[k+1+j]? :=λj=>by have:=hl (j+1);simpa [dW,Nat.add_comm 1 j]using this
  rw[bL,eU,wpOpsIn_cons];simp only[PB]at he;split at he
  .rename_i it rt rs heff;split at heff
   .rename_i hcond;simp only[aA]at hcond;obtain⟨hw,hpn,hH⟩:=hcond;have hpn:s.pend=none:=by simpa using hpn
    have hH':=XZ hH;have hci:=hi.toC (qF.refl E0 g0) hpn;rw[hH']at hci;obtain⟨g1,e1,hps,hc1⟩:=hci.toP hn0;have hJ1:=hJ.cj _ _ _ hJp hps hc1.ok;have hk1:=hps.ks hok0;rw[<-e1];split at he
    .rename_i f1 o1 st1 hrest;split at he
     .rename_i f2 H2 hstop;split at he
      .rename_i hH2;simp only[aC,aU]at he;obtain⟨⟨rfl,rfl⟩,rfl⟩:=he;have hH2':=XZ hH2;subst hH2';have hwd:Region.wanted o (yielded ops a.tmps)=true:=by
        have hx:=EB.of hc1.fr none;rw[SQ hx (λd _ =>by simp)];exact hw
       have goT:∀v W' (g':G),g'.w=W'->KS g1 g'->rZ g'->(∀l,¬g'.al l)->J (p++it.vals.map Prod.snd) g'->Rd g' v rt->wpOpsIn (Fw none) 0 P ops Q (List.range' (k+1) l.length) (a.put o.dst v) W':=by
        intro v W' g' eW hk hok hn hJ' hv;subst eW;have hc2:=hc1.next hk hok hn (d:=o.dst) hv;refine ih (k+1) ⟨qU s.fr o.dst rt,E0,none⟩ f1 o1 st1 hl' hrest (p++it.vals.map Prod.snd) g' g' (a.put o.dst v) hc2.toInv hok hn hJ' (by simpa [vals,dS]using hpre) (λq hq=>hL q (by simp[hq])) ?_ ?_
        .intro a' g2 hc hj hks;exact hQ a' g2 hc (by simpa [vals,dS]using hj) (hk1.trans (hk.trans hks))
        .intro f hf a' g2 pre hc hj hks;exact hQx f (by simp[hf]) a' g2 pre hc hj (hk1.trans (hk.trans hks))
       have goS:∀v W' (g':G) pre,g'.w=W'->KS g1 g'->rZ g'->(∀l,¬g'.al l)->Jx pre g'->Rd g' v rs->wpOpsIn (Fw none) 0 P ops Q (List.range' (k+1) l.length) (a.put o.dst v) W':=by
        intro v W' g' pre eW hk hok hn hJ' hv;subst eW;have hc2:=hc1.next hk hok hn (d:=o.dst) hv
        have:=ZX (P:=P) (E:=E) (F:=F) (g0:=g') (H0:=E0) (Q:=λe a w=>Q e (DS [] a) w) hE hF l (k+1) _ _ (a.put o.dst v) g' hl' hc2.toInv hstop (λa' g2 hi'=>by
         have hci:=hi'.toC (qF.refl E0 g') rfl;obtain⟨g3,e3,hps3,hc3⟩:=hci.toP hn;rw[yW,<-e3]
         exact hQx f2 (by simp) a' g3 pre hc3 (hJ.cx _ _ _ hJ' hps3 hc3.ok) (hk1.trans (hk.trans (hps3.ks hok))))
        have:=PN (ro:=none) (n:=0) hp hno _ _ _ this
        rwa [yW]at this
       unfold wpOpIn;rw[h0];simp only[hwd,if_true];refine⟨λ_ _ =>trivial,?_⟩;have ep:o.semAt (Fw none).round a.eval=execOp a.eval o:=Oper.semAt_eq _ _ _ (JA hp h0);rw[ep];unfold aId at heff;split at heff
       .
        rename_i q hq;simp only[aC,aU]at heff;obtain⟨rfl,rfl,rfl⟩:=heff;unfold JM at hq;split at hq
        .rename_i c hop;split at hq
         .rename_i f hcal;split at hq
          .rename_i l1 hev;split at hq
           .rename_i ars hars;simp only[aC]at hq;subst hq;have hL1:l1=L:=hL (.y (l1,ars)) (by simp);subst hL1;obtain⟨callee,args,tys⟩:=c;simp only at hcal hars;subst hcal;have hx:=EB.of hc1.fr none;obtain⟨vs,us,hv,hr1,hr2⟩:=(hx.eval hc1.gl (λ_ _ =>by simp) hev).inv_fn;have h3:=vC (g:=g1) (a:=a) hars (λx hx' t ht=>hx.eval hc1.gl (λ_ _ =>by simp) ht);have ev1:vs=[]:=dR.1 (by simpa using hr1.1);have ev2:us=[]:=dR.1 (by simpa using hr2.1);subst ev1;subst ev2
            obtain⟨fn,tmps,a_s,bd,hy,hR⟩:=hJ.y p ars (args.toList.map a.eval) g1 (by
             refine List.IsPrefix.trans ?_ hpre
             simp[vals,Xc.vals,dS]) hc1.ok hc1.no hc1.gl h3 hJ1
            have hrun:(execOp a.eval o).run P g1.w= .ok (.round l1 fn tmps a_s bd) g1.w:=by
             simp only[execOp,hop,resolve,hv,Deferred.ofValue,aP,aX,aI,invoke,rP];simpa using hy
            rw[hrun];refine⟨λh=>(by cases h),hR.mono ?_⟩;rintro e W' ⟨hsz,hkp,(⟨rfl,hj⟩|⟨rfl,hj⟩)⟩
            .exact goT (.bool true) W' {g1 with w:=W'} rfl ⟨λ_ h=>h,hkp⟩ (λb hb=>bT (hc1.ok b hb) hsz) hc1.no (by simpa [Xc.vals]using hj) (.bool true)
            .exact goS (.bool false) W' {g1 with w:=W'} _ rfl ⟨λ_ h=>h,hkp⟩ (λb hb=>bT (hc1.ok b hb) hsz) hc1.no hj (.bool false)
           .cases hq
          .cases hq
         .cases hq
        .cases hq
       .
        unfold Mw at heff;split at heff
        .rename_i c hop;split at heff
         .rename_i f hcal;split at heff
          .rename_i k1 first cap hev
           split at heff
           .rename_i ars hars;obtain⟨callee,args,tys⟩:=c;simp only at hcal hars;subst hcal;have hx:=EB.of hc1.fr none;obtain⟨vs,us,hv,hr1,hr2⟩:=(hx.eval hc1.gl (λ_ _ =>by simp) hev).inv_fn;have h3:=vC (g:=g1) (a:=a) hars (λx hx' t ht=>hx.eval hc1.gl (λ_ _ =>by simp) ht);split at heff
            .rename_i outs rt0 rs0 hyc;simp only[aC,aU]at heff;obtain⟨rfl,rfl,rfl⟩:=heff;obtain⟨⟨hk,hc⟩,hLo⟩:=hL _ aL;have hcall:=hc xs J Jx hJ p g1 _ (List.IsPrefix.trans (by simp[vals,Xc.vals,dS]) hpre) hLo hc1.ok hc1.no hc1.gl ((hr1.append h3).append hr2) hJ1;have hrun:(execOp a.eval o).run P g1.w= .ok (.enter k1 (vs++args.toList.map a.eval++us).toArray) g1.w:=by
              simp only[execOp,hop,resolve,hv,Deferred.ofValue,aP,aX,aI,invoke,rP];rw[FA hk];simp
             rw[hrun];refine⟨λh=>(by cases h),uY.2 (hcall.mono ?_)⟩;rintro e W' ⟨v,g',rfl,eW,hks,hok',hn',(⟨hj,hv'⟩|⟨pre,hj,hv'⟩)⟩
             .exact goT v W' g' eW hks hok' hn' hj hv'
             .exact goS v W' g' pre eW hks hok' hn' hj hv'
            .cases heff
           .cases heff
          .cases heff
         .cases heff
        .cases heff
      .cases he
     .cases he
    .cases he
   .cases heff
  .split at he
   .rename_i s' hs';split at he
    .rename_i hH;have h1:=PK (P:=P) (E:=E) (F:=F) (g0:=g0) (H0:=E0) (Q:=λe a w=>Q e (DS [] a) w) hE hF hi hs' h0 (K:=λa' w'=>∃g',g'.w=w'/\Inv P E g0 E0 g' a' s') (λa' g' h'=>⟨g',rfl,h'⟩)
     have:=VL (ro:=none) (n:=0) (ds:=[]) (K':=wpOpsIn (Fw none) 0 P ops Q (List.range' (k+1) l.length)) hp hno (λa' w' ⟨g',e,h'⟩=>by
      rw[yW,<-e]
      exact ih (k+1) s' fr' os st hl' he p g0 g' a' h' hok0 hn0 hJp hpre hL hQ hQx) h1
     rwa [yW]at this
    .cases he
   .cases he
theorem Fh(hm:P.follows .mixedOrders=true)(hE:vP P E.gl E.pe)(hF:tX P E.gl F.ee){xs:iU}{J Jx:List (List T)->G->Prop}(hJ:YP P E.gl L xs J Jx){n:Nat}{c:Code}(hok:codeOk c=true)(hin:tR c=true){fr fr':fU}{x:X}{H':Hp}(he:pU P E F n c fr E0=some (x,fr',H'))(hH:Ax H'=true)
  {Q:gC} (hno:∀a w,¬Q .outgrown a w) {g:G} {a:Act} (hc:CI E g a fr) (hQ:∀a' g',CI E g' a' fr'->PStep g g'->Q x.exit_ a' g'.w):c.wpIn (Fw none) 0 P Q a g.w:=by
 have hH':=XZ hH;subst hH'
 have:=NP (ds:=[]) (ro:=none) (n:=0) hm hE hF n c fr E0 x fr' E0 hok hin he g g E0 a hc Q hno (λa' g' hc'=>by
  obtain⟨g2,e,hp,hc2⟩:=hc'.toP hc.no;rw[yW,<-e]
  exact hQ a' g2 hc2 hp)
 rwa [yW]at this
abbrev jR:=List (X×List T)
theorem aHr(hm:P.follows .mixedOrders=true)(hE:vP P E.gl E.pe)(hF:tX P E.gl F.ee){xs:iU}{J Jx:List (List T)->G->Prop}(hJ:YP P E.gl L xs J Jx){n:Nat}:
  ∀(c:Code) (fr:fU) (x:X) (fr':fU) (o:MZ) (st:jR),codeOk c=true->tR c=true->wJ P E F Yc n c fr=some ((x,fr',o),st)->
  ∀(Q:gC),(∀a w,¬Q .outgrown a w)->∀(p:iU) (g:G) (a:Act),CI E g a fr->J p g->(p++(vals o).map Prod.snd)<+:xs->(∀q∈o,q.Ok P E.gl L)->
   (∀a' g',CI E g' a' fr'->J (p++(vals o).map Prod.snd) g'->KS g g'->Q x.exit_ a' g'.w)->(∀q∈st,∀a' g' pre,CI E g' a' q.2->Jx pre g'->KS g g'->Q q.1.exit_ a' g'.w)->
   c.wpIn (Fw none) 0 P Q a g.w:=by
 have plain:∀(c:Code) (fr:fU) (x:X) (fr':fU) (o:MZ) (st:jR),codeOk c=true->tR c=true->(match pU P E F n c fr E0 with
   |some (x,fr',H')=>if Ax H' then some ((x,fr',[]),[])else none
   |none=>none)=some ((x,fr',o),st)->
  ∀(Q:gC),(∀a w,¬Q .outgrown a w)->∀(p:iU) (g:G) (a:Act),CI E g a fr->J p g->(p++(vals o).map Prod.snd)<+:xs->(∀q∈o,q.Ok P E.gl L)->
   (∀a' g',CI E g' a' fr'->J (p++(vals o).map Prod.snd) g'->KS g g'->Q x.exit_ a' g'.w)->(∀q∈st,∀a' g' pre,CI E g' a' q.2->Jx pre g'->KS g g'->Q q.1.exit_ a' g'.w)->
   c.wpIn (Fw none) 0 P Q a g.w:=by
  intro c fr x fr' o st hok hin he Q hno p g a hc hj _ _ hQ _;split at he
  .rename_i x1 fr1 H1 hev;split at he
   .rename_i hH;simp only[aC,aU]at he;obtain⟨⟨rfl,rfl,rfl⟩,rfl⟩:=he;exact Fh hm hE hF hJ hok hin hev hH hno hc (λa' g' hc' hp=>hQ a' g' hc' (by simpa [vals]using hJ.cj _ _ _ hj hp hc'.ok) (hp.ks hc.ok))
   .cases he
  .cases he
 intro c
 induction c with
 |region id ops draw=>
  intro fr x fr' o st hok hin he Q hno p g a hc hj hpre hL hQ hQx;simp only[wJ]at he;split at he
  .exact plain _ _ _ _ _ _ hok hin he Q hno p g a hc hj hpre hL hQ hQx
  .rename_i hd;have hd:draw=false:=by simpa using hd
   subst hd;split at he
   .rename_i f1 o1 s1 hs;simp only[aC,aU]at he;obtain⟨⟨rfl,rfl,rfl⟩,rfl⟩:=he;refine wpIn_region ?_;have:=aLy hE hF hJ (Q:=Q) (ops:=ops) hin hno ops.toList 0 _ _ _ _ (λj=>by simp) hs p g g a hc.toInv hc.ok hc.no hj hpre hL hQ (λf hf a' g' pre h1 h2 h3=>hQx (.normal,f) (bQ.2 ⟨f,hf,rfl⟩) a' g' pre h1 h2 h3)
    rwa [dH,<-List.range_eq_range']at this
   .cases he
 |seq c1 c2 ih1 ih2=>
  intro fr x fr' o st hok hin he Q hno p g a hc hj hpre hL hQ hQx;simp only[codeOk,aA]at hok;simp only[tR,aA]at hin;simp only[wJ]at he;refine wpIn_seq ?_;split at he
  .rename_i x1 fr1 o1 s1 h1;split at he
   .rename_i s1' hthru;have stops:∀(s1 s1':jR),Ak P E F n c2 s1=some s1'->(∀q∈s1',∀a' g' pre,CI E g' a' q.2->Jx pre g'->KS g g'->Q q.1.exit_ a' g'.w)->
      ∀q∈s1,∀a' g' pre,CI E g' a' q.2->Jx pre g'->KS g g'->Exit.then (c2.wpIn (Fw none) 0 P Q) Q q.1.exit_ a' g'.w:=by
     intro s1
     induction s1 with
     |nil=>intro s1' _ _ q hq;simp at hq
     |cons y s1 ihs=>
      intro s1' ht hall q hq a' g' pre hc' hj' hks;obtain⟨xa,fa⟩:=y;simp only[Ak]at ht;split at ht
      .rename_i r' hr';rcases aR.1 hq with rfl|hq
       .split at ht
        .split at ht
         .rename_i x' f' H' hev;split at ht
          .rename_i hH;cases ht;show c2.wpIn (Fw none) 0 P Q a' g'.w;exact Fh hm hE hF hJ hok.2 hin.2 hev hH hno hc' (λa2 g2 hc2 hp=>hall (x',f') (by simp) a2 g2 pre hc2 (hJ.cx _ _ _ hj' hp hc2.ok) (hks.trans (hp.ks hc'.ok)))
          .cases ht
         .cases ht
        .rename_i hxn;cases ht;have:=hall (xa,fa) (by simp) a' g' pre hc' hj' hks;cases xa with
         |normal=>exact absurd rfl hxn|exit id=>exact this|ret=>exact this
       .refine ihs r' hr' (λy hy=>hall y ?_) q hq a' g' pre hc' hj' hks;split at ht
        .split at ht
         .split at ht
          .cases ht;exact aG _ hy
          .cases ht
         .cases ht
        .cases ht;exact aG _ hy
      .cases ht
    split at he
    .rename_i hx1;split at he
     .rename_i x2 fr2 o2 s2 h2;simp only[aC,aU]at he;obtain⟨⟨rfl,rfl,rfl⟩,rfl⟩:=he;refine ih1 _ _ _ _ _ hok.1 hin.1 h1 _ (uV hno) p g a hc hj (List.IsPrefix.trans (by simp[CW]) hpre) (λq hq=>hL q (by simp[hq])) ?_ (stops s1 s1' hthru (λq hq=>hQx q (by simp[hq])));intro a' g' hc' hj' hks;show c2.wpIn (Fw none) 0 P Q a' g'.w;exact ih2 _ _ _ _ _ hok.2 hin.2 h2 Q hno (p++(vals o1).map Prod.snd) g' a' hc' hj' (by simpa [CW,dS]using hpre) (λq hq=>hL q (by simp[hq])) (λa2 g2 q1 q2 q3=>hQ a2 g2 q1 (by simpa [CW,dS]using q2) (hks.trans q3))
       (λq hq a2 g2 pre q1 q2 q3=>hQx q (by simp[hq]) a2 g2 pre q1 q2 (hks.trans q3))
     .cases he
    .rename_i hx1;simp only[aC,aU]at he;obtain⟨⟨rfl,rfl,rfl⟩,rfl⟩:=he;refine ih1 _ _ _ _ _ hok.1 hin.1 h1 _ (uV hno) p g a hc hj hpre hL ?_ (stops s1 s1' hthru (λq hq=>hQx q hq));intro a' g' hc' hj' hks;have:=hQ a' g' hc' hj' hks;cases x1 with
     |normal=>exact absurd rfl hx1|exit id=>exact this|ret=>exact this
   .cases he
  .cases he
 |cond oc c1 c2 ih1 ih2=>
  intro fr x fr' o st hok hin he Q hno p g a hc hj hpre hL hQ hQx;simp only[codeOk,aA]at hok;simp only[tR,aA]at hin;simp only[wJ]at he;split at he
  .rename_i b hb;have hr:=(EB.of hc.fr none).eval hc.gl (λ_ _ =>by simp) hb;refine wpIn_cond (t:=b) hr.inv_bool ?_;cases b with
   |true=>exact ih1 _ _ _ _ _ hok.1 hin.1 (by simpa using he) Q hno p g a hc hj hpre hL hQ hQx|false=>exact ih2 _ _ _ _ _ hok.2 hin.2 (by simpa using he) Q hno p g a hc hj hpre hL hQ hQx
  .cases he
 |block id c ih=>
  intro fr x fr' o st hok hin he Q hno p g a hc hj hpre hL hQ hQx;simp only[codeOk]at hok;simp only[tR]at hin;simp only[wJ]at he;split at he
  .rename_i x1 f1 o1 s1 h1;simp only[aC,aU]at he;obtain⟨⟨rfl,rfl,rfl⟩,rfl⟩:=he;have hb:∀(x:X) a w,Q (exB id x).exit_ a w->Exit.inBlock id Q x.exit_ a w:=λx a w h=>by
    cases x with
    |normal=>exact h|ret=>exact h
    |exit id'=>
     simp only[X.exit_,Exit.inBlock];by_cases e:id'=id
     .rw[if_pos e];simpa [exB,e,X.exit_]using h
     .rw[if_neg e];simpa [exB,e,X.exit_]using h
   refine wpIn_block (ih _ _ _ _ _ hok hin h1 (Exit.inBlock id Q) (λa w h=>hno a w h) p g a hc hj hpre hL (λa' g' q1 q2 q3=>hb _ _ _ (hQ a' g' q1 q2 q3)) (λq hq a' g' pre q1 q2 q3=>hb _ _ _ (hQx (exB id q.1,q.2) (bQ.2 ⟨q,hq,rfl⟩) a' g' pre q1 q2 q3)))
  .cases he
 |loop c ih=>
  intro fr x fr' o st hok hin he Q hno p g a hc hj hpre hL hQ hQx;simp only[codeOk]at hok;simp only[tR]at hin;simp only[wJ]at he;refine wpIn_loop_rounds n ?_;have key:∀(k:Nat) (fr:fU) (x:X) (fr':fU) (o:MZ) (st:jR) (p:iU) (g:G) (a:Act),OE (wJ P E F Yc n c) k fr=some ((x,fr',o),st)->CI E g a fr->J p g->(p++(vals o).map Prod.snd)<+:xs->(∀q∈o,q.Ok P E.gl L)->
    (∀a' g',CI E g' a' fr'->J (p++(vals o).map Prod.snd) g'->KS g g'->Q x.exit_ a' g'.w)->(∀q∈st,∀a' g' pre,CI E g' a' q.2->Jx pre g'->KS g g'->Q q.1.exit_ a' g'.w)->Code.roundsIn (Fw none) 0 P c Q k a g.w:=by
   intro k
   induction k with
   |zero=>intro fr x fr' o st p g a h;simp[OE]at h
   |succ k ihk=>
    intro fr x fr' o st p g a h hc hj hpre hL hQ hQx;simp only[OE]at h;rw[roundsIn_succ];split at h
    .rename_i x1 f1 o1 s1 h1;split at h
     .rename_i hall;rw[aH]at hall;have notn:∀(K:iP) (q:X×List T),(!q.1.isN)=true->∀a w,Q q.1.exit_ a w->Exit.then K Q q.1.exit_ a w:=λK q hq a w hh=>by
       obtain⟨xq,fq⟩:=q;cases xq with
       |normal=>cases hq|exit id=>exact hh|ret=>exact hh
      split at h
      .split at h
       .rename_i x2 f2 o2 s2 h2;simp only[aC,aU]at h;obtain⟨⟨rfl,rfl,rfl⟩,rfl⟩:=h;refine ih _ _ _ _ _ hok hin h1 _ (uV hno) p g a hc hj (List.IsPrefix.trans (by simp[CW]) hpre) (λq hq=>hL q (by simp[hq])) ?_ (λq hq a' g' pre q1 q2 q3=>notn _ q (hall q hq) _ _ (hQx q (by simp[hq]) a' g' pre q1 q2 q3));intro a' g' hc' hj' hks;exact ihk _ _ _ _ _ (p++(vals o1).map Prod.snd) g' a' h2 hc' hj' (by simpa [CW,dS]using hpre) (λq hq=>hL q (by simp[hq])) (λa2 g2 q1 q2 q3=>hQ a2 g2 q1 (by simpa [CW,dS]using q2) (hks.trans q3))
         (λq hq a2 g2 pre q1 q2 q3=>hQx q (by simp[hq]) a2 g2 pre q1 q2 (hks.trans q3))
       .cases h
      .rename_i hxn;simp only[aC,aU]at h;obtain⟨⟨rfl,rfl,rfl⟩,rfl⟩:=h;refine ih _ _ _ _ _ hok hin h1 _ (uV hno) p g a hc hj hpre hL ?_ (λq hq a' g' pre q1 q2 q3=>notn _ q (hall q hq) _ _ (hQx q hq a' g' pre q1 q2 q3));intro a' g' hc' hj' hks;have:=hQ a' g' hc' hj' hks;cases x1 with
       |normal=>exact absurd rfl hxn|exit id=>exact this|ret=>exact this
     .cases h
    .cases h
  exact key n fr x fr' o st p g a he hc hj hpre hL hQ hQx
 |_ =>
  intro fr x fr' o st hok hin he;simp only[wJ]at he;exact plain _ _ _ _ _ _ hok hin he
def xG(P:fV)(E:tY)(F:Fc)(Yc:iV)(n:Nat)(f:gV)(args:fU):Option ((T×MZ)×List T):=
 match P.funcs[f]? with
 |some fn=>match fn.body with
  |some c=>match wJ P E F Yc n c (args++List.replicate (fn.ntmps-args.length) pV)with
   |some ((x,fr,o),st)=>match endY fn.results.toList (x,fr)with
    |some t=>match mapO (endY fn.results.toList) st with
     |some ts=>some ((t,o),ts)|none=>none
    |none=>none
   |none=>none
  |none=>none
 |none=>none
 where
 endY (rs:jH):X×List T->Option T
  |(.exit _,_)=>none
  |(_,fr)=>match sS P fr E0 rs with
   |some [t]=>some t|some ts=>some (.tup ts)|none=>none
 mapO (f:X×List T->Option T):List (X×List T)->Option (List T)
  |[]=>some []
  |q::r=>match f q with
   |some t=>match mapO f r with
    |some ts=>some (t::ts)|none=>none
   |none=>none
theorem Eq{f:X×List T->Option T}:∀{st:jR} {ts:fU},xG.mapO f st=some ts->∀q∈st,∃t∈ts,f q=some t
 |[],_,_,q,hq=>by simp at hq
 |y::r,ts,h,q,hq=>by
  simp only[xG.mapO]at h;split at h
  .rename_i t ht;split at h
   .rename_i ts' hts;cases h;rcases aR.1 hq with rfl|hq
    .exact⟨t,by simp,ht⟩
    .obtain⟨t',h1,h2⟩:=Eq hts q hq;exact⟨t',by simp[h1],h2⟩
   .cases h
  .cases h
theorem Wc{fn:Func}{g:G}{a:Act}{fr:fU}{t:T}{x:X}(hc:CI E g a fr)(h:xG.endY P fn.results.toList (x,fr)=some t):
  (x= .normal\/x= .ret)/\∃v,(results fn a.tmps).run P g.w= .ok v g.w/\Rd g v t:=by
 have hx:(x= .normal\/x= .ret)/\(match sS P fr E0 fn.results.toList with
   |some [t]=>some t|some ts=>some (.tup ts)|none=>none)=some t:=by
  cases x with
  |exit id=>simp[xG.endY]at h|normal=>exact⟨.inl rfl,h⟩|ret=>exact⟨.inr rfl,h⟩
 refine⟨hx.1,?_⟩;have hr:=hx.2;split at hr
 .rename_i t' ht;cases hr;obtain⟨us,h1,h2⟩:=uJ (P:=P) hc.st hc.fr ht
  match us,h2 with
  |[u],h2=>
   refine⟨u,?_,(h2.inv_cons).1⟩;have:fn.results=fn.results.toList.toArray:=by simp
   rw[uE,this,dM];simp only[aP,eY];rw[h1];simp
  |[],h2=>simp[RdL]at h2|_ ::_ ::_,h2=>simp[RdL]at h2
 .rename_i ts' hne ht;cases hr;obtain⟨us,h1,h2⟩:=uJ (P:=P) hc.st hc.fr ht;refine⟨.tuple us.toArray,?_,Rd.mk_tup h2⟩;have:fn.results=fn.results.toList.toArray:=by simp
  rw[uE,this,dM];simp only[aP,eY];rw[h1];have hl:us.length≠1:=λq=>by
   rw[h2.1]at q;obtain⟨t,rfl⟩:=fC.1 q;exact hne t rfl
  simp[hl]
 .cases hr
def aTp(P:fV)(f:gV):Bool:=
 match P.funcs[f]? with
 |some fn=>match fn.body with
  |some c=>codeOk c&&tR c|none=>false
 |none=>false
theorem aWs(hm:P.follows .mixedOrders=true)(hE:vP P E.gl E.pe)(hF:tX P E.gl F.ee){n:Nat}{f:gV}(hf:vL P f=true)(hok:aTp P f=true){ts:fU}{rt rs:T}{o:MZ}{sts:fU}(he:xG P E F Yc n f ts=some ((rt,o),sts))(hs:∀t∈sts,t=rs)(hIt:∀q∈o,q.Ok P E.gl L):
  YF P E.gl L f ts (vals o) rt rs:=by
 refine⟨hf,λxs J Jx hJ p g vs hpre hL hg hn hgl hv hj=> ?_⟩;unfold xG at he;unfold aTp at hok;split at he
 .rename_i fn hfn;rw[hfn]at hok;simp only at hok;split at he
  .rename_i c hc;rw[hc]at hok;simp only[aA]at hok;have hframe:RdL g (vs.toArray++Array.replicate (fn.ntmps-vs.toArray.size) undef).toList (ts++List.replicate (fn.ntmps-ts.length) pV):=by
    have:(vs.toArray++Array.replicate (fn.ntmps-vs.toArray.size) undef).toList=vs++List.replicate (fn.ntmps-ts.length) undef:=by simp[hv.1]
    rw[this];exact hv.append (RdL.replicate _ Rd.undef)
   have hci:CI E g {tmps:=vs.toArray++Array.replicate (fn.ntmps-vs.toArray.size) undef,defers:=[]} (ts++List.replicate (fn.ntmps-ts.length) pV):=CI.mk' hg hn hgl rfl hframe;split at he
   .rename_i x fr o st hev;split at he
    .rename_i t ht;split at he
     .rename_i us hus;simp only[aC,aU]at he;obtain⟨⟨rfl,rfl⟩,rfl⟩:=he;refine uY.1 (callsIn_of_wp_marks (F:=Fw none) (n:=0) hfn hc trivial ?_ rfl);have fin:∀(R:jW) (x:X) (fr:fU) (t:T),xG.endY P fn.results.toList (x,fr)=some t->∀a' g',CI E g' a' fr->(∀v,Rd g' v t->R (.returned v) g'.w)->x.exit_ ≠ .outgrown/\bodyPostM (Fw none) 0 P fn R x.exit_ a' g'.w:=by
       intro R x fr t ht a' g' hc' hR;obtain⟨hx,v,h1,h2⟩:=Wc hc' ht;have hlv:LeavesInM (Fw none) 0 P fn a'.tmps R a'.defers .returning g'.w:=by
        rw[hc'.df];exact⟨v,h1,hR v h2⟩
       rcases hx with rfl|rfl
       .exact⟨by simp[X.exit_],hlv⟩
       .exact⟨by simp[X.exit_],hlv⟩
      have:=aHr hm hE hF hJ c _ _ _ _ _ hok.1 hok.2 hev (λe a w=>e≠ .outgrown/\bodyPostM (Fw none) 0 P fn (λe W'=>∃(v:gQ) (g':G),e= .returned v/\g'.w=W'/\KS g g'/\rZ g'/\(∀l,¬g'.al l)/\((J (p++(vals o).map Prod.snd) g'/\Rd g' v t)\/(∃pre,Jx pre g'/\Rd g' v rs))) e a w)
       (λa w h=>h.1 rfl) p g _ hci hj hpre hIt (λa' g' h1 h2 h3=>fin _ x fr t ht a' g' h1 (λv hv=>⟨v,g',rfl,rfl,h3,h1.ok,h1.no,.inl ⟨h2,hv⟩⟩))
       (λq hq a' g' pre h1 h2 h3=>by
        obtain⟨t',ht',hq'⟩:=Eq hus q hq;have:=hs t' ht';subst this
        exact fin _ q.1 q.2 t' hq' a' g' h1 (λv hv=>⟨v,g',rfl,rfl,h3,h1.ok,h1.no,.inr ⟨pre,h2,hv⟩⟩))
      exact wpIn_mono this (λe a w h=>h.2)
     .cases he
    .cases he
   .cases he
  .cases he
 .cases he
theorem aSf{gl:fY}{gf:gV}{cap:fU}{xs:iU}(h:∀l,∃outs rt rs,YF P gl l gf ([.fn (.yield l) [] []]++cap) outs rt rs/\outs.map Prod.snd=xs/\∀q∈outs,q.1=l):Mg P gl gf cap xs:=by
 intro g lb hg hn hgl hlb l J Jx hJ hj;obtain⟨outs,rt,rs,hY,e,hL⟩:=h l;have hv:RdL g ([Value.func (.yield l) #[] #[]]++lb) ([.fn (.yield l) [] []]++cap):=(RdL.cons (.fn _ [] [] [] [] rfl (by simp) rfl (by simp)) RdL.nil).append hlb;have:=hY.2 xs J Jx hJ [] g _ (by rw[e];simp) hL hg hn hgl hv hj;refine uY.2 ?_;have ea:(#[Value.func (.yield l) #[] #[]]++lb.toArray:Array Value)=([Value.func (.yield l) #[] #[]]++lb).toArray:=by simp
 rw[ea];refine this.mono ?_;rintro e' W' ⟨v,g',rfl,rfl,_,_,_,(⟨h1,_⟩|⟨pre,h1,_⟩)⟩
 .exact⟨⟨v,rfl⟩,.inl ⟨g',rfl,by rw[e]at h1;simpa using h1⟩⟩
 .exact⟨⟨v,rfl⟩,.inr ⟨pre,g',rfl,h1⟩⟩
end
def Pn(f:List T->Hp->List Bool->List Bool->RD (X×List T×Hp)):Nat->List T->Hp->List Bool->List Bool->RD (X×List T×Hp)
 |0,_,_,_,_ => .fail 50
 |k+1,fr,H,ds,log=>match f fr H ds log with
  | .ok (.normal,fr',H') ds' log'=>Pn f k fr' H' ds' log'|r=>r
def rB(P:fV)(E:Ed)(F:Fc)(n:Nat):Code->List T->Hp->List Bool->List Bool->RD (X×List T×Hp)
 | .seq a b,fr,H,ds,log=>match rB P E F n a fr H ds log with
  | .ok (.normal,fr',H') ds' log'=>rB P E F n b fr' H' ds' log'|r=>r
 | .cond c a b,fr,H,ds,log=>match qG E.gl fr c with
  |some (.bool t)=>match ds with
   |[]=> .need t log|d::ds'=>if d then rB P E F n a fr H ds' (t::log)else rB P E F n b fr H ds' ((!t)::log)
  |_ => .fail 21
 | .block id c,fr,H,ds,log=>match rB P E F n c fr H ds log with
  | .ok (.exit id',fr',H') ds' log'=>if id'=id then .ok (.normal,fr',H') ds' log' else .ok (.exit id',fr',H') ds' log'
  |r=>r
 | .scope c,fr,H,ds,log=>rB P E F n c fr H ds log| .loop c,fr,H,ds,log=>Pn (λfr H ds log=>rB P E F n c fr H ds log) n fr H ds log|c,fr,H,ds,log=>qE P E F c fr H ds log
section
variable{P:fV}{D:Ed}{F:Fc}
theorem aKe{n:Nat}{c:Code}(ih:∀{fr fr':fU} {H H':Hp} {x:X} {ds log ds' log':gH},rB P D F n c fr H ds log= .ok (x,fr',H') ds' log'->qA log'=true->pU P D.env F n c fr H=some (x,fr',H')/\qA log=true):
  ∀(k:Nat) {fr fr':fU} {H H':Hp} {x:X} {ds log ds' log':gH},Pn (λfr H ds log=>rB P D F n c fr H ds log) k fr H ds log= .ok (x,fr',H') ds' log'->qA log'=true->
   pU.loopN (λfr H=>pU P D.env F n c fr H) k fr H=some (x,fr',H')/\qA log=true:=by
 intro k
 induction k with
 |zero=>intro fr fr' H H' x ds log ds' log' h;simp[Pn]at h
 |succ k ihk=>
  intro fr fr' H H' x ds log ds' log' h hl;simp only[Pn]at h;simp only[pU.loopN];split at h
  .rename_i f1 h1 ds1 log1 hr;obtain⟨a,b⟩:=ihk h hl;obtain⟨a1,b1⟩:=ih hr b;rw[a1];exact⟨a,b1⟩
  .rename_i hr;obtain⟨a1,b1⟩:=ih h hl;rw[a1];cases x with
   |normal=>exact absurd h (hr _ _ _ _)|exit id=>exact⟨rfl,b1⟩|ret=>exact⟨rfl,b1⟩
theorem CN(n:Nat):∀{c:Code} {fr fr':fU} {H H':Hp} {x:X} {ds log ds' log':gH},rB P D F n c fr H ds log= .ok (x,fr',H') ds' log'->qA log'=true->pU P D.env F n c fr H=some (x,fr',H')/\qA log=true:=by
 intro c
 induction c with
 |seq c1 c2 ih1 ih2=>
  intro fr fr' H H' x ds log ds' log' h hl;simp only[rB]at h;simp only[pU];split at h
  .rename_i f1 h1 ds1 log1 hr;obtain⟨a,b⟩:=ih2 h hl;obtain⟨a1,b1⟩:=ih1 hr b;rw[a1];exact⟨a,b1⟩
  .rename_i hr;obtain⟨a1,b1⟩:=ih1 h hl;rw[a1];cases x with
   |normal=>exact absurd h (hr _ _ _ _)|exit id=>exact⟨rfl,b1⟩|ret=>exact⟨rfl,b1⟩
 |cond o c1 c2 ih1 ih2=>
  intro fr fr' H H' x ds log ds' log' h hl;simp only[rB]at h;simp only[pU,Ed.env];split at h
  .rename_i t ht;rw[ht];simp only;split at h
   .cases h
   .rename_i d ds1;split at h
    .obtain⟨a,b⟩:=ih1 h hl;simp only[qA,aA]at b;rw[if_pos b.1];exact⟨a,b.2⟩
    .obtain⟨a,b⟩:=ih2 h hl;simp only[qA,aA,bW]at b;rw[if_neg (by simp[b.1])];exact⟨a,b.2⟩
  .cases h
 |block id c ih=>
  intro fr fr' H H' x ds log ds' log' h hl;simp only[rB]at h;simp only[pU];split at h
  .rename_i id' f1 h1 ds1 log1 hr;split at h
   .rename_i e;cases h;obtain⟨a,b⟩:=ih hr hl;rw[a];simp only;rw[if_pos e];exact⟨rfl,b⟩
   .rename_i e;cases h;obtain⟨a,b⟩:=ih hr hl;rw[a];simp only;rw[if_neg e];exact⟨rfl,b⟩
  .rename_i hr;obtain⟨a,b⟩:=ih h hl;rw[a];cases x with
   |normal=>exact⟨rfl,b⟩|exit id'=>exact absurd h (hr _ _ _ _ _)|ret=>exact⟨rfl,b⟩
 |scope c ih=>
  intro fr fr' H H' x ds log ds' log' h hl;simp only[rB]at h;simp only[pU];exact ih h hl
 |loop c ih=>
  intro fr fr' H H' x ds log ds' log' h hl;simp only[rB]at h;simp only[pU];exact aKe ih n h hl
 |_ =>intro fr fr' H H' x ds log ds' log' h hl;simp only[rB]at h;exact AZ n h hl
def aRr(P:fV)(fn:Func):RD (X×List T×Hp)->Option (T×Hp×List Bool)
 | .ok (.normal,fr,H) _ log=>(yD P fn fr H).map λr=>(r,H,log)| .ok (.ret,fr,H) _ log=>(yD P fn fr H).map λr=>(r,H,log)|_ =>none
theorem aTn(x:Cx P D F){f:gV}{fn:Func}{c:Code}(h1:vL P f=true)(h2:aWq P f=true)(hfn:P.funcs[f]? =some fn)(hb:fn.body=some c){ts:fU}{L:Nat}(hL:fn.ntmps-ts.length=L){n:Nat}{H H':Hp}{ds log:gH}{r:T}
  (h:aRr P fn (rB P D F n c (ts++List.replicate L pV) H ds [])=some (r,H',log)) (hl:qA log=true):UB P D.gl f ts H r H':=by
 subst hL;have he:PY P D.env F n f ts H=some (r,H'):=by
  unfold PY;rw[hfn];simp only;rw[hb];simp only;unfold aRr at h;split at h
  .rename_i fr1 H1 ds1 log1 hr;simp only[aD]at h;obtain⟨q,hq,e⟩:=h;cases e;rw[(CN n hr hl).1];simp only;unfold yD at hq;split at hq<;>simp_all
  .rename_i fr1 H1 ds1 log1 hr;simp only[aD]at h;obtain⟨q,hq,e⟩:=h;cases e;rw[(CN n hr hl).1];simp only;unfold yD at hq;split at hq<;>simp_all
  .cases h
 exact⟨h1,λg vs hg hs hgl hv=>aTq x.hm x.hE x.hF h2 he g vs hg hs hgl hv⟩
def Yf(f:gV)(spec:List T->Hp->Option (T×Hp×List Bool))(ed:FuncId->List T->Hp->Option (T×Hp×List Bool)):FuncId->List T->Hp->Option (T×Hp×List Bool):=λg ts H=>if g=f then spec ts H else ed g ts H
theorem Nm{gl:fY}{own:hD}{f:gV}{spec:List T->Hp->Option (T×Hp×List Bool)}{ed:FuncId->List T->Hp->Option (T×Hp×List Bool)}(h:tX P gl (Fc.ee ⟨own,ed⟩))
  (hs:∀ts H r H' cs,spec ts H=some (r,H',cs)->qA cs=true->UB P gl f ts H r H') (own':hD):tX P gl (Fc.ee ⟨own',Yf f spec ed⟩):=by
 intro g ts H r H' hr;unfold Fc.ee Yf at hr;simp only at hr;by_cases e:g=f
 .subst e;simp only[if_true]at hr;split at hr
  .rename_i r1 H1 cs hq;split at hr
   .rename_i hc;cases hr;exact hs ts H r H' cs hq hc
   .cases hr
  .cases hr
 .rw[if_neg e]at hr;exact h g ts H r H' hr
end
abbrev noY:FuncId->List T->Option (Ba×T×T):=λ_ _ =>none
section
variable(P:fV)(E:Ed)(F:Fc)
def ZW(ops:fZ):List Oper->Fx->List Bool->List Bool->RD ((List T×MZ)×List (List T))
 |[],s,ds,log=>match s.pend with
  |none=>if Ax s.H then .ok ((s.fr,[]),[]) ds log else .fail 40
  |some _ => .fail 41
 |o::rest,s,ds,log=>
  if(JM E.gl s.fr o).isSome&&(s.pend.isNone&&Ax s.H)then
   match LR ops s.fr o ds log with
   | .ok true ds log=>match JM E.gl s.fr o with
    |some q=>match ZW ops rest ⟨Bu s.fr o.dst (.bool true),E0,none⟩ ds log with
     | .ok ((fr',o'),st) ds log=>match BB P E F ops rest ⟨Bu s.fr o.dst (.bool false),E0,none⟩ ds log with
      | .ok ⟨f2,H2,none⟩ ds log=>if Ax H2 then .ok ((fr',.y q::o'),f2::st) ds log else .fail 42
      | .ok _ _ _ => .fail 43| .need c l=> .need c l| .fail n=> .fail n
     | .need c l=> .need c l| .fail n=> .fail n
    |none=> .fail 44
   | .ok false ds log=>ZW ops rest ⟨Bu s.fr o.dst pV,E0,none⟩ ds log| .need c l=> .need c l| .fail n=> .fail n
  else match aBd P E F ops s o ds log with
   | .ok s' ds log=>if Ax s'.H then ZW ops rest s' ds log else .fail 45
   | .need c l=> .need c l| .fail n=> .fail n
def Al(b:Code):List (X×List T)->List Bool->List Bool->RD (List (X×List T))
 |[],ds,log=> .ok [] ds log
 |(x,f)::r,ds,log=>match Al b r ds log with
  | .ok r' ds log=>match x with
   | .normal=>match qE P E F b f E0 ds log with
    | .ok (x',f',H') ds log=>if Ax H' then .ok ((x',f')::r') ds log else .fail 46
    | .need c l=> .need c l| .fail n=> .fail n
   |x=> .ok ((x,f)::r') ds log
  | .need c l=> .need c l| .fail n=> .fail n
def yS:Code->List T->List Bool->List Bool->RD YR
 | .region id ops draw,fr,ds,log=>if draw then match qE P E F (.region id ops draw) fr E0 ds log with
   | .ok (x,fr',H') ds log=>if Ax H' then .ok ((x,fr',[]),[]) ds log else .fail 47
   | .need c l=> .need c l| .fail n=> .fail n
  else match ZW P E F ops ops.toList ⟨fr,E0,none⟩ ds log with
   | .ok ((fr',o),st) ds log=> .ok ((.normal,fr',o),st.map λf=>(.normal,f)) ds log| .need c l=> .need c l| .fail n=> .fail n
 | .seq a b,fr,ds,log=>match yS a fr ds log with
  | .ok ((x1,fr1,o1),s1) ds log=>match Al P E F b s1 ds log with
   | .ok s1' ds log=>match x1 with
    | .normal=>match yS b fr1 ds log with
     | .ok ((x2,fr2,o2),s2) ds log=> .ok ((x2,fr2,o1++o2),s1'++s2) ds log| .need c l=> .need c l| .fail n=> .fail n
    |x=> .ok ((x,fr1,o1),s1') ds log
   | .need c l=> .need c l| .fail n=> .fail n
  | .need c l=> .need c l| .fail n=> .fail n
 | .cond c a b,fr,ds,log=>match qG E.gl fr c with
  |some (.bool t)=>match ds with
   |[]=> .need t log|d::ds=>if d then yS a fr ds (t::log)else yS b fr ds ((!t)::log)
  |_ => .fail 48
 | .block id c,fr,ds,log=>match yS c fr ds log with
  | .ok ((x,fr',o),st) ds log=> .ok ((exB id x,fr',o),st.map λq=>(exB id q.1,q.2)) ds log| .need c l=> .need c l| .fail n=> .fail n
 | .loop _,_,_,_ => .fail 49
 |c,fr,ds,log=>match qE P E F c fr E0 ds log with
  | .ok (x,fr',H') ds log=>if Ax H' then .ok ((x,fr',[]),[]) ds log else .fail 50
  | .need c l=> .need c l| .fail n=> .fail n
end
section
variable{P:fV}{D:Ed}{F:Fc}{n:Nat}
theorem aHm{gl:fY}{fr:fU}{o:Oper}:Mw noY gl fr o=none:=by
 unfold Mw
 repeat' split
 all_goals first
  |rfl
  |(rename_i h;cases h)
theorem PA{ops:fZ}:∀{l:gW} {s:Fx} {r:(List T×MZ)×List (List T)} {ds log ds' log':gH},ZW P D F ops l s ds log= .ok r ds' log'->qA log'=true->PB P D.env F noY ops l s=some r/\qA log=true
 |[],s,r,ds,log,ds',log',h,hl=>by
  unfold ZW at h;unfold PB
  repeat' split at h
  all_goals first
   |(cases h;done)
   |skip
  rename_i h1 h2;cases h;exact⟨by(try rw[h1]);(try simp only);rw[if_pos h2],hl⟩
 |o::l,s,r,ds,log,ds',log',h,hl=>by
  have hpf:∀(v:T),Bu s.fr o.dst v=qU s.fr o.dst v:=λv=>Kk _ _ _;have hy:aId noY D.env.gl s.fr o=(JM D.gl s.fr o).map λq=>(.y q,.bool true,.bool false):=by
   unfold aId;show(match JM D.gl s.fr o with|some q=>_ |none=>Mw noY D.gl s.fr o)=_;cases JM D.gl s.fr o with
   |some q=>rfl|none=>exact aHm
  unfold ZW at h;unfold PB;split at h
  .rename_i hc;simp only[aA]at hc;split at h
   .rename_i ds1 log1 hg;split at h
    .rename_i q hq;split at h
     .rename_i fr' o' st ds2 log2 h2;split at h
      .rename_i f2 H2 ds3 log3 h3;split at h
       .rename_i h4;cases h;obtain⟨a3,b3⟩:=OZ h3 hl;obtain⟨a2,b2⟩:=PA h2 b3;obtain⟨a1,b1⟩:=xJ hg b2;rw[hpf]at a2 a3;refine⟨?_,b1⟩;rw[a1,hy,hq];simp only[Bool.true_and,hc.2.1,hc.2.2,if_true,Bool.and_self,cH,a2,a3,h4]
       .cases h
      all_goals cases h
     all_goals cases h
    .cases h
   .rename_i ds1 log1 hg;obtain⟨a2,b2⟩:=PA h hl;obtain⟨a1,b1⟩:=xJ hg b2;refine⟨?_,b1⟩;have hs:sE P D.env F ops s o=some ⟨qU s.fr o.dst pV,E0,none⟩:=by
     have e1:s.pend=none:=by simpa using hc.2.1
     have e2:=XZ hc.2.2;unfold sE tU;rw[e1];simp only;rw[a1];obtain⟨f,H,p⟩:=s;simp only at e1 e2;subst e1 e2;rfl
    rw[a1];simp only[Bool.false_and,aY,if_false,hs];rw[if_pos (show Ax E0=true from rfl),<-hpf];exact a2
   all_goals cases h
  .rename_i hc;split at h
   .rename_i s' ds1 log1 h1;split at h
    .rename_i h2;obtain⟨a2,b2⟩:=PA h hl;obtain⟨a1,b1⟩:=Rt h1 b2;refine⟨?_,b1⟩;have e:(if(qH ops s.fr o&&(s.pend.isNone&&Ax s.H))=true then aId noY D.env.gl s.fr o else none)=none:=by
      split
      .rename_i hw;simp only[aA]at hw hc;rw[hy];cases hq:JM D.gl s.fr o with
       |none=>rfl|some q=>exact absurd ⟨by rw[hq];rfl,hw.2⟩ hc
      .rfl
     rw[e];simp only[a1];rw[if_pos h2];exact a2
    .cases h
   all_goals cases h
theorem FI{b:Code}:∀{l r:jR} {ds log ds' log':gH},Al P D F b l ds log= .ok r ds' log'->qA log'=true->Ak P D.env F n b l=some r/\qA log=true
 |[],r,ds,log,ds',log',h,hl=>by
  unfold Al at h;cases h;exact⟨rfl,hl⟩
 |(x,f)::l,r,ds,log,ds',log',h,hl=>by
  unfold Al at h;unfold Ak;split at h
  .rename_i r' ds1 log1 h1;cases x with
   |normal=>
    simp only at h;split at h
    .rename_i x' f' H' ds2 log2 h2;split at h
     .rename_i h3;cases h;obtain⟨a2,b2⟩:=AZ n h2 hl;obtain⟨a1,b1⟩:=FI h1 b2;refine⟨?_,b1⟩;simp only[a1,a2];rw[if_pos h3]
     .cases h
    all_goals cases h
   |exit id=>
    cases h;obtain⟨a1,b1⟩:=FI h1 hl;exact⟨by simp only[a1],b1⟩
   |ret=>
    cases h;obtain⟨a1,b1⟩:=FI h1 hl;exact⟨by simp only[a1],b1⟩
  all_goals cases h
theorem JR:∀{c:Code} {fr:fU} {r:YR} {ds log ds' log':gH},yS P D F c fr ds log= .ok r ds' log'->qA log'=true->wJ P D.env F noY n c fr=some r/\qA log=true:=by
 have plain:∀{c:Code} {fr:fU} {r:YR} {ds log ds' log':gH},(match qE P D F c fr E0 ds log with
   | .ok (x,fr',H') ds log=>if Ax H' then(.ok ((x,fr',[]),[]) ds log:RD YR)else .fail 50
   | .need c l=> .need c l| .fail n=> .fail n)= .ok r ds' log'->qA log'=true->(match pU P D.env F n c fr E0 with
   |some (x,fr',H')=>if Ax H' then some (((x,fr',[]),[]):YR)else none
   |none=>none)=some r/\qA log=true:=by
  intro c fr r ds log ds' log' h hl;split at h
  .rename_i x fr' H' ds1 log1 h1;split at h
   .rename_i h2;cases h;obtain⟨a1,b1⟩:=AZ n h1 hl;rw[a1];exact⟨by simp only;rw[if_pos h2],b1⟩
   .cases h
  all_goals cases h
 intro c
 induction c with
 |region id ops draw=>
  intro fr r ds log ds' log' h hl;simp only[yS]at h;simp only[wJ];split at h
  .rename_i hd;rw[if_pos hd];split at h
   .rename_i x fr' H' ds1 log1 h1;split at h
    .rename_i h2;cases h;obtain⟨a1,b1⟩:=AZ n h1 hl;rw[a1];exact⟨by simp only;rw[if_pos h2],b1⟩
    .cases h
   all_goals cases h
  .rename_i hd;rw[if_neg hd];split at h
   .rename_i fr' o st ds1 log1 h1;cases h;obtain⟨a1,b1⟩:=PA h1 hl;rw[a1];exact⟨rfl,b1⟩
   all_goals cases h
 |seq a b iha ihb=>
  intro fr r ds log ds' log' h hl;simp only[yS]at h;simp only[wJ];split at h
  .rename_i x1 fr1 o1 s1 ds1 log1 h1;split at h
   .rename_i s1' ds2 log2 h2;split at h
    .split at h
     .rename_i x2 fr2 o2 s2 ds3 log3 h3;cases h;obtain⟨a3,b3⟩:=ihb h3 hl;obtain⟨a2,b2⟩:=FI (n:=n) h2 b3;obtain⟨a1,b1⟩:=iha h1 b2;exact⟨by simp only[a1,a2,a3],b1⟩
     all_goals cases h
    .rename_i x hx;cases h;obtain⟨a2,b2⟩:=FI (n:=n) h2 hl;obtain⟨a1,b1⟩:=iha h1 b2;refine⟨?_,b1⟩;cases x1 with
     |normal=>exact absurd rfl hx|exit id=>simp only[a1,a2]|ret=>simp only[a1,a2]
   all_goals cases h
  all_goals cases h
 |cond o a b iha ihb=>
  intro fr r ds log ds' log' h hl;simp only[yS]at h;simp only[wJ,Ed.env];split at h
  .rename_i t ht
   try rw[ht]
   try simp only
   split at h
   .cases h
   .rename_i d ds1;split at h
    .obtain⟨a,b⟩:=iha h hl;simp only[qA,aA]at b;rw[if_pos b.1];exact⟨a,b.2⟩
    .obtain⟨a,b⟩:=ihb h hl;simp only[qA,aA,bW]at b;rw[if_neg (by simp[b.1])];exact⟨a,b.2⟩
  .cases h
 |block id c ih=>
  intro fr r ds log ds' log' h hl;simp only[yS]at h;simp only[wJ];split at h
  .rename_i x fr' o st ds1 log1 h1;cases h;obtain⟨a1,b1⟩:=ih h1 hl;rw[a1];exact⟨rfl,b1⟩
  all_goals cases h
 |loop c ih=>intro fr r ds log ds' log' h hl;simp only[yS]at h;cases h
 |_ =>
  intro fr r ds log ds' log' h hl;simp only[yS]at h;simp only[wJ]
  first
   |exact plain (c:= .skip) h hl
   |exact plain (c:= .ret) h hl
   |exact plain (c:= .exit _) h hl
   |exact plain (c:= .label _) h hl
   |exact plain (c:= .scope _) h hl
   |(simp only[qE]at h;cases h)
end
section
variable(P:fV)(E:Ed)(F:Fc)
def Ny(n:Nat)(ps:iR)(sg bd:Code)(fr:fU):List (List T)->Hp->List Bool->List Bool->RD (X×Hp)
 |[],H,ds,log=> .ok (.normal,H) ds log
 |x::r,H,ds,log=>match rB P E F n sg (FF ps x fr) H ds log with
  | .ok (.normal,fr1,H1) ds log=>match rB P E F n bd fr1 H1 ds log with
   | .ok (.normal,_,H2) ds log=>Ny n ps sg bd fr r H2 ds log| .ok (q,_,H2) ds log=> .ok (q,H2) ds log| .need c l=> .need c l| .fail k=> .fail k
  | .ok _ _ _ => .fail 51| .need c l=> .need c l| .fail k=> .fail k
abbrev iX:=FuncId->List T->Option (List (List T)×List Bool)
def zC(It:iX)(n k:Nat):Code->List T->Hp->List Bool->List Bool->RD (X×List T×Hp)
 | .seq a b,fr,H,ds,log=>match zC It n k a fr H ds log with
  | .ok (.normal,fr',H') ds log=>zC It n k b fr' H' ds log|r=>r
 | .cond c a b,fr,H,ds,log=>match qG E.gl fr c with
  |some (.bool t)=>match ds with
   |[]=> .need t log|d::ds=>if d then zC It n k a fr H ds (t::log)else zC It n k b fr H ds ((!t)::log)
  |_ => .fail 56
 | .block id c,fr,H,ds,log=>match zC It n k c fr H ds log with
  | .ok (.exit id',fr',H') ds log=>if id'=id then .ok (.normal,fr',H') ds log else .ok (.exit id',fr',H') ds log
  |r=>r
 | .rangeFunc gv ps sg bd,fr,H,ds,log=>match qG E.gl fr gv with
  |some (.fn (.func gf) [] cap)=>match mapO (qJ k ⟨0,.nl⟩) cap with
   |some cap'=>match It gf cap' with
    | some (xs,cs)=>if xs.all λx=>Nat.beq x.length ps.size then match Ny P E F n ps.toList sg bd fr xs H ds (cs++log)with
      | .ok (x,H') ds log=> .ok (x,fr,H') ds log| .need c l=> .need c l| .fail q=> .fail q
     else .fail 52
    |none=> .fail 53
   |none=> .fail 54
  |_ => .fail 55
 |c,fr,H,ds,log=>rB P E F n c fr H ds log
end
def itE(It:iX):FuncId->List T->Option (List (List T)):=λf cap=>match It f cap with
 |some (xs,cs)=>if qA cs then some xs else none
 |none=>none
section
variable{P:fV}{D:Ed}{F:Fc}{It:iX}{n k:Nat}
theorem Nz{ps:iR}{sg bd:Code}{fr:fU}:∀{xs:iU} {H H':Hp} {x:X} {ds log ds' log':gH},Ny P D F n ps sg bd fr xs H ds log= .ok (x,H') ds' log'->qA log'=true->HU P D.env F n ps sg bd fr xs H=some (x,H')/\qA log=true
 |[],H,H',x,ds,log,ds',log',h,hl=>by
  unfold Ny at h;cases h;exact⟨rfl,hl⟩
 |y::r,H,H',x,ds,log,ds',log',h,hl=>by
  unfold Ny at h;unfold HU ZK;split at h
  .rename_i fr1 H1 ds1 log1 h1;split at h
   .rename_i f2 H2 ds2 log2 h2;obtain⟨a3,b3⟩:=Nz h hl;obtain⟨a2,b2⟩:=CN n h2 b3;obtain⟨a1,b1⟩:=CN n h1 b2;exact⟨by simp only[a1,a2,a3],b1⟩
   .rename_i q f2 H2 ds2 log2 hq h2;cases h;obtain⟨a2,b2⟩:=CN n h2 hl;obtain⟨a1,b1⟩:=CN n h1 b2;refine⟨?_,b1⟩;simp only[a1,a2];cases x with
    |normal=>exact(hq rfl).elim|exit id=>rfl|ret=>rfl
   all_goals cases h
  all_goals cases h
theorem aCl:∀{c:Code} {fr fr':fU} {H H':Hp} {x:X} {ds log ds' log':gH},zC P D F It n k c fr H ds log= .ok (x,fr',H') ds' log'->qA log'=true->xW P D.env F (itE It) n k c fr H=some (x,fr',H')/\qA log=true:=by
 intro c
 induction c with
 |seq a b iha ihb=>
  intro fr fr' H H' x ds log ds' log' h hl;simp only[zC]at h;simp only[xW];split at h
  .rename_i f1 H1 ds1 log1 h1;obtain⟨a2,b2⟩:=ihb h hl;obtain⟨a1,b1⟩:=iha h1 b2;rw[a1];exact⟨a2,b1⟩
  .rename_i hr;obtain⟨a1,b1⟩:=iha h hl;rw[a1];cases x with
   |normal=>exact absurd h (hr _ _ _ _)|exit id=>exact⟨rfl,b1⟩|ret=>exact⟨rfl,b1⟩
 |cond o a b iha ihb=>
  intro fr fr' H H' x ds log ds' log' h hl;simp only[zC]at h;simp only[xW];split at h
  .rename_i t ht;have ht':qG D.env.gl fr o=some (.bool t):=ht
   try rw[ht']
   try simp only
   split at h
   .cases h
   .split at h
    .obtain⟨a,b⟩:=iha h hl;simp only[qA,aA]at b;rw[if_pos b.1];exact⟨a,b.2⟩
    .obtain⟨a,b⟩:=ihb h hl;simp only[qA,aA,bW]at b;rw[if_neg (by simp[b.1])];exact⟨a,b.2⟩
  .cases h
 |block id c ih=>
  intro fr fr' H H' x ds log ds' log' h hl;simp only[zC]at h;simp only[xW];split at h
  .rename_i id' f1 H1 ds1 log1 h1;split at h
   .rename_i e;cases h;obtain⟨a,b⟩:=ih h1 hl;rw[a];simp only;rw[if_pos e];exact⟨rfl,b⟩
   .rename_i e;cases h;obtain⟨a,b⟩:=ih h1 hl;rw[a];simp only;rw[if_neg e];exact⟨rfl,b⟩
  .rename_i hr;obtain⟨a,b⟩:=ih h hl;rw[a];cases x with
   |normal=>exact⟨rfl,b⟩|exit id'=>exact absurd h (hr _ _ _ _ _)|ret=>exact⟨rfl,b⟩
 |rangeFunc gv ps sg bd _ _ =>
  intro fr fr' H H' x ds log ds' log' h hl;simp only[zC]at h;simp only[xW,Ed.env];split at h
  .rename_i gf cap hg
   try rw[hg]
   try simp only
   split at h
   .rename_i cap' hc
    try rw[hc]
    try simp only
    split at h
    .rename_i xs cs hi;split at h
     .rename_i hx;split at h
      .rename_i y H1 ds1 log1 hf;cases h;obtain⟨a,b⟩:=Nz hf hl;rw[uK]at b;simp only[aA]at b;have hi':itE It gf cap'=some xs:=by
        unfold itE;rw[hi];simp only;rw[if_pos b.1]
       rw[hi'];simp only;rw[if_pos hx];have a':HU P ⟨D.gl,D.env.pe⟩ F n ps.toList sg bd fr xs H=some (x,H'):=a;exact⟨by simp only[Ed.env]at a';rw[a'],b.2⟩
      all_goals cases h
     .cases h
    .cases h
   .cases h
  .cases h
 |_ =>
  intro fr fr' H H' x ds log ds' log' h hl;simp only[zC]at h;simp only[xW];exact CN n h hl
def aAg(P:fV)(fn:Func)(k:Nat):RD (X×List T×Hp)->Option (T×List Bool)
 | .ok (.normal,fr,H) _ log=>match yD P fn fr H with
  |some q=>(qJ k H q).map λr=>(r,log)|none=>none
 | .ok (.ret,fr,H) _ log=>match yD P fn fr H with
  |some q=>(qJ k H q).map λr=>(r,log)|none=>none
 |_ =>none
theorem pure_ru(x:Cx P D F)(hz:wR D.gl)(hI:aNk P D.gl (itE It)){f:gV}{fn:Func}{c:Code}(h1:vL P f=true)(h2:Yv P f=true)(hfn:P.funcs[f]? =some fn)(hb:fn.body=some c){ts:fU}{L:Nat}(hL:fn.ntmps-ts.length=L)(hts:mapO (qJ k ⟨0,.nl⟩) ts=some ts)
  {ds log:gH} {r:T} (h:aAg P fn k (zC P D F It n k c (ts++List.replicate L pV) ⟨0,.nl⟩ ds [])=some (r,log)) (hl:qA log=true):pW P D.gl f ts r:=by
 subst hL;obtain⟨q,H',he,hq⟩:∃q H',UN P D.env F (itE It) n k f ts ⟨0,.nl⟩=some (q,H')/\qJ k H' q=some r:=by
  unfold UN;rw[hfn];simp only;rw[hb];simp only;unfold aAg at h;split at h
  all_goals first
   |(cases h;done)
   |skip
  all_goals
   rename_i fr1 H1 ds1 log1 hr;split at h
   .rename_i q hq;simp only[aD]at h;obtain⟨r',hr',e⟩:=h;cases e;refine⟨q,H1,?_,hr'⟩;rw[(aCl hr hl).1];simp only;unfold yD at hq;split at hq<;>simp_all
   .cases h
 refine⟨h1,λg vs hg ⟨N,hN⟩ hgl hv=> ?_⟩;have hsN:St g ⟨N,.nl⟩:=St.nl _ _ hN;have hv':RdL g.bare vs ts:=by
  have:=JW (g0:=g.bare) hsN (KG hts) hv;rw[AQ]at this;exact this
 have hgl':GlOk D.gl g.bare:=by
  have:=GlOk.frz (g0:=g.bare) hz hsN hgl;rw[AQ]at this;exact this
 refine(aWr (E:=D.env) x.hm hz x.hE x.hF hI h2 he g.bare vs hg (St.nl _ _ (λl _ q=>q)) hgl' hv').mono λe w' ⟨v,g',e1,e2,e3,e4,e5,e6⟩=> ?_;refine⟨v,g'.frz H' g,e1,e2,?_,?_,LO e5 k q r v hq e6⟩
 .refine⟨e3.os,e3.tape,e3.output,e3.size,λb hb=>e3.block b hb (λl o ho=>(by rw[uI]at ho;cases ho)),λb hb=> .inl (e3.sub b hb),λb hb=> ?_,rfl,rfl,rfl⟩;rcases hb with hb|⟨l,o,ho,rfl⟩
  .rcases e3.fresh b hb with q|q|⟨l,o,ho,_⟩
   .exact .inl q
   .exact .inr q
   .rw[uI]at ho;cases ho
  .rcases e3.live l o (qP ho).1 with⟨l0,o0,q,_⟩|q
   .rw[uI]at q;cases q
   .exact .inr q
 .intro b hb;rcases hb with hb|⟨l,o,ho,rfl⟩
  .exact e4 b hb
  .exact e5.lt (qP ho).1
end
end
end Go.Ps
namespace Go.Proofs.Tryz
open Go.Shelf
def TM:Go.Shelf.Ren:=⟨λ|105=>312|212=>332|99=>197|165=>77|166=>78|170=>333|169=>79|263=>346|264=>347|206=>262|240=>123|241=>124|276=>183|277=>184|n=>n,λ|9=>9|3=>3|4=>4|20=>20|0=>0|46=>122|109=>354|5=>5|72=>135|76=>139|51=>184|146=>366|53=>186|148=>368|70=>133|37=>128|75=>138|127=>197|164=>252|80=>141|n=>n,λ|n=>n⟩
theorem aQi:Go.Proofs.Lays.n105 prog TM:={
 mixed:=by kernel_rfl
 f99:=func197.trans (congrArg some (by kernel_rfl))
 f105:=func312.trans (congrArg some (by kernel_rfl))
 f165:=func77.trans (congrArg some (by kernel_rfl))
 f166:=func78.trans (congrArg some (by kernel_rfl))
 f169:=func79.trans (congrArg some (by kernel_rfl))
 f170:=func333.trans (congrArg some (by kernel_rfl))
 f206:=func262.trans (congrArg some (by kernel_rfl))
 f212:=func332.trans (congrArg some (by kernel_rfl))
 f240:=func123.trans (congrArg some (by kernel_rfl))
 f241:=func124.trans (congrArg some (by kernel_rfl))
 f263:=func346.trans (congrArg some (by kernel_rfl))
 f264:=func347.trans (congrArg some (by kernel_rfl))
 f276:=func183.trans (congrArg some (by kernel_rfl))
 f277:=func184.trans (congrArg some (by kernel_rfl))
 t0:=underlying0
 a0:=isAgg0
 z0:=sizeOf0
 v0:=zeroValue0
 t3:=underlying3
 a3:=isAgg3
 z3:=sizeOf3
 v3:=zeroValue3
 t4:=underlying4
 a4:=isAgg4
 z4:=sizeOf4
 v4:=zeroValue4
 t5:=underlying5
 a5:=isAgg5
 z5:=sizeOf5
 v5:=zeroValue5
 t9:=underlying9
 a9:=isAgg9
 z9:=sizeOf9
 v9:=zeroValue9
 t20:=underlying20
 a20:=isAgg20
 z20:=sizeOf20
 v20:=zeroValue20
 t37:=underlying128
 a37:=isAgg128
 z37:=sizeOf128
 v37:=zeroValue128
 t46:=underlying122
 a46:=isAgg122
 z46:=sizeOf122
 v46:=zeroValue122
 t51:=underlying184
 a51:=isAgg184
 z51:=sizeOf184
 v51:=zeroValue184
 t53:=underlying186
 a53:=isAgg186
 z53:=sizeOf186
 v53:=zeroValue186
 t70:=underlying133
 a70:=isAgg133
 z70:=sizeOf133
 v70:=zeroValue133
 t72:=underlying135
 a72:=isAgg135
 z72:=sizeOf135
 v72:=zeroValue135
 t75:=underlying138
 a75:=isAgg138
 z75:=sizeOf138
 v75:=zeroValue138
 t76:=underlying139
 a76:=isAgg139
 z76:=sizeOf139
 v76:=zeroValue139
 t109:=underlying354
 a109:=isAgg354
 z109:=sizeOf354
 v109:=zeroValue354
 t127:=underlying197
 a127:=isAgg197
 z127:=sizeOf197
 v127:=zeroValue197
 t146:=underlying366
 a146:=isAgg366
 z146:=sizeOf366
 v146:=zeroValue366
 t148:=underlying368
 a148:=isAgg368
 z148:=sizeOf368
 v148:=zeroValue368
 t164:=underlying252
 a164:=isAgg252
 z164:=sizeOf252
 v164:=zeroValue252}
theorem MT:Builder.Extra prog TM:={
 sizeBuilder:=by kernel_rfl
 liesBuilder:=by kernel_rfl
 t5:=underlying5
 a5:=isAgg5
 z5:=sizeOf5
 v5:=zeroValue5
 infoByte:=by kernel_rfl
 cellsByte:=by kernel_rfl
 sizeByte:=by kernel_rfl
 neB5:=by decide}
def Pe:Go.Shelf.Ren:=⟨λ|197=>261|260=>313|n=>n,λ|9=>9|21=>21|3=>3|4=>4|5=>5|105=>310|119=>153|0=>0|46=>122|139=>156|138=>155|n=>n,λ|3=>0|4=>1|n=>n⟩
theorem aQm:Go.Proofs.Lays.n197 prog Pe:={
 mixed:=by kernel_rfl
 f197:=func261.trans (congrArg some (by kernel_rfl))
 f260:=func313.trans (congrArg some (by kernel_rfl))
 t0:=underlying0
 a0:=isAgg0
 z0:=sizeOf0
 v0:=zeroValue0
 t3:=underlying3
 a3:=isAgg3
 z3:=sizeOf3
 v3:=zeroValue3
 t4:=underlying4
 a4:=isAgg4
 z4:=sizeOf4
 v4:=zeroValue4
 t5:=underlying5
 a5:=isAgg5
 z5:=sizeOf5
 v5:=zeroValue5
 t9:=underlying9
 a9:=isAgg9
 z9:=sizeOf9
 v9:=zeroValue9
 t21:=underlying21
 a21:=isAgg21
 z21:=sizeOf21
 v21:=zeroValue21
 t46:=underlying122
 a46:=isAgg122
 z46:=sizeOf122
 v46:=zeroValue122
 t105:=underlying310
 a105:=isAgg310
 z105:=sizeOf310
 v105:=zeroValue310
 t119:=underlying153
 a119:=isAgg153
 z119:=sizeOf153
 t138:=underlying155
 a138:=isAgg155
 z138:=sizeOf155
 v138:=zeroValue155
 t139:=underlying156
 a139:=isAgg156
 z139:=sizeOf156
 v139:=zeroValue156
 g3:=by kernel_rfl
 g4:=by kernel_rfl}
end Go.Proofs.Tryz
namespace Go.Ps
noncomputable section
def Jd(gl:fY)(fr:fU)(o:Oper):Bool:=
 match o.op with
 | .load _ a=>match qG gl fr a with
  |some (.ref ..)=>true|_ =>false
 | .call c=>match c.callee with
  | .builtin .len=>c.args.toList.all λx=>match qG gl fr x with
   |some (.mp _)=>false|_ =>true
  | .builtin _ =>true|_ =>false
 | .lookup .. =>false|_ =>true
section
variable(P:fV)(E:tY)(F:Fc)(ops:fZ)
def KQ:List Oper->Nat->List T->Hp->Option (List T×Hp×List Nat×List Nat)
 |[],_,fr,H=>some (fr,H,[],[])
 |o::r,m,fr,H=>
  if xP ⟨fr,H,none⟩ o=false then none
  else if qH ops fr o then match qK P E (zO F o) H fr o with
   |some v=>match KQ r (m+1) (qU fr o.dst v) H with
    |some (f,H',es,ds)=>some (f,H',es,if Jd E.gl fr o then ds else m::ds)
    |none=>none
   |none=>match xF P E F H fr o with
    |some (v,H1)=>match KQ r (m+1) (qU fr o.dst v) H1 with
     |some (f,H',es,ds)=>some (f,H',m::es,ds)|none=>none
    |none=>none
  else KQ r (m+1) (qU fr o.dst pV) H
def Ez(A:gI)(es ds:gI):Bool:=(es.all λe=>es.all λe'=> !(Nat.blt e' e)||vQ A e e')&&ds.all λd=>es.all λe=>if Nat.blt e d then vQ A d e else vQ A e d
def HS(fr:fU)(H:Hp):Option Fx:=match KQ P E F ops ops.toList 0 fr H with
 |some (f,H',es,ds)=>if Ez (tL ops.toList []) es ds then some ⟨f,H',none⟩else none
 |none=>none
def lkp:Bool:=ops.toList.any λo=>match o.op with
 | .lookup .. =>true|_ =>false
def AB(fl:Bool)(fr:fU)(H:Hp):Option Fx:=if lkp ops|| !fl then HS P E F ops fr H else rW P E F ops fr H
end
section
variable{P:fV}{E:tY}{F:Fc}{ops:fZ}
theorem aPs{fr:fU}{o:Oper}{H H':Hp}{own:Bool}(h:Jd E.gl fr o=true):qK P E own H fr o=qK P E own H' fr o:=by
 obtain⟨dst,op,ty,pos,after,guard⟩:=o;cases op<;>simp only[Jd]at h<;>try first|rfl|(cases h;done)
 case load t a=>
  simp only[qK];split at h
  .rename_i x off ha;rw[ha];rfl
  .cases h
 case call c=>
  simp only[qK,zA];split at h
  .rename_i hb;rw[hb];simp only;rw[aH]at h;split
   .rename_i x t ts hx ht;have hx':=h x (by rw[hx];simp);split
    .rename_i a ha;rw[ha]at hx';cases a<;>first|rfl|(simp at hx')
    .rfl
   .rfl
  .rename_i b hb hne;rw[hne];cases b<;>first|rfl|exact absurd rfl hb
  .cases h
def EfT(P:fV)(E:tY)(F:Fc)(ops:fZ)(os:gW)(m:Nat)(fr:fU)(H:Hp)(f:fU)(H':Hp)(es ds:gI):Prop:=
 ∃(S:jG) (K:Nat) (ep:Nat->Nat) (Hc:Nat->Hp),S 0=fr/\S os.length=f/\Hc 0=H/\Hc K=H'/\es.length=K/\(∀k,k<K->es[k]? =some (ep k))/\
  (∀k,k<K->m<=ep k/\ep k<m+os.length)/\(∀k k',k'<k->k<K->ep k'<ep k)/\(∀i,i<os.length->∃o,os[i]? =some o/\(∀d,o.dst=some d->d<(S i).length)/\
   ((∃k v,k<K/\ep k=m+i/\qH ops (S i) o=true/\xF P E F (Hc k) (S i) o=some (v,Hc (k+1))/\S (i+1)=qU (S i) o.dst v)\/
    ((∀k,k<K->ep k≠m+i)/\((qH ops (S i) o=true/\∃v q,q<=K/\(∀k,k<K->(ep k<m+i↔k<q))/\qK P E (zO F o) (Hc q) (S i) o=some v/\(Jd E.gl (S i) o=true\/m+i∈ds)/\S (i+1)=qU (S i) o.dst v)\/(qH ops (S i) o=false/\S (i+1)=qU (S i) o.dst pV)))))
theorem EfT.plain{o:Oper}{os:gW}{m:Nat}{fr fr1 f:fU}{H H':Hp}{es ds ds1:gI}(he:EfT P E F ops os (m+1) fr1 H f H' es ds1)(hdl:∀d,o.dst=some d->d<fr.length)(hds:∀d∈ds1,d∈ds)
  (hk:(qH ops fr o=true/\∃v,qK P E (zO F o) H fr o=some v/\(Jd E.gl fr o=true\/m∈ds)/\fr1=qU fr o.dst v)\/(qH ops fr o=false/\fr1=qU fr o.dst pV)):EfT P E F ops (o::os) m fr H f H' es ds:=by
 obtain⟨S,K,ep,Hc,h0,h1,h2,h3,h4,h5,h6,h7,h8⟩:=he;refine⟨λi=>match i with|0=>fr|i+1=>S i,K,ep,Hc,rfl,h1,h2,h3,h4,h5,λk hk=>⟨by have:=h6 k hk;omega,by have:=h6 k hk;simp;omega⟩,h7,λi hi=> ?_⟩;cases i with
 |zero=>
  refine⟨o,rfl,hdl,.inr ⟨λk hk=>by have:=h6 k hk;omega,?_⟩⟩;rcases hk with⟨w,v,e1,e2,e3⟩|⟨w,e2⟩
  .exact .inl ⟨w,v,0,Nat.zero_le _,λk hk=>⟨λq=>by have:=h6 k hk;omega,λq=>by omega⟩,by rw[h2];exact e1,e2,by show S 0=_;rw[h0];exact e3⟩
  .exact .inr ⟨w,by show S 0=_;rw[h0];exact e2⟩
 |succ i=>
  obtain⟨o',q1,q2,q3⟩:=h8 i (by simpa using hi);refine⟨o',by simpa using q1,q2,?_⟩;rw[show m+(i+1)=m+1+i by omega];rcases q3 with q3|⟨q3,q4⟩
  .exact .inl q3
  .refine .inr ⟨q3,?_⟩;rcases q4 with⟨w,v,q,e1,e2,e3,e4,e5⟩|q4
   .exact .inl ⟨w,v,q,e1,e2,e3,e4.imp id (hds _),e5⟩
   .exact .inr q4
theorem UL:∀(os:gW) (m:Nat) (fr:fU) (H:Hp) (f:fU) (H':Hp) (es ds:gI),KQ P E F ops os m fr H=some (f,H',es,ds)->EfT P E F ops os m fr H f H' es ds
 |[],m,fr,H,f,H',es,ds,h=>by
  simp only[KQ,aC,aU]at h;obtain⟨rfl,rfl,rfl,rfl⟩:=h;exact⟨λ_ =>fr,0,λ_ =>0,λ_ =>H,rfl,rfl,rfl,rfl,rfl,λk hk=>by omega,λk hk=>by omega,λk k' _ hk=>by omega,λi hi=>by simp at hi⟩
 |o::os,m,fr,H,f,H',es,ds,h=>by
  simp only[KQ]at h;split at h
  .cases h
  .rename_i hd;have hdl:=CP hd;split at h
   .rename_i hw;split at h
    .rename_i v hv;split at h
     .rename_i f1 H1 es1 ds1 he;simp only[aC,aU]at h;obtain⟨rfl,rfl,rfl,rfl⟩:=h;refine(UL os (m+1) _ H _ _ _ _ he).plain hdl (λd hd=> ?_) (.inl ⟨hw,v,hv,?_,rfl⟩)
      .split
       .exact hd
       .exact aG _ hd
      .by_cases hh:Jd E.gl fr o=true
       .exact .inl hh
       .rw[if_neg hh];exact .inr aL
     .cases h
    .split at h
     .rename_i v H1 hef;split at h
      .rename_i f1 H2 es1 ds1 he;simp only[aC,aU]at h;obtain⟨rfl,rfl,rfl,rfl⟩:=h;obtain⟨S,K,ep,Hc,h0,h1,h2,h3,h4,h5,h6,h7,h8⟩:=UL os (m+1) _ H1 _ _ _ _ he;refine⟨λi=>match i with|0=>fr|i+1=>S i,K+1,λk=>match k with|0=>m|k+1=>ep k,λk=>match k with|0=>H|k+1=>Hc k,rfl,h1,rfl,h3,by simp[h4],λk hk=> ?_,λk hk=> ?_,λk k' hkk hk=> ?_,λi hi=> ?_⟩
       .cases k with
        |zero=>rfl|succ k=>exact h5 k (by omega)
       .cases k with
        |zero=>simp|succ k=>have:=h6 k (by omega);simp only[bL];omega
       .cases k with
        |zero=>omega
        |succ k=>
         cases k' with
         |zero=>have:=h6 k (by omega);show m<ep k;omega|succ k'=>exact h7 k k' (by omega) (by omega)
       .cases i with
        |zero=>exact⟨o,rfl,hdl,.inl ⟨0,v,by omega,rfl,hw,by show _ =some (v,Hc 0);rw[h2];exact hef,by show S 0=_;rw[h0]⟩⟩
        |succ i=>
         obtain⟨o',q1,q2,q3⟩:=h8 i (by simpa using hi);refine⟨o',by simpa using q1,q2,?_⟩;rw[show m+(i+1)=m+1+i by omega];rcases q3 with⟨k,v',e1,e2,e3,e4,e5⟩|⟨q3,q4⟩
         .exact .inl ⟨k+1,v',by omega,e2,e3,e4,e5⟩
         .refine .inr ⟨λk hk=> ?_,?_⟩
          .cases k with
           |zero=>show m≠_;omega|succ k=>exact q3 k (by omega)
          .rcases q4 with⟨w,v',q,e1,e2,e3,e4,e5⟩|q4
           .refine .inl ⟨w,v',q+1,by omega,λk hk=> ?_,e3,e4,e5⟩;cases k with
            |zero=>exact⟨λ_ =>by omega,λ_ =>by show m<_;omega⟩|succ k=>have:=e2 k (by omega);exact⟨λq=>by have:=this.1 q;omega,λq=>this.2 (by omega)⟩
           .exact .inr q4
      .cases h
     .cases h
   .rename_i hw;exact(UL os (m+1) _ H _ _ _ _ h).plain hdl (λd hd=>hd) (.inr ⟨by simpa using hw,rfl⟩)
theorem bCb{fr:fU}{H:Hp}{s:Fx}(h:HS P E F ops fr H=some s):s.pend=none/\∃(S:jG) (K:Nat) (ep:Nat->Nat) (Hc:Nat->Hp),ETr P E F ops S K ep Hc/\S 0=fr/\S ops.size=s.fr/\Hc 0=H/\Hc K=s.H:=by
 unfold HS at h;split at h
 .rename_i f H' es ds he;split at h
  .rename_i hc;cases h;simp only[Ez,aA,aH]at hc;obtain⟨hc1,hc2⟩:=hc;obtain⟨S,K,ep,Hc,h0,h1,h2,h3,h4,h5,h6,h7,h8⟩:=UL (P:=P) (E:=E) (F:=F) (ops:=ops) ops.toList 0 fr H f H' es ds he;have hmem:∀k,k<K->ep k∈es:=λk hk=>bB (h5 k hk);refine⟨rfl,S,K,ep,Hc,⟨λi hi=> ?_,λk hk=>by have:=h6 k hk;simpa using this.2,λk k' hkk hk=> ?_⟩,h0,by simpa using h1,h2,h3⟩
   .obtain⟨o,q1,q2,q3⟩:=h8 i (by simpa using hi);refine⟨o,by simpa using q1,q2,?_⟩;rw[bP]at q3;rcases q3 with q3|⟨q3,q4⟩
    .exact .inl q3
    .refine .inr ⟨q3,?_⟩;rcases q4 with⟨w,v,q,e1,e2,e3,e4,e5⟩|q4
     .refine .inl ⟨w,v,λc hcK w1 w2=> ?_,e5⟩;rcases e4 with e4|e4
      .rw[aPs (H':=Hc q) e4];exact e3
      .have hcq:c=q:=by
        rcases Nat.lt_trichotomy c q with z|z|z
        .
         have hck:c<K:=by omega
         have hlt:=(e2 c hck).2 z;have hp:=hc2 _ e4 _ (hmem c hck);rw[if_pos (by simp[Nat.blt];omega)]at hp;have:=w1 c hck hp;omega
        .exact z
        .have hck:q<K:=by omega
         have hge:¬ep q<i:=λhh=>by have:=(e2 q hck).1 hh;omega
         have hp:=hc2 _ e4 _ (hmem q hck);rw[if_neg (by simp[Nat.blt];omega)]at hp;have:=w2 q hck hp;omega
       subst hcq;exact e3
     .exact .inr q4
   .have hlt:=h7 k k' hkk hk;have:=hc1 _ (hmem k hk) _ (hmem k' (by omega));simp only[bF,bW]at this;have hb:Nat.blt (ep k') (ep k)=true:=by simp[Nat.blt];omega
    rcases this with q|q
    .rw[hb]at q;cases q
    .exact q
  .cases h
 .cases h
theorem aPa(hE:vP P E.gl E.pe)(hF:tX P E.gl F.ee)(hok:BM ops=true){fr:fU}{H:Hp}{s:Fx}(he:HS P E F ops fr H=some s){g:G}{a:Act}(hi:Inv P E g H g a ⟨fr,H,none⟩)
  {Q:gC} (hQ:∀a' g',Inv P E g H g' a' ⟨s.fr,s.H,none⟩->Q .normal a' g'.w):wpAny P .any ops Q ops.size (Array.replicate ops.size false) a {g.w with drawn:=g.w.drawn+1}:=by
 obtain⟨_,S,K,ep,Hc,htr,e0,e1,e2,e3⟩:=bCb he
 let gd:G:={g with w:={g.w with drawn:=g.w.drawn+1}}
 have hp:PStep g gd:=⟨rfl,rfl,rfl,aZ _,λ_ _ =>rfl,λ_ h=>h,λ_ h=> .inl h,rfl,rfl,rfl⟩;have hcnt:cnt (Array.replicate ops.size false)=ops.size:=by simp[cnt]
 have nold:∀i,¬Ld (Array.replicate ops.size false) i:=λi hl=>by
  unfold Ld at hl;by_cases q:i<ops.size<;>simp[q]at hl
 refine aIb (g0:=g) (H0:=H) hE hF hok htr (λa' g' h'=>hQ a' g' (by rw[<-e1,<-e3];exact h')) ops.size _ a gd 0 ?_ hcnt;have hfr:RdL g a.tmps.toList fr:=hi.fr.all;refine⟨by simp,λi o ho hl=>absurd hl (nold i),hi.ok,Nat.zero_le _,λk hk=>⟨λq=>absurd q (nold _),λq=>by omega⟩,by rw[e2];exact hi.st.pstep hp,by rw[e2];exact hp.toS,hi.gl.pstep hp,hi.df,by rw[e0];have:=hfr.1;simpa using this,?_⟩;intro t i v c hi' h1 h2 hv hcc;have hno:∀j o,j<i->ops[j]? =some o->o.dst≠some t:=λj o hj ho hdd=>absurd (h1 j o hj ho hdd) (nold j);have:=htr.same (t:=t) i 0 (by omega) (λj o _ hj ho=>hno j o (by omega) ho);rw[bP]at this;rw[this,e0]at hcc;exact(hfr.pstep hp).2 t v c (by simpa using hv) hcc
end
open Go.RowKit
section
variable(P:fV)(E:tY)(ee:gB)(yd:gF)(ow:hD)(n:Nat)(ro:iB)
def EH(ops:fZ):List Oper->Fx->Option Fx
 |[],s=>some s
 |o::r,s=>match(if s.pend.isNone&&qH ops s.fr o then AL E.gl s.fr o else none)with
  |some (l,ars)=>match yd l ars s.H with
   |some (b,H')=>EH ops r ⟨qU s.fr o.dst (.bool b),H',none⟩|none=>none
  |none=>match sE P E (BU ow ee) ops s o with
   |some s'=>EH ops r s'|none=>none
def WY(l:Nat)(fr:fU)(H:Hp):Option (X×List T×Hp):=RM H l λr=>match r.st with
 | .busy=>none
 |_ =>match r.pe with
  |none=>some (.normal,fr,H.drop l)|some (.exit id)=>some (.exit id,fr,H.drop l)|some .ret=>some (.ret,fr,H.drop l)|_ =>none
def qI:Code->List T->Hp->Option (X×List T×Hp)
 | .skip,fr,H| .label _,fr,H=>some (.normal,fr,H)
 | .region id ops draw,fr,H=>
  match(if draw then AB P E (BU ow ee) ops (ow (9000000+id)) fr H else EH P E ee yd ow ops ops.toList ⟨fr,H,none⟩)with
  |some ⟨fr',H',none⟩=>some (.normal,fr',H')|_ =>none
 | .seq a b,fr,H=>match qI a fr H with
  |some (.normal,fr',H')=>qI b fr' H'|r=>r
 | .cond c a b,fr,H=>match qG E.gl fr c with
  |some (.bool t)=>if t then qI a fr H else qI b fr H
  |_ =>none
 | .block id c,fr,H=>match qI c fr H with
  |some (.exit id',fr',H')=>if id'=id then some (.normal,fr',H')else some (.exit id',fr',H')
  |r=>r
 | .loop c,fr,H=>pU.loopN (λfr H=>qI c fr H) n fr H
 | .rangeFunc g ps asg bd,fr,H=>match qG E.gl fr g with
  | some (.fn (.func gf) [] cap)=>if Qp H ro then match ee gf (.yl H.next::cap) (H.new (DE ⟨.ready,none,FT.of fr 0 .nl,fr.length,ps,asg,bd,ow⟩))with
    |some (_,H2)=>WY H.next fr H2|none=>none
   else none
  |_ =>none
 | .exit id,fr,H=>some (.exit id,fr,H)| .ret,fr,H=>some (.ret,fr,H)|_,_,_ =>none
def uN:Code->Bool
 | .region _ ops draw=>uD ops&&(!draw||BM ops)| .seq a b| .cond _ a b=>uN a&&uN b| .block _ c| .loop c=>uN c| .rangeFunc _ _ asg bd=>uN asg&&uN bd| .skip| .label _ | .exit _ | .ret=>true|_ =>false
def Kq(l:Nat)(r:Lr)(fr:fU)(H:Hp):Option (Bool×Hp):=RM H l λr1=>match r1.st with
 | .ready=>match qI P E ee yd r.ow n (some l) r.bd fr (H.put l (DE {r1 with st:= .busy}))with
  |some (x,_,H2)=>MI l H2 x|none=>none
 |_ =>none
def JF(l:Nat)(args:fU)(H:Hp):Option (Bool×Hp):=RM H l λr=>
 if args.length=r.ps.size/\uN r.asg=true/\uN r.bd=true then match qI P E ee yd r.ow n (some l) r.asg (FF r.ps.toList args (r.fr.view r.n)) H with
  |some (.normal,fr1,H1)=>Kq P E ee yd n l r fr1 H1|_ =>none
 else none
def Yu(f:gV)(args:fU)(H:Hp):Option (T×Hp):=
 match P.funcs[f]? with
 |some fn=>match fn.body with
  |some c=>match qI P E ee yd ow n none c (args++List.replicate (fn.ntmps-args.length) pV) H with
   |some (.normal,fr,H')|some (.ret,fr,H')=>match sS P fr H' fn.results.toList with
    |some [t]=>some (t,H')|some ts=>some (.tup ts,H')|none=>none
   |_ =>none
  |none=>none
 |none=>none
def zD(f:gV):Bool:=match P.funcs[f]? with
 |some fn=>match fn.body with
  |some c=>uN c|none=>false
 |none=>false
end
def Az(f:gV)(ts:fU)(H:Hp):Option (T×Hp):=if f=123 then NR 135 ts H else if f=79 then Cb 135 5 ts H else none
structure Rf2 where
 ee:FuncId->List T->Hp->Option (T×Hp)
 yd:Nat->List T->Hp->Option (Bool×Hp)
abbrev iL:=FuncId->Tmp->Bool
abbrev iA:=FuncId->Bool
def vH(P:fV)(E:tY)(own:iL)(ok:iA)(n:Nat):Nat->Rf2
 |0=>⟨λ_ _ _ =>none,λ_ _ _ =>none⟩|d+1=>⟨λf ts H=>if ok f then Yu P E (vH P E own ok n d).ee (vH P E own ok n d).yd (own f) n f ts H else Az f ts H,λl ts H=>JF P E (vH P E own ok n d).ee (vH P E own ok n d).yd n l ts H⟩
section
variable{P:fV}{E:tY}{ee:gB}{yd:gF}{ow:hD}{n:Nat}
theorem aIr(hF:tX P E.gl ee)(ow:hD):tX P E.gl (BU ow ee).ee:=by rw[NZ];exact hF
theorem La(hE:vP P E.gl E.pe)(hF:tX P E.gl ee)(hY:Tk P E.gl yd){ops:fZ}(hp:uD ops=true){Q:gC}(hno:∀a w,¬Q .outgrown a w){ro:iB}{m:Nat}{ds:iI}:
  ∀(l:gW) (k:Nat) (s s':Fx) (g0:G) (H0:Hp),(∀j,l[j]? =ops[k+j]?)->EH P E ee yd ow ops l s=some s'->∀(g:G) (a:Act),Inv P E g0 H0 g a s->(∀a' g',Inv P E g0 H0 g' a' s'->Q .normal (DS ds a') g'.w)->wpOpsIn (Fw ro) m P ops Q (List.range' k l.length) (DS ds a) g.w
 |[],k,s,s',g0,H0,_,h,g,a,hi,hQ=>by
  cases(show some s=some s' from h);exact hQ a g hi
 |o::l,k,s,s',g0,H0,hl,h,g,a,hi,hQ=>by
  have h0:ops[k]? =some o:=by simpa using(hl 0).symm
  have hl':∀j,l[j]? =ops[k+1+j]? :=λj=>by have:=hl (j+1);simpa [dW,Nat.add_comm 1 j]using this
  rw[bL,eU,wpOpsIn_cons];simp only[EH]at h;split at h
  .rename_i l1 ars hq;split at hq
   .rename_i hcond;simp only[aA]at hcond;obtain⟨hpn,hw⟩:=hcond;have hpn:s.pend=none:=by simpa using hpn
    split at h
    .rename_i b H1 hy;have hci:qT E g0 H0 g a s.fr s.H:=⟨hi.ok,hi.st,hi.gl,hi.df,EB.all (by have:=hi.fr;rw[hpn]at this;exact this),hi.step⟩;have hc':qT (Xb E.gl) g0 H0 g a s.fr s.H:=qT.cast (E:=E) (E':=Xb E.gl) rfl hci;refine aNa hY hp h0 hq hy hw hc' (λg' hc2 hs=> ?_);have hc3:qT E g0 H0 g' (a.put o.dst (.bool b)) (qU s.fr o.dst (.bool b)) H1:=qT.cast (E:=Xb E.gl) (E':=E) rfl hc2;exact La hE hF hY hp hno l (k+1) _ s' g0 H0 hl' h g' _ ⟨hc3.ok,hc3.st,hc3.gl,hc3.df,EB.of hc3.fr none,λd t q=>(by cases q),hc3.step⟩ hQ
    .cases h
   .cases hq
  .split at h
   .rename_i s1 hs1;have h1:=PK (P:=P) (E:=E) (F:=BU ow ee) (g0:=g0) (H0:=H0) (Q:=λe a w=>Q e (DS ds a) w) hE (aIr hF ow) hi hs1 h0 (K:=λa' w'=>∃g',g'.w=w'/\Inv P E g0 H0 g' a' s1) (λa' g' h'=>⟨g',rfl,h'⟩);refine VL hp hno (λa' w' ⟨g',e,h'⟩=> ?_) h1;rw[<-e];exact La hE hF hY hp hno l (k+1) s1 s' g0 H0 hl' h g' a' h' hQ
   .cases h
theorem Uq{l:Nat}{fr:fU}{H:Hp}{x:X}{fr':fU}{H':Hp}(h:WY l fr H=some (x,fr',H'))(tr:FT):fr'=fr/\aPc l tr H=some [(x,tr,H')]:=by
 obtain⟨o,rc,h1,h2,h3⟩:=xX h;unfold aPc RM;simp only[h1,h2,okO];split at h3
 .cases h3
 .rename_i hb;split at h3
  .rename_i hp;cases h3;refine⟨rfl,?_⟩;simp only[hp]
   try(split<;>first|rfl|(rename_i e;exact absurd e hb))
  .rename_i id hp;cases h3;refine⟨rfl,?_⟩;simp only[hp]
   try(split<;>first|rfl|(rename_i e;exact absurd e hb))
  .rename_i hp;cases h3;refine⟨rfl,?_⟩;simp only[hp]
   try(split<;>first|rfl|(rename_i e;exact absurd e hb))
  .cases h3
theorem WR(hm:P.follows .mixedOrders=true)(hE:vP P E.gl E.pe)(hF:tX P E.gl ee)(hY:Tk P E.gl yd){n:Nat}{ro:iB}{m:Nat}{g0:G}{H0:Hp}(hro:∀l,ro=some l->g0.al l):
  ∀(c:Code) (fr:fU) (H:Hp) (x:X) (fr':fU) (H':Hp),uN c=true->qI P E ee yd ow n ro c fr H=some (x,fr',H')->∀(g:G) (a:Act) (ds:iI),qT E g0 H0 g a fr H->Mk g0 g H ds->
   ∀(Q:gC),(∀a w,¬Q .outgrown a w)->(∀a' g' ds',qT E g0 H0 g' a' fr' H'->Mk g0 g' H' ds'->Q x.exit_ (DS ds' a') g'.w)->c.wpIn (Fw (ro.map g0.loc)) m P Q (DS ds a) g.w:=by
 intro c
 induction c with
 |skip=>
  intro fr H x fr' H' _ he g a ds hc hd Q hno hQ;simp only[qI,aC,aU]at he;obtain⟨rfl,rfl,rfl⟩:=he;exact wpIn_skip (hQ a g ds hc hd)
 |label l=>
  intro fr H x fr' H' _ he g a ds hc hd Q hno hQ;simp only[qI,aC,aU]at he;obtain⟨rfl,rfl,rfl⟩:=he;exact wpIn_label (hQ a g ds hc hd)
 |exit id=>
  intro fr H x fr' H' _ he g a ds hc hd Q hno hQ;simp only[qI,aC,aU]at he;obtain⟨rfl,rfl,rfl⟩:=he;exact wpIn_exit (hQ a g ds hc hd)
 |ret=>
  intro fr H x fr' H' _ he g a ds hc hd Q hno hQ;simp only[qI,aC,aU]at he;obtain⟨rfl,rfl,rfl⟩:=he;exact wpIn_ret (hQ a g ds hc hd)
 |region id ops draw=>
  intro fr H x fr' H' hok he g a ds hc hd Q hno hQ;simp only[uN,aA]at hok;simp only[qI]at he;cases draw with
  |true=>
   simp only[if_true]at he;split at he
   .rename_i f1 h1 hr;cases he;unfold AB at hr;split at hr
    .exact wpIn_region_any hm (Ar hok.1 hno _ _ _ _ (aPa (Q:=λe a w=>Q e (DS ds a) w) hE (aIr hF ow) (by simpa using hok.2) hr hc.self.toInv (λa' g' hi=>hQ a' g' ds (hi.toC hc.step rfl) (hd.sstep hi.step))))
    .exact Fp (draw:=true) hm hE (aIr hF ow) hok.1 (λ_ =>by simpa using hok.2) ((if_pos rfl).trans hr) hc.self hno (λa' g' hc'=>hQ a' g' ds (hc.based hc') (hd.sstep hc'.step))
   .cases he
  |false=>
   simp only[aY,if_false]at he;split at he
   .rename_i f1 h1 hr;cases he;have:=La (ro:=ro.map g0.loc) (m:=m) (ds:=ds) hE hF hY hok.1 hno ops.toList 0 _ _ g H (λj=>by simp) hr g a hc.toInv (λa' g' hi=>hQ a' g' ds (hi.toC hc.step rfl) (hd.sstep hi.step));rw[dH,<-List.range_eq_range']at this;exact wpIn_region this
   .cases he
 |seq c1 c2 ih1 ih2=>
  intro fr H x fr' H' hok he g a ds hc hd Q hno hQ;simp only[uN,aA]at hok;simp only[qI]at he;refine wpIn_seq ?_;split at he
  .rename_i f1 h1 hr;exact ih1 _ _ _ _ _ hok.1 hr g a ds hc hd _ (uV hno) (λa' g' ds' hc' hd'=>ih2 _ _ _ _ _ hok.2 he g' a' ds' hc' hd' Q hno hQ)
  .rename_i hr;refine ih1 _ _ _ _ _ hok.1 he g a ds hc hd _ (uV hno) (λa' g' ds' hc' hd'=> ?_);cases x with
   |normal=>exact absurd he (hr _ _)|exit id=>exact hQ a' g' ds' hc' hd'|ret=>exact hQ a' g' ds' hc' hd'
 |cond o c1 c2 ih1 ih2=>
  intro fr H x fr' H' hok he g a ds hc hd Q hno hQ;simp only[uN,aA]at hok;simp only[qI]at he;split at he
  .rename_i b hb;have hr:=(EB.of hc.fr none).eval hc.gl (λ_ _ =>by simp) hb;refine wpIn_cond (t:=b) (show(DS ds a).eval o= .bool b from hr.inv_bool) ?_;cases b with
   |true=>exact ih1 _ _ _ _ _ hok.1 (by simpa using he) g a ds hc hd Q hno hQ|false=>exact ih2 _ _ _ _ _ hok.2 (by simpa using he) g a ds hc hd Q hno hQ
  .cases he
 |block id c ih=>
  intro fr H x fr' H' hok he g a ds hc hd Q hno hQ;simp only[uN]at hok;simp only[qI]at he;refine wpIn_block ?_;have hnb:∀a w,¬Exit.inBlock id Q .outgrown a w:=λa w h=>hno a w h;split at he
  .rename_i id' f1 h1 hr;refine ih _ _ _ _ _ hok hr g a ds hc hd _ hnb (λa' g' ds' hc' hd'=> ?_);simp only[X.exit_,Exit.inBlock];split at he
   .rename_i e;cases he;rw[if_pos e];exact hQ a' g' ds' hc' hd'
   .rename_i e;cases he;rw[if_neg e];exact hQ a' g' ds' hc' hd'
  .rename_i hr;refine ih _ _ _ _ _ hok he g a ds hc hd _ hnb (λa' g' ds' hc' hd'=> ?_);cases x with
   |normal=>exact hQ a' g' ds' hc' hd'|exit id'=>exact absurd he (hr _ _ _)|ret=>exact hQ a' g' ds' hc' hd'
 |loop c ih=>
  intro fr H x fr' H' hok he g a ds hc hd Q hno hQ;simp only[uN]at hok;simp only[qI]at he;refine wpIn_loop_rounds n ?_;have key:∀(k:Nat) (fr:fU) (H:Hp) (g:G) (a:Act) (ds:iI),pU.loopN (λfr H=>qI P E ee yd ow n ro c fr H) k fr H=some (x,fr',H')->qT E g0 H0 g a fr H->Mk g0 g H ds->Code.roundsIn (Fw (ro.map g0.loc)) m P c Q k (DS ds a) g.w:=by
   intro k
   induction k with
   |zero=>intro fr H g a ds h;simp[pU.loopN]at h
   |succ k ihk=>
    intro fr H g a ds h hc hd;simp only[pU.loopN]at h;rw[roundsIn_succ];split at h
    .rename_i f1 h1 hr;exact ih _ _ _ _ _ hok hr g a ds hc hd _ (uV hno) (λa' g' ds' hc' hd'=>ihk f1 h1 g' a' ds' h hc' hd')
    .rename_i hr;refine ih _ _ _ _ _ hok h g a ds hc hd _ (uV hno) (λa' g' ds' hc' hd'=> ?_);cases x with
     |normal=>exact absurd h (hr _ _)|exit id=>exact hQ a' g' ds' hc' hd'|ret=>exact hQ a' g' ds' hc' hd'
  exact key n fr H g a ds he hc hd
 |rangeFunc gv ps a_s bd _ _ =>
  intro fr H x fr' H' hok he g a ds hc hd Q hno hQ;simp only[qI]at he;split at he
  .rename_i gf cap hg;split at he
   .rename_i hrok;split at he
    .rename_i v H2 hcall;obtain⟨e1,e2⟩:=Qc (n:=fr.length) (fr:=fr) rfl;obtain⟨rfl,hend⟩:=Uq he (FT.of fr 0 .nl);refine Vy (n:=fr'.length) hF hro e2 (by rw[e1];exact hg) hrok hcall hend (by rw[e1];exact qT.cast (E:=E) (E':=Xb E.gl) rfl hc) hd (λp hp a' g' ds' hc' hw' hd'=> ?_);cases bV.1 hp;refine hQ a' g' ds' ?_ hd';have:=qT.cast (E:=Xb E.gl) (E':=E) rfl hc'
     rwa [e1]at this
    .cases he
   .cases he
  .cases he
 |_ =>
  intro fr H x fr' H' hok;simp[uN]at hok
theorem aEb(hm:P.follows .mixedOrders=true)(hE:vP P E.gl E.pe)(hF:tX P E.gl ee)(hY:Tk P E.gl yd){n:Nat}:Tk P E.gl (λl ts H=>JF P E ee yd n l ts H):=by
 intro l ts H b H' h g vs hok hst hgl hv;obtain⟨o,rc,ho,hme,h⟩:=xX h;split at h
 .rename_i hc;obtain⟨c1,c2,c3⟩:=hc;split at h
  .rename_i fr1 H1 h1;obtain⟨hal,fn,tmps,D,hb,hr,hw⟩:=OG hst ho hme;have hsz:vs.toArray.size=rc.ps.size:=by rw[List.size_toArray,hv.1,c1]
   refine⟨fn,_,rc.asg,rc.bd,run_yield (P:=P) (args:=vs.toArray) hb hsz,roundIn_of_wpIn (F:=Fw none) trivial ?_⟩;show rc.asg.wpIn (Fw ((some l).map g.loc)) 0 P _ _ g.w;rw[Tc];have hci:qT E g H g {tmps:=(rc.ps.toList.zip vs).foldl (λt p=>t.setIfInBounds p.1 p.2) tmps,defers:=[]} (FF rc.ps.toList ts (rc.fr.view rc.n)) H:=
    ⟨hok,hst,hgl,rfl,Rl _ _ _ _ _ hv hr,qF.refl H g⟩
   have hro:∀l',some l=some l'->g.al l':=λl' e=>by cases e;exact hal
   rw[<-yW {tmps:=(rc.ps.toList.zip vs).foldl (λt p=>t.setIfInBounds p.1 p.2) tmps,defers:=[]}];refine WR hm hE hF hY hro rc.asg _ _ _ _ _ c2 h1 g _ [] hci Mk.none _ (λa w h=>h) (λa1 g1 ds1 hc1 hd1=> ?_);obtain⟨o1,r1,ho1,hm1,h⟩:=xX h;split at h
   .rename_i hrd;split at h
    .rename_i x2 fr2 H2 h2;obtain⟨_,fn1,tmps1,D1,hb1,hr1,hw1'⟩:=OG hc1.st ho1 hm1;have hl1:g1.loc l=g.loc l:=hc1.step.loc l hal;obtain⟨g2,hg2⟩:∃g2:G,g2=g1.setOb (g1.loc l) (.loop {state:= .busy,pending:=r1.pe,fn:=fn1,tmps:=tmps1,params:=r1.ps,assign:=r1.asg,body:=r1.bd,defers:=D1}):=⟨_,rfl⟩;have hs2:qF H1 g1 (H1.put l (DE {r1 with st:= .busy})) g2:=by rw[hg2];exact yH ho1 _ _
     have hst2:St g2 (H1.put l (DE {r1 with st:= .busy})):=by rw[hg2];exact JJ hc1.st ho1 rfl ⟨fn1,tmps1,D1,rfl,hr1,hw1'⟩
     have hok2:rZ g2:=by rw[hg2];exact JI hc1.ok _ _
     have hw2:g1.w.putObj (g1.loc l) (.loop {state:= .busy,pending:=r1.pe,fn:=fn1,tmps:=tmps1,params:=r1.ps,assign:=r1.asg,body:=r1.bd,defers:=D1})=g2.w:=by rw[hg2];rfl
     have hbr:=run_beginRound (P:=P) hb1 hrd;rw[hw2,hl1]at hbr;refine⟨g2.w,hbr,?_⟩;have hc2:qT E g H g2 a1 fr1 (H1.put l (DE {r1 with st:= .busy})):=⟨hok2,hst2,hc1.gl.sstep hc1.st hs2,hc1.df,hc1.fr.sstep hc1.st hs2,hc1.step.trans hs2⟩
     exact WR hm hE hF hY hro rc.bd _ _ _ _ _ c3 h2 g2 a1 ds1 hc2 (hd1.sstep hs2) _ (λa w h=>h) (λa3 g3 ds3 hc3 hd3=>by
      have:=aEc (P:=P) (qT.cast (E:=E) (E':=Xb E.gl) rfl hc3) hal h;cases x2 with
      |normal=>exact this|exit id=>exact this|ret=>exact this)
    .cases h
   .cases h
  .cases h
 .cases h
theorem aWp(hm:P.follows .mixedOrders=true)(hE:vP P E.gl E.pe)(hF:tX P E.gl ee)(hY:Tk P E.gl yd){n:Nat}{f:gV}(hwf:zD P f=true){ts:fU}{H H':Hp}{r:T}(he:Yu P E ee yd ow n f ts H=some (r,H'))
  (g:G) (vs:gM) (hg:rZ g) (hs:St g H) (hgl:GlOk E.gl g) (hv:RdL g vs ts):
  Calls P f vs.toArray g.w λe w'=>∃v g',e= .returned v/\g'.w=w'/\qF H g H' g'/\rZ g'/\St g' H'/\Rd g' v r:=by
 unfold Yu at he;unfold zD at hwf;split at he
 .rename_i fn hfn;rw[hfn]at hwf;simp only at hwf;split at he
  .rename_i c hc;rw[hc]at hwf;simp only at hwf;have hframe:RdL g (vs.toArray++Array.replicate (fn.ntmps-vs.toArray.size) undef).toList (ts++List.replicate (fn.ntmps-ts.length) pV):=by
    have:(vs.toArray++Array.replicate (fn.ntmps-vs.toArray.size) undef).toList=vs++List.replicate (fn.ntmps-ts.length) undef:=by simp[hv.1]
    rw[this];exact hv.append (RdL.replicate _ Rd.undef)
   have hci:qT E g H g {tmps:=vs.toArray++Array.replicate (fn.ntmps-vs.toArray.size) undef,defers:=[]} (ts++List.replicate (fn.ntmps-ts.length) pV) H:=⟨hg,hs,hgl,rfl,hframe,qF.refl H g⟩
   have fin:∀(fr:fU) (H1:Hp),(match sS P fr H1 fn.results.toList with
     |some [t]=>some (t,H1)|some ts=>some (.tup ts,H1)|none=>none)=some (r,H')->∀(a':Act) (g':G),qT E g H g' a' fr H1->LeavesIn (Fw none) 0 P fn a'.tmps (λe w'=>∃v g',e= .returned v/\g'.w=w'/\qF H g H' g'/\rZ g'/\St g' H'/\Rd g' v r) [] .returning g'.w:=by
    intro fr H1 hr a' g' hci;have hH:H1=H':=by
     split at hr
     .cases hr;rfl
     .cases hr;rfl
     .cases hr
    subst hH;show∃v,_;have er:fn.results=fn.results.toList.toArray:=by simp
    split at hr
    .rename_i t ht;cases hr;obtain⟨us,h1,h2⟩:=uJ (P:=P) hci.st hci.fr ht
     match us,h2 with
     |[u],h2=>
      refine⟨u,?_,u,g',rfl,rfl,hci.step,hci.ok,hci.st,(h2.inv_cons).1⟩;rw[uE,er,dM];simp only[aP,eY];rw[h1];simp
     |[],h2=>simp[RdL]at h2|_ ::_ ::_,h2=>simp[RdL]at h2
    .rename_i ts' hne ht;cases hr;obtain⟨us,h1,h2⟩:=uJ (P:=P) hci.st hci.fr ht;refine⟨.tuple us.toArray,?_,_,g',rfl,rfl,hci.step,hci.ok,hci.st,Rd.mk_tup h2⟩;rw[uE,er,dM];simp only[aP,eY];rw[h1];have hl:us.length≠1:=λq=>by
      rw[h2.1]at q;obtain⟨t,rfl⟩:=fC.1 q;exact hne t rfl
     simp[hl]
    .cases hr
   refine uY.1 (callsIn_of_wp_marks (F:=Fw none) (n:=0) hfn hc trivial ?_ rfl)
   have key:∀(x:X) (fr:fU) (H1:Hp),(x= .normal\/x= .ret)->qI P E ee yd ow n none c (ts++List.replicate (fn.ntmps-ts.length) pV) H=some (x,fr,H1)->(match sS P fr H1 fn.results.toList with
     |some [t]=>some (t,H1)|some ts=>some (.tup ts,H1)|none=>none)=some (r,H')->c.wpIn (Fw none) 0 P (bodyPostM (Fw none) 0 P fn (λe w'=>∃(v:gQ) (g':G),e= .returned v/\g'.w=w'/\qF H g H' g'/\rZ g'/\St g' H'/\Rd g' v r)) {tmps:=vs.toArray++Array.replicate (fn.ntmps-vs.toArray.size) undef,defers:=[]} g.w:=by
    intro x fr H1 hx hev hr;have:=WR (ro:=none) (m:=0) (g0:=g) (H0:=H) hm hE hF hY (λl e=>(by cases e)) c _ _ _ _ _ hwf hev g _ [] hci Mk.none (λe a w=>e≠ .outgrown/\bodyPostM (Fw none) 0 P fn (λe w'=>∃(v:gQ) (g':G),e= .returned v/\g'.w=w'/\qF H g H' g'/\rZ g'/\St g' H'/\Rd g' v r) e a w)
     (λa w h=>h.1 rfl) (λa' g' ds hci' hd'=>by
      have hl:LeavesInM (Fw none) 0 P fn (DS ds a').tmps (λe w'=>∃(v:gQ) (g':G),e= .returned v/\g'.w=w'/\qF H g H' g'/\rZ g'/\St g' H'/\Rd g' v r) (DS ds a').defers .returning g'.w:=by
       have e:(DS ds a').defers=ds:=by simp[DS,hci'.df]
       rw[e];exact BX (λg2 h2=>fin fr H1 hr a' g2 h2) ds g' hci' hd'
      rcases hx with rfl|rfl
      .exact⟨by simp[X.exit_],hl⟩
      .exact⟨by simp[X.exit_],hl⟩)
    rw[yW]at this;exact wpIn_mono this (λe a w h=>h.2)
   split at he
   .rename_i fr H1 hev;exact key .normal fr H1 (.inl rfl) hev he
   .rename_i fr H1 hev;exact key .ret fr H1 (.inr rfl) hev he
   .cases he
  .cases he
 .cases he
theorem aAs(hm:P.follows .mixedOrders=true)(hE:vP P E.gl E.pe)(hx:tX P E.gl Az){own:iL}{ok:iA}(hok:∀f,ok f=true->vL P f=true/\zD P f=true){n:Nat}:∀d,tX P E.gl (vH P E own ok n d).ee/\Tk P E.gl (vH P E own ok n d).yd
 |0=>⟨λ_ _ _ _ _ h=>(by cases h),λ_ _ _ _ _ h=>(by cases h)⟩
 |d+1=>by
  obtain⟨h1,h2⟩:=aAs hm hE hx hok (own:=own) (n:=n) d;refine⟨λf ts H r H' h=> ?_,aEb hm hE h1 h2⟩;simp only[vH]at h;split at h
  .rename_i hf;exact⟨(hok f hf).1,λg vs hg hs hgl hv=>aWp hm hE h1 h2 (hok f hf).2 h g vs hg hs hgl hv⟩
  .exact hx f ts H r H' h
end
end
end Go.Ps
namespace Go.Proofs.Tryz
open Go.Shelf
def DW:Go.Shelf.Ren:=⟨λ|156=>42|165=>77|166=>78|169=>79|240=>123|241=>124|276=>183|277=>184|n=>n,λ|31=>90|9=>9|3=>3|4=>4|0=>0|20=>20|72=>135|76=>139|70=>133|37=>128|75=>138|127=>197|164=>252|5=>5|80=>141|n=>n,λ|n=>n⟩
theorem Zm:Go.Proofs.Lays.n156 prog DW:={
 mixed:=by kernel_rfl
 f156:=func42.trans (congrArg some (by kernel_rfl))
 f165:=func77.trans (congrArg some (by kernel_rfl))
 f166:=func78.trans (congrArg some (by kernel_rfl))
 f169:=func79.trans (congrArg some (by kernel_rfl))
 f240:=func123.trans (congrArg some (by kernel_rfl))
 f241:=func124.trans (congrArg some (by kernel_rfl))
 f276:=func183.trans (congrArg some (by kernel_rfl))
 f277:=func184.trans (congrArg some (by kernel_rfl))
 t0:=underlying0
 a0:=isAgg0
 z0:=sizeOf0
 v0:=zeroValue0
 t3:=underlying3
 a3:=isAgg3
 z3:=sizeOf3
 v3:=zeroValue3
 t4:=underlying4
 a4:=isAgg4
 z4:=sizeOf4
 v4:=zeroValue4
 t9:=underlying9
 a9:=isAgg9
 z9:=sizeOf9
 v9:=zeroValue9
 t20:=underlying20
 a20:=isAgg20
 z20:=sizeOf20
 v20:=zeroValue20
 t31:=underlying90
 a31:=isAgg90
 z31:=sizeOf90
 v31:=zeroValue90
 t37:=underlying128
 a37:=isAgg128
 z37:=sizeOf128
 v37:=zeroValue128
 t70:=underlying133
 a70:=isAgg133
 z70:=sizeOf133
 v70:=zeroValue133
 t72:=underlying135
 a72:=isAgg135
 z72:=sizeOf135
 v72:=zeroValue135
 t75:=underlying138
 a75:=isAgg138
 z75:=sizeOf138
 v75:=zeroValue138
 t76:=underlying139
 a76:=isAgg139
 z76:=sizeOf139
 v76:=zeroValue139
 t127:=underlying197
 a127:=isAgg197
 z127:=sizeOf197
 v127:=zeroValue197
 t164:=underlying252
 a164:=isAgg252
 z164:=sizeOf252
 v164:=zeroValue252}
theorem DH:Builder.Extra prog DW:={
 sizeBuilder:=by kernel_rfl
 liesBuilder:=by kernel_rfl
 t5:=underlying5
 a5:=isAgg5
 z5:=sizeOf5
 v5:=zeroValue5
 infoByte:=by kernel_rfl
 cellsByte:=by kernel_rfl
 sizeByte:=by kernel_rfl
 neB5:=by decide}
open Go.Ps
theorem aMy(gl:fY):tX prog gl Az:=by
 intro f ts H r H' h;unfold Az at h;by_cases h1:f=123
 .rw[if_pos h1]at h;subst h1;exact aOs (gl:=gl) (U:=DW) {Zm with} DH.toX72 (by kernel_rfl) h
 .rw[if_neg h1]at h;by_cases h2:f=79
  .rw[if_pos h2]at h;subst h2;exact aZd (gl:=gl) (U:=DW) {Zm with} DH (by kernel_rfl) h
  .rw[if_neg h2]at h;cases h
end Go.Proofs.Tryz
namespace Go.Proofs.Tryz
open Go.Ps Go.RowKit
theorem aLk{m:Int}{te:fS}(s:gU)(c:Nat)(hc:c<=9223372036854775807)(hl:s.length*c<=140737488355328):pW prog (glZ m te) 312 [.str s,.int .i64 c] (.str (Lib.repeatL s c)):=by
 refine CM (by kernel_rfl) λg vs hgl hv=> ?_
 match vs,hv with
 |[v,u],hv=>
  have e1:=CE (hv.inv_cons).1;have h2:=((hv.inv_cons).2.inv_cons).1;subst e1;generalize hx:T.int .i64 (c:Int)=x at h2;cases h2<;>cases hx;refine⟨.string ⟨(Lib.repeatL s c).toArray⟩,λg'=> ?_,?_⟩
  rotate_left
  .have hsz:(⟨s.toArray⟩:ByteArray).size*c<=140737488355328:=by show s.toArray.size*c<=_;simpa using hl
   exact Any.strings_Repeat aQi MT ⟨s.toArray⟩ c g.w hc hsz
  .have:=Rd.str (g:=g') ⟨(Lib.repeatL s c).toArray⟩;simpa using this
 |[],hv=>have:=hv.1;simp at this|[_],hv=>have:=hv.1;simp at this|_ ::_ ::_ ::_,hv=>have:=hv.1;simp at this
def aCf(s:gU):Int:=(Lib.decodeGo ⟨s.toArray⟩).1
def aCg(s:gU):Int:=(Lib.decodeGo ⟨s.toArray⟩).2
theorem aCh{m:Int}{te:fS}(s:gU):pW prog (glZ m te) 261 [.str s] (.tup [.int .i32 (aCf s),.int .i64 (aCg s)]):=by
 refine CM (by kernel_rfl) λg vs hgl hv=> ?_
 match vs,hv with
 |[v],hv=>
  have e1:=CE (hv.inv_cons).1;subst e1;refine⟨.tuple #[.int .i32 (aCf s),.int .i64 (aCg s)],λg'=> ?_,?_⟩
  rotate_left
  .exact Any.utf8_DecodeRuneInString aQm ⟨s.toArray⟩ g.w (aMk hgl)
  .refine .tup _ [_,_] rfl (λj v c hv hc=> ?_)
   match j with
   |0=>simp at hv hc;subst hv;subst hc;exact .int _ _|1=>simp at hv hc;subst hv;subst hc;exact .int _ _|k+2=>simp at hv
 |[],hv=>have:=hv.1;simp at this|_ ::_ ::_,hv=>have:=hv.1;simp at this
theorem aWe(s:gU)(h:1<=s.length):0<=aCf s/\aCf s<=1114111/\1<=aCg s/\aCg s<=4:=by
 have hsz:(⟨s.toArray⟩:ByteArray).size=s.length:=by show s.toArray.size=_;simp
 unfold aCf aCg Lib.decodeGo;rw[if_neg (by omega)];have h1:=Lib.width_pos ⟨s.toArray⟩ 0;have h2:(Utf8.decode ⟨s.toArray⟩ 0).2<=4/\(Utf8.decode ⟨s.toArray⟩ 0).1<=1114111:=by
  rw[Lib.decode_at];refine⟨?_,Lib.decodeN_rune_le _ _ _ _ _ (UInt8.toNat_lt _)⟩;unfold Lib.decodeN
  repeat' split
  all_goals simp
 omega
end Go.Proofs.Tryz
namespace Go.Ps
noncomputable section
inductive qV where
 |le (x y:Nat) (c:Int)
 |ne (x y:Nat) (c:Int)
inductive Bo where
 |lit (b:Bool)
 |imp (p n:List qV)
inductive A where
 |top
 |any
 |int (k:iE) (s:Nat) (c:Int)
 |ival (k:iE) (lo hi:Int)
 |bool (b:Bo)
 |strc (s:gU)
 |str (s:Nat) (c:Int)
 |strv (lo hi:Int)
 |nilp
 |nils
 |nilf
 |nili
 |nilm
 |mp (l:Nat)
 |yl (l:Nat)
 |ptr (l off:Nat)
 |elp (l sz s:Nat) (c:Int) (off:Nat)
 |ref (x:A) (off:Nat)
 |sl (e:A) (s:Nat) (c:Int)
 |slv (e:A) (lo hi:Int)
 |slk (es:List A)
 |slp (q:Nat) (e:A) (s:Nat) (c:Int)
 |slpv (q:Nat) (e:A) (lo hi:Int)
 |sx (s:Nat) (c:Int)
 |sxv (lo hi:Int)
 |osl (l sz si:Nat) (ci:Int) (s:Nat) (c:Int)
 |fn (f:gV) (first cap:List A)
 |iface (t:fS) (x:A)
 |ifc
 |or (a_s:List A)
 |agg (cs:List A)
 |prd (q:Nat) (cs:List A)
 |tup (xs:List A)
instance:Inhabited A:=⟨.top⟩
inductive TA where
 |a (a:A)
 |row (elem:fS) (sz:Nat) (e:A) (lo hi:Int)
inductive Bb where
 |slot (d:Tmp)
 |cell (d j:Nat)
 |ghost
 |zero
inductive aGt where
 |down (p:Bb)
 |up (p q:Bb) (c:Int)
structure LA where
 sp:List (Tmp×TA):=[]
 oc:List (Tmp×Nat×TA):=[]
 cons:List (Bb×Bb×Int):=[]
 ms:aGt
 m0:Int:=4000000000000000000
 gk:Nat:=1
inductive An where
 |leaf
 |node (l r:An)
 |loop (la:LA) (b:An)
 |unl (bs:List An)
def An.l:An->An
 | .node l _ =>l|_ => .leaf
def An.r:An->An
 | .node _ r=>r|_ => .leaf
abbrev jO:=Option (Option Nat)
inductive AO where
 |fix (elem:fS) (cells:List A)
 |row (elem:fS) (sz:Nat) (e:A) (s:Nat) (c:Int)
 |map (es:List (Int×A))
 |loop (st:LoopState) (pe:jO) (fr:List A) (ps:Array Tmp) (asg bd:Code) (ow:hD) (aa ab:An)
structure AS where
 fr:List A
 hp:List (Nat×AO)
 nx:Nat
 nl:Nat
 cs:List qV
def A.flat:A->Bool
 | .top| .agg _ | .tup _ | .or _ | .prd .. =>false|_ =>true
def A.unp:A->A
 | .slp _ e s c=> .sl e s c|a=>a
def NC:List A->Bool
 |[]=>true|a::a_s=>a.flat&&NC a_s
def A.one:A->Bool
 | .or a_s=>NC a_s|a=>a.flat
def A.known:A->Bool
 | .agg _ | .tup _ | .prd .. =>true|a=>a.one
def A.cells:A->List A
 | .agg cs=>cs| .prd _ cs=>cs|a=>[a]
def A.isAgg:A->Bool
 | .agg _ | .prd .. =>true|_ =>false
def wG:List A->Bool
 |[]=>true|a::a_s=>a.one&&wG a_s
def uX(a b:Int):Bool:=decide (a<=b)
def aJd(cs:List qV):Nat->Nat->Nat->Int->Bool
 |0,x,y,c=>Nat.beq x y&&uX 0 c
 | n+1,x,y,c=>if Nat.beq x y then uX 0 c else if Nat.beq x 0 then cs.any λq=>match q with
   | .le a b d=>Nat.beq a 0&&(Nat.beq b y&&uX d c)| .ne .. =>false
  else cs.any λq=>match q with
   | .le a b d=>Nat.beq a x&&aJd cs n b y (c-d)| .ne .. =>false
def aHh(cs:List qV):Nat->Nat->Int->Bool
 |0,y,c=>Nat.beq 0 y&&uX 0 c
 |n+1,y,c=>if Nat.beq 0 y then uX 0 c else cs.any λq=>match q with
  | .le a b d=>Nat.beq b y&&aHh cs n a (c-d)| .ne .. =>false
def prv(cs:List qV)(n x y:Nat)(c:Int):Bool:=if Nat.beq x 0 then aHh cs n y c else aJd cs n x y c
def pf:Nat:=3
def leq(cs:List qV)(x:Nat)(a:Int)(y:Nat)(b:Int):Bool:=prv cs pf x y (b-a)
def inK(cs:List qV)(k:iE)(s:Nat)(c:Int):Bool:=leq cs 0 k.min s c&&leq cs s c 0 k.max
def FN:List qV->List qV->Option (List qV)
 |cs,[]=>some cs|cs,.le x y c::r=>if prv cs pf y x (-c-1)then none else FN (.le x y c::cs) r
 | cs,.ne x y c::r=>if prv cs pf x y c then(if prv cs pf y x (-c)then none else FN (.le x y (c-1)::cs) r)
   else if prv cs pf y x (-c)then FN (.le y x (-c-1)::cs) r else FN cs r
def Bo.not:Bo->Bo
 | .lit b=> .lit (!b)| .imp p n=> .imp n p
def Tx(cs:List qV)(x y:Nat)(c:Int):Bo:=
 if prv cs pf x y c then .lit true else if prv cs pf y x (-c-1)then .lit false else .imp [.le x y c] [.le y x (-c-1)]
def aBy(cs:List qV)(x y:Nat)(c:Int):Bo:=
 if prv cs pf x y c&&prv cs pf y x (-c)then .lit true
 else if prv cs pf x y (c-1)||prv cs pf y x (-c-1)then .lit false
 else .imp [.le x y c,.le y x (-c)] [.ne x y c]
def sW:Bo:= .imp [] []
def MN(cs:List qV):Bo->List (Bool×List qV)
 | .lit b=>[(b,cs)]
 | .imp p n=>(match FN cs p with
   |some c=>[(true,c)]|none=>[])++(match FN cs n with
   |some c=>[(false,c)]|none=>[])
def pY:List (Nat×AO)->Nat->Option AO
 |[],_ =>none|(m,o)::r,l=>if Nat.beq m l then some o else pY r l
def CD:List (Nat×AO)->Nat->AO->List (Nat×AO)
 |[],_,_ =>[]|(m,o)::r,l,o'=>if Nat.beq m l then(m,o')::CD r l o' else(m,o)::CD r l o'
def wU:List (Nat×AO)->Nat->List (Nat×AO)
 |[],_ =>[]|(m,o)::r,l=>if Nat.beq m l then wU r l else(m,o)::wU r l
def BV(fr:List A):Tmp->A:=List.rec (motive:=λ_ =>Nat->A) (λ_ => .tup []) (λx _ ih n=>Nat.rec (motive:=λ_ =>A) x (λm _ =>ih m) n) fr
def setS(v:A)(fr:List A):Nat->List A:=List.rec (motive:=λ_ =>Nat->List A) (λ_ =>[]) (λx xs ih n=>Nat.rec (motive:=λ_ =>List A) (v::xs) (λm _ =>x::ih m) n) fr
def KI:Value->Option A
 | .int k n=>if uX k.min n&&uX n k.max then some (.int k 0 n)else none
 | .bool b=>some (.bool (.lit b))| .string s=>some (.strc s.data.toList)| .pointer none=>some .nilp| .slice none 0 0=>some .nils| .nilFunc=>some .nilf| .nilIface=>some .nili| .map none=>some .nilm|_ =>none
def IX:List Value->Option (List A)
 |[]=>some []
 |v::vs=>match KI v with
  |some t=>match IX vs with
   |some ts=>some (t::ts)|none=>none
  |none=>none
def IY:Value->Option A
 | .agg cs=>match IX cs.toList with
  |some ts=>some (.agg ts)|none=>none
 | .tuple vs=>match vs.toList with
  |[]=>some (.tup [])|_ =>none
 |v=>KI v
def JN(P:fV)(t:fS):Option A:=
 match P.info? t with
 |some i=>match i.zero with
  |some v=>IY v|none=>none
 |none=>none
def PX(gl:Nat->Option A)(fr:List A):Operand->Option A
 | .tmp t=>some (BV fr t)| .const v=>IY v| .global g=>gl g| .func f=>some (.fn f [] [])
def ET(gl:Nat->Option A)(fr:List A):List Operand->Option (List A)
 |[]=>some []
 |x::xs=>match PX gl fr x with
  |some t=>match ET gl fr xs with
   |some ts=>some (t::ts)|none=>none
  |none=>none
def Jv:A->Nat->List qV->A×Nat×List qV
 | .ival k lo hi,n,cs=>if uX hi lo then(.int k 0 lo,n,cs)else(.int k n 0,n+1,.le 0 n (-lo):: .le n 0 hi::cs)
 | .strv lo hi,n,cs=>(.str n 0,n+1,.le 0 n (-lo):: .le n 0 hi::cs)| .slv e lo hi,n,cs=>(.sl e n 0,n+1,.le 0 n (-lo):: .le n 0 hi::cs)| .slpv q e lo hi,n,cs=>(.slp q e n 0,n+1,.le 0 n (-lo):: .le n 0 hi::cs)| .sxv lo hi,n,cs=>(.sx n 0,n+1,.le 0 n (-lo):: .le n 0 hi::cs)|a,n,cs=>(a,n,cs)
def aKg:List A->Nat->List qV->List A×Nat×List qV
 |[],n,cs=>([],n,cs)
 |a::a_s,n,cs=>match Jv a n cs with
  |(b,n1,cs1)=>match aKg a_s n1 cs1 with
   |(bs,n2,cs2)=>(b::bs,n2,cs2)
def Pr:A->Nat->List qV->A×Nat×List qV
 | .agg a_s,n,cs=>match aKg a_s n cs with
  |(bs,n1,cs1)=>(.agg bs,n1,cs1)
 |a,n,cs=>Jv a n cs
def Pt:List A->Nat->List qV->List A×Nat×List qV
 |[],n,cs=>([],n,cs)
 |a::a_s,n,cs=>match Pr a n cs with
  |(b,n1,cs1)=>match Pt a_s n1 cs1 with
   |(bs,n2,cs2)=>(b::bs,n2,cs2)
def mat:A->Nat->List qV->A×Nat×List qV
 | .tup a_s,n,cs=>match Pt a_s n cs with
  |(bs,n1,cs1)=>(.tup bs,n1,cs1)
 |a,n,cs=>Pr a n cs
structure AV where
 a:A
 nx:Nat
 cs:List qV
def vY(a:A)(n:Nat)(cs:List qV):AV:=match mat a n cs with|(b,n1,cs1)=>⟨b,n1,cs1⟩
def Pl(n:Nat)(cs:List qV)(k:iE)(s:Nat)(c:Int):AV:=
 if inK cs k s c then⟨.int k s c,n,cs⟩else vY (.ival k k.min k.max) n cs
def SL(cs:List qV)(s:Nat)(c:Int):Bool:=leq cs 0 (-1000000000000000000) s c&&leq cs s c 0 1000000000000000000
def WT(b:Bool)(q:qV)(cs:List qV):List qV:=if b then q::cs else cs
def ubS(s:Nat):List qV->Option Int
 |[]=>if Nat.beq s 0 then some 0 else none
 | .le x y d::r=>if Nat.beq x s&&Nat.beq y 0 then(match ubS s r with
  |some u=>some (if uX d u then d else u)
  |none=>some d)else ubS s r
 |_ ::r=>ubS s r
def lbS(s:Nat):List qV->Option Int
 |[]=>if Nat.beq s 0 then some 0 else none
 | .le x y d::r=>if Nat.beq y s&&Nat.beq x 0 then(match lbS s r with
  |some u=>some (if uX u (-d)then-d else u)
  |none=>some (-d))else lbS s r
 |_ ::r=>lbS s r
def ub2(c0:List qV)(s:Nat):List qV->Option Int
 |[]=>if Nat.beq s 0 then some 0 else none
 | .le x y d::r=>if Nat.beq x s then(match(if Nat.beq y 0 then some 0 else ubS y c0)with
  |some w=>match ub2 c0 s r with
   |some u=>some (if uX (w+d) u then w+d else u)
   |none=>some (w+d)
  |none=>ub2 c0 s r)else ub2 c0 s r
 |_ ::r=>ub2 c0 s r
def ub(s:Nat)(cs:List qV):Option Int:=ub2 cs s cs
def aGx:Option Int->Option Int->Int->Option Int
 |some a,some b,c=>some (a+b+c)|_,_,_ =>none
def aSn:Option Int->Option Int->Int->Option Int
 |some a,some b,c=>some (a-b+c)|_,_,_ =>none
def upN(n:Nat)(r:List qV):Option Int->List qV
 |some u=> .le n 0 u::r|none=> .le n 0 2000000000000000000::r
def loN(n:Nat)(r:List qV):Option Int->List qV
 |some l=> .le 0 n (-l)::r|none=> .le 0 n 2000000000000000000::r
def aPi(n s:Nat)(c:Int)(r:List qV):Option Int->List qV
 |some u=>if uX u 1000000 then .le n s (u+c)::r else r
 |none=>r
def aVj(n:Nat)(cs:List qV)(k:iE)(s1:Nat)(c1:Int)(s2:Nat)(c2:Int):AV:=
 if Nat.beq s2 0 then Pl n cs k s1 (c1+c2)
 else if Nat.beq s1 0 then Pl n cs k s2 (c1+c2)
 else if k== .i64&&SL cs s1 c1&&SL cs s2 c2 then
  ⟨.int k n 0,n+1,WT (leq cs 0 0 s1 c1) (.le s2 n (if leq cs 0 1 s1 c1 then-c2-1 else-c2)) (WT (leq cs 0 0 s2 c2) (.le s1 n (if leq cs 0 1 s2 c2 then-c1-1 else-c1)) (loN n (upN n (aPi n s1 (c1+c2) (aPi n s2 (c1+c2) cs (ub s1 cs)) (ub s2 cs)) (aGx (ub s1 cs) (ub s2 cs) (c1+c2))) (aGx (lbS s1 cs) (lbS s2 cs) (c1+c2))))⟩
 else vY (.ival k k.min k.max) n cs
def aZe(n:Nat)(cs:List qV)(k:iE)(s1:Nat)(c1:Int)(s2:Nat)(c2:Int):AV:=
 if Nat.beq s2 0 then Pl n cs k s1 (c1-c2)
 else if Nat.beq s1 s2 then Pl n cs k 0 (c1-c2)
 else if k== .i64&&SL cs s1 c1&&SL cs s2 c2 then
  ⟨.int k n 0,n+1,WT (leq cs 0 0 s2 c2) (.le n s1 c1) (WT (leq cs s2 c2 s1 c1) (.le 0 n 0) (loN n (upN n cs (aSn (ub s1 cs) (lbS s2 cs) (c1-c2))) (aSn (lbS s1 cs) (ub s2 cs) (c1-c2))))⟩
 else vY (.ival k k.min k.max) n cs
def YQ:Option T->Option A
 |some (.int k n)=>if uX k.min n&&uX n k.max then some (.int k 0 n)else none
 |some (.bool b)=>some (.bool (.lit b))|_ =>none
def aXs(n:Nat)(cs:List qV)(k:iE)(s1:Nat)(c1:Int)(s2:Nat)(c2:Int):AV:=
 match lbS s1 cs,ubS s1 cs,lbS s2 cs,ubS s2 cs with
 |some l1,some u1,some l2,some u2=>if uX 0 (l1+c1)&&(uX 0 (l2+c2)&&uX ((u1+c1)*(u2+c2)) k.max)then vY (.ival k ((l1+c1)*(l2+c2)) ((u1+c1)*(u2+c2))) n cs else vY (.ival k k.min k.max) n cs
 |_,_,_,_ =>vY (.ival k k.min k.max) n cs
def aXv(n:Nat)(cs:List qV)(k:iE)(s:Nat)(c:Int):AV:=
 match lbS s cs with
 | some l=>if k== .i64&&uX (-9223372036854775807) (l+c)then vY (.ival .i64 (match ubS s cs with
   |some u=>-(u+c)|none=>-9223372036854775808) (-(l+c))) n cs else vY (.ival k k.min k.max) n cs
 |none=>vY (.ival k k.min k.max) n cs
def ubM(cs:List qV)(n s:Nat)(c:Int)(s':Nat)(c':Int)(r:List qV):List qV:=match ubS s cs,ubS s' cs with
 |some u,some u'=> .le n 0 (if uX (u+c) (u'+c')then u'+c' else u+c)::r
 |_,_ =>r
def aOw(n:Nat)(cs:List qV)(op:jX)(k:iE)(s1:Nat)(c1:Int)(s2:Nat)(c2:Int):Option AV:=
 match op with
 | .mul=>some (aXs n cs k s1 c1 s2 c2)| .and| .or| .xor| .andNot=>some (vY (.ival k k.min k.max) n cs)
 | .quo=>if Nat.beq s2 0&&uX 1 c2&&leq cs 0 0 s1 c1 then
    some ⟨.int k n 0,n+1,.le 0 n 0:: .le n s1 c1:: .le n 0 (match ubS s1 cs with
     |some u=>(u+c1)/c2|none=>k.max)::cs⟩
   else if leq cs 0 1 s2 c2||leq cs s2 c2 0 (-1)then some (vY (.ival k k.min k.max) n cs)else none
 | .rem=>if Nat.beq s2 0&&uX 1 c2 then
    if leq cs 0 0 s1 c1 then some ⟨.int k n 0,n+1,.le 0 n 0:: .le n s1 c1:: .le n 0 (c2-1)::cs⟩
    else some ⟨.int k n 0,n+1,.le 0 n (c2-1):: .le n 0 (c2-1)::cs⟩
   else if leq cs 0 1 s2 c2||leq cs s2 c2 0 (-1)then some (vY (.ival k k.min k.max) n cs)else none
 |_ =>none
def aWz(n:Nat)(cs:List qV)(op:jX)(k:iE)(s1:Nat)(c1:Int)(s2:Nat)(c2:Int):Option AV:=
 match op with
 | .add=>some (aVj n cs k s1 c1 s2 c2)| .sub=>some (aZe n cs k s1 c1 s2 c2)| .eql=>some ⟨.bool (aBy cs s1 s2 (c2-c1)),n,cs⟩| .neq=>some ⟨.bool (aBy cs s1 s2 (c2-c1)).not,n,cs⟩| .lss=>some ⟨.bool (Tx cs s1 s2 (c2-c1-1)),n,cs⟩| .leq=>some ⟨.bool (Tx cs s1 s2 (c2-c1)),n,cs⟩| .gtr=>some ⟨.bool (Tx cs s2 s1 (c1-c2-1)),n,cs⟩| .geq=>some ⟨.bool (Tx cs s2 s1 (c1-c2)),n,cs⟩
 |op=>match(if Nat.beq s1 0&&Nat.beq s2 0 then YQ (xR op k c1 c2)else none)with
  |some a=>some ⟨a,n,cs⟩|none=>aOw n cs op k s1 c1 s2 c2
def Lf(n:Nat)(cs:List qV)(op:jX)(k:iE)(s1:Nat)(c1:Int)(s2:Nat)(c2:Int):Option AV:=
 match(if Nat.beq s1 0&&Nat.beq s2 0 then YQ (zQ op k c1 c2)else none)with
 |some a=>some ⟨a,n,cs⟩
 | none=>if leq cs 0 0 s2 c2 then match op with
   | .shl=>some (vY (.ival k k.min k.max) n cs)| .shr=>if leq cs 0 0 s1 c1 then some ⟨.int k n 0,n+1,.le 0 n 0:: .le n s1 c1:: .le n 0 k.max::cs⟩else none
   |_ =>none
  else none
def LV:A->Option (Nat×Int)
 | .strc s=>some (0,s.length)| .str s c=>some (s,c)|_ =>none
def HO:A->Bool
 | .strc []=>true|_ =>false
def Xy(cs:List qV)(a b:A)(s1:Nat)(c1:Int)(s2:Nat)(c2:Int):Bo:=
 match a,b with
 | .strc x,.strc y=> .lit (x==y)
 |a,b=>match aBy cs s1 s2 (c2-c1)with
  | .lit false=> .lit false| .lit true=>if HO a||HO b then .lit true else sW
  | .imp p q=>if HO a||HO b then .imp p q else .imp p []
def aZc(n:Nat)(cs:List qV)(op:jX)(a b:A):Option AV:=
 match LV a,LV b with
 |some (s1,c1),some (s2,c2)=>
  match op with
  | .add=>
   match a,b with
   | .strc x,.strc y=>if uX (x.length+y.length) xA then some ⟨.strc (x++y),n,cs⟩else none
   | _,_ =>if leq cs 0 0 s1 c1&&leq cs 0 0 s2 c2&&leq cs s1 c1 0 1000000000000000000&&leq cs s2 c2 0 1000000000000000000 then
     if Nat.beq s2 0 then some ⟨.str s1 (c1+c2),n,cs⟩
     else if Nat.beq s1 0 then some ⟨.str s2 (c1+c2),n,cs⟩
     else some ⟨.str n 0,n+1,.le s1 n (-c1):: .le s2 n (-c2):: .le 0 n 0::upN n cs (aGx (ub s1 cs) (ub s2 cs) (c1+c2))⟩
    else none
  | .eql=>some ⟨.bool (Xy cs a b s1 c1 s2 c2),n,cs⟩| .neq=>some ⟨.bool (Xy cs a b s1 c1 s2 c2).not,n,cs⟩| .lss| .leq| .gtr| .geq=>some ⟨.bool sW,n,cs⟩|_ =>none
 |_,_ =>none
def eqA(P:fV)(t:fS)(x y:A):Option Bo:=
 match P.underlying t,x,y with
 |some .bool,.bool (.lit a),.bool (.lit b)=>some (.lit (a==b))|some .bool,.bool _,.bool _ =>some sW|some (.pointer _),.nilp,y=>(nilP y).map .lit|some (.pointer _),x,.nilp=>(nilP x).map .lit|some (.interface _),.nili,.or a_s=>if ifaces a_s then some sW else none
 |some (.interface _),.or a_s,.nili=>if ifaces a_s then some sW else none
 |some (.interface _),.nili,y=>(nilI y).map .lit|some (.interface _),x,.nili=>(nilI x).map .lit|some (.func ..),.nilf,y=>(nilF y).map .lit|some (.func ..),x,.nilf=>(nilF x).map .lit|_,_,_ =>none
 where
 nilP:A->Option Bool
  | .nilp=>some true| .ptr .. | .ref .. | .elp .. =>some false|_ =>none
 nilI:A->Option Bool
  | .nili=>some true| .iface .. | .ifc=>some false|_ =>none
 nilF:A->Option Bool
  | .nilf=>some true| .fn .. =>some false|_ =>none
 ifaces:List A->Bool
  |[]=>true|a::a_s=>(nilI a).isSome&&ifaces a_s
def Jy(X Y:jF)(a b:A):Bool:=HM X||HM Y||(match a,b with
 | .int ..,_ | .bool ..,_ | .str ..,_ | .strc ..,_ |_,.int .. |_,.bool .. |_,.str .. |_,.strc .. | .nilp,_ |_,.nilp| .nilf,_ |_,.nilf=>true|_,_ =>false)
def aVo(P:fV)(n:Nat)(cs:List qV)(op:jX)(t:fS)(x y:A):Option AV:=
 match x,y with
 | .int k s1 c1,.int k' s2 c2=>match op with
  | .shl=>Lf n cs .shl k s1 c1 s2 c2| .shr=>Lf n cs .shr k s1 c1 s2 c2|op=>if k==k' then aWz n cs op k s1 c1 s2 c2 else none
 |x,y=>match(match op with| .eql=>(eqA P t x y)| .neq=>(eqA P t x y).map Bo.not|_ =>none)with
  |some b=>some ⟨.bool b,n,cs⟩|none=>aZc n cs op x y
def unA(n:Nat)(cs:List qV)(op:UnOp)(x:A):Option AV:=
 match op,x with
 | .neg,.int k s c=>if Nat.beq s 0 then some (Pl n cs k 0 (-c))else some (aXv n cs k s c)
 | .not,.bool b=>some ⟨.bool b.not,n,cs⟩|_,_ =>none
def aHt(P:fV)(n:Nat)(cs:List qV)(src dst:fS)(x:A):Option AV:=
 match P.underlying src,P.underlying dst,x with
 |some _,some (.int k),.int _ s c=>some (Pl n cs k s c)|some _,some .string,.str s c=>some ⟨.str s c,n,cs⟩|some _,some .string,.strc s=>some ⟨.strc s,n,cs⟩
 |some _,some (.slice e),x=>match LV x,P.underlying e with
  |some (s,c),some (.int .u8)=>if leq cs s c 0 70368744177664 then some ⟨.sl (.ival .u8 0 255) s c,n,cs⟩else none
  |_,_ =>none
 |_,_,_ =>none
def TR(P:fV)(t:fS)(cs:List A)(off:Nat):Option A:=
 match KP P t with
 |some true=>match vZ P t with
  |some n=>if off+n<=cs.length then some (.agg ((cs.drop off).take n))else none
  |none=>none
 |some false=>cs[off]?|none=>none
def aKz(P:fV)(t:fS)(x:A)(off:Nat):Option A:=
 match x with
 | .prd q cs=>if Nat.beq off 0&&(KP P t==some true)&&(vZ P t==some cs.length)then some (.prd q cs)else TR P t cs off
 |x=>TR P t x.cells off
abbrev gL:=List (Nat×AO)
def Zo(P:fV)(hp:gL)(n:Nat)(cs:List qV)(t:fS)(a:A):Option AV:=
 match a with
 | .ref x off=>if x.known then(aKz P t x off).map λy=>vY y n cs else none
 | .ptr l off=>match pY hp l with
  |some (.fix _ xs)=>(TR P t xs off).map λy=>vY y n cs|_ =>none
 | .elp l sz s c off=>match pY hp l with
  | some (.row _ sz' e s' c')=>if Nat.beq sz sz'&&e.known&&Nat.beq e.cells.length sz&&leq cs s (c+1) s' c' then
    (TR P t e.cells off).map λy=>vY y n cs
   else none
  |_ =>none
 |_ =>none
def XJ(k:Int):List (Int×A)->Option A
 |[]=>none|(j,a)::r=>if j==k then some a else XJ k r
def Js(P:fV)(hp:gL)(t:fS)(x k:A)(ok:Bool):Option A:=
 match x,k with
 | .mp l,.int ik s c=>if ik== .i64&&Nat.beq s 0 then match pY hp l with
   |some (.map es)=>match P.underlying t with
    |some (.map kt et)=>match P.underlying kt with
     |some (.int _)=>match XJ c es with
      |some a=>some (if ok then .tup [a,.bool (.lit true)]else a)
      |none=>match JN P et with
       |some z=>some (if ok then .tup [z,.bool (.lit false)]else z)
       |none=>none
     |_ =>none
    |_ =>none
   |_ =>none
  else none
 |_,_ =>none
def Xt:A->Nat->Option A
 | .ref x off,n=>some (.ref x (off+n))| .ptr l off,n=>some (.ptr l (off+n))| .elp l sz s c off,n=>some (.elp l sz s c (off+n))|_,_ =>none
def LM(P:fV)(s:fS)(x:A)(f:Nat):Option A:=
 match QA P s f with
 |some fd=>match vZ P fd.type with
  |some n=>if n=0 then none else Xt x fd.offset
  |none=>none
 |none=>none
def aEw(s1:Nat)(c1:Int)(s2:Nat)(c2:Int):Option (Nat×Int):=
 if Nat.beq s2 0 then some (s1,c1+c2)else if Nat.beq s1 0 then some (s2,c1+c2)else none
def IK(P:fV)(n:Nat)(cs:List qV)(t:fS)(x i:A):Option AV:=
 match i with
 | .int _ s c=>
  match P.underlying t,x with
  |some (.slice e),.sl a s' c'=>match vZ P e with
   | some z=>if a.known&&Nat.beq a.cells.length z&&leq cs 0 0 s c&&leq cs s (c+1) s' c' then
     match vY a n cs with
     |⟨b,n1,cs1⟩=>some ⟨.ref b 0,n1,cs1⟩
    else none
   |none=>none
  |some (.slice e),.slk es=>match vZ P e with
   | some z=>if Nat.beq s 0&&uX 0 c then match es[c.toNat]? with
     | some a=>if a.known&&Nat.beq a.cells.length z then match vY a n cs with
       |⟨b,n1,cs1⟩=>some ⟨.ref b 0,n1,cs1⟩
      else none
     |none=>none
    else none
   |none=>none
  |some (.slice e),.osl l sz si ci s' c'=>match vZ P e with
   | some z=>if Nat.beq sz z&&leq cs 0 0 s c&&leq cs s (c+1) s' c'&&leq cs 0 0 si ci then match aEw si ci s c with
     |some (q,d)=>some ⟨.elp l sz q d 0,n,cs⟩|none=>none
    else none
   |none=>none
  |some (.array len e),x=>match vZ P e with
   |some z=>if Nat.beq s 0&&uX 0 c&&uX (c+1) len then(Xt x (c.toNat*z)).map λy=>⟨y,n,cs⟩else none
   |none=>none
  |_,_ =>none
 |_ =>none
def XV(P:fV)(n:Nat)(cs:List qV)(t:fS)(x i:A):Option AV:=IK P n cs t x.unp i
def Fa(cs:List qV)(s:Nat)(c:Int):Nat->List A->List A
 |_,[]=>[]|j,a::a_s=>if leq cs s c 0 (j-1)||leq cs 0 (j+1) s c then Fa cs s c (j+1) a_s else a::Fa cs s c (j+1) a_s
def Ve(P:fV)(n:Nat)(cs:List qV)(t:fS)(x i:A):Option AV:=
 match i with
 | .int _ s c=>
  match P.underlying t,x with
  |some (.array len e),.agg a_s=>match vZ P e with
   | some z=>if leq cs 0 0 s c&&leq cs s (c+1) 0 len then
     if Nat.beq s 0 then(TR P e a_s (c.toNat*z)).map λy=>⟨y,n,cs⟩
     else match KP P e with
      |some false=>if Nat.beq z 1&&Nat.beq a_s.length len then some ⟨.or (Fa cs s c 0 a_s),n,cs⟩else none
      |_ =>none
    else none
   |none=>none
  |some .string,x=>match LV x with
   |some (s',c')=>if leq cs 0 0 s c&&leq cs s (c+1) s' c' then some (vY (.ival .u8 0 255) n cs)else none
   |none=>none
  |_,_ =>none
 |_ =>none
def HJ(x:Option A)(s:Nat)(c:Int):Option (Nat×Int):=
 match x with
 |none=>some (s,c)|some (.int _ s' c')=>some (s',c')|some _ =>none
def GX(n:Nat)(cs:List qV)(sl:Nat)(cl:Int)(sh:Nat)(ch:Int):Nat×Int×Nat×List qV:=
 if Nat.beq sl 0 then(sh,ch-cl,n,cs)
 else if Nat.beq sl sh then(0,ch-cl,n,cs)
 else(n,0,n+1,WT (leq cs 0 1 sl cl) (.le n sh (ch-1)) (.le 0 n (if leq cs sl (cl+1) sh ch then-1 else 0):: .le n sh ch::cs))
def Wo(P:fV)(n:Nat)(cs:List qV)(t:fS)(x:A)(lo hi:Option A):Option AV:=
 match P.underlying t with
 |some .string=>match LV x with
  |some (s,c)=>match HJ hi s c with
   |some (sh,ch)=>match HJ lo 0 0 with
    | some (s0,c0)=>if leq cs 0 0 s0 c0&&leq cs s0 c0 sh ch&&leq cs sh ch s c then
      match GX n cs s0 c0 sh ch with
      |(s1,c1,n1,cs1)=>some ⟨.str s1 c1,n1,cs1⟩
     else none
    |none=>none
   |none=>none
  |none=>none
 |some (.slice e)=>match x with
  | .sl a s c=>match HJ hi s c with
   |some (sh,ch)=>match HJ lo 0 0 with
    |some (s0,c0)=>match vZ P e with
     | some z=>if a.known&&Nat.beq a.cells.length z&&leq cs 0 0 s0 c0&&leq cs s0 c0 sh ch&&leq cs sh ch s c then
       match GX n cs s0 c0 sh ch with
       |(s1,c1,n1,cs1)=>some ⟨.sl a s1 c1,n1,cs1⟩
      else none
     |none=>none
    |none=>none
   |none=>none
  | .osl l sz si ci s c=>match HJ hi s c with
   |some (sh,ch)=>match HJ lo 0 0 with
    |some (s0,c0)=>match vZ P e with
     | some z=>if Nat.beq sz z&&leq cs 0 0 si ci&&leq cs 0 0 s0 c0&&leq cs s0 c0 sh ch&&leq cs sh ch s c then match aEw si ci s0 c0 with
       |some (q,d)=>match GX n cs s0 c0 sh ch with
        |(s1,c1,n1,cs1)=>some ⟨.osl l sz q d s1 c1,n1,cs1⟩
       |none=>none
      else none
     |none=>none
    |none=>none
   |none=>none
  |_ =>none
 |_ =>none
def aJz(P:fV)(cs:List qV)(t:fS)(x:A):Option A:=
 match P.underlying t,x with
 |some .string,.strc s=>if uX s.length 9000000000000000000 then some (.int .i64 0 s.length)else none
 |some .string,.str s c=>if inK cs .i64 s c then some (.int .i64 s c)else none
 |some (.slice _),.nils=>some (.int .i64 0 0)|some (.slice _),.slk es=>if uX es.length 9000000000000000000 then some (.int .i64 0 es.length)else none
 |some (.slice _),.sl _ s c=>if inK cs .i64 s c then some (.int .i64 s c)else none
 |some (.slice _),.osl _ _ _ _ s c=>if inK cs .i64 s c then some (.int .i64 s c)else none
 |some (.slice _),.sx s c=>if inK cs .i64 s c then some (.int .i64 s c)else none
 |some (.array n _),_ =>if uX n 9000000000000000000 then some (.int .i64 0 n)else none
 |some (.map ..),.nilm=>some (.int .i64 0 0)|_,_ =>none
def bFm(P:fV)(cs:List qV)(t:fS)(x:A):Option A:=aJz P cs t x.unp
def aMm(n:Nat)(cs:List qV)(s:Nat)(c:Int)(s':Nat)(c':Int)(r:List qV):Nat->List qV
 |0=>r|k+1=>if !(Nat.beq k 0)&&(leq cs k 0 s c&&leq cs k 0 s' c')then .le k n 0::aMm n cs s c s' c' r k else aMm n cs s c s' c' r k
def aXp(n:Nat)(cs:List qV)(x y:A):Option AV:=
 match x,y with
 | .int k s c,.int k' s' c'=>if !(k==k')then none else if leq cs s c s' c' then some ⟨.int k s c,n,cs⟩else if leq cs s' c' s c then some ⟨.int k s' c',n,cs⟩
  else some ⟨.int k n 0,n+1,.le n s c:: .le n s' c':: .le n 0 k.max:: .le 0 n (if leq cs 0 0 s c&&leq cs 0 0 s' c' then 0 else-k.min)::aMm n cs s c s' c' cs n⟩
 |_,_ =>none
def aXo(n:Nat)(cs:List qV)(x y:A):Option AV:=
 match x,y with
 | .int k s c,.int k' s' c'=>if !(k==k')then none else if leq cs s c s' c' then some ⟨.int k s' c',n,cs⟩else if leq cs s' c' s c then some ⟨.int k s c,n,cs⟩
  else some ⟨.int k n 0,n+1,.le s n (-c):: .le s' n (-c'):: .le 0 n (-k.min):: .le n 0 k.max::ubM cs n s c s' c' cs⟩
 |_,_ =>none
def Ef(f:Nat->List qV->A->A->Option AV):Nat->List qV->A->List A->Option AV
 |n,cs,x,[]=>some ⟨x,n,cs⟩
 |n,cs,x,y::r=>match f n cs x y with
  |some ⟨z,n1,cs1⟩=>Ef f n1 cs1 z r|none=>none
def PH(cs:List A)(off:Nat)(new:List A):List A:=cs.take off++new++cs.drop (off+new.length)
def Eb(place:jP):List A->List (Nat×A)->Option (List A)
 |cs,[]=>some cs
 |cs,(i,v)::r=>
  match place i with
  |none=>none|some (off,size)=>if v.known=true/\v.cells.length=size/\off+size<=cs.length then Eb place (PH cs off v.cells) r else none
def MD(gl:Nat->Option A)(fr:List A):List (Nat×Operand)->Option (List (Nat×A))
 |[]=>some []
 |(i,x)::r=>match PX gl fr x with
  |some t=>match MD gl fr r with
   |some l=>some ((i,t)::l)|none=>none
  |none=>none
def Uc(P:fV)(t:fS)(parts:List (Nat×A)):Option A:=
 match JN P t with
 |some z=>
  match P.underlying t with
  |some (.struct fs)=>match KK P fs.toList with
   |some pl=>(Eb (pl[·]?) z.cells parts).map .agg|none=>none
  |some (.array _ e)=>match vZ P e with
   |some s=>(Eb (λi=>some (i*s,s)) z.cells parts).map .agg|none=>none
  |_ =>none
 |none=>none
def EZ:A->Option A
 | .ptr l o=>some (.ptr l o)| .elp l z s c o=>some (.elp l z s c o)| .ref x o=>some (.ref x o)| .fn f a c=>some (.fn f a c)| .iface t x=>some (.iface t x)| .or a_s=>if allSome a_s then some (.or a_s)else none
 |_ =>none
 where
 allSome:List A->Bool
  |[]=>true| .fn .. ::a_s=>allSome a_s|_ ::_ =>false
end
end Go.Ps
