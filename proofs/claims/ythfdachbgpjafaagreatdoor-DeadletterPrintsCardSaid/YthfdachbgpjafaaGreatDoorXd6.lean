/- Lemmas for the card; no conditions. -/
import Derived.Test.YthfdachbgpjafaaGreatDoorXd5
set_option linter.all false
set_option maxRecDepth 100000
namespace Go.Proofs.Tryz
open Go.Ps
noncomputable section
def BP(r:Option (X×List T×Hp))(s:Nat):T:=match r with
 |some (_,f,_)=>f.getD s oS|none=>oS
def l4(r:Option Fx)(s:Nat):T:=match r with
 |some x=>x.fr.getD s oS|none=>oS
def Hk(H:Hp):Prop:=7<=H.next/\∀l,l<7->H.any l=H7.any l
def zB(o:Int)(x:T)(i:Int):List (Nat×T):=[(1,.ref x 0),(8,.int .i64 o),(15,mq),(16,.int .i64 i)]
def zC(o:Int)(x:T)(i:Int)(v:T):List (Nat×T):=[(1,.ref x 0),(8,.int .i64 o),(15,mq),(16,.int .i64 i),(3,.int .i64 i),(4,v)]
def zD(o:Int)(x:T)(i:Int)(N:Nat):List (Nat×T):=[(1,.ref x 0),(8,.int .i64 o),(15,mq),(16,.int .i64 i),(3,.int .i64 i),(21,.ptr N 0)]
def ex(o:Int)(a c b x:T):T:= .agg [.int .i64 o,a,c,b,x]
section
variable{m:Int}{C:gB}
def ev(m:Int)(C:gB)(c:Code)(f:gC)(H:Hp):Option (X×List T×Hp):=oW prog (EZ m C) (FM m C) 3 c f H
def sq(m:Int)(C:gB)(o:gF)(l:hU)(f:gC)(H:Hp):Option Fx:=pU prog (EZ m C) (FM m C) o l ⟨f,H,none⟩
def bDs:Code:= .cond (.tmp 23) .skip (.exit 3)
noncomputable def bHq:Code:= .seq (rg f118 14) (.cond (.tmp 29) (.seq (rg f118 15) .ret) .skip)
def aJg:Code:= .loop (.seq (.region 12 (BN f118 12) false) (.seq bDs (.block 4 (.seq (.region 13 (BN f118 13) false) bHq))))
theorem lF:(BN f118 11).toList=(BN f118 11).toList.take 1++GZ f118 11 1::[]/\(GZ f118 11 1).op= .range 247 (.tmp 20)/\(GZ f118 11 1).dst=some 21/\(GZ f118 11 1).guard=none:=⟨by kernel_rfl,by kernel_rfl,by kernel_rfl,by kernel_rfl⟩
theorem nO:(BN f118 12).toList=GZ f118 12 0::(BN f118 12).toList.tail/\((GZ f118 12 0).op= .next (.tmp 21) false/\(GZ f118 12 0).dst=some 22/\(GZ f118 12 0).guard=none):=⟨by kernel_rfl,by kernel_rfl,by kernel_rfl,by kernel_rfl⟩
theorem sb:(BN f118 13).toList=GZ f118 13 0::(BN f118 13).toList.tail/\((GZ f118 13 0).op= .entry (.tmp 21)/\(GZ f118 13 0).dst=some 24/\(GZ f118 13 0).guard=none):=⟨by kernel_rfl,by kernel_rfl,by kernel_rfl,by kernel_rfl⟩
theorem xy{H:Hp}(f:Hk H){a c:Nat}{g:gS}(h:∃o,H7.any a=some o/\o.me=some (.map c g))(b:a<7):CI prog H 247 (.mp a)=some (.ptr H.next 0,H.new (xK (.aT a c [] c))):=by
 obtain⟨o,e,d⟩:=h;unfold CI;simp only[underlying247,f.2 a b,e,d];rfl
theorem Dy(a:Int)(x d f j:T)(i r:Int)(ml c:Nat)(es:gS)
  (h10:∀g H,∃g',ev m C (rg f118 10) (qD (zB a (ex a x d f j) i) 32 g) H=some (.normal,qD (zC a (ex a x d f j) i (.mp ml)) 32 g',H))
  (h16:∀g H,∃g',ev m C (rg f118 16) (qD (zB a (ex a x d f j) i) 32 g) H=some (.normal,qD (zB a (ex a x d f j) (i+1)) 32 g',H))
  (M:∃o,H7.any ml=some o/\o.me=some (.map c es)) (K:ml<7) (hev:(es.all λe=>Nat.ble (Nat.succ e.1) c)=true) (hnd:(es.map (·.1)).Nodup)
  (hes:∀e∈es,∃i s k,e=(i,T.str s,T.int .i64 k)) (Z:∀e∈es,OB a e=true->r=i) {Q:gT}
  (Y:∀fr H,rJ prog fr H f118.results.toList=some [.int .i64 r]->Q .ret fr H)
  (I:∀g H,(∀e∈es,OB a e=false)->Hk H->Q .normal (qD (zB a (ex a x d f j) (i+1)) 32 g) H) {g:iK} {H:Hp} (W:Hk H):
  gj prog (EZ m C) none 0 (.seq (.block 2 (.seq (rg f118 10) (.seq (rg f118 11) (.block 3 aJg)))) (rg f118 16)) (qD (zB a (ex a x d f j) i) 32 g) H Q:=by
 have hM:=follows;refine pB (sP ?_);obtain⟨g1,e1⟩:=h10 g H;refine pB (oY hM qX qV (m:=3) (by kernel_rfl) (by kernel_rfl) e1 ?_);refine pB ?_;refine wT qX qV (by kernel_rfl) lF.1 lF.2.2.2 (fr1:=qD ((20,.mp ml)::zC a (ex a x d f j) i (.mp ml)) 32 (l4 (sq m C (BN f118 11) ((BN f118 11).toList.take 1) (qD (zC a (ex a x d f j) i (.mp ml)) 32 g1) H))) (H1:=H) (by kernel_rfl) (CJ lF.2.1 (v:= .mp ml) (by kernel_rfl) (xy W M K)) λt H2 hm=> ?_;obtain⟨rfl,rfl⟩:t= .ptr H.next 0/\H2=H.new (xK (.aT ml c [] c)):=by simpa using hm
 generalize hg2:(l4 (sq m C (BN f118 11) ((BN f118 11).toList.take 1) (qD (zC a (ex a x d f j) i (.mp ml)) 32 g1) H))=g2;generalize hN:H.next=N;have hN7:7<=N:=by rw[<-hN];exact W.1
 refine⟨qD (zD a (ex a x d f j) i N) 32 λs=>(pW (qD ((20,.mp ml)::zC a (ex a x d f j) i (.mp ml)) 32 g2) (some 21) (.ptr N 0)).getD s oS,H.new (xK (.aT ml c [] c)),by rw[lF.2.2.1];kernel_rfl,?_⟩
 refine sP (FQ hM qX qV (w:=32) (it:=21) (dn:=22) (de:=24) (kb:=23) (lp:=3) (m:=3) (N:=N) (seen:=[]) (z:=zD a (ex a x d f j) i N) (es:=es) (ml:=ml) (c:=c) (ze:=λe=>(6,e.2.2)::(23,.bool true)::zD a (ex a x d f j) i N) (hit:=OB a) (H0:=H.new (xK (.aT ml c [] c)))
  (by kernel_rfl) nO.1 nO.2 (by kernel_rfl) sb.1 sb.2 ⟨by kernel_rfl,by kernel_rfl,by kernel_rfl,by kernel_rfl⟩ (λg=>⟨rfl,rfl⟩) (λg H v r=>⟨l4 (sq m C (BN f118 12) (BN f118 12).toList.tail (pW (qD (zD a (ex a x d f j) i N) 32 g) (some 22) (.fm (.bool v::r))) H),by kernel_rfl⟩) (λg H=>⟨by kernel_rfl,by kernel_rfl⟩) (λe he g H=> ?_) hev hnd (by decide) (λg H' hn J=> ?_) ?_ (Kp.refl _ _))
 obtain⟨i',s,k,rfl⟩:=hes e he;generalize hg3:(l4 (sq m C (BN f118 13) (BN f118 13).toList.tail (pW (qD ((23,.bool true)::zD a (ex a x d f j) i N) 32 g) (some 24) (.fm [.str s,.int .i64 k])) H))=b;refine⟨b,H,by rw[<-hg3];kernel_rfl,Kp.refl _ _,λhh=> ?_,λhh=> ?_⟩;have J:decide (k=a)=false:=hh;generalize hf:([b 0,.ref (ex a x d f j) 0,b 2,.int .i64 i,b 4,b 5,.int .i64 k,b 7,.int .i64 a,b 9,b 10,b 11,b 12,b 13,b 14,mq,.int .i64 i,b 17,b 18,b 19,b 20,.ptr N 0,b 22,.bool true,b 24,b 25,.int .i64 k,.ref (ex a x d f j) 0,.int .i64 a,.bool (decide (k=a)),b 30,b 31]:List T)=L;refine⟨λq=>L.getD q oS,H,?_,Kp.refl _ _⟩;rw[<-hf];exact(wR 3 (D:=⟨fo m C,λ_ _ _ =>none⟩) (ds:=[false]) (log:=[]) (ds':=[]) (log':=[!decide (k=a)]) (by kernel_rfl) (by rw[J];rfl)).1;have J:decide (k=a)=true:=hh;have hr:=Z _ he hh;refine⟨[b 0,.ref (ex a x d f j) 0,.int .i64 i,.int .i64 i,b 4,b 5,.int .i64 k,b 7,.int .i64 a,b 9,b 10,b 11,b 12,b 13,b 14,mq,.int .i64 i,b 17,b 18,b 19,b 20,.ptr N 0,b 22,.bool true,b 24,b 25,.int .i64 k,.ref (ex a x d f j) 0,.int .i64 a,.bool (decide (k=a)),.int .i64 i,b 31],H,?_,?_⟩;exact(wR 3 (D:=⟨fo m C,λ_ _ _ =>none⟩) (ds:=[true]) (log:=[]) (ds':=[]) (log':=[decide (k=a)]) (by kernel_rfl) (by rw[J];rfl)).1;exact Y _ _ (by rw[hr];kernel_rfl);have hHk:Hk H':=by
  refine⟨dK W.1 (dK (Nat.le_succ _) J.1),λl hl=> ?_⟩
  rw[J.2 l (by show l<H.next+1;omega) (by
   show Nat.beq l N=false;cases h:Nat.beq l N with
   |false=>rfl|true=>have:=aD h;omega),rN,aH (by omega)]
  exact W.2 l hl
 obtain⟨g4,e4⟩:=h16 (λs=>(qD ((23,.bool false)::zD a (ex a x d f j) i N) 32 g).getD s oS) H';exact oY hM qX qV (m:=3) (by kernel_rfl) (by kernel_rfl) e4 (I _ _ hn hHk);obtain⟨o,h1,h2⟩:=M;refine⟨⟨o,by rw[rN,aH (by omega),W.2 ml K];exact h1,h2⟩,by rw[rN,aJ hN],by omega,by show ml<H.next+1;omega,by show N<H.next+1;omega⟩
theorem Zo(o:Int)(x a b c:T)(i:Int)
  (e:∀g H,∃q,ev m C (rg f118 10) (qD (zB o (ex o x a b c) i) 32 g) H=some (.normal,qD (zC o (ex o x a b c) i .fw) 32 q,H))
  (u:∀g H,∃q,ev m C (rg f118 16) (qD (zB o (ex o x a b c) i) 32 g) H=some (.normal,qD (zB o (ex o x a b c) (i+1)) 32 q,H)) {Q:gT}
  (h:∀g H,Hk H->Q .normal (qD (zB o (ex o x a b c) (i+1)) 32 g) H) {g:iK} {H:Hp} (f:Hk H):
  gj prog (EZ m C) none 0 (.seq (.block 2 (.seq (rg f118 10) (.seq (rg f118 11) (.block 3 aJg)))) (rg f118 16)) (qD (zB o (ex o x a b c) i) 32 g) H Q:=by
 have d:=follows;refine pB (sP ?_);obtain⟨y,M⟩:=e g H;refine pB (oY d qX qV (m:=3) (by kernel_rfl) (by kernel_rfl) M ?_);refine pB ?_;have Y:CI prog H 247 .fw=some (.ptr H.next 0,H.new (xK .cd)):=by
  unfold CI;simp only[underlying247];rfl
 refine wT qX qV (by kernel_rfl) lF.1 lF.2.2.2 (fr1:=qD ((20,.fw)::zC o (ex o x a b c) i .fw) 32 (l4 (sq m C (BN f118 11) ((BN f118 11).toList.take 1) (qD (zC o (ex o x a b c) i .fw) 32 y) H))) (H1:=H) (by kernel_rfl) (CJ lF.2.1 (v:= .fw) (by kernel_rfl) Y) λt J I=> ?_;obtain⟨rfl,rfl⟩:t= .ptr H.next 0/\J=H.new (xK .cd):=by simpa using I
 generalize W:(l4 (sq m C (BN f118 11) ((BN f118 11).toList.take 1) (qD (zC o (ex o x a b c) i .fw) 32 y) H))=Z;generalize D:H.next=N;have L:7<=N:=by rw[<-D];exact f.1
 refine⟨qD (zD o (ex o x a b c) i N) 32 λs=>(pW (qD ((20,.fw)::zC o (ex o x a b c) i .fw) 32 Z) (some 21) (.ptr N 0)).getD s oS,H.new (xK .cd),by rw[lF.2.2.1];kernel_rfl,?_⟩
 refine sP (TH d qX qV (w:=32) (it:=21) (dn:=22) (kb:=23) (lp:=3) (m:=3) (N:=N) (z:=zD o (ex o x a b c) i N)
  (by kernel_rfl) nO.1 nO.2 ⟨by kernel_rfl,by kernel_rfl⟩ (λg=>rfl) (λg H v r=>⟨l4 (sq m C (BN f118 12) (BN f118 12).toList.tail (pW (qD (zD o (ex o x a b c) i N) 32 g) (some 22) (.fm (.bool v::r))) H),by kernel_rfl⟩) (λg H=>by kernel_rfl) (by rw[rN,aJ D]) λg=> ?_)
 have j:Hk ((H.new (xK .cd)).drop N):=by
  refine⟨dK f.1 (Nat.le_succ _),λl hl=> ?_⟩;rw[qY,aH (by omega),rN,aH (by omega)];exact f.2 l hl
 obtain⟨g4,K⟩:=u (λs=>(qD ((23,.bool false)::zD o (ex o x a b c) i N) 32 g).getD s oS) ((H.new (xK .cd)).drop N);exact oY d qX qV (m:=3) (by kernel_rfl) (by kernel_rfl) K (h _ _ j)
def l5:Nat->List (Nat×T×T)
 |1=>j6|2=>kx|4=>Rn|5=>kE|6=>jz|7=>kF|_ =>[]
def rL(o:Int):Int:=
 if o=3 then 3 else if o=25 then 4 else if o=16 then 8 else if o=5 then 1 else if o=4 then 2 else if 6<=o/\o<=11 then 4 else if o=23 then 5 else if o=12\/o=13\/o=17 then 6 else if o=14 then 7 else 9
theorem JH{o:Int}(f:o≠3)(c:o≠25)(d:o≠16):∀i:Nat,∀e∈l5 i,OB o e=true->rL o=i:=by
 intro i e a b;unfold l5 at a;split at a
 all_goals simp only[j6,kx,Rn,kE,jz,kF,aY,dF,fQ]at a
 subst a;have h:=cH (show decide ((5:Int)=o)=true from b);subst h;rfl;subst a;have h:=cH (show decide ((4:Int)=o)=true from b);subst h;rfl;rcases a with rfl|rfl|rfl|rfl|rfl|rfl<;>(have h:=cH (show decide (_ =o)=true from b);subst h;rfl);subst a;have h:=cH (show decide ((23:Int)=o)=true from b);subst h;rfl;rcases a with rfl|rfl|rfl<;>(have h:=cH (show decide (_ =o)=true from b);subst h;rfl);subst a;have h:=cH (show decide ((14:Int)=o)=true from b);subst h;rfl
theorem aXl{o:Int}(x:o≠3)(d:o≠25)(f:o≠16)(h:∀j:Nat,j<10->∀e∈l5 j,OB o e=false):rL o=9:=by
 have k:∀{j:Nat} {i:Nat} {s:T} {c:Int},j<10->(i,s,T.int .i64 c)∈l5 j->o≠c:=λ{j i s c} g b e=>by
  have:=h j g _ b;rw[show OB o (i,s,T.int .i64 c)=decide (c=o)from rfl,e]at this;simp at this
 have w:=k (j:=1) (by decide) (aO:(0,T.str [111,114],T.int .i64 5)∈j6);have z:=k (j:=2) (by decide) (aO:(0,T.str [97,110,100],T.int .i64 4)∈kx);have a:∀i s c,(i,s,T.int .i64 c)∈Rn->o≠c:=λi s c b=>k (j:=4) (by decide) b;have a5:=k (j:=5) (by decide) (aO:(0,T.str [101,108,115,101],T.int .i64 23)∈kE);have a6:∀i s c,(i,s,T.int .i64 c)∈jz->o≠c:=λi s c b=>k (j:=6) (by decide) b;have q:=k (j:=7) (by decide) (aO:(0,T.str [42],T.int .i64 14)∈kF);have J:=a 0 (.str [61]) 6 (by simp[Rn]);have L:=a 1 (.str [33,61]) 7 (by simp[Rn]);have K:=a 2 (.str [60]) 8 (by simp[Rn]);have I:=a 3 (.str [60,61]) 9 (by simp[Rn]);have D:=a 4 (.str [62]) 10 (by simp[Rn]);have u:=a 5 (.str [62,61]) 11 (by simp[Rn]);have c12:=a6 0 (.str [43]) 12 (by simp[jz]);have y:=a6 1 (.str [45]) 13 (by simp[jz]);have v:=a6 2 (.str [38]) 17 (by simp[jz]);unfold rL;rw[aH x,aH d,aH f,aH w,aH z,aH (by omega),aH a5,aH (by omega),aH q]
def zA(o:Int)(x:T):List (Nat×T):=[(1,.ref x 0),(8,.int .i64 o)]
def aFw:Code:= .seq (rg f118 9) (.seq (.cond (.tmp 17) .skip (.exit 1)) (.seq (.block 2 (.seq (rg f118 10) (.seq (rg f118 11) (.block 3 aJg)))) (rg f118 16)))
def TF(o:Int)(x:T)(k:Nat)(f:gC)(H:Hp):Prop:=∃(i:Nat) (g:iK),i+k=10/\f=qD (zB o x i) 32 g/\Hk H/\∀j,j<i->∀e∈l5 j,OB o e=false
theorem aRn(o:Int)(a b c d:T)(W:o≠3)(J:o≠25)(K:o≠16){Q:gT}
  (D:∀fr H,rJ prog fr H f118.results.toList=some [.int .i64 (rL o)]->Q .ret fr H)
  (Z:∀g H,rL o=9->Q (.exit 1) (qD ((17,.bool false)::zB o (ex o a b c d) 10) 32 g) H) {g:iK} {H:Hp} (M:Hk H):
  gj prog (EZ m C) none 0 (.loop aFw) (qD (zB o (ex o a b c d) 0) 32 g) H Q:=by
 have y:=follows;refine XB (TF o (ex o a b c d)) ?_ ?_ 10 ⟨0,g,rfl,rfl,M,λj hj=>absurd hj (Nat.not_lt_zero j)⟩;rintro fr H ⟨i,g,w,rfl,M,v⟩;obtain rfl:i=10:=by omega
 refine pB (oY y qX qV (m:=3) (by kernel_rfl) (by kernel_rfl) (x:= .normal) (fr':=qD ((17,.bool false)::zB o (ex o a b c d) 10) 32 (BP (ev m C (rg f118 9) (qD (zB o (ex o a b c d) 10) 32 g) H))) (H':=H) (by kernel_rfl) ?_);exact pB (oY y qX qV (m:=3) (by kernel_rfl) (by kernel_rfl) (x:= .exit 1) (fr':=qD ((17,.bool false)::zB o (ex o a b c d) 10) 32 (BP (ev m C (rg f118 9) (qD (zB o (ex o a b c d) 10) 32 g) H))) (H':=H) (by kernel_rfl) (Z _ _ (aXl W J K v)));rintro k fr H ⟨i,g,w,rfl,M,v⟩;have Y:i<10:=by omega
 have u:∀{i k:Nat} {es:gS},i+(k+1)=10->es=l5 i->(∀j,j<i->∀e∈l5 j,OB o e=false)->∀g H,(∀e∈es,OB o e=false)->Hk H->TF o (ex o a b c d) k (qD (zB o (ex o a b c d) ((i:Int)+1)) 32 g) H:=λ{i k es} w f v g H h z=>
  ⟨i+1,g,by omega,rfl,z,λj hj e hm=>by
   by_cases q:j<i;exact v j q e hm;obtain rfl:j=i:=by omega
   exact h e (f▸hm)⟩
 match i,Y,w,v with
 |0,_,w,v=>
  refine pB (oY y qX qV (m:=3) (by kernel_rfl) (by kernel_rfl) (x:= .normal) (fr':=qD ((17,.bool true)::zB o (ex o a b c d) 0) 32 (BP (ev m C (rg f118 9) (qD (zB o (ex o a b c d) 0) 32 g) H))) (H':=H) (by kernel_rfl) ?_);generalize (BP (ev m C (rg f118 9) (qD (zB o (ex o a b c d) 0) 32 g) H))=I;refine pB (oY y qX qV (m:=3) (by kernel_rfl) (by kernel_rfl) (x:= .normal) (fr':=qD (zB o (ex o a b c d) 0) 32 λs=>(qD ((17,.bool true)::zB o (ex o a b c d) 0) 32 I).getD s oS) (H':=H) (by kernel_rfl) ?_);exact Zo (Q:=rE (TF o (ex o a b c d) k) Q) o a b c d 0 (λg H=>⟨BP (ev m C (rg f118 10) (qD (zB o (ex o a b c d) 0) 32 g) H),by kernel_rfl⟩) (λg H=>⟨BP (ev m C (rg f118 16) (qD (zB o (ex o a b c d) 0) 32 g) H),by kernel_rfl⟩) (λg H z=>u w (es:=[]) rfl v g H (λe f=>by simp at f) z) M
 |1,_,w,v=>
  refine pB (oY y qX qV (m:=3) (by kernel_rfl) (by kernel_rfl) (x:= .normal) (fr':=qD ((17,.bool true)::zB o (ex o a b c d) 1) 32 (BP (ev m C (rg f118 9) (qD (zB o (ex o a b c d) 1) 32 g) H))) (H':=H) (by kernel_rfl) ?_);generalize (BP (ev m C (rg f118 9) (qD (zB o (ex o a b c d) 1) 32 g) H))=I;refine pB (oY y qX qV (m:=3) (by kernel_rfl) (by kernel_rfl) (x:= .normal) (fr':=qD (zB o (ex o a b c d) 1) 32 λs=>(qD ((17,.bool true)::zB o (ex o a b c d) 1) 32 I).getD s oS) (H':=H) (by kernel_rfl) ?_);exact Dy (Q:=rE (TF o (ex o a b c d) k) Q) o a b c d 1 (rL o) 1 1 j6 (λg H=>⟨BP (ev m C (rg f118 10) (qD (zB o (ex o a b c d) 1) 32 g) H),by kernel_rfl⟩) (λg H=>⟨BP (ev m C (rg f118 16) (qD (zB o (ex o a b c d) 1) 32 g) H),by kernel_rfl⟩) ⟨_,rfl,rfl⟩ (by decide) (by kernel_rfl) (by decide) (by intro e f;simp only[j6,aY,dF,fQ]at f;subst f;exact⟨_,_,_,rfl⟩) (λe f N=>JH W J K 1 e f N) D (λg H h z=>u w (es:=j6) rfl v g H h z) M
 |2,_,w,v=>
  refine pB (oY y qX qV (m:=3) (by kernel_rfl) (by kernel_rfl) (x:= .normal) (fr':=qD ((17,.bool true)::zB o (ex o a b c d) 2) 32 (BP (ev m C (rg f118 9) (qD (zB o (ex o a b c d) 2) 32 g) H))) (H':=H) (by kernel_rfl) ?_);generalize (BP (ev m C (rg f118 9) (qD (zB o (ex o a b c d) 2) 32 g) H))=I;refine pB (oY y qX qV (m:=3) (by kernel_rfl) (by kernel_rfl) (x:= .normal) (fr':=qD (zB o (ex o a b c d) 2) 32 λs=>(qD ((17,.bool true)::zB o (ex o a b c d) 2) 32 I).getD s oS) (H':=H) (by kernel_rfl) ?_);exact Dy (Q:=rE (TF o (ex o a b c d) k) Q) o a b c d 2 (rL o) 2 1 kx (λg H=>⟨BP (ev m C (rg f118 10) (qD (zB o (ex o a b c d) 2) 32 g) H),by kernel_rfl⟩) (λg H=>⟨BP (ev m C (rg f118 16) (qD (zB o (ex o a b c d) 2) 32 g) H),by kernel_rfl⟩) ⟨_,rfl,rfl⟩ (by decide) (by kernel_rfl) (by decide) (by intro e f;simp only[kx,aY,dF,fQ]at f;subst f;exact⟨_,_,_,rfl⟩) (λe f N=>JH W J K 2 e f N) D (λg H h z=>u w (es:=kx) rfl v g H h z) M
 |3,_,w,v=>
  refine pB (oY y qX qV (m:=3) (by kernel_rfl) (by kernel_rfl) (x:= .normal) (fr':=qD ((17,.bool true)::zB o (ex o a b c d) 3) 32 (BP (ev m C (rg f118 9) (qD (zB o (ex o a b c d) 3) 32 g) H))) (H':=H) (by kernel_rfl) ?_);generalize (BP (ev m C (rg f118 9) (qD (zB o (ex o a b c d) 3) 32 g) H))=I;refine pB (oY y qX qV (m:=3) (by kernel_rfl) (by kernel_rfl) (x:= .normal) (fr':=qD (zB o (ex o a b c d) 3) 32 λs=>(qD ((17,.bool true)::zB o (ex o a b c d) 3) 32 I).getD s oS) (H':=H) (by kernel_rfl) ?_);exact Zo (Q:=rE (TF o (ex o a b c d) k) Q) o a b c d 3 (λg H=>⟨BP (ev m C (rg f118 10) (qD (zB o (ex o a b c d) 3) 32 g) H),by kernel_rfl⟩) (λg H=>⟨BP (ev m C (rg f118 16) (qD (zB o (ex o a b c d) 3) 32 g) H),by kernel_rfl⟩) (λg H z=>u w (es:=[]) rfl v g H (λe f=>by simp at f) z) M
 |4,_,w,v=>
  refine pB (oY y qX qV (m:=3) (by kernel_rfl) (by kernel_rfl) (x:= .normal) (fr':=qD ((17,.bool true)::zB o (ex o a b c d) 4) 32 (BP (ev m C (rg f118 9) (qD (zB o (ex o a b c d) 4) 32 g) H))) (H':=H) (by kernel_rfl) ?_);generalize (BP (ev m C (rg f118 9) (qD (zB o (ex o a b c d) 4) 32 g) H))=I;refine pB (oY y qX qV (m:=3) (by kernel_rfl) (by kernel_rfl) (x:= .normal) (fr':=qD (zB o (ex o a b c d) 4) 32 λs=>(qD ((17,.bool true)::zB o (ex o a b c d) 4) 32 I).getD s oS) (H':=H) (by kernel_rfl) ?_);exact Dy (Q:=rE (TF o (ex o a b c d) k) Q) o a b c d 4 (rL o) 3 6 Rn (λg H=>⟨BP (ev m C (rg f118 10) (qD (zB o (ex o a b c d) 4) 32 g) H),by kernel_rfl⟩) (λg H=>⟨BP (ev m C (rg f118 16) (qD (zB o (ex o a b c d) 4) 32 g) H),by kernel_rfl⟩) ⟨_,rfl,rfl⟩ (by decide) (by kernel_rfl) (by decide) (by intro e f;simp only[Rn,aY,dF,fQ]at f;rcases f with rfl|rfl|rfl|rfl|rfl|rfl<;>exact⟨_,_,_,rfl⟩) (λe f N=>JH W J K 4 e f N) D (λg H h z=>u w (es:=Rn) rfl v g H h z) M
 |5,_,w,v=>
  refine pB (oY y qX qV (m:=3) (by kernel_rfl) (by kernel_rfl) (x:= .normal) (fr':=qD ((17,.bool true)::zB o (ex o a b c d) 5) 32 (BP (ev m C (rg f118 9) (qD (zB o (ex o a b c d) 5) 32 g) H))) (H':=H) (by kernel_rfl) ?_);generalize (BP (ev m C (rg f118 9) (qD (zB o (ex o a b c d) 5) 32 g) H))=I;refine pB (oY y qX qV (m:=3) (by kernel_rfl) (by kernel_rfl) (x:= .normal) (fr':=qD (zB o (ex o a b c d) 5) 32 λs=>(qD ((17,.bool true)::zB o (ex o a b c d) 5) 32 I).getD s oS) (H':=H) (by kernel_rfl) ?_);exact Dy (Q:=rE (TF o (ex o a b c d) k) Q) o a b c d 5 (rL o) 4 1 kE (λg H=>⟨BP (ev m C (rg f118 10) (qD (zB o (ex o a b c d) 5) 32 g) H),by kernel_rfl⟩) (λg H=>⟨BP (ev m C (rg f118 16) (qD (zB o (ex o a b c d) 5) 32 g) H),by kernel_rfl⟩) ⟨_,rfl,rfl⟩ (by decide) (by kernel_rfl) (by decide) (by intro e f;simp only[kE,aY,dF,fQ]at f;subst f;exact⟨_,_,_,rfl⟩) (λe f N=>JH W J K 5 e f N) D (λg H h z=>u w (es:=kE) rfl v g H h z) M
 |6,_,w,v=>
  refine pB (oY y qX qV (m:=3) (by kernel_rfl) (by kernel_rfl) (x:= .normal) (fr':=qD ((17,.bool true)::zB o (ex o a b c d) 6) 32 (BP (ev m C (rg f118 9) (qD (zB o (ex o a b c d) 6) 32 g) H))) (H':=H) (by kernel_rfl) ?_);generalize (BP (ev m C (rg f118 9) (qD (zB o (ex o a b c d) 6) 32 g) H))=I;refine pB (oY y qX qV (m:=3) (by kernel_rfl) (by kernel_rfl) (x:= .normal) (fr':=qD (zB o (ex o a b c d) 6) 32 λs=>(qD ((17,.bool true)::zB o (ex o a b c d) 6) 32 I).getD s oS) (H':=H) (by kernel_rfl) ?_);exact Dy (Q:=rE (TF o (ex o a b c d) k) Q) o a b c d 6 (rL o) 5 3 jz (λg H=>⟨BP (ev m C (rg f118 10) (qD (zB o (ex o a b c d) 6) 32 g) H),by kernel_rfl⟩) (λg H=>⟨BP (ev m C (rg f118 16) (qD (zB o (ex o a b c d) 6) 32 g) H),by kernel_rfl⟩) ⟨_,rfl,rfl⟩ (by decide) (by kernel_rfl) (by decide) (by intro e f;simp only[jz,aY,dF,fQ]at f;rcases f with rfl|rfl|rfl<;>exact⟨_,_,_,rfl⟩) (λe f N=>JH W J K 6 e f N) D (λg H h z=>u w (es:=jz) rfl v g H h z) M
 |7,_,w,v=>
  refine pB (oY y qX qV (m:=3) (by kernel_rfl) (by kernel_rfl) (x:= .normal) (fr':=qD ((17,.bool true)::zB o (ex o a b c d) 7) 32 (BP (ev m C (rg f118 9) (qD (zB o (ex o a b c d) 7) 32 g) H))) (H':=H) (by kernel_rfl) ?_);generalize (BP (ev m C (rg f118 9) (qD (zB o (ex o a b c d) 7) 32 g) H))=I;refine pB (oY y qX qV (m:=3) (by kernel_rfl) (by kernel_rfl) (x:= .normal) (fr':=qD (zB o (ex o a b c d) 7) 32 λs=>(qD ((17,.bool true)::zB o (ex o a b c d) 7) 32 I).getD s oS) (H':=H) (by kernel_rfl) ?_);exact Dy (Q:=rE (TF o (ex o a b c d) k) Q) o a b c d 7 (rL o) 6 1 kF (λg H=>⟨BP (ev m C (rg f118 10) (qD (zB o (ex o a b c d) 7) 32 g) H),by kernel_rfl⟩) (λg H=>⟨BP (ev m C (rg f118 16) (qD (zB o (ex o a b c d) 7) 32 g) H),by kernel_rfl⟩) ⟨_,rfl,rfl⟩ (by decide) (by kernel_rfl) (by decide) (by intro e f;simp only[kF,aY,dF,fQ]at f;subst f;exact⟨_,_,_,rfl⟩) (λe f N=>JH W J K 7 e f N) D (λg H h z=>u w (es:=kF) rfl v g H h z) M
 |8,_,w,v=>
  refine pB (oY y qX qV (m:=3) (by kernel_rfl) (by kernel_rfl) (x:= .normal) (fr':=qD ((17,.bool true)::zB o (ex o a b c d) 8) 32 (BP (ev m C (rg f118 9) (qD (zB o (ex o a b c d) 8) 32 g) H))) (H':=H) (by kernel_rfl) ?_);generalize (BP (ev m C (rg f118 9) (qD (zB o (ex o a b c d) 8) 32 g) H))=I;refine pB (oY y qX qV (m:=3) (by kernel_rfl) (by kernel_rfl) (x:= .normal) (fr':=qD (zB o (ex o a b c d) 8) 32 λs=>(qD ((17,.bool true)::zB o (ex o a b c d) 8) 32 I).getD s oS) (H':=H) (by kernel_rfl) ?_);exact Zo (Q:=rE (TF o (ex o a b c d) k) Q) o a b c d 8 (λg H=>⟨BP (ev m C (rg f118 10) (qD (zB o (ex o a b c d) 8) 32 g) H),by kernel_rfl⟩) (λg H=>⟨BP (ev m C (rg f118 16) (qD (zB o (ex o a b c d) 8) 32 g) H),by kernel_rfl⟩) (λg H z=>u w (es:=[]) rfl v g H (λe f=>by simp at f) z) M
 |9,_,w,v=>
  refine pB (oY y qX qV (m:=3) (by kernel_rfl) (by kernel_rfl) (x:= .normal) (fr':=qD ((17,.bool true)::zB o (ex o a b c d) 9) 32 (BP (ev m C (rg f118 9) (qD (zB o (ex o a b c d) 9) 32 g) H))) (H':=H) (by kernel_rfl) ?_);generalize (BP (ev m C (rg f118 9) (qD (zB o (ex o a b c d) 9) 32 g) H))=I;refine pB (oY y qX qV (m:=3) (by kernel_rfl) (by kernel_rfl) (x:= .normal) (fr':=qD (zB o (ex o a b c d) 9) 32 λs=>(qD ((17,.bool true)::zB o (ex o a b c d) 9) 32 I).getD s oS) (H':=H) (by kernel_rfl) ?_);exact Zo (Q:=rE (TF o (ex o a b c d) k) Q) o a b c d 9 (λg H=>⟨BP (ev m C (rg f118 10) (qD (zB o (ex o a b c d) 9) 32 g) H),by kernel_rfl⟩) (λg H=>⟨BP (ev m C (rg f118 16) (qD (zB o (ex o a b c d) 9) 32 g) H),by kernel_rfl⟩) (λg H z=>u w (es:=[]) rfl v g H (λe f=>by simp at f) z) M
 |i+10,h,_,_ =>omega
noncomputable def Gh:Code:= .seq (rg f118 6) (.cond (.tmp 13) (.seq (rg f118 7) .ret) .skip)
def Gg:Code:= .seq (rg f118 4) (.cond (.tmp 11) (.seq (rg f118 5) .ret) Gh)
def Xb:Code:= .seq (rg f118 2) (.cond (.tmp 9) (.seq (rg f118 3) .ret) Gg)
theorem aQl(o:Int)(c a d b:T){Q:gT}(f:o=16->∀g,Q .ret (qD ((2,.int .i64 8)::(13,.bool (decide (o=16)))::zA o (ex o c a d b)) 32 g) ⟨0,.nl⟩)
  (e:o≠16->∀g,Q .normal (qD (zA o (ex o c a d b)) 32 g) ⟨0,.nl⟩) (g:iK):gj prog (EZ m C) none 0 (Gh) (qD (zA o (ex o c a d b)) 32 g) ⟨0,.nl⟩ Q:=by
 refine pB (oY follows qX qV (m:=3) (by kernel_rfl) (by kernel_rfl) (x:= .normal) (fr':=qD ((13,.bool (decide (o=16)))::zA o (ex o c a d b)) 32 (BP (ev m C (rg f118 6) (qD (zA o (ex o c a d b)) 32 g) ⟨0,.nl⟩))) (H':=⟨0,.nl⟩) (by kernel_rfl) ?_);generalize (BP (ev m C (rg f118 6) (qD (zA o (ex o c a d b)) 32 g) ⟨0,.nl⟩))=i;exact LT (t:=decide (o=16)) rfl (λh=>oY follows qX qV (m:=3) (by kernel_rfl) (by kernel_rfl) (x:= .ret) (fr':=qD ((2,.int .i64 8)::(13,.bool (decide (o=16)))::zA o (ex o c a d b)) 32 i) (H':=⟨0,.nl⟩) (by kernel_rfl) (f (cH h) i)) (λh=>oY follows qX qV (m:=3) (by kernel_rfl) (by kernel_rfl) (x:= .normal) (fr':=qD (zA o (ex o c a d b)) 32 (λs=>(qD ((13,.bool (decide (o=16)))::zA o (ex o c a d b)) 32 i).getD s oS)) (H':=⟨0,.nl⟩) (by kernel_rfl) (e (of_decide_eq_false h) _))
theorem aQk(o:Int)(c a d b:T){Q:gT}(f:o=25->∀g,Q .ret (qD ((2,.int .i64 4)::(11,.bool (decide (o=25)))::zA o (ex o c a d b)) 32 g) ⟨0,.nl⟩)
  (e:o≠25->∀g,gj prog (EZ m C) none 0 (Gh) (qD (zA o (ex o c a d b)) 32 g) ⟨0,.nl⟩ Q) (g:iK):gj prog (EZ m C) none 0 (Gg) (qD (zA o (ex o c a d b)) 32 g) ⟨0,.nl⟩ Q:=by
 refine pB (oY follows qX qV (m:=3) (by kernel_rfl) (by kernel_rfl) (x:= .normal) (fr':=qD ((11,.bool (decide (o=25)))::zA o (ex o c a d b)) 32 (BP (ev m C (rg f118 4) (qD (zA o (ex o c a d b)) 32 g) ⟨0,.nl⟩))) (H':=⟨0,.nl⟩) (by kernel_rfl) ?_);generalize (BP (ev m C (rg f118 4) (qD (zA o (ex o c a d b)) 32 g) ⟨0,.nl⟩))=i;exact LT (t:=decide (o=25)) rfl (λh=>oY follows qX qV (m:=3) (by kernel_rfl) (by kernel_rfl) (x:= .ret) (fr':=qD ((2,.int .i64 4)::(11,.bool (decide (o=25)))::zA o (ex o c a d b)) 32 i) (H':=⟨0,.nl⟩) (by kernel_rfl) (f (cH h) i)) (λh=>e (of_decide_eq_false h) (λs=>(qD ((11,.bool (decide (o=25)))::zA o (ex o c a d b)) 32 i).getD s oS))
theorem aQj(o:Int)(c a d b:T){Q:gT}(f:o=3->∀g,Q .ret (qD ((2,.int .i64 3)::(9,.bool (decide (o=3)))::zA o (ex o c a d b)) 32 g) ⟨0,.nl⟩)
  (e:o≠3->∀g,gj prog (EZ m C) none 0 (Gg) (qD (zA o (ex o c a d b)) 32 g) ⟨0,.nl⟩ Q) (g:iK):gj prog (EZ m C) none 0 (Xb) (qD (zA o (ex o c a d b)) 32 g) ⟨0,.nl⟩ Q:=by
 refine pB (oY follows qX qV (m:=3) (by kernel_rfl) (by kernel_rfl) (x:= .normal) (fr':=qD ((9,.bool (decide (o=3)))::zA o (ex o c a d b)) 32 (BP (ev m C (rg f118 2) (qD (zA o (ex o c a d b)) 32 g) ⟨0,.nl⟩))) (H':=⟨0,.nl⟩) (by kernel_rfl) ?_);generalize (BP (ev m C (rg f118 2) (qD (zA o (ex o c a d b)) 32 g) ⟨0,.nl⟩))=i;exact LT (t:=decide (o=3)) rfl (λh=>oY follows qX qV (m:=3) (by kernel_rfl) (by kernel_rfl) (x:= .ret) (fr':=qD ((2,.int .i64 3)::(9,.bool (decide (o=3)))::zA o (ex o c a d b)) 32 i) (H':=⟨0,.nl⟩) (by kernel_rfl) (f (cH h) i)) (λh=>e (of_decide_eq_false h) (λs=>(qD ((9,.bool (decide (o=3)))::zA o (ex o c a d b)) 32 i).getD s oS))
theorem aBd:pO f118= .seq (rg f118 0) (.seq (.seq (rg f118 1) (.block 0 Xb)) (.seq (.seq (rg f118 8) (.block 1 (.loop aFw))) (.seq (rg f118 17) .ret))):=by kernel_rfl
theorem Je(z:iE)(v:Int)(g:iK)(H:Hp):rJ prog (qD ((2,.int .i64 v)::z) 32 g) H f118.results.toList=some [.int .i64 v]:=by kernel_rfl
theorem WM{o:Int}{f:gC}{H:Hp}(h:rJ prog f H f118.results.toList=some [.int .i64 (rL o)]):KR prog f118 40 (.int .i64 (rL o)) .ret f H:=⟨.inr rfl,_,_,h,rfl,λg v h=>h⟩
theorem bIw(o:Int)(c a d b:T)(q:o≠3)(i:o≠25)(j:o≠16)(g:iK):
  gj prog (EZ m C) none 0 (.seq (.seq (rg f118 8) (.block 1 (.loop aFw))) (.seq (rg f118 17) .ret)) (qD (zA o (ex o c a d b)) 32 g) ⟨0,.nl⟩ (KR prog f118 40 (.int .i64 (rL o))):=by
 refine pB (pB (oY follows qX qV (m:=3) (by kernel_rfl) (by kernel_rfl) (x:= .normal) (fr':=qD (zB o (ex o c a d b) 0) 32 λs=>(qD (zA o (ex o c a d b)) 32 g).getD s oS) (H':=H7) (by kernel_rfl) ?_));refine sP (aRn (Q:=xJ 1 (rE (λf H'=>gj prog (EZ m C) none 0 (.seq (rg f118 17) .ret) f H' (KR prog f118 40 (.int .i64 (rL o)))) (KR prog f118 40 (.int .i64 (rL o))))) o c a d b q i j (λu H h=>WM h) (λg H h=> ?_) ⟨bB _,λl _ =>rfl⟩);refine oY follows qX qV (m:=3) (by kernel_rfl) (by kernel_rfl) (x:= .ret) (fr':=qD ((2,.int .i64 9)::(17,.bool false)::zB o (ex o c a d b) 10) 32 g) (H':=H) (by kernel_rfl) ?_;exact WM ((Je _ 9 _ _).trans (by rw[h]))
theorem GL(o:Int)(d a e b:T)(i:qJ (pM 40 ⟨0,.nl⟩) [ex o d a e b]=some [ex o d a e b]):fj prog (fo m C) 118 [ex o d a e b] (.int .i64 (rL o)):=by
 refine LU (E:=EZ m C) (qN m C) (f:=118) (by kernel_rfl) func118 (c:=pO f118) (by kernel_rfl) (k:=40) i ?_;rw[aBd];refine pB (oY follows qX qV (m:=3) (by kernel_rfl) (by kernel_rfl) (x:= .normal) (fr':=qD [(1,.ref (ex o d a e b) 0)] 32 λs=>([ex o d a e b,.ref (ex o d a e b) 0,.int .i64 0]++List.replicate 29 oS).getD s oS) (H':=⟨0,.nl⟩) (by kernel_rfl) ?_);refine pB (pB (oY follows qX qV (m:=3) (by kernel_rfl) (by kernel_rfl) (x:= .normal) (fr':=qD (zA o (ex o d a e b)) 32 λs=>([ex o d a e b,.ref (ex o d a e b) 0,.int .i64 0,oS,oS,oS,oS,.ref (ex o d a e b) 0]++List.replicate 24 oS).getD s oS) (H':=⟨0,.nl⟩) (by kernel_rfl) ?_));refine sP (aQj o d a e b (λh g=> ?_) (λu g=>aQk o d a e b (λh g=> ?_) (λj g=>aQl o d a e b (λh g=> ?_) (λq g=>bIw o d a e b u j q g) g) g) _);exact WM ((Je _ 3 _ _).trans (by rw[h];rfl));exact WM ((Je _ 4 _ _).trans (by rw[h];rfl));exact WM ((Je _ 8 _ _).trans (by rw[h];rfl))
end
variable(m:Int)(C:gB)
def uF(D:Ed)(F:Fc)(f:Func)(a:gC)(ds:gL):Option (T×List Bool):=match qH prog D F 40 (pO f) (a++List.replicate (f.ntmps-a.length) oS) ⟨0,.nl⟩ ds []with
 | .ok (x,c,H) _ b=>(match x with
  | .ret| .normal=>(match rJ prog c H f.results.toList with
   |some a=>(pM 40 H (YE a)).map λr=>(r,b)|none=>none)
  |_ =>none)
 |_ =>none
theorem aMm{m:Int}{C:gB}{D:Ed}{F:Fc}(M:rV prog D.env.gl D.env.pe)(hF:sD prog D.env.gl F.ee)(w:D.gl=fo m C){f:gX}{a:Func}(W:uQ prog f=true)(u:(codeOk (pO a)&&uZ (pO a))=true)(s:prog.funcs[f]? =some a)(L:a.body=some (pO a)){c:gC}(j:qJ (pM 40 ⟨0,.nl⟩) c=some c){ds:gL}{r:T}{b:Bool}
  (h:(uF D F a c ds).map (λq=>(q.1,oU q.2))=some (r,b)) (hl:b=true):fj prog (fo m C) f c r:=by
 rw[aG]at h;obtain⟨⟨z,o⟩,e,I⟩:=h;simp only[bF]at I;obtain⟨rfl,y⟩:=I;rw[hl]at y;simp only[aA]at u;have N:wO D.env.gl:=by rw[show D.env.gl=D.gl from rfl,w];exact qN m C
 rw[<-w];unfold uF at e;split at e;rename_i x J H Y i K
 have d:(x= .normal\/x= .ret)->(match rJ prog J H a.results.toList with
  |some c=>(pM 40 H (YE c)).map λr=>(r,i)|none=>none)=some (z,o)->fj prog D.env.gl f c z:=λZ e=>by
  split at e;rename_i t Q;obtain⟨r2,q1,q2⟩:=aG.1 e;cases q2;obtain⟨hc,_⟩:=wR 40 K y;exact SM (E:=D.env) N W s L j (oY follows M hF u.1 u.2 hc ⟨Z,t,_,Q,q1,λg v h=>h⟩);cases e
 split at e;exact d (.inr rfl) e;exact d (.inl rfl) e;cases e;cases e
def uC(D:Ed)(f:Func)(a:gC)(ds:gL):Option (T×List Bool):=uF D F0 f a ds
theorem gq{m:Int}{C:gB}{D:Ed}(o:rV prog D.env.gl D.env.pe)(g:D.gl=fo m C){f:gX}{a:Func}(e:uQ prog f=true)(s:(codeOk (pO a)&&uZ (pO a))=true)(d:prog.funcs[f]? =some a)(i:a.body=some (pO a)){ts:gC}(c:qJ (pM 40 ⟨0,.nl⟩) ts=some ts){ds:gL}{r:T}{b:Bool}
  (h:(uC D a ts ds).map (λq=>(q.1,oU q.2))=some (r,b)) (j:b=true):fj prog (fo m C) f ts r:=aMm o vW g e s d i c h j
open Classical in
def sU(L:Nat)(f:gX)(a:gC):List UInt8:=if h:∃s:List UInt8,fj prog (fo m C) f a (.str s)/\s.length<=L then Classical.choose h else []
theorem LD{m:Int}{C:gB}{L:Nat}{f:gX}{a:gC}(h:∃s:List UInt8,fj prog (fo m C) f a (.str s)/\s.length<=L):fj prog (fo m C) f a (.str (sU m C L f a)):=by
 unfold sU;rw[dif_pos h];exact(cO h).1
theorem uD{m:Int}{C:gB}(L:Nat)(f:gX)(a:gC):(sU m C L f a).length<=L:=by
 unfold sU;split;rename_i h;exact(cO h).2;exact Nat.zero_le _
def mu(L:Nat)(f:gX)(a:gC):Option (T×List Bool):=some (.str (sU m C L f a),[pb (fj prog (fo m C) f a (.str (sU m C L f a)))])
theorem Jl{L:Nat}{f:gX}{a:gC}{r:T}{c:gL}(h:mu m C L f a=some (r,c))(b:oU c=true):fj prog (fo m C) f a r:=by
 unfold mu at h;cases h;simpa [oU,pN]using b
open Classical in
def Xe(L:Nat)(f:gX)(a:gC):List UInt8×Int:=if h:∃q:List UInt8×Int,fj prog (fo m C) f a (.fm [.str q.1,.int .i64 q.2])/\q.1.length<=L then Classical.choose h else([],0)
theorem aXn{m:Int}{C:gB}{L:Nat}{f:gX}{a:gC}(h:∃(s:gH) (e:Int),fj prog (fo m C) f a (.fm [.str s,.int .i64 e])/\s.length<=L):fj prog (fo m C) f a (.fm [.str (Xe m C L f a).1,.int .i64 (Xe m C L f a).2]):=by
 unfold Xe;obtain⟨s,e,h⟩:=h;have b:∃q:List UInt8×Int,fj prog (fo m C) f a (.fm [.str q.1,.int .i64 q.2])/\q.1.length<=L:=⟨(s,e),h⟩;rw[dif_pos b];exact(cO b).1
theorem aPb{m:Int}{C:gB}(L:Nat)(f:gX)(a:gC):(Xe m C L f a).1.length<=L:=by
 unfold Xe;split;rename_i h;exact(cO h).2;exact Nat.zero_le _
def oM(L:Nat)(f:gX)(a:gC):Option (T×List Bool):=some (.fm [.str (Xe m C L f a).1,.int .i64 (Xe m C L f a).2],[pb (fj prog (fo m C) f a (.fm [.str (Xe m C L f a).1,.int .i64 (Xe m C L f a).2]))])
theorem bAn{L:Nat}{f:gX}{a:gC}{r:T}{c:gL}(h:oM m C L f a=some (r,c))(b:oU c=true):fj prog (fo m C) f a r:=by
 unfold oM at h;cases h;simpa [oU,pN]using b
def bAf:List T->Option (T×List Bool)
 |[.agg [.int .i64 k,a,b,c,d]]=>some (.int .i64 (rL k),[pb (fj prog (fo m C) 118 [.agg [.int .i64 k,a,b,c,d]] (.int .i64 (rL k)))])|_ =>none
theorem aSu{a:gC}{r:T}{c:gL}(h:bAf m C a=some (r,c))(b:oU c=true):fj prog (fo m C) 118 a r:=by
 unfold bAf at h;split at h;cases h;simpa [oU,pN]using b;cases h
def nP:List T->Option (T×List Bool)
 |[.fp,.str _]=>some (.str [],[])
 |[.sl _ x,.str s]=>match Et x with
  |some l=>some (.str (tY s l),[decide ((tY s l).length<=140737488355328),decide (l.length<=140737488355328)])|none=>none
 |_ =>none
theorem aLa{m:Int}{C:gB}{a:gC}{r:T}{c:gL}(h:nP a=some (r,c))(b:oU c=true):fj prog (fo m C) 42 a r:=by
 refine aQv (V:=wV) OI uA (by kernel_rfl) a r ?_;unfold nP at h;split at h;cases h;rfl;rename_i x s;split at h;rename_i l d;cases h;simp only[oU,bM,aA,aF]at b;simp only[aIs,d];rw[aJ b];cases h;cases h
def DT(L:Nat):Ed:=⟨fo m C,qC 118 (bAf m C) (qC 76 (mu m C L 76) (qC 119 (mu m C (5*L) 119) (qC 120 (mu m C 4 120) (qC 121 (oM m C 9100 121) (qC 40 (mu m C 21 40) (Iy 40 42 nP λ_ _ _ =>none))))))⟩
theorem zK(L:Nat):rV prog (DT m C L).env.gl (DT m C L).env.pe:=
 pG (pG (pG (pG (pG (pG (Dq (qN m C) rM λb r c h a=>aLa h a) λb r c h a=>Jl m C h a) λb r c h a=>bAn m C h a) λb r c h a=>Jl m C h a) λb r c h a=>Jl m C h a) λb r c h a=>Jl m C h a) λb r c h a=>aSu m C h a
end
end Go.Proofs.Tryz
namespace Go.Ps
def se:T->Nat
 | .ac _ n _ =>n|_ =>0
def sg:T->Nat->T
 | .ac _ _ f=>f|_ =>λ_ =>oS
def fy:T->List UInt8
 | .str s=>s|_ =>[]
structure Vl where
 kind:Int
 int:Int
 scale:Int
 text:List UInt8
 n:Nat
 list:Nat->T
 m:Nat
 jk:Nat->T
structure Fd where
 name:List UInt8
 val:Vl
structure Ex where
 op:Int
 int:Int
 text:List UInt8
 nv:Nat
 val:Nat->T
 na:Nat
 arg:Nat->T
def lr(v:Vl):List T:=[.int .i64 v.kind,.int .i64 v.int,.int .i64 v.scale,.str v.text,.ac false v.n v.list,.ac false v.m v.jk]
def AK(v:Vl):T:= .agg (lr v)
def nQ(f:Fd):T:= .agg [.str f.name,.int .i64 f.val.kind,.int .i64 f.val.int,.int .i64 f.val.scale,.str f.val.text,.ac false f.val.n f.val.list,.ac false f.val.m f.val.jk]
def ls(e:Ex):T:= .agg [.int .i64 e.op,.int .i64 e.int,.str e.text,.ac false e.nv e.val,.ac false e.na e.arg]
def sh:T->Fd
 | .agg [a,k,i,s,t,l,f]=>⟨fy a,⟨aQo k,aQo i,aQo s,fy t,se l,sg l,se f,sg f⟩⟩|_ =>⟨[],⟨0,0,0,[],0,λ_ =>oS,0,λ_ =>oS⟩⟩
inductive lG:T->Prop
 |mk (v:Vl) (hl:∀i,i<v.n->lG (v.list i)) (hf:∀i,i<v.m->v.jk i=nQ (sh (v.jk i))) (hw:∀i,i<v.m->lG (AK (sh (v.jk i)).val)):lG (AK v)
inductive nR:T->Prop
 |mk (e:Ex) (hv:∀i,i<e.nv->lG (e.val i)) (ha:∀i,i<e.na->nR (e.arg i)):nR (ls e)
end Go.Ps
namespace Go.Proofs.Tryz
open Go.Ps
noncomputable section
structure Kd where
 k:Int
 y:Int
 s:List UInt8
 n:Nat
 w:Nat->Vl
 m:Nat
 a:Nat->T
abbrev iM:=Nat->Vl
abbrev xT(k y:Int)(s:gH)(n:Nat)(w:iM)(m:Nat)(f:iK):T:= .agg [.int .i64 k,.int .i64 y,.str s,.ac false n (λj=>AK (w j)),.ac false m f]
def pJ(q:Kd):T:=xT q.k q.y q.s q.n q.w q.m q.a
section
variable{m:Int}{C:gB}
abbrev Ru(m:Int)(C:gB)(L:Nat)(x:T):Prop:=∀n:Int,∃s:List UInt8,fj prog (fo m C) 76 [x,.int .i64 n] (.str s)/\s.length<=L
theorem EH{L:Nat}{x:T}(h:Ru m C L x)(n:Int):pb (fj prog (fo m C) 76 [x,.int .i64 n] (.str (sU m C L 76 [x,.int .i64 n])))=true:=pN.2 (LD (h n))
theorem mx(n:Nat)(h:n<=4000000000):decide (n<=pK)=true:=bU (dK h (by decide))
abbrev iB:=Nat->Kd
theorem aYx(L:Nat)(c:iB):(uC (DT m C L) f119 [.ac false 0 (λi=>pJ (c i))] [false]).map (λq=>(q.1,oU q.2))=some (.str (tY [44,32] []),true):=by kernel_rfl
theorem aYy(L:Nat)(c:iB):(uC (DT m C L) f119 [.ac false 1 (λi=>pJ (c i))] [true,false]).map (λq=>(q.1,oU q.2))=some (.str (tY [44,32] [(sU m C L 76 [pJ (c 0),.int .i64 0])]),decide ((tY [44,32] [(sU m C L 76 [pJ (c 0),.int .i64 0])]).length<=140737488355328)&&(pb (fj prog (fo m C) 76 [pJ (c 0),.int .i64 0] (.str (sU m C L 76 [pJ (c 0),.int .i64 0])))&&(true))):=by kernel_rfl
theorem aYz(L:Nat)(c:iB):(uC (DT m C L) f119 [.ac false 2 (λi=>pJ (c i))] [true,true,false]).map (λq=>(q.1,oU q.2))=some (.str (tY [44,32] [(sU m C L 76 [pJ (c 0),.int .i64 0]),(sU m C L 76 [pJ (c 1),.int .i64 0])]),decide ((tY [44,32] [(sU m C L 76 [pJ (c 0),.int .i64 0]),(sU m C L 76 [pJ (c 1),.int .i64 0])]).length<=140737488355328)&&(pb (fj prog (fo m C) 76 [pJ (c 1),.int .i64 0] (.str (sU m C L 76 [pJ (c 1),.int .i64 0])))&&(pb (fj prog (fo m C) 76 [pJ (c 0),.int .i64 0] (.str (sU m C L 76 [pJ (c 0),.int .i64 0])))&&(true)))):=by kernel_rfl
theorem aZa(L:Nat)(c:iB):(uC (DT m C L) f119 [.ac false 3 (λi=>pJ (c i))] [true,true,true,false]).map (λq=>(q.1,oU q.2))=some (.str (tY [44,32] [(sU m C L 76 [pJ (c 0),.int .i64 0]),(sU m C L 76 [pJ (c 1),.int .i64 0]),(sU m C L 76 [pJ (c 2),.int .i64 0])]),decide ((tY [44,32] [(sU m C L 76 [pJ (c 0),.int .i64 0]),(sU m C L 76 [pJ (c 1),.int .i64 0]),(sU m C L 76 [pJ (c 2),.int .i64 0])]).length<=140737488355328)&&(pb (fj prog (fo m C) 76 [pJ (c 2),.int .i64 0] (.str (sU m C L 76 [pJ (c 2),.int .i64 0])))&&(pb (fj prog (fo m C) 76 [pJ (c 1),.int .i64 0] (.str (sU m C L 76 [pJ (c 1),.int .i64 0])))&&(pb (fj prog (fo m C) 76 [pJ (c 0),.int .i64 0] (.str (sU m C L 76 [pJ (c 0),.int .i64 0])))&&(true))))):=by kernel_rfl
theorem aZb(L:Nat)(c:iB):(uC (DT m C L) f119 [.ac false 4 (λi=>pJ (c i))] [true,true,true,true,false]).map (λq=>(q.1,oU q.2))=some (.str (tY [44,32] [(sU m C L 76 [pJ (c 0),.int .i64 0]),(sU m C L 76 [pJ (c 1),.int .i64 0]),(sU m C L 76 [pJ (c 2),.int .i64 0]),(sU m C L 76 [pJ (c 3),.int .i64 0])]),decide ((tY [44,32] [(sU m C L 76 [pJ (c 0),.int .i64 0]),(sU m C L 76 [pJ (c 1),.int .i64 0]),(sU m C L 76 [pJ (c 2),.int .i64 0]),(sU m C L 76 [pJ (c 3),.int .i64 0])]).length<=140737488355328)&&(pb (fj prog (fo m C) 76 [pJ (c 3),.int .i64 0] (.str (sU m C L 76 [pJ (c 3),.int .i64 0])))&&(pb (fj prog (fo m C) 76 [pJ (c 2),.int .i64 0] (.str (sU m C L 76 [pJ (c 2),.int .i64 0])))&&(pb (fj prog (fo m C) 76 [pJ (c 1),.int .i64 0] (.str (sU m C L 76 [pJ (c 1),.int .i64 0])))&&(pb (fj prog (fo m C) 76 [pJ (c 0),.int .i64 0] (.str (sU m C L 76 [pJ (c 0),.int .i64 0])))&&(true)))))):=by kernel_rfl
theorem aUt{L:Nat}(f:L<=100000000){n:Nat}(d:n<=4)(c:iB)(b:∀i,i<n->Ru m C L (pJ (c i)))(e:n=0\/6<=L):∃s:List UInt8,fj prog (fo m C) 119 [.ac false n (λi=>pJ (c i))] (.str s)/\s.length<=5*L:=by
 have a:=uD (m:=m) (C:=C) L 76
 match n,d with
 |0,_ =>exact⟨_,gq (zK m C L) rfl (by kernel_rfl) (by kernel_rfl) func119 (by kernel_rfl) (by kernel_rfl) (aYx L c) rfl,Nat.zero_le _⟩
 |1,_ =>
  have:=a [pJ (c 0),.int .i64 0];refine⟨_,gq (zK m C L) rfl (by kernel_rfl) (by kernel_rfl) func119 (by kernel_rfl) (by kernel_rfl) (aYy L c) ?_,?_⟩;simp only[EH (b 0 (by decide)) 0,bM,aF];simp only[tY,aU,aZ,bL];omega;simp only[tY,aU,aZ,bL];omega
 |2,_ =>
  have:=a [pJ (c 0),.int .i64 0];have:=a [pJ (c 1),.int .i64 0];refine⟨_,gq (zK m C L) rfl (by kernel_rfl) (by kernel_rfl) func119 (by kernel_rfl) (by kernel_rfl) (aYz L c) ?_,?_⟩;simp only[EH (b 0 (by decide)) 0,EH (b 1 (by decide)) 0,bM,aF];simp only[tY,aU,aZ,bL];omega;simp only[tY,aU,aZ,bL];omega
 |3,_ =>
  have:=a [pJ (c 0),.int .i64 0];have:=a [pJ (c 1),.int .i64 0];have:=a [pJ (c 2),.int .i64 0];refine⟨_,gq (zK m C L) rfl (by kernel_rfl) (by kernel_rfl) func119 (by kernel_rfl) (by kernel_rfl) (aZa L c) ?_,?_⟩;simp only[EH (b 0 (by decide)) 0,EH (b 1 (by decide)) 0,EH (b 2 (by decide)) 0,bM,aF];simp only[tY,aU,aZ,bL];omega;simp only[tY,aU,aZ,bL];omega
 |4,_ =>
  have:=a [pJ (c 0),.int .i64 0];have:=a [pJ (c 1),.int .i64 0];have:=a [pJ (c 2),.int .i64 0];have:=a [pJ (c 3),.int .i64 0];refine⟨_,gq (zK m C L) rfl (by kernel_rfl) (by kernel_rfl) func119 (by kernel_rfl) (by kernel_rfl) (aZb L c) ?_,?_⟩;simp only[EH (b 0 (by decide)) 0,EH (b 1 (by decide)) 0,EH (b 2 (by decide)) 0,EH (b 3 (by decide)) 0,bM,aF];simp only[tY,aU,aZ,bL];omega;simp only[tY,aU,aZ,bL];omega
 |n+5,h=>omega
theorem bJk(L:Nat)(k y:Int)(s:gH)(n:Nat)(w:iM)(b:Nat)(c:iB)(a:Int):(uC (DT m C L) f76 [(xT k y s n w b λi=>pJ (c i)),.int .i64 a] [true]).map (λq=>(q.1,oU q.2))=some (.str (([40]++sU m C L 76 [(xT k y s n w b λi=>pJ (c i)),.int .i64 0])++[41]),decide ((([40]:List UInt8)++sU m C L 76 [(xT k y s n w b λi=>pJ (c i)),.int .i64 0]).length+([41]:List UInt8).length<=pK)&&(decide (([40]:List UInt8).length+(sU m C L 76 [(xT k y s n w b λi=>pJ (c i)),.int .i64 0]).length<=pK)&&(pb (fj prog (fo m C) 76 [(xT k y s n w b λi=>pJ (c i)),.int .i64 0] (.str (sU m C L 76 [(xT k y s n w b λi=>pJ (c i)),.int .i64 0])))&&(decide (rL k<a)&&(pb (fj prog (fo m C) 118 [(xT k y s n w b λi=>pJ (c i))] (.int .i64 (rL k)))&&true))))):=by kernel_rfl
theorem bIt{L:Nat}(q:L<=100000000)(k y:Int)(s:gH)(n:Nat)(w:iM)(b:Nat)(c:iB)(a:Int)(j:rL k<a)(h:∃d:List UInt8,fj prog (fo m C) 76 [(xT k y s n w b λi=>pJ (c i)),.int .i64 0] (.str d)/\d.length<=L):∃d:List UInt8,fj prog (fo m C) 76 [(xT k y s n w b λi=>pJ (c i)),.int .i64 a] (.str d)/\d.length<=L+2:=by
 have g:=uD (m:=m) (C:=C) L 76;have e:pb (fj prog (fo m C) 118 [(xT k y s n w b λi=>pJ (c i))] (.int .i64 (rL k)))=true:=pN.2 (GL _ _ _ _ _ (by kernel_rfl));have o:(4000000000:Nat)<=pK:=by decide
 have f:pb (fj prog (fo m C) 76 [(xT k y s n w b λi=>pJ (c i)),.int .i64 0] (.str (sU m C L 76 [(xT k y s n w b λi=>pJ (c i)),.int .i64 0])))=true:=pN.2 (LD h);have:=g [(xT k y s n w b λi=>pJ (c i)),.int .i64 0];refine⟨_,gq (zK m C L) rfl (by kernel_rfl) (by kernel_rfl) func76 (by kernel_rfl) (by kernel_rfl) (bJk L k y s n w b c a) ?_,?_⟩;simp only[e,f,bM,cL,aA,aF,bQ,decide_eq_false_iff_not,bN,dB,aU,aZ,bL];omega
 . (try simp only[aU,aZ,bL]);omega
theorem bJj(L:Nat)(y:Int)(s:gH)(n:Nat)(w:iM)(b:Nat)(c:iB)(a:Int):(uC (DT m C L) f76 [(xT 3 y s n w b λi=>pJ (c i)),.int .i64 a] [false,true]).map (λq=>(q.1,oU q.2))=some (.str ([110,111,116,32]++sU m C L 76 [pJ (c 0),.int .i64 3]),decide (([110,111,116,32]:List UInt8).length+(sU m C L 76 [pJ (c 0),.int .i64 3]).length<=pK)&&(pb (fj prog (fo m C) 76 [pJ (c 0),.int .i64 3] (.str (sU m C L 76 [pJ (c 0),.int .i64 3])))&&(decide ((0:Int)<(b:Int))&&(!decide (rL 3<a)&&(pb (fj prog (fo m C) 118 [(xT 3 y s n w b λi=>pJ (c i))] (.int .i64 (rL 3)))&&true))))):=by kernel_rfl
theorem bIs{L:Nat}(q:L<=100000000)(y:Int)(s:gH)(n:Nat)(w:iM)(b:Nat)(c:iB)(a:Int)(g:¬rL 3<a)(j:0<b)(h:Ru m C L (pJ (c 0))):∃d:List UInt8,fj prog (fo m C) 76 [(xT 3 y s n w b λi=>pJ (c i)),.int .i64 a] (.str d)/\d.length<=L+4:=by
 have f:=uD (m:=m) (C:=C) L 76;have e:pb (fj prog (fo m C) 118 [(xT 3 y s n w b λi=>pJ (c i))] (.int .i64 (rL 3)))=true:=pN.2 (GL _ _ _ _ _ (by kernel_rfl));have o:(4000000000:Nat)<=pK:=by decide
 have:=f [pJ (c 0),.int .i64 3];refine⟨_,gq (zK m C L) rfl (by kernel_rfl) (by kernel_rfl) func76 (by kernel_rfl) (by kernel_rfl) (bJj L y s n w b c a) ?_,?_⟩;simp only[e,EH h 3,bM,cL,aA,aF,bQ,decide_eq_false_iff_not,bN,dB,aU,aZ,bL];omega
 . (try simp only[aU,aZ,bL]);omega
theorem aUd(L:Nat)(y:Int)(s:gH)(n:Nat)(w:iM)(b:Nat)(c:iB)(a:Int):(uC (DT m C L) f76 [(xT 16 y s n w b λi=>pJ (c i)),.int .i64 a] [false,false,true,false,false,false,false,false,false,false,false,false,false]).map (λq=>(q.1,oU q.2))=some (.str ([45]++sU m C L 76 [pJ (c 0),.int .i64 9]),decide (([45]:List UInt8).length+(sU m C L 76 [pJ (c 0),.int .i64 9]).length<=pK)&&(!decide ((c 0).k=1)&&(!decide ((c 0).k=1)&&(!decide ((c 0).k=1)&&(!decide ((c 0).k=1)&&(!decide ((c 0).k=1)&&(!decide ((c 0).k=1)&&(!decide ((c 0).k=1)&&(!decide ((c 0).k=1)&&(!decide ((c 0).k=1)&&(decide ((0:Int)<(b:Int))&&(pb (fj prog (fo m C) 76 [pJ (c 0),.int .i64 9] (.str (sU m C L 76 [pJ (c 0),.int .i64 9])))&&(decide ((0:Int)<(b:Int))&&(!decide (rL 16<a)&&(pb (fj prog (fo m C) 118 [(xT 16 y s n w b λi=>pJ (c i))] (.int .i64 (rL 16)))&&true))))))))))))))):=by kernel_rfl
theorem aTk{L:Nat}(u:L<=100000000)(y:Int)(s:gH)(n:Nat)(w:iM)(b:Nat)(c:iB)(a:Int)(g:¬rL 16<a)(j:0<b)(h:Ru m C L (pJ (c 0)))(o:(c 0).k≠1):∃d:List UInt8,fj prog (fo m C) 76 [(xT 16 y s n w b λi=>pJ (c i)),.int .i64 a] (.str d)/\d.length<=L+3:=by
 have f:=uD (m:=m) (C:=C) L 76;have e:pb (fj prog (fo m C) 118 [(xT 16 y s n w b λi=>pJ (c i))] (.int .i64 (rL 16)))=true:=pN.2 (GL _ _ _ _ _ (by kernel_rfl));have q:(4000000000:Nat)<=pK:=by decide
 have:=f [pJ (c 0),.int .i64 9];refine⟨_,gq (zK m C L) rfl (by kernel_rfl) (by kernel_rfl) func76 (by kernel_rfl) (by kernel_rfl) (aUd L y s n w b c a) ?_,?_⟩;simp only[e,EH h 9,bM,cL,aA,aF,bQ,decide_eq_false_iff_not,bN,dB,aU,aZ,bL];omega
 . (try simp only[aU,aZ,bL]);omega
theorem aUe(L:Nat)(y:Int)(s:gH)(n:Nat)(w:iM)(b:Nat)(c:iB)(a:Int):(uC (DT m C L) f76 [(xT 16 y s n w b λi=>pJ (c i)),.int .i64 a] [false,false,true,true,true,true,true,true,true,true,true,true,true,true,true,true,true,true,true,true]).map (λq=>(q.1,oU q.2))=some (.str ([45]++(([40]++sU m C L 76 [pJ (c 0),.int .i64 9])++[41])),decide (([45]:List UInt8).length+((([40]:List UInt8)++sU m C L 76 [pJ (c 0),.int .i64 9])++[41]).length<=pK)&&(decide ((([40]:List UInt8)++sU m C L 76 [pJ (c 0),.int .i64 9]).length+([41]:List UInt8).length<=pK)&&(decide (([40]:List UInt8).length+(sU m C L 76 [pJ (c 0),.int .i64 9]).length<=pK)&&(decide ((c 0).k=1)&&(decide (((c 0).w 0).kind=2)&&(decide ((c 0).k=1)&&(decide (((c 0).w 0).kind=2)&&(decide (((c 0).w 0).kind=2)&&(decide (((c 0).w 0).kind=2)&&(decide (((c 0).w 0).kind=2)&&(decide (((c 0).w 0).kind=2)&&(decide (((c 0).w 0).kind=2)&&(decide ((c 0).k=1)&&(decide ((c 0).k=1)&&(decide ((c 0).k=1)&&(decide ((c 0).k=1)&&(decide ((0:Int)<((c 0).n:Int))&&(decide ((c 0).k=1)&&(decide ((c 0).k=1)&&(decide ((c 0).k=1)&&(decide ((0:Int)<(b:Int))&&(pb (fj prog (fo m C) 76 [pJ (c 0),.int .i64 9] (.str (sU m C L 76 [pJ (c 0),.int .i64 9])))&&(decide ((0:Int)<(b:Int))&&(!decide (rL 16<a)&&(pb (fj prog (fo m C) 118 [(xT 16 y s n w b λi=>pJ (c i))] (.int .i64 (rL 16)))&&true))))))))))))))))))))))))):=by kernel_rfl
theorem aTl{L:Nat}(v:L<=100000000)(y:Int)(s:gH)(n:Nat)(w:iM)(b:Nat)(c:iB)(a:Int)(u:¬rL 16<a)(j:0<b)(f:Ru m C L (pJ (c 0)))(o:(c 0).k=1)(x:0<(c 0).n)(g:((c 0).w 0).kind=2):∃d:List UInt8,fj prog (fo m C) 76 [(xT 16 y s n w b λi=>pJ (c i)),.int .i64 a] (.str d)/\d.length<=L+3:=by
 have h:=uD (m:=m) (C:=C) L 76;have e:pb (fj prog (fo m C) 118 [(xT 16 y s n w b λi=>pJ (c i))] (.int .i64 (rL 16)))=true:=pN.2 (GL _ _ _ _ _ (by kernel_rfl));have q:(4000000000:Nat)<=pK:=by decide
 have:=h [pJ (c 0),.int .i64 9];refine⟨_,gq (zK m C L) rfl (by kernel_rfl) (by kernel_rfl) func76 (by kernel_rfl) (by kernel_rfl) (aUe L y s n w b c a) ?_,?_⟩;simp only[e,EH f 9,bM,cL,aA,aF,bQ,decide_eq_false_iff_not,bN,dB,aU,aZ,bL];omega
 . (try simp only[aU,aZ,bL]);omega
theorem aUf(L:Nat)(y:Int)(s:gH)(n:Nat)(w:iM)(b:Nat)(c:iB)(a:Int):(uC (DT m C L) f76 [(xT 16 y s n w b λi=>pJ (c i)),.int .i64 a] [false,false,true,true,true,true,true,true,true,true,false,false,false,false,false,false,true,false,true,true]).map (λq=>(q.1,oU q.2))=some (.str ([45]++(([40]++sU m C L 76 [pJ (c 0),.int .i64 9])++[41])),decide (([45]:List UInt8).length+((([40]:List UInt8)++sU m C L 76 [pJ (c 0),.int .i64 9])++[41]).length<=pK)&&(decide ((([40]:List UInt8)++sU m C L 76 [pJ (c 0),.int .i64 9]).length+([41]:List UInt8).length<=pK)&&(decide (([40]:List UInt8).length+(sU m C L 76 [pJ (c 0),.int .i64 9]).length<=pK)&&(decide (((c 0).w 0).kind=3)&&(decide ((c 0).k=1)&&(!decide (((c 0).w 0).kind=2)&&(decide ((c 0).k=1)&&(!decide (((c 0).w 0).kind=2)&&(!decide (((c 0).w 0).kind=2)&&(!decide (((c 0).w 0).kind=2)&&(decide ((0:Int)<((c 0).n:Int))&&(!decide (((c 0).w 0).kind=2)&&(!decide (((c 0).w 0).kind=2)&&(!decide (((c 0).w 0).kind=2)&&(decide ((c 0).k=1)&&(decide ((c 0).k=1)&&(decide ((c 0).k=1)&&(decide ((c 0).k=1)&&(decide ((0:Int)<((c 0).n:Int))&&(decide ((c 0).k=1)&&(decide ((c 0).k=1)&&(decide ((c 0).k=1)&&(decide ((0:Int)<(b:Int))&&(pb (fj prog (fo m C) 76 [pJ (c 0),.int .i64 9] (.str (sU m C L 76 [pJ (c 0),.int .i64 9])))&&(decide ((0:Int)<(b:Int))&&(!decide (rL 16<a)&&(pb (fj prog (fo m C) 118 [(xT 16 y s n w b λi=>pJ (c i))] (.int .i64 (rL 16)))&&true))))))))))))))))))))))))))):=by kernel_rfl
theorem aTm{L:Nat}(x:L<=100000000)(y:Int)(s:gH)(n:Nat)(w:iM)(b:Nat)(c:iB)(a:Int)(v:¬rL 16<a)(o:0<b)(f:Ru m C L (pJ (c 0)))(q:(c 0).k=1)(z:0<(c 0).n)(j:((c 0).w 0).kind≠2)(g:((c 0).w 0).kind=3):∃d:List UInt8,fj prog (fo m C) 76 [(xT 16 y s n w b λi=>pJ (c i)),.int .i64 a] (.str d)/\d.length<=L+3:=by
 have h:=uD (m:=m) (C:=C) L 76;have e:pb (fj prog (fo m C) 118 [(xT 16 y s n w b λi=>pJ (c i))] (.int .i64 (rL 16)))=true:=pN.2 (GL _ _ _ _ _ (by kernel_rfl));have u:(4000000000:Nat)<=pK:=by decide
 have:=h [pJ (c 0),.int .i64 9];refine⟨_,gq (zK m C L) rfl (by kernel_rfl) (by kernel_rfl) func76 (by kernel_rfl) (by kernel_rfl) (aUf L y s n w b c a) ?_,?_⟩;simp only[e,EH f 9,bM,cL,aA,aF,bQ,decide_eq_false_iff_not,bN,dB,aU,aZ,bL];omega
 . (try simp only[aU,aZ,bL]);omega
theorem aUg(L:Nat)(y:Int)(s:gH)(n:Nat)(w:iM)(b:Nat)(c:iB)(a:Int):(uC (DT m C L) f76 [(xT 16 y s n w b λi=>pJ (c i)),.int .i64 a] [false,false,true,true,true,true,true,true,true,true,false,false,false,false,false,false,true,false,true,false]).map (λq=>(q.1,oU q.2))=some (.str ([45]++sU m C L 76 [pJ (c 0),.int .i64 9]),decide (([45]:List UInt8).length+(sU m C L 76 [pJ (c 0),.int .i64 9]).length<=pK)&&(!decide (((c 0).w 0).kind=3)&&(decide ((c 0).k=1)&&(!decide (((c 0).w 0).kind=2)&&(decide ((c 0).k=1)&&(!decide (((c 0).w 0).kind=2)&&(!decide (((c 0).w 0).kind=2)&&(!decide (((c 0).w 0).kind=2)&&(decide ((0:Int)<((c 0).n:Int))&&(!decide (((c 0).w 0).kind=2)&&(!decide (((c 0).w 0).kind=2)&&(!decide (((c 0).w 0).kind=2)&&(decide ((c 0).k=1)&&(decide ((c 0).k=1)&&(decide ((c 0).k=1)&&(decide ((c 0).k=1)&&(decide ((0:Int)<((c 0).n:Int))&&(decide ((c 0).k=1)&&(decide ((c 0).k=1)&&(decide ((c 0).k=1)&&(decide ((0:Int)<(b:Int))&&(pb (fj prog (fo m C) 76 [pJ (c 0),.int .i64 9] (.str (sU m C L 76 [pJ (c 0),.int .i64 9])))&&(decide ((0:Int)<(b:Int))&&(!decide (rL 16<a)&&(pb (fj prog (fo m C) 118 [(xT 16 y s n w b λi=>pJ (c i))] (.int .i64 (rL 16)))&&true))))))))))))))))))))))))):=by kernel_rfl
theorem aTn{L:Nat}(x:L<=100000000)(y:Int)(s:gH)(n:Nat)(w:iM)(b:Nat)(c:iB)(a:Int)(v:¬rL 16<a)(o:0<b)(f:Ru m C L (pJ (c 0)))(q:(c 0).k=1)(z:0<(c 0).n)(j:((c 0).w 0).kind≠2)(g:((c 0).w 0).kind≠3):∃d:List UInt8,fj prog (fo m C) 76 [(xT 16 y s n w b λi=>pJ (c i)),.int .i64 a] (.str d)/\d.length<=L+3:=by
 have h:=uD (m:=m) (C:=C) L 76;have e:pb (fj prog (fo m C) 118 [(xT 16 y s n w b λi=>pJ (c i))] (.int .i64 (rL 16)))=true:=pN.2 (GL _ _ _ _ _ (by kernel_rfl));have u:(4000000000:Nat)<=pK:=by decide
 have:=h [pJ (c 0),.int .i64 9];refine⟨_,gq (zK m C L) rfl (by kernel_rfl) (by kernel_rfl) func76 (by kernel_rfl) (by kernel_rfl) (aUg L y s n w b c a) ?_,?_⟩;simp only[e,EH f 9,bM,cL,aA,aF,bQ,decide_eq_false_iff_not,bN,dB,aU,aZ,bL];omega
 . (try simp only[aU,aZ,bL]);omega
theorem bBk(L:Nat)(y:Int)(s:gH)(n:Nat)(w:iM)(a:Nat)(c:iB)(b:Int):(uC (DT m C L) f76 [(xT 25 y s n w a λi=>pJ (c i)),.int .i64 b] [false,false,false,true]).map (λq=>(q.1,oU q.2))=some (.str (((sU m C L 76 [pJ (c 0),.int .i64 5]++[32,105,110,32,40])++sU m C (5*L) 119 [.ac false (a-1) (λi=>pJ (c (1+i)))])++[41]),decide ((((sU m C L 76 [pJ (c 0),.int .i64 5]++[32,105,110,32,40])++sU m C (5*L) 119 [.ac false (a-1) (λi=>pJ (c (1+i)))]):List UInt8).length+([41]:List UInt8).length<=pK)&&(decide ((sU m C L 76 [pJ (c 0),.int .i64 5]++[32,105,110,32,40]).length+(sU m C (5*L) 119 [.ac false (a-1) (λi=>pJ (c (1+i)))]).length<=pK)&&(pb (fj prog (fo m C) 119 [.ac false (a-1) (λi=>pJ (c (1+i)))] (.str (sU m C (5*L) 119 [.ac false (a-1) (λi=>pJ (c (1+i)))])))&&(decide ((1:Int)<=(a:Int))&&(decide ((sU m C L 76 [pJ (c 0),.int .i64 5]).length+([32,105,110,32,40]:List UInt8).length<=pK)&&(pb (fj prog (fo m C) 76 [pJ (c 0),.int .i64 5] (.str (sU m C L 76 [pJ (c 0),.int .i64 5])))&&(decide ((0:Int)<(a:Int))&&(!decide (rL 25<b)&&(pb (fj prog (fo m C) 118 [(xT 25 y s n w a λi=>pJ (c i))] (.int .i64 (rL 25)))&&true))))))))):=by kernel_rfl
theorem bAx{L:Nat}(v:L<=100000000)(y:Int)(s:gH)(n:Nat)(w:iM)(b:Nat)(c:iB)(a:Int)(u:¬rL 25<a)(o:0<b)(j:Ru m C L (pJ (c 0)))(g:∃f:List UInt8,fj prog (fo m C) 119 [.ac false (b-1) (λi=>pJ (c (1+i)))] (.str f)/\f.length<=5*L):∃f:List UInt8,fj prog (fo m C) 76 [(xT 25 y s n w b λi=>pJ (c i)),.int .i64 a] (.str f)/\f.length<=6*L+6:=by
 have h:=uD (m:=m) (C:=C) L 76;have d:pb (fj prog (fo m C) 118 [(xT 25 y s n w b λi=>pJ (c i))] (.int .i64 (rL 25)))=true:=pN.2 (GL _ _ _ _ _ (by kernel_rfl));have q:(4000000000:Nat)<=pK:=by decide
 have e:pb (fj prog (fo m C) 119 [.ac false (b-1) (λi=>pJ (c (1+i)))] (.str (sU m C (5*L) 119 [.ac false (b-1) (λi=>pJ (c (1+i)))])))=true:=pN.2 (LD g);have:=h [pJ (c 0),.int .i64 5];have:=uD (m:=m) (C:=C) (5*L) 119 [.ac false (b-1) (λi=>pJ (c (1+i)))];refine⟨_,gq (zK m C L) rfl (by kernel_rfl) (by kernel_rfl) func76 (by kernel_rfl) (by kernel_rfl) (bBk L y s n w b c a) ?_,?_⟩;simp only[d,EH j 5,e,bM,cL,aA,aF,bQ,decide_eq_false_iff_not,bN,dB,aU,aZ,bL];omega
 . (try simp only[aU,aZ,bL]);omega
theorem aUi(L:Nat)(k y:Int)(s:gH)(n:Nat)(w:iM)(b:Nat)(c:iB)(a:Int):(uC (DT m C L) f76 [(xT k y s n w b λi=>pJ (c i)),.int .i64 a] [false,false,false,false,true]).map (λq=>(q.1,oU q.2))=some (.str ((((sU m C L 76 [pJ (c 0),.int .i64 5]++[32])++sU m C 4 120 [.int .i64 k,.int .i64 (rL k)])++[32])++sU m C L 76 [pJ (c 1),.int .i64 5]),decide ((((sU m C L 76 [pJ (c 0),.int .i64 5]++[32])++sU m C 4 120 [.int .i64 k,.int .i64 (rL k)])++[32]).length+(sU m C L 76 [pJ (c 1),.int .i64 5]).length<=pK)&&(pb (fj prog (fo m C) 76 [pJ (c 1),.int .i64 5] (.str (sU m C L 76 [pJ (c 1),.int .i64 5])))&&(decide ((1:Int)<(b:Int))&&(decide (((sU m C L 76 [pJ (c 0),.int .i64 5]++[32])++sU m C 4 120 [.int .i64 k,.int .i64 (rL k)]).length+([32]:List UInt8).length<=pK)&&(decide ((sU m C L 76 [pJ (c 0),.int .i64 5]++[32]).length+(sU m C 4 120 [.int .i64 k,.int .i64 (rL k)]).length<=pK)&&(pb (fj prog (fo m C) 120 [.int .i64 k,.int .i64 (rL k)] (.str (sU m C 4 120 [.int .i64 k,.int .i64 (rL k)])))&&(decide ((sU m C L 76 [pJ (c 0),.int .i64 5]).length+([32]:List UInt8).length<=pK)&&(pb (fj prog (fo m C) 76 [pJ (c 0),.int .i64 5] (.str (sU m C L 76 [pJ (c 0),.int .i64 5])))&&(decide ((0:Int)<(b:Int))&&(decide (rL k=4)&&(!decide (k=25)&&(!decide (k=16)&&(!decide (k=3)&&(!decide (rL k<a)&&(pb (fj prog (fo m C) 118 [(xT k y s n w b λi=>pJ (c i))] (.int .i64 (rL k)))&&true))))))))))))))):=by kernel_rfl
theorem aTp{L:Nat}(M:L<=100000000)(k y:Int)(s:gH)(n:Nat)(w:iM)(d:Nat)(c:iB)(a:Int)(K:¬rL k<a)(j:k≠25)(x:k≠16)(z:k≠3)(D:1<d)(v:Ru m C L (pJ (c 0)))(h:Ru m C L (pJ (c 1)))(J:rL k=4):∃g:List UInt8,fj prog (fo m C) 76 [(xT k y s n w d λi=>pJ (c i)),.int .i64 a] (.str g)/\g.length<=2*L+6:=by
 have f:=uD (m:=m) (C:=C) L 76;have b:pb (fj prog (fo m C) 118 [(xT k y s n w d λi=>pJ (c i))] (.int .i64 (rL k)))=true:=pN.2 (GL _ _ _ _ _ (by kernel_rfl));have I:(4000000000:Nat)<=pK:=by decide
 have e:pb (fj prog (fo m C) 120 [.int .i64 k,.int .i64 (rL k)] (.str (sU m C 4 120 [.int .i64 k,.int .i64 (rL k)])))=true:=pN.2 (LD (by obtain⟨q,u,o⟩:=aUu k (rL k) (by omega);exact⟨q,o,u⟩));have:=f [pJ (c 0),.int .i64 5];have:=f [pJ (c 1),.int .i64 5];have:=uD (m:=m) (C:=C) 4 120 [.int .i64 k,.int .i64 (rL k)];refine⟨_,gq (zK m C L) rfl (by kernel_rfl) (by kernel_rfl) func76 (by kernel_rfl) (by kernel_rfl) (aUi L k y s n w d c a) ?_,?_⟩;simp only[b,EH v 5,EH h 5,e,bM,cL,aA,aF,bQ,decide_eq_false_iff_not,bN,dB,aU,aZ,bL];omega
 . (try simp only[aU,aZ,bL]);omega
theorem aUh(L:Nat)(k y:Int)(s:gH)(n:Nat)(w:iM)(b:Nat)(c:iB)(a:Int):(uC (DT m C L) f76 [(xT k y s n w b λi=>pJ (c i)),.int .i64 a] [false,false,false,false,false,true]).map (λq=>(q.1,oU q.2))=some (.str ((((sU m C L 76 [pJ (c 0),.int .i64 (rL k)]++[32])++sU m C 4 120 [.int .i64 k,.int .i64 (rL k)])++[32])++sU m C L 76 [pJ (c 1),.int .i64 (IntKind.i64.wrap (rL k+1))]),decide ((((sU m C L 76 [pJ (c 0),.int .i64 (rL k)]++[32])++sU m C 4 120 [.int .i64 k,.int .i64 (rL k)])++[32]).length+(sU m C L 76 [pJ (c 1),.int .i64 (IntKind.i64.wrap (rL k+1))]).length<=pK)&&(pb (fj prog (fo m C) 76 [pJ (c 1),.int .i64 (IntKind.i64.wrap (rL k+1))] (.str (sU m C L 76 [pJ (c 1),.int .i64 (IntKind.i64.wrap (rL k+1))])))&&(decide ((1:Int)<(b:Int))&&(decide (((sU m C L 76 [pJ (c 0),.int .i64 (rL k)]++[32])++sU m C 4 120 [.int .i64 k,.int .i64 (rL k)]).length+([32]:List UInt8).length<=pK)&&(decide ((sU m C L 76 [pJ (c 0),.int .i64 (rL k)]++[32]).length+(sU m C 4 120 [.int .i64 k,.int .i64 (rL k)]).length<=pK)&&(pb (fj prog (fo m C) 120 [.int .i64 k,.int .i64 (rL k)] (.str (sU m C 4 120 [.int .i64 k,.int .i64 (rL k)])))&&(decide ((sU m C L 76 [pJ (c 0),.int .i64 (rL k)]).length+([32]:List UInt8).length<=pK)&&(pb (fj prog (fo m C) 76 [pJ (c 0),.int .i64 (rL k)] (.str (sU m C L 76 [pJ (c 0),.int .i64 (rL k)])))&&(decide ((0:Int)<(b:Int))&&(decide (rL k<9)&&(!decide (rL k=4)&&(!decide (k=25)&&(!decide (k=16)&&(!decide (k=3)&&(!decide (rL k<a)&&(pb (fj prog (fo m C) 118 [(xT k y s n w b λi=>pJ (c i))] (.int .i64 (rL k)))&&true)))))))))))))))):=by kernel_rfl
theorem aTo{L:Nat}(Q:L<=100000000)(k y:Int)(s:gH)(n:Nat)(w:iM)(d:Nat)(c:iB)(a:Int)(N:¬rL k<a)(o:k≠25)(z:k≠16)(D:k≠3)(I:1<d)(x:Ru m C L (pJ (c 0)))(h:Ru m C L (pJ (c 1)))(K:rL k≠4)(M:rL k<9)(j:rL k=1\/rL k=2\/rL k=4\/rL k=5\/rL k=6\/rL k=7):∃g:List UInt8,fj prog (fo m C) 76 [(xT k y s n w d λi=>pJ (c i)),.int .i64 a] (.str g)/\g.length<=2*L+6:=by
 have f:=uD (m:=m) (C:=C) L 76;have b:pb (fj prog (fo m C) 118 [(xT k y s n w d λi=>pJ (c i))] (.int .i64 (rL k)))=true:=pN.2 (GL _ _ _ _ _ (by kernel_rfl));have J:(4000000000:Nat)<=pK:=by decide
 have e:pb (fj prog (fo m C) 120 [.int .i64 k,.int .i64 (rL k)] (.str (sU m C 4 120 [.int .i64 k,.int .i64 (rL k)])))=true:=pN.2 (LD (by obtain⟨q,v,u⟩:=aUu k (rL k) j;exact⟨q,u,v⟩));have:=f [pJ (c 0),.int .i64 (rL k)];have:=f [pJ (c 1),.int .i64 (IntKind.i64.wrap (rL k+1))];have:=uD (m:=m) (C:=C) 4 120 [.int .i64 k,.int .i64 (rL k)];refine⟨_,gq (zK m C L) rfl (by kernel_rfl) (by kernel_rfl) func76 (by kernel_rfl) (by kernel_rfl) (aUh L k y s n w d c a) ?_,?_⟩;simp only[b,EH x (rL k),EH h (IntKind.i64.wrap (rL k+1)),e,bM,cL,aA,aF,bQ,decide_eq_false_iff_not,bN,dB,aU,aZ,bL];omega
 . (try simp only[aU,aZ,bL]);omega
theorem bJh(L:Nat)(y:Int)(s:gH)(n:Nat)(w:iM)(b:Nat)(c:iB)(a:Int):(uC (DT m C L) f76 [(xT 1 y s n w b λi=>pJ (c i)),.int .i64 a] [false,false,false,false,false,false,true]).map (λq=>(q.1,oU q.2))=some (.str ((Xe m C 9100 121 [AK (w 0)]).1),pb (fj prog (fo m C) 121 [AK (w 0)] (.fm [.str (Xe m C 9100 121 [AK (w 0)]).1,.int .i64 (Xe m C 9100 121 [AK (w 0)]).2]))&&(decide ((0:Int)<(n:Int))&&(!decide (rL 1<a)&&(pb (fj prog (fo m C) 118 [(xT 1 y s n w b λi=>pJ (c i))] (.int .i64 (rL 1)))&&true)))):=by kernel_rfl
theorem bIq{L:Nat}(u:L<=100000000)(y:Int)(s:gH)(n:Nat)(w:iM)(g:Nat)(c:iB)(a:Int)(q:¬rL 1<a)(v:0<n)(h:∃(f:gH) (e:Int),fj prog (fo m C) 121 [AK (w 0)] (.fm [.str f,.int .i64 e])/\f.length<=9100):∃f:List UInt8,fj prog (fo m C) 76 [(xT 1 y s n w g λi=>pJ (c i)),.int .i64 a] (.str f)/\f.length<=9100:=by
 have o:=uD (m:=m) (C:=C) L 76;have d:pb (fj prog (fo m C) 118 [(xT 1 y s n w g λi=>pJ (c i))] (.int .i64 (rL 1)))=true:=pN.2 (GL _ _ _ _ _ (by kernel_rfl));have j:(4000000000:Nat)<=pK:=by decide
 have b:pb (fj prog (fo m C) 121 [AK (w 0)] (.fm [.str (Xe m C 9100 121 [AK (w 0)]).1,.int .i64 (Xe m C 9100 121 [AK (w 0)]).2]))=true:=pN.2 (aXn h);have:=aPb (m:=m) (C:=C) 9100 121 [AK (w 0)];refine⟨_,gq (zK m C L) rfl (by kernel_rfl) (by kernel_rfl) func76 (by kernel_rfl) (by kernel_rfl) (bJh L y s n w g c a) ?_,?_⟩;simp only[d,b,bM,cL,aA,aF,bQ,decide_eq_false_iff_not,bN,dB,aU,aZ,bL];omega
 . (try simp only[aU,aZ,bL]);omega
theorem bJi(L:Nat)(y:Int)(s:gH)(n:Nat)(w:iM)(b:Nat)(c:iB)(a:Int):(uC (DT m C L) f76 [(xT 2 y s n w b λi=>pJ (c i)),.int .i64 a] [false,false,false,false,false,false,false,true]).map (λq=>(q.1,oU q.2))=some (.str (s),!decide (rL 2<a)&&(pb (fj prog (fo m C) 118 [(xT 2 y s n w b λi=>pJ (c i))] (.int .i64 (rL 2)))&&true)):=by kernel_rfl
theorem bIr{L:Nat}(g:L<=100000000)(y:Int)(s:gH)(n:Nat)(w:iM)(b:Nat)(c:iB)(a:Int)(h:¬rL 2<a)(j:s.length<=60):∃d:List UInt8,fj prog (fo m C) 76 [(xT 2 y s n w b λi=>pJ (c i)),.int .i64 a] (.str d)/\d.length<=60:=by
 have o:=uD (m:=m) (C:=C) L 76;have e:pb (fj prog (fo m C) 118 [(xT 2 y s n w b λi=>pJ (c i))] (.int .i64 (rL 2)))=true:=pN.2 (GL _ _ _ _ _ (by kernel_rfl));have f:(4000000000:Nat)<=pK:=by decide
 refine⟨_,gq (zK m C L) rfl (by kernel_rfl) (by kernel_rfl) func76 (by kernel_rfl) (by kernel_rfl) (bJi L y s n w b c a) ?_,?_⟩;simp only[e,bM,cL,aA,aF,bQ,decide_eq_false_iff_not,bN,dB,aU,aZ,bL];omega
 . (try simp only[aU,aZ,bL]);omega
end
end
end Go.Proofs.Tryz
namespace Go.Ps
noncomputable section
def Ht.over(t:Ht):Ht->Ht:=Ht.rec (motive:=λ_ =>Ht->Ht) (λR=>R) (λv _ _ i a R=> .nd (v.or R.val) (i R.lf) (a R.rt)) t
theorem Ht.bl(v:jY)(l r R:Ht):Ht.over (.nd v l r) R= .nd (v.or R.val) (Ht.over l R.lf) (Ht.over r R.rt):=rfl
theorem Ht.bc(t R:Ht):(Ht.over t R).val=t.val.or R.val:=by cases t<;>rfl
theorem Ht.bf(t R:Ht):(Ht.over t R).lf=Ht.over t.lf R.lf:=by cases t<;>rfl
theorem Ht.bg(t R:Ht):(Ht.over t R).rt=Ht.over t.rt R.rt:=by cases t<;>rfl
theorem Ht.b8:∀(p:gL) (t R:Ht),Ht.bj p (Ht.over t R)=(Ht.bj p t).or (Ht.bj p R)
 |[],t,R=>Ht.bc t R
 |false::p,t,R=>by
  show Ht.bj p (Ht.over t R).lf=_;rw[Ht.bf,Ht.b8 p];rfl
 |true::p,t,R=>by
  show Ht.bj p (Ht.over t R).rt=_;rw[Ht.bg,Ht.b8 p];rfl
theorem Ht.b9(v:jY):∀(p:gL) (t R:Ht),(v=none->Ht.bj p R=none)->Ht.over (Ht.az v p t) R=Ht.az v p (Ht.over t R)
 |[],t,R,h=>by
  show Ht.over (.nd v t.lf t.rt) R= .nd v (Ht.over t R).lf (Ht.over t R).rt;rw[Ht.bl,Ht.bf,Ht.bg];cases v with
  |some v=>rfl|none=>rw[show R.val=none from h rfl];rfl
 |false::p,t,R,h=>by
  show Ht.over (.nd t.val (Ht.az v p t.lf) t.rt) R= .nd (Ht.over t R).val (Ht.az v p (Ht.over t R).lf) (Ht.over t R).rt;rw[Ht.bl,Ht.bc,Ht.bf,Ht.bg,Ht.b9 v p _ _ h]
 |true::p,t,R,h=>by
  show Ht.over (.nd t.val t.lf (Ht.az v p t.rt)) R= .nd (Ht.over t R).val (Ht.over t R).lf (Ht.az v p (Ht.over t R).rt);rw[Ht.bl,Ht.bc,Ht.bf,Ht.bg,Ht.b9 v p _ _ h]
theorem Ht.dh(t R:Ht)(l:Nat):(Ht.over t R).get l=(t.get l).or (R.get l):=Ht.b8 _ t R
theorem Ht.bb(v:jY)(t R:Ht)(l:Nat)(h:v=none->R.get l=none):Ht.over (Ht.put v t l) R=Ht.put v (Ht.over t R) l:=Ht.b9 v _ t R h
theorem Ht.cg(v w:jY):∀(p:gL) (t:Ht),Ht.az v p (Ht.az w p t)=Ht.az v p t
 |[],t=>rfl
 |false::p,t=>by
  show Ht.nd t.val (Ht.az v p (Ht.az w p t.lf)) t.rt= .nd t.val (Ht.az v p t.lf) t.rt;rw[Ht.cg v w p]
 |true::p,t=>by
  show Ht.nd t.val t.lf (Ht.az v p (Ht.az w p t.rt))= .nd t.val t.lf (Ht.az v p t.rt);rw[Ht.cg v w p]
theorem Ht.cb{v:Ob}:∀(p:gL) (t:Ht),Ht.bj p t=some v->Ht.az (some v) p t=t
 |[],.nl,h=>by cases h
 |[],.nd w l r,h=>by
  have e:w=some v:=h;rw[e];rfl
 |b::p,.nl,h=>by
  have:∀p,Ht.bj p .nl=none:=by
   intro p
   induction p with
   |nil=>rfl|cons b p i=>cases b<;>exact i
  rw[this]at h;cases h
 |false::p,.nd w l r,h=>by
  show Ht.nd w (Ht.az (some v) p l) r=_;rw[Ht.cb p l h]
 |true::p,.nd w l r,h=>by
  show Ht.nd w l (Ht.az (some v) p r)=_;rw[Ht.cb p r h]
structure rU(R:Ht)(A B:Hp):Prop where
 eq:B=⟨A.next,Ht.over A.J R⟩
 jd:∀l o,R.get l=some o->A.any l=none/\l<A.next
section
variable{R:Ht}{A B:Hp}
theorem rU.nx(c:rU R A B):B.next=A.next:=by rw[c.eq]
theorem rU.any(c:rU R A B)(l:Nat):B.any l=(A.any l).or (R.get l):=by rw[c.eq];exact Ht.dh _ _ _
theorem rU.yes(c:rU R A B)(l:Nat)(o:Ob)(h:A.any l=some o):B.any l=some o:=by rw[c.any,h];rfl
theorem rU.get(c:rU R A B){l:Nat}{o:Ob}(h:A.get l=some o):B.get l=some o:=by
 obtain⟨b,a⟩:=pD h;exact yA (c.yes l o b) a
theorem rU.ew(c:rU R A B){l:Nat}{o:Ob}(h:A.any l=some o):R.get l=none:=by
 cases hr:R.get l with
 |none=>rfl|some q=>have:=(c.jd l q hr).1;rw[h]at this;cases this
theorem rU.new(c:rU R A B)(o:Ob):rU R (A.new o) (B.new o) where
 eq:=by
  rw[c.eq];show(⟨A.next+1,Ht.put (some o) (Ht.over A.J R) A.next⟩:Hp)=⟨A.next+1,Ht.over (Ht.put (some o) A.J A.next) R⟩;rw[Ht.bb _ _ _ _ (λh=>by cases h)]
 jd:=λl q h=>by
  obtain⟨h1,h2⟩:=c.jd l q h;refine⟨?_,Nat.lt_succ_of_lt h2⟩;rw[rN,aH (by omega)];exact h1
theorem rU.put(c:rU R A B){l:Nat}{q:Ob}(hl:A.any l=some q)(o:Ob):rU R (A.put l o) (B.put l o) where
 eq:=by
  rw[c.eq];show(⟨A.next,Ht.put (some o) (Ht.over A.J R) l⟩:Hp)=⟨A.next,Ht.over (Ht.put (some o) A.J l) R⟩;rw[Ht.bb _ _ _ _ (λh=>by cases h)]
 jd:=λm p h=>by
  obtain⟨h1,h2⟩:=c.jd m p h;refine⟨?_,h2⟩;rw[qP,aH (λe=>by rw[e,hl]at h1;cases h1)];exact h1
theorem rU.hD(c:rU R A B){l:Nat}{q:Ob}(h:A.any l=some q)(o:Ob)(k:Nat)(e:gS):rU R (Go.Ps.hD A l o k e) (Go.Ps.hD B l o k e):=c.put h _
theorem rU.drop(c:rU R A B){l:Nat}{q:Ob}(hl:A.any l=some q):rU R (A.drop l) (B.drop l) where
 eq:=by
  rw[c.eq];show(⟨A.next,Ht.put none (Ht.over A.J R) l⟩:Hp)=⟨A.next,Ht.over (Ht.put none A.J l) R⟩;rw[Ht.bb _ _ _ _ (λ_ =>c.ew hl)]
 jd:=λm p h=>by
  obtain⟨h1,h2⟩:=c.jd m p h;refine⟨?_,h2⟩;rw[qY];split;rfl;exact h1
theorem rU.e7(c:rU R A B){l:Nat}(hn:R.get l=none):rU R (A.drop l) (B.drop l) where
 eq:=by
  rw[c.eq];show(⟨A.next,Ht.put none (Ht.over A.J R) l⟩:Hp)=⟨A.next,Ht.over (Ht.put none A.J l) R⟩;rw[Ht.bb _ _ _ _ (λ_ =>hn)]
 jd:=λm p h=>by
  obtain⟨h1,h2⟩:=c.jd m p h;refine⟨?_,h2⟩;rw[qY];split;rfl;exact h1
theorem rU.fc(c:rU R A B){l:Nat}(hn:R.get l=none)(o:Ob):rU R (A.put l o) (B.put l o) where
 eq:=by
  rw[c.eq];show(⟨A.next,Ht.put (some o) (Ht.over A.J R) l⟩:Hp)=⟨A.next,Ht.over (Ht.put (some o) A.J l) R⟩;rw[Ht.bb _ _ _ _ (λh=>by cases h)]
 jd:=λm p h=>by
  obtain⟨h1,h2⟩:=c.jd m p h;refine⟨?_,h2⟩;rw[qP,aH (λe=>by rw[e,hn]at h;cases h)];exact h1
structure Bf(R:Ht)(E:uW)(e:gK):Prop where
 mono:∀A B f ts r,rU R A B->E.pe A f ts=some r->E.pe B f ts=some r
 fe:∀f ts A v,e f ts A=some v->∀B,E.pe B f ts=none
variable{P:gD}{E:uW}{F:Fc}
theorem Gi(c:rU R A B){p:T}{q:List T×Nat}(h:vM A p=some q):vM B p=some q:=by
 cases p<;>simp only[vM]at h⊢<;>try(first|exact h|cases h)
 split at h;rename_i o a;rw[c.get a];exact h;cases h
theorem XQ(c:rU R A B){t:gB}{p r:T}(h:wI P A t p=some r):wI P B t p=some r:=by
 unfold wI at h⊢;split at h;rename_i b o a;rw[Gi c a];exact h;cases h
theorem Sn(c:rU R A B){s d:gB}{x r:T}(h:KT P A s d x=some r):KT P B s d x=some r:=by
 unfold KT at h⊢;split at h;exact h;unfold Al at h⊢;split at h;split at h;rename_i e _ _;split at h;rename_i o b a;simp only[*,c.get a];cases h;cases h;cases h
theorem WH(c:rU R A B){x:T}{e:gS}(h:NV A x=some e):NV B x=some e:=by
 cases x<;>simp only[NV]at h⊢<;>try(first|exact h|cases h)
 split at h;rename_i o a;rw[c.yes _ _ a];exact h;cases h
theorem Ic(c:rU R A B){t:gB}{x k r:T}{ok:Bool}(h:BK P A t x k ok=some r):BK P B t x k ok=some r:=by
 unfold BK at h⊢;split at h
 .rename_i f e b
  try simp only[b]
  split at h;rename_i d;rw[aJ d];split at h;rename_i g a;rw[WH c a];exact h;cases h;cases h
 cases h
theorem aCa(c:rU R A B){t:gB}{x r:T}(h:Og P A t x=some r):Og P B t x=some r:=by
 unfold Og at h⊢;split at h;split at h
 .rename_i l a b e
  try simp only[e]
  split at h;rename_i f d;rw[WH c d];exact h;cases h
 exact h;exact h
theorem Tk(d:Bf R E F.ee)(c:rU R A B){e:gC}{k:Call}{r:T}(h:yT P E A e k=some r):yT P E B e k=some r:=by
 unfold yT at h⊢;split at h
 .rename_i f i
  try simp only[i]
  split at h
  .rename_i g first w j
   try simp only[j]
   split at h;rename_i v s;exact d.mono A B _ _ _ c h;cases h
  cases h
 cases h
 .rename_i b u
  try simp only[u]
  cases b<;>simp only at h⊢<;>try(first|exact h|cases h)
  split at h
  .rename_i x t y q o
   try simp only[q,o]
   split at h;rename_i a s;exact aCa c h;cases h
  cases h
theorem FG(b:Bf R E F.ee)(c:rU R A B){own:Bool}{f:gC}{o:Oper}{r:T}(h:pS P E own A f o=some r):pS P E own B f o=some r:=by
 obtain⟨j,g,u,q,e,guard⟩:=o;cases g<;>simp only[pS]at h⊢<;>try(first|exact h|(cases h;done))
 case load t a=>
  split at h;rename_i p v;exact XQ c h;cases h
 case lookup t x i ok=>
  split at h;exact Ic c h;cases h
 case convert s d x=>
  split at h;exact Sn c h;cases h
 case call k=>exact Tk b c h
theorem LL(e:Bf R E F.ee){own:Bool}{b:gC}{o:Oper}{v:T}{u w:Hp}(a:xW P E F u b o=some (v,w))(h:pS P E own A b o=none):pS P E own B b o=none:=by
 obtain⟨x,q,I,y,d,guard⟩:=o;cases q<;>simp only[xW]at a<;>try(cases a;done)
 all_goals simp only[pS]at h⊢<;>try exact h
 case call k=>
  unfold yT at h⊢;split at a;rename_i f i;simp only[i]at h⊢;split at a
  .rename_i g first D s
   simp only[s]at h⊢;split at a
   .rename_i z j;(try simp only[j]);exact e.fe _ _ _ _ a B
   cases a
  cases a;rename_i c;simp only[c];rename_i c;simp only[c];cases a
theorem RB{f g:jQ}(h:∀t r,f t=some r->g t=some r):∀{l r:gC},qJ f l=some r->qJ g l=some r
 |[],r,e=>e
 |t::d,r,e=>by
  simp only[qJ]at e⊢;split at e;rename_i u b;split at e;rename_i c a;rw[h _ _ b];simp only[RB h a];exact e;cases e;cases e
theorem Ng(c:rU R A B):∀(n:Nat) (t r:T),pM n A t=some r->pM n B t=some r
 |0,_,_,h=>by cases h
 |n+1,t,r,h=>by
  have s:=Ng c n;have d:∀{l r:gC},qJ (pM n A) l=some r->qJ (pM n B) l=some r:=λe=>RB s e;cases t<;>simp only[pM]at h⊢<;>try(first|exact h|(cases h;done))
  case ptr l off=>
   split at h;rename_i o q;rw[c.get q];split at h;rename_i j g;simp only[d g];exact h;cases h;cases h
  case ref x off=>
   split at h;rename_i y b;rw[s _ _ b];exact h;cases h
  case sl f xs=>
   split at h;rename_i y b;rw[d b];exact h;cases h
  case ge l sz i len=>
   split at h;rename_i o q;rw[c.get q];split at h;rename_i v;simp only[aJ v];split at h;rename_i j g;simp only[d g];exact h;cases h;cases h;cases h
  case fn f a k=>
   split at h;rename_i x y u b;rw[d u,d b];exact h;cases h
  case iface t x=>
   split at h;rename_i y b;rw[s _ _ b];exact h;cases h
  case agg j=>
   split at h;rename_i y b;rw[d b];exact h;cases h
  case fm j=>
   split at h;rename_i y b;rw[d b];exact h;cases h
theorem Dd(c:rU R A B){k:Nat}{d:gI}{f:gX}{b:gC}{r:T}(h:sR k d A f b=some r):sR k d B f b=some r:=by
 unfold sR at h⊢;split at h;exact h;split at h;rename_i e a;rw[RB (Ng c k) a];exact h;cases h
theorem Ak(c:rU R A B){x:T}{a:gC}(h:rA A x=some a):rA B x=some a:=by
 cases x<;>simp only[rA]at h⊢<;>try(first|exact h|cases h)
 split at h;rename_i o b;rw[c.get b];exact h;cases h
theorem TD(c:rU R A B){t:gB}{p x:T}{b:Hp}(h:vZ P A t p x=some b):∃a,vZ P B t p x=some a/\rU R b a:=by
 unfold vZ at h⊢;split at h;rename_i l f;split at h;rename_i o n d e;split at h;rename_i g;cases h;refine⟨_,?_,c.put (pD d).1 _⟩;simp only[c.get d,e];rw[aJ g];cases h;cases h;cases h
theorem Ll(c:rU R A B){t j:gB}{s x r:T}{f:Hp}(h:rO P A t j s x=some (r,f)):∃q,rO P B t j s x=some (r,q)/\rU R f q:=by
 unfold rO at h⊢;split at h;rename_i e u;split at h;rename_i i new m z y v;have d:=Ak c y;simp only[u,z,d,v];split at h;cases h;rename_i w;rw[aH w];split at h;split at h;rename_i a;cases h;exact⟨B,by simp only[aJ a],c⟩;rename_i a;split at h;rename_i b;cases h;exact⟨_,by simp only[aH a,aJ b,c.nx],c.new _⟩;cases h;split at h;rename_i a;cases h;exact⟨B,by simp only[aJ a],c⟩;rename_i a;split at h;rename_i b;cases h;exact⟨_,by simp only[aH a,aJ b,c.nx],c.new _⟩;cases h;split at h;rename_i a;cases h;exact⟨B,by simp only[aJ a],c⟩;rename_i a;split at h;rename_i o g;split at h;rename_i b;cases h;exact⟨_,by simp only[aH a,c.get g];rw[aJ b,c.nx],(c.drop (pD g).1).new _⟩;cases h;cases h;cases h;cases h;cases h
theorem aAw(c:rU R A B){d:Bool}{t f:gB}{s x r:T}{e:Hp}(h:TG P d A t f s x=some (r,e)):∃b,TG P d B t f s x=some (r,b)/\rU R e b:=by
 unfold TG at h⊢;split at h;rename_i a;rw[aJ a];unfold CP at h⊢;split at h;split at h;split at h;cases h;rename_i g;cases h;simp only[*];exact⟨B,rfl,c⟩;cases h;cases h;rename_i a;rw[aH a];exact Ll c h
theorem aCd(c:rU R A B){t:gB}{l k r:T}{a:Hp}(h:sX P A t l k=some (r,a)):∃b,sX P B t l k=some (r,b)/\rU R a b:=by
 unfold sX at h⊢;split at h;rename_i e n m d;split at h;rename_i s bytes z i g f;split at h
 .rename_i j;cases h;refine⟨_,?_,c.new _⟩
  try simp only[d,i,g,f]
  rw[aJ j,c.nx]
 cases h;cases h;cases h
theorem zY(c:rU R A B){t:gB}{m k:T}{q:Nat×Ob×Nat×List (Nat×T×T)×TypeId×Option (Nat×Nat×T)}(h:GQ P A t m k=some q):GQ P B t m k=some q/\A.any q.1=some q.2.1:=by
 unfold GQ at h⊢;split at h;rename_i i g d;split at h;rename_i l;split at h;rename_i o b;split at h;rename_i cn j a;split at h;rename_i e;split at h;rename_i r f;cases h;refine⟨?_,b⟩;simp only[d,c.yes _ _ b,a];rw[aJ e];simp only[f];cases h;cases h;cases h;cases h;cases h;cases h
theorem Qy(c:rU R A B){t:gB}{m k x:T}{f:Hp}(h:Aq P A t m k x=some f):∃g,Aq P B t m k x=some g/\rU R f g:=by
 unfold Aq at h⊢;split at h;rename_i l o cn q j i b v e;obtain⟨d,a⟩:=zY c e;split at h;rename_i s;cases h;exact⟨_,by simp only[d];rw[aJ s],c.hD a _ _ _⟩;cases h;rename_i l o cn q j e;obtain⟨d,a⟩:=zY c e;cases h;exact⟨_,by simp only[d],c.hD a _ _ _⟩;cases h
theorem Th(c:rU R A B){t:gB}{m k r:T}{f:Hp}(h:HO P A t m k=some (r,f)):∃g,HO P B t m k=some (r,g)/\rU R f g:=by
 unfold HO at h⊢;split at h;rename_i l o cn q j i b v e;obtain⟨d,a⟩:=zY c e;split at h;rename_i u;cases h;exact⟨_,by simp only[d];rw[aJ u],c.hD a _ _ _⟩;cases h;rename_i l o cn q j e;obtain⟨d,a⟩:=zY c e;split at h;rename_i z s;cases h;exact⟨_,by simp only[d,s],c.hD a _ _ _⟩;cases h;cases h
theorem Ms(c:rU R A B){m s x:T}{d:Hp}(h:vH A m s x=some d):∃b,vH B m s x=some b/\rU R d b:=by
 unfold vH at h⊢;split at h;split at h;rename_i o e;split at h;rename_i cn g a;split at h;rename_i i k f;cases h;exact⟨_,by simp only[c.yes _ _ e,a,f],c.hD e _ _ _⟩;cases h;cases h;cases h;cases h
theorem aGt(c:rU R A B){t:gB}{m k:T}{g:Hp}(h:Mf P A t m k=some g):∃f,Mf P B t m k=some f/\rU R g f:=by
 unfold Mf at h⊢;split at h;rename_i l o cn q j i b v e;obtain⟨d,a⟩:=zY c e;cases h;exact⟨_,by simp only[d],c.hD a _ _ _⟩;rename_i l o cn q j e;obtain⟨d,a⟩:=zY c e;cases h;exact⟨_,by simp only[d],c.hD a _ _ _⟩;cases h
def yM(R:Ht)(e:gK):Prop:=∀f b A B r c,rU R A B->e f b A=some (r,c)->∃a,e f b B=some (r,a)/\rU R c a
def Bd(R:Ht)(y:gR):Prop:=∀l b A B r c,rU R A B->y l b A=some (r,c)->∃a,y l b B=some (r,a)/\rU R c a
theorem WC(hF:yM R F.ee)(c:rU R A B){j:gC}{o:Oper}{v:T}{q:Hp}(h:xW P E F A j o=some (v,q)):∃a,xW P E F B j o=some (v,a)/\rU R q a:=by
 obtain⟨w,u,z,y,i,guard⟩:=o;cases u<;>simp only[xW]at h⊢<;>try(cases h;done)
 case alloc t=>split at h<;>cases h;exact⟨_,by rw[c.nx],c.new _⟩
 case box t x=>split at h<;>cases h;exact⟨_,by rw[c.nx],c.new _⟩
 case buildSlice t len ps=>
  split at h;split at h;split at h;rename_i f;cases h;exact⟨_,by rw[aJ f],c⟩;rename_i f;rw[aH f];split at h;cases h;exact⟨_,by rw[c.nx],c.new _⟩;cases h;cases h;cases h
 case store t p x=>
  split at h;split at h;rename_i e;cases h;obtain⟨a,d,b⟩:=TD c e;exact⟨a,by simp only[d],b⟩;cases h;cases h
 case makeSlice t l k=>
  split at h;exact aCd c h;cases h
 case makeMap t r=>
  split at h;split at h;rename_i g;cases h;exact⟨_,by rw[aJ g,c.nx],c.new _⟩;cases h;cases h
 case mapUpdate t m k x=>
  split at h;split at h;rename_i e;cases h;obtain⟨a,d,b⟩:=Qy c e;exact⟨a,by simp only[d],b⟩;cases h;cases h
 case insert t m k x=>
  split at h;split at h;rename_i e;cases h;obtain⟨a,d,b⟩:=Qy c e;exact⟨a,by simp only[d],b⟩;cases h;cases h
 case mapEntry t m k=>
  split at h;exact Th c h;cases h
 case entryStore t m s x=>
  split at h;split at h;rename_i e;cases h;obtain⟨a,d,b⟩:=Ms c e;exact⟨a,by simp only[d],b⟩;cases h;cases h
 case call k=>
  split at h;rename_i g;split at h
  .split at h
   .simp only[g]at*;try simp only[*]
    exact hF _ _ _ _ _ _ c h
   cases h
  cases h;rename_i g;split at h;split at h;split at h;rename_i e;cases h;obtain⟨a,d,b⟩:=aGt c e;exact⟨a,by simp only[g, *],b⟩;cases h;cases h;cases h;rename_i g;split at h;split at h;obtain⟨a,d,b⟩:=aAw c h;exact⟨a,by simp only[g, *],b⟩;cases h;cases h;cases h
theorem VI{o:Oper}{q:Tmp×TypeId}(h:wA F o=some q){own:Bool}{fr:gC}:pS P E own B fr o=none:=by
 obtain⟨d,b,e,c,a,guard⟩:=o;cases b<;>simp only[wA]at h<;>try(cases h;done)
 rfl
theorem MI(a:Bf R E F.ee)(hF:yM R F.ee){b:gF}{s i:Fx}{o:Oper}(h:vP P E F b s o=some i)(c:rU R s.H B):
  ∃x,vP P E F b {s with H:=B} o=some {i with H:=x}/\rU R i.H x:=by
 unfold vP at h⊢;split at h;rename_i g;rw[aJ g];split at h;rename_i v f;cases h;exact⟨B,by simp only[FG a c f],c⟩;rename_i f;split at h;rename_i d t e;have u:=VI (P:=P) (E:=E) (B:=B) e (own:=CH F o) (fr:=s.fr);split at h;cases h;rename_i D;split at h;rename_i n z q j;split at h;rename_i I;cases h;exact⟨B,by simp only[u,e,q,j];rw[aH D,aJ I],c⟩;cases h;cases h;rename_i e;split at h;rename_i v H' w;have u:=LL (B:=B) a w f;obtain⟨y,q,j⟩:=WC hF c w;cases h;exact⟨y,by simp only[u,e,q],j⟩;cases h;rename_i g;rw[aH g];cases h;exact⟨B,rfl,c⟩
theorem Er(a:Bf R E F.ee)(hF:yM R F.ee){b:gF}{s e:Fx}{o:Oper}(h:wL P E F b s o=some e)(c:rU R s.H B):
  ∃i,wL P E F b {s with H:=B} o=some {e with H:=i}/\rU R e.H i:=by
 obtain⟨x,A,fq⟩:=s;unfold wL at h⊢;cases fq with
 |none=>exact MI a hF h c
 |some q=>
  obtain⟨d,t⟩:=q;simp only at h⊢;split at h;split at h;rename_i g;rw[aJ g];split at h;rename_i w;rw[aJ w];split at h
  .rename_i y n v u
   try simp only[v,u]
   split at h;rename_i j;cases h;rw[aJ j];unfold YJ;split;exact⟨_,by simp only[c.nx],c.new _⟩;exact⟨B,rfl,c⟩;cases h
  cases h;cases h;split at h;cases h;rename_i g f;rw[aH g,aH f];exact MI a hF h c;split at h;cases h;rename_i f;rw[aH f];exact MI a hF h c
theorem BH(a:Bf R E F.ee)(hF:yM R F.ee){d:gF}:∀{l:hU} {s b:Fx} {B:Hp},pU P E F d l s=some b->rU R s.H B->
  ∃e,pU P E F d l {s with H:=B}=some {b with H:=e}/\rU R b.H e
 |[],s,b,B,h,c=>by cases h;exact⟨B,rfl,c⟩
 |o::l,s,b,B,h,c=>by
  simp only[pU]at h⊢;split at h;rename_i u g;obtain⟨v,q,j⟩:=Er a hF g c;obtain⟨e,i,f⟩:=BH a hF h j;exact⟨e,by rw[q];exact i,f⟩;cases h
theorem aDs(c:Bf R E F.ee){a:gF}{s f:Fx}{o:Oper}(h:wL P E F a s o=some f)(q:pX a s.fr o=true)(e:pS P E (CH F o) s.H s.fr o=none)(j:wA F o=none):
  pS P E (CH F o) B s.fr o=none:=by
 have b:vP P E F a s o=some f->pS P E (CH F o) B s.fr o=none:=λh=>by
  unfold vP at h;rw[aJ q]at h;simp only[e,j]at h;split at h;rename_i i;exact LL c i e;cases h
 unfold wL at h;split at h;exact b h;split at h;rename_i g _ _;obtain⟨u,x,w,v,d,guard⟩:=o;simp only at g;subst g;rfl;split at h;cases h;exact b h
theorem JJ(a:Bf R E F.ee)(hF:yM R F.ee){b:gF}:∀{l:hU} {m:Nat} {s f:Fx} {B:Hp},qI P E F b l m s=some f->rU R s.H B->
  ∃y,qI P E F b l m {s with H:=B}=some {f with H:=y}/\rU R f.H y
 |[],m,s,f,B,h,c=>by
  simp only[qI]at h⊢;split at h;rename_i u;cases h;exact⟨B,by rw[u],c⟩;cases h
 |o::l,m,s,f,B,h,c=>by
  simp only[qI]at h⊢;have I:KA b {s with H:=B} o=KA b s o:=rfl;have L:yR {s with H:=B} o=yR s o:=rfl;rw[I,L];split at h;rename_i w;rw[aJ w];split at h;rename_i g;rw[aJ g];exact BH a hF h c;cases h;rename_i w;rw[aH w];split at h;cases h;rename_i M;rw[aH M];split at h;rename_i i;rw[aJ i];split at h;rename_i v q;simp only[FG a c q];exact JJ a hF h c;rename_i q;split at h
  .rename_i d t e;have j:=VI (P:=P) (E:=E) (B:=B) e (own:=CH F o) (fr:=s.fr)
   try simp only[j,e]
   split at h;cases h;rename_i u;rw[aH u];split at h
   .rename_i n z K J;split at h
    .rename_i g;(try simp only[K,J]);rw[aJ g];exact JJ a hF h c
    cases h
   cases h
  rename_i e;split at h
  .rename_i g;have j:pS P E (CH F o) B s.fr o=none:=by
    have x:=h;simp only[pU]at x;split at x;rename_i N D;exact aDs a D i q e;cases x
   try simp only[j,e]
   rw[aJ g];exact BH a hF h c
  cases h;rename_i i;rw[aH i];exact JJ a hF h c
theorem CR(a:Bf R E F.ee)(hF:yM R F.ee){e:gF}{G:gU}{p l:Nat}:∀{j:hU} {m:Nat} {f:Bool} {s d:Fx} {B:Hp},sW P E F e G p l j m f s=some d->rU R s.H B->
  ∃w,sW P E F e G p l j m f {s with H:=B}=some {d with H:=w}/\rU R d.H w
 |[],m,f,s,d,B,h,c=>by
  simp only[sW]at h⊢;split at h;rename_i L;cases h;exact⟨B,by rw[aJ L],c⟩;cases h
 |o::j,m,f,s,d,B,h,c=>by
  simp only[sW]at h⊢;have Y:yR {s with H:=B} o=yR s o:=rfl;rw[Y];split at h;rename_i i;rw[aJ i];exact BH a hF h c;rename_i i;rw[aH i];split at h;cases h;rename_i hd;rw[aH hd];split at h;rename_i b;rw[aJ b];split at h;cases h;rename_i u;rw[aH u];split at h;rename_i t x y q;split at h;rename_i l' K v M N;split at h;rename_i Z;split at h
  .rename_i H' I;obtain⟨B',Q,W⟩:=TD c I
   try simp only[q,M,N]
   rw[aJ Z]
   try simp only[Q]
   exact CR a hF (s:={s with H:=H'}) h W
  cases h;cases h;cases h;cases h;rename_i b;rw[aH b];split at h;rename_i g;rw[aJ g];by_cases z:((if f then uU G m p else uU G p m)||lS E.gl l s.fr o)=true;rw[aJ z]at h⊢;split at h;rename_i v D;simp only[FG a c D];exact CR a hF h c;cases h;rw[aH z]at h;cases h;rename_i g;rw[aH g];exact CR a hF h c
theorem Sv(a:Bf R E F.ee)(hF:yM R F.ee){o:gF}{f:gC}{d:Fx}(h:rR P E F o f A=some d)(c:rU R A B):∃g,rR P E F o f B=some {d with H:=g}/\rU R d.H g:=by
 unfold rR at h⊢;split at h;rename_i e;rw[aJ e];split at h;rename_i b p q j;split at h
 .rename_i l i
  try simp only[q,j,i]
  exact CR a hF (s:=⟨f,A,none⟩) h c
 cases h;cases h;rename_i e;rw[aH e];exact JJ a hF (s:=⟨f,A,none⟩) h c
theorem aBl(hF:yM R F.ee)(c:rU R A B){b:gW}{f:gC}{o:Oper}{v:T}{d:Hp}(h:GW P E F b A f o=some (v,d)):∃e,GW P E F b B f o=some (v,e)/\rU R d e:=by
 unfold GW at h⊢;generalize (if BJ o=true then b else none)=q at h⊢;cases q with
 |none=>exact WC hF c h
 |some l=>
  simp only at h⊢;split at h;rename_i s a;simp only[c.get a];split at h;rename_i x u g;cases h;obtain⟨w,j,i⟩:=WC hF (c.drop (pD a).1) g;simp only[j];exact⟨_,rfl,i.fc (c.ew (pD a).1) _⟩;cases h;cases h
theorem aBm{a:gW}{f:gC}{o:Oper}{v:T}{A d:Hp}(h:GW P E F a A f o=some (v,d)):∃c e,xW P E F c f o=some (v,e):=by
 unfold GW at h;split at h;exact⟨_,_,h⟩;split at h;split at h;rename_i b;cases h;exact⟨_,_,b⟩;cases h;cases h
theorem EA(a:Bf R E F.ee)(hF:yM R F.ee){d:gF}{K:gW}{J:Pd}:∀(e:hU) (m:Nat) (b:gC) (A B:Hp) (f:gC) (s:Hp) (u ds:iV),GX P E F d K J e m b A=some (f,s,u,ds)->rU R A B->
  ∃g,GX P E F d K J e m b B=some (f,g,u,ds)/\rU R s g
 |[],m,b,A,B,f,s,u,ds,h,c=>by cases h;exact⟨B,rfl,c⟩
 |o::e,m,b,A,B,f,s,u,ds,h,c=>by
  simp only[GX]at h⊢;have x:yR ⟨b,B,none⟩ o=yR ⟨b,A,none⟩ o:=rfl;rw[x];split at h;cases h;rename_i x;rw[aH x];generalize mg P E d J m b o=q at h⊢
  match q with
  |none=>cases h|some (some M)=>exact EA a hF e _ _ _ _ _ _ _ _ h c
  |some none=>
   simp only at h⊢;split at h;rename_i z;rw[aJ z];split at h;rename_i v y;simp only[FG a c y];split at h;rename_i w;cases h;obtain⟨g,D,I⟩:=EA a hF e _ _ _ _ _ _ _ _ w c;exact⟨g,by simp only[D],I⟩;cases h;rename_i y;split at h;rename_i v Y j;split at h;rename_i w;cases h;obtain⟨W,D,I⟩:=aBl hF c j;obtain⟨g,N,L⟩:=EA a hF e _ _ _ _ _ _ _ _ w I;refine⟨g,?_,L⟩;obtain⟨Q,Z,i⟩:=aBm j;simp only[LL (B:=B) a i y,D,N];cases h;cases h;rename_i z;rw[aH z];exact EA a hF e _ _ _ _ _ _ _ _ h c
theorem Xj(a:Bf R E F.ee)(hF:yM R F.ee){o:gF}{b:gW}{f:gC}{s:Fx}(h:AW P E F o b f A=some s)(c:rU R A B):∃d,AW P E F o b f B=some {s with H:=d}/\rU R s.H d:=by
 unfold AW at h⊢;split at h;rename_i g;split at h;rename_i q;cases h;obtain⟨e,j,i⟩:=EA a hF _ _ _ _ _ _ _ _ _ g c;exact⟨e,by simp only[j];rw[aJ q],i⟩;cases h;cases h
theorem Mj(a:Bf R E F.ee)(hF:yM R F.ee){o:gF}{g f:Bool}{d:gC}{s:Fx}(h:AU P E F o g f d A=some s)(c:rU R A B):∃e,AU P E F o g f d B=some {s with H:=e}/\rU R s.H e:=by
 unfold AU at h⊢;split at h;rename_i b;rw[aJ b];exact Xj a hF h c;rename_i b;rw[aH b];split at h;rename_i b;rw[aJ b];exact Xj a hF h c;rename_i b;rw[aH b];exact Sv a hF h c
end
section
variable{R:Ht}{P:gD}{E:uW}{ee:gK}{yd:gR}{ow:hJ}{n:Nat}
theorem aVa(h:Bf R E ee)(o:hJ):Bf R E (LO o ee).ee:=by rw[FH];exact h
theorem Xv(hF:yM R ee)(o:hJ):yM R (LO o ee).ee:=by rw[FH];exact hF
theorem JS{J:Type}{A B:Hp}(c:rU R A B){l:Nat}{k:Lr->Option J}{r:J}(h:RA A l k=some r):∃o a,A.any l=some o/\o.me=some (.loop a)/\k a=some r/\∀b:Lr->Option J,RA B l b=b a:=by
 obtain⟨o,a,e,d,f⟩:=xX h;exact⟨o,a,e,d,f,λb=>by unfold RA;simp only[c.yes _ _ e,d,mf]⟩
theorem RO(a:Bf R E ee)(hF:yM R ee)(g:Bd R yd){f:gF}:∀{l:hU} {s e:Fx} {B:Hp},KQ P E ee yd ow f l s=some e->rU R s.H B->
  ∃d,KQ P E ee yd ow f l {s with H:=B}=some {e with H:=d}/\rU R e.H d
 |[],s,e,B,h,c=>by cases h;exact⟨B,rfl,c⟩
 |o::l,s,e,B,h,c=>by
  simp only[KQ]at h⊢;split at h;rename_i J D z;split at h;rename_i b H' w;obtain⟨y,u,q⟩:=g _ _ _ _ _ _ c w;obtain⟨d,j,i⟩:=RO a hF g (s:=⟨pW s.fr o.dst (.bool b),H',none⟩) h q;exact⟨d,by simp only[u];exact j,i⟩;cases h;rename_i z;split at h;rename_i I v;obtain⟨y,u,q⟩:=Er (aVa a ow) (Xv hF ow) v c;obtain⟨d,j,i⟩:=RO a hF g h q;exact⟨d,by simp only[u];exact j,i⟩;cases h
theorem Td{A B e:Hp}(c:rU R A B){l:Nat}{b f:gC}{x:X}(h:WF l b A=some (x,f,e)):∃d,WF l b B=some (x,f,d)/\rU R e d:=by
 unfold WF at h⊢;obtain⟨o,q,g,s,a,i⟩:=JS c h;have j:=c.drop g;rw[i];split at a;cases a
 .split at a<;>first|(cases a;done)|(cases a;exact⟨_,by simp only[*],j⟩)
theorem LG(L:Bf R E ee)(hF:yM R ee)(hY:Bd R yd){W:gW}:∀(k:Code) (d:gC) (A B:Hp) (x:X) (f:gC) (u:Hp),rU R A B->qA P E ee yd ow n W k d A=some (x,f,u)->
  ∃N,qA P E ee yd ow n W k d B=some (x,f,N)/\rU R u N:=by
 intro k
 induction k with
 |skip=>intro d A B x f u c h;cases h;exact⟨B,rfl,c⟩|label l=>intro d A B x f u c h;cases h;exact⟨B,rfl,c⟩|exit id=>intro d A B x f u c h;cases h;exact⟨B,rfl,c⟩|ret=>intro d A B x f u c h;cases h;exact⟨B,rfl,c⟩
 |region id ops M=>
  intro d A B x f u c h;simp only[qA]at h⊢;split at h;rename_i z;cases h;by_cases hd:M=true;rw[aJ hd]at z⊢;obtain⟨w,j,i⟩:=Mj (aVa L ow) (Xv hF ow) z c;exact⟨w,by simp only[j],i⟩;rw[aH hd]at z⊢;obtain⟨w,j,i⟩:=RO L hF hY (s:=⟨d,A,none⟩) z c;exact⟨w,by simp only[j],i⟩;cases h
 |seq a b D I=>
  intro d A B x f u c h;simp only[qA]at h⊢;split at h;rename_i z;obtain⟨w,j,i⟩:=D _ _ _ _ _ _ c z;obtain⟨B2,Y,J⟩:=I _ _ _ _ _ _ i h;exact⟨B2,by simp only[j];exact Y,J⟩;rename_i Z;obtain⟨w,j,i⟩:=D _ _ _ _ _ _ c h;refine⟨w,?_,i⟩;rw[j];cases x with
  |normal=>exact absurd h (Z _ _)|exit id=>rfl|ret=>rfl
 |cond q a b D I=>
  intro d A B x f u c h;simp only[qA]at h⊢;split at h;split at h;rename_i ht;rw[aJ ht];exact D _ _ _ _ _ _ c h;rename_i ht;rw[aH ht];exact I _ _ _ _ _ _ c h;cases h
 |block id q Q=>
  intro d A B x f u c h;simp only[qA]at h⊢;split at h;rename_i z;obtain⟨w,j,i⟩:=Q _ _ _ _ _ _ c z;rw[j];split at h;rename_i e;cases h;exact⟨w,by simp only[aJ e],i⟩;rename_i e;cases h;exact⟨w,by simp only[aH e],i⟩;rename_i Z;obtain⟨w,j,i⟩:=Q _ _ _ _ _ _ c h;refine⟨w,?_,i⟩;rw[j];cases x with
  |normal=>rfl|exit id=>exact absurd h (Z _ _ _)|ret=>rfl
 |loop q Q=>
  intro d A B x f u c h;simp only[qA]at h⊢;have key:∀(k:Nat) (d:gC) (A B:Hp),rU R A B->oW.gx (λd H=>qA P E ee yd ow n W q d H) k d A=some (x,f,u)->
    ∃N,oW.gx (λd H=>qA P E ee yd ow n W q d H) k d B=some (x,f,N)/\rU R u N:=by
   intro k
   induction k with
   |zero=>intro d A B c h;cases h
   |succ k ihk=>
    intro d A B c h;simp only[oW.gx]at h⊢;split at h;rename_i z;obtain⟨w,j,i⟩:=Q _ _ _ _ _ _ c z;obtain⟨B2,Y,J⟩:=ihk _ _ _ i h;exact⟨B2,by simp only[j];exact Y,J⟩;rename_i Z;obtain⟨w,j,i⟩:=Q _ _ _ _ _ _ c h;refine⟨w,?_,i⟩;rw[j];cases x with
    |normal=>exact absurd h (Z _ _)|exit id=>rfl|ret=>rfl
  exact key n d A B c h
 |rangeFunc g ps iF bd _ _ =>
  intro d A B x f u c h;simp only[qA]at h⊢;split at h;split at h;rename_i y;have K:Pp B W=true:=by
   unfold Pp at y⊢;split at y;rfl;rename_i l;unfold aQr at y⊢;split at y;rename_i o ho;rw[c.yes _ _ ho];exact y;cases y
  rw[aJ K];split at h;rename_i v A2 hc;rw[c.nx];obtain⟨B2,j,i⟩:=hF _ _ _ _ _ _ (c.new _) hc;obtain⟨B3,Y,J⟩:=Td i h;exact⟨B3,by simp only[j];exact Y,J⟩;cases h;cases h;cases h
 |_ =>intro d A B x f u c h;simp only[qA]at h;cases h
theorem Pv{A B d:Hp}(c:rU R A B){l:Nat}{x:X}{b:Bool}(h:ML l A x=some (b,d)):∃a,ML l B x=some (b,a)/\rU R d a:=by
 unfold ML at h⊢;obtain⟨o,i,f,j,e,g⟩:=JS c h;rw[g];cases x<;>(cases e;exact⟨_,rfl,c.put f _⟩)
theorem Pt(d:Bf R E ee)(hF:yM R ee)(f:Bd R yd):Bd R (λl g H=>JA P E ee yd n l g H):=by
 intro l g A B b L c h;simp only[JA]at h⊢;obtain⟨o,J,Y,W,a,i⟩:=JS c h;rw[i];split at a;rename_i D;rw[aJ D];split at a;rename_i z A1 s;obtain⟨N,v,e⟩:=LG d hF f _ _ _ _ _ _ _ c s;simp only[v];unfold Jf at a⊢;obtain⟨Q,M,k1,k2,k3,j⟩:=JS e a;rw[j];split at k3;split at k3;rename_i x y A2 w;obtain⟨Z,g2,u⟩:=LG d hF f _ _ _ _ _ _ _ (e.put k1 _) w;obtain⟨q,K,I⟩:=Pv u k3;exact⟨q,by simp only[*],I⟩;cases k3;cases k3;cases a;cases a
theorem AH{A B:Hp}(c:rU R A B){f:gC}:∀{g:jP} {b:gC},rJ P f A g=some b->rJ P f B g=some b
 |[],b,h=>h
 |r::g,b,h=>by
  simp only[rJ]at h⊢;split at h;rename_i t i;have e:Pn P f B r=some t:=by
   cases r with
   |tmp d=>exact i|cell a t=>exact XQ c i
  simp only[e];split at h;rename_i u j;rw[AH c j];exact h;cases h;cases h
theorem Pb{R:Ht}{A B:Hp}(c:rU R A B):∀(a:gU),(∀l∈a,(A.get l).isSome=true)->B.only a=A.only a
 |[],_ =>by show(⟨B.next,.nl⟩:Hp)=⟨A.next,.nl⟩;rw[c.nx]
 |l::a,h=>by
  have i:=Pb c a λm b=>h m (aC _ b);cases ha:A.get l with
  |none=>have:=h l (by simp);rw[ha]at this;cases this|some o=>simp only[Hp.only,ha,c.get ha,i]
theorem Ck{R:Ht}{A B:Hp}(c:rU R A B):∀(a:gU),(∀l∈a,(A.get l).isSome=true)->rU R (A.aw a) (B.aw a)
 |[],_ =>c
 |l::a,h=>by
  have i:=Ck c a λm b=>h m (aC _ b);refine i.e7 ?_;cases hg:A.get l with
  |none=>have:=h l (by simp);rw[hg]at this;cases this|some q=>exact c.ew (pD hg).1
theorem Mw{R:Ht}{A B e:Hp}(c:rU R A B){g:hJ}{t r:T}(h:PU g t A=some (r,e)):∃f,PU g t B=some (r,f)/\rU R e f:=by
 unfold PU at h⊢;split at h;rename_i d;cases h;exact⟨B,by rw[aJ d],c⟩;rename_i d;rw[aH d];split at h;rename_i b;have a:=aP.1 b;split at h;rename_i q j;cases h;refine⟨_,?_,Ck c _ a⟩
 rw[aJ (aP.2 λl i=>by
  have:=a l i;cases ha:A.get l with
  |none=>rw[ha]at this;cases this|some o=>rw[c.get ha];rfl),Pb c _ a,j]
 cases h;cases h
theorem aHx(q:Bf R E ee)(hF:yM R ee)(z:Bd R yd){f:gX}{d:gC}{A B v:Hp}{r:T}(c:rU R A B)(h:kg P E ee yd ow n f d A=some (r,v)):∃y,kg P E ee yd ow n f d B=some (r,y)/\rU R v y:=by
 unfold kg at h⊢;split at h;rename_i u I;split at h;rename_i k K;have w:∀(x:X) (g:gC) (i:Hp),qA P E ee yd ow n none k (d++List.replicate (u.ntmps-d.length) oS) A=some (x,g,i)->∃b,qA P E ee yd ow n none k (d++List.replicate (u.ntmps-d.length) oS) B=some (x,g,b)/\rU R i b:=
  λx g i e=>LG q hF z _ _ _ _ _ _ _ c e
 split at h;rename_i g i e;obtain⟨b,o,a⟩:=w _ _ _ e;simp only[o];split at h;rename_i t j;simp only[AH a j];exact Mw a h;rename_i D J s;cases h;refine⟨b,?_,a⟩;simp only[AH a s];cases h;rename_i g i e;obtain⟨b,o,a⟩:=w _ _ _ e;simp only[o];split at h;rename_i t j;simp only[AH a j];exact Mw a h;rename_i D J s;cases h;refine⟨b,?_,a⟩;simp only[AH a s];cases h;cases h;cases h;cases h
theorem aNa{R:Ht}:yM R MR:=λf v A B r u c h=>by
 unfold MR at h⊢;by_cases s:f=123;rw[aJ s]at h⊢;unfold NM at h⊢;split at h;split at h;rename_i o b;simp only[c.get b];split at h;rename_i a;split at h
 .rename_i d;cases h
  try simp only[a]
  exact⟨_,aJ d,c.put (pD b).1 _⟩
 cases h;rename_i a;split at h
 .rename_i d;cases h
  try simp only[a]
  exact⟨B,aJ d,c⟩
 cases h;cases h;cases h;cases h;rw[aH s]at h⊢;by_cases e:f=79;rw[aJ e]at h⊢;unfold Ao at h⊢;split at h;split at h;rename_i o b;simp only[c.get b];split at h;rename_i d;rw[aJ d];split at h
 .rename_i a;cases h
  try simp only[a]
  exact⟨B,rfl,c⟩
 .rename_i a
  try simp only[a]
  split at h;rename_i w g;simp only[c.get g];split at h;rename_i j;rw[aJ j];split at h
  .rename_i x q;cases h
   try simp only[q]
   exact⟨_,rfl,c.drop (pD g).1⟩
  cases h;cases h;cases h
 cases h;cases h;cases h;cases h;rw[aH e]at h⊢;by_cases i:f=130;rw[aJ i]at h⊢;unfold Se at h⊢;split at h;split at h;rename_i o b;simp only[c.get b];split at h;rename_i a;split at h
 .rename_i d;cases h
  try simp only[a]
  exact⟨_,aJ d,c.put (pD b).1 _⟩
 cases h;cases h;cases h;cases h;rw[aH i]at h;cases h
theorem RM{own:iA}{ok:hC}(i:∀A B f a r,rU R A B->E.pe A f a=some r->E.pe B f a=some r)(e:∀f,ok f=true->∀B a,E.pe B f a=none)(b:∀f a A v,MR f a A=some v->∀B a,E.pe B f a=none):∀d,yM R (qW P E own ok n d).ee/\Bd R (qW P E own ok n d).yd
 |0=>⟨λ_ _ _ _ _ _ _ h=>(by cases h),λ_ _ _ _ _ _ _ h=>(by cases h)⟩
 |d+1=>by
  obtain⟨q,o⟩:=RM (own:=own) (ok:=ok) i e b d
  have g:Bf R E (qW P E own ok n d).ee:=⟨i,λf a A v h B=>by
   cases d with
   |zero=>cases h
   |succ d=>
    simp only[qW]at h;split at h;rename_i j;exact e f j B a
    exact b f a A v h B a⟩
  refine⟨λf a A B r s c h=> ?_,Pt g q o⟩;simp only[qW]at h⊢;split at h;rename_i j;rw[aJ j];exact aHx g q o c h;rename_i j;rw[aH j];exact aNa _ _ _ _ _ _ c h
end
end
variable[Inhabited gy]
section
variable[jm]
structure MS where
 f:FuncId
 pre:List A
 J:List (TypeId×List A×List A)
 res:A
def Fin(H:Hp):Prop:=∀(m:Nat) (o:Ob),H.any m=some o->m<H.next
def aFn(H:Hp)(b:gU)(a:List (TypeId×List A×List A))(w:TypeId×List A×List A->List A):Prop:=
 ∀(j:Nat) (q:TypeId×List A×List A),a[j]? =some q->∃x o,b[j]? =some x/\H.get x=some o/\(o.elem=q.1/\o.sz=0)/\pT [0] (b.map some) (w q) o.cells
def HG(ee:gQ)(s:MS):Prop:=
 ∀(H:Hp) (b:gC) (x:gU),Fin H->x.length=s.J.length->x.Nodup->pT [0] (x.map some) s.pre b->aFn H x s.J (·.2.1)->
  ∃r H',Ev (λn d=>ee n d s.f b H=some (r,H'))/\Gm [0] (x.map some) s.res r/\Fin H'/\H.next<=H'.next/\aFn H' x s.J (·.2.2)/\∀y,y∉x->y<H.next->H'.any y=H.any y
abbrev iI:=List (Nat×Int)
def uH(O:iI)(s:Nat):Nat×Int:=O.getD s (0,0)
def uV(Z:gU)(O:iI):Nat->A->A
 |0,a=>a
 |k+1,a=>match a with
  | .int q s c=> .int q (uH O s).1 ((uH O s).2+c)| .str s c=> .str (uH O s).1 ((uH O s).2+c)| .sl e s c=> .sl (uV Z O k e) (uH O s).1 ((uH O s).2+c)| .g7 q e s c=> .g7 q (uV Z O k e) (uH O s).1 ((uH O s).2+c)
  | .ptr j o=>match Z[j]? with
   |some l=> .ptr l o|none=> .top
  | .gp e d h=> .gp (uV Z O k e) d h| .gr q e d h=> .gr q (uV Z O k e) d h| .ie g=> .ie (g.map (uV Z O k))| .fn f b i=> .fn f (b.map (uV Z O k)) (i.map (uV Z O k))| .or b=> .or (b.map (uV Z O k))| .agg b=> .agg (b.map (uV Z O k))| .ia q b=> .ia q (b.map (uV Z O k))| .fm b=> .fm (b.map (uV Z O k))|a=>a
def zJ(m p:Nat):Nat->A->Bool
 |0,_ =>false
 |k+1,a=>match a with
  | .int _ s _ | .str s _ =>Nat.blt s p| .sl e s _ | .g7 _ e s _ =>zJ m p k e&&Nat.blt s p| .ptr j _ =>Nat.blt j m| .gp e _ _ | .gr _ e _ _ =>zJ m p k e| .ie b| .or b| .agg b| .ia _ b| .fm b=>HD (zJ m p k) b| .fn _ b c=>HD (zJ m p k) b&&HD (zJ m p k) c| .top| .any| .ft .. | .gh _ | .fy .. | .ig .. | .fS| .fp| .gg| .gb| .fw| .i7| .bool (.imp [] [])| .bool (.lit _)=>true|_ =>false
section
variable{V V':gN}{U μ':gE}{S:AS}{H H':Hp}{P:gD}
theorem Ie{f:A->A}{i V2:gN}{μ1 μ2:gE}{c:List A}(h:∀a∈c,∀t,Gm i μ1 a t->Gm V2 μ2 (f a) t){o:gC}(g:pT i μ1 c o):pT V2 μ2 (c.map f) o:=by
 refine⟨by simpa using g.1,λj a t e q=> ?_⟩;rw[bA]at e;obtain⟨b,d,rfl⟩:=aG.1 e;exact h b (bK d) t (g.2 j b t d q)
theorem KJ{f:A->A}{g c:gN}{μ1 μ2:gE}{b:List A}(h:∀a∈b,∀t,Gm g μ1 (f a) t->Gm c μ2 a t){i:gC}(e:pT g μ1 (b.map f) i):pT c μ2 b i:=by
 refine⟨by simpa using e.1,λj a t d o=>h a (bK d) t (e.2 j (f a) t (by rw[bA,d];rfl) o)⟩
def GJ(O:iI)(p:Nat)(a V:gN):Prop:=∀s,s<p->∃v w,a[s]? =some v/\V[(uH O s).1]? =some w/\v=w+(uH O s).2
theorem aAl{O:iI}{a V:gN}:GJ O 0 a V:=λs h=>absurd h (Nat.not_lt_zero s)
def Bg(Z:gU)(m:Nat)(μs U:gE):Prop:=∀j,j<m->∃l x,Z[j]? =some l/\μs[j]? =some (some x)/\U[l]? =some (some x)
theorem Ux{Z:gU}{m p:Nat}{μs:gE}{Vs:gN}{O:iI}(hr:Bg Z m μs U)(Y:GJ O p Vs V):∀(k:Nat) (a:A),zJ m p k a=true->∀(t:T),Gm Vs μs a t->Gm V U (uV Z O k a) t
 |0,_,h,_,_ =>by simp[zJ]at h
 |k+1,a,h,t,hg=>by
  have W:=Ux (Vs:=Vs) hr Y k;have D:∀{i:List A},HD (zJ m p k) i=true->∀{Q:gC},pT Vs μs i Q->pT V U (i.map (uV Z O k)) Q:=λh _ hg=>Ie (λa ha t hg=>W a (qM h a ha) t hg) hg;cases hg with
  |top t=>exact .top t|any t h=>exact .any t h|ft k K J n d g z=>exact .ft k K J n d g z
  |bool B b hb=>
   rcases B with x|⟨_ |⟨p,ps⟩,_ |⟨q,qs⟩⟩;exact .bool _ _ hb;exact .bool _ _ (sL b);simp[zJ]at h;simp[zJ]at h;simp[zJ]at h
  |gh s=>exact .gh s|fy K J l d g=>exact .fy K J l d g|fS=>exact .fS|fp=>exact .fp|gg=>exact .gg|gb=>exact .gb|fw=>exact .fw|ig K J full n f d g=>exact .ig K J full n f d g|i7 t x=>exact .i7 t x
  |ptr j o x M=>
   obtain⟨l,y,d,g,z⟩:=hr j (pC (by simpa [zJ]using h));rw[M]at g;cases g;simp only[uV,d];exact .ptr l o x z
  |int q s c v d g=>
   obtain⟨v',w,u,I,e3⟩:=Y s (pC (by simpa [zJ]using h));rw[d]at u;cases u;have:=Gm.int (V:=V) (U:=U) q _ ((uH O s).2+c) w I (by rw[show w+((uH O s).2+c)=v+c by omega];exact g)
   rwa [show w+((uH O s).2+c)=v+c by omega]at this
  |str s c v l d g=>
   obtain⟨v',w,u,I,e3⟩:=Y s (pC (by simpa [zJ]using h));rw[d]at u;cases u;exact .str _ _ w l I (by omega)
  |sl e s c t N v d g z L=>
   simp only[zJ,aA]at h;obtain⟨v',w,u,I,e3⟩:=Y s (pC h.2);rw[g]at u;cases u;exact .sl _ _ _ t N w d I (by omega) λx M=>W e h.1 x (L x M)
  |g7 q e s c t N v h0 d g z L=>
   simp only[zJ,aA]at h;obtain⟨v',w,u,I,e3⟩:=Y s (pC h.2);rw[g]at u;cases u;exact .g7 q _ _ _ t N w h0 d I (by omega) λx M=>W e h.1 x (L x M)
  |gp e K J t N d g z L=>exact .gp _ K J t N d g z (λx M=>W e (by simpa [zJ]using h) x (L x M))|gr q e K J t N h0 d g z L=>exact .gr q _ K J t N h0 d g z (λx M=>W e (by simpa [zJ]using h) x (L x M))
  |ie es t N d g z=>
   have:=D (by simpa [zJ]using h) ⟨g,z⟩;exact .ie _ t N d this.1 this.2
  |fn f i bs as' bs' d g z L=>
   simp only[zJ,aA]at h;have u:=D h.1 ⟨d,g⟩;have I:=D h.2 ⟨z,L⟩;exact .fn f _ _ as' bs' u.1 u.2 I.1 I.2
  |or i a t hm d=>exact .or _ (uV Z O k a) t (eM hm) (W a (qM (by simpa [zJ]using h) a hm) t d)
  |agg i Q d g=>
   have:=D (by simpa [zJ]using h) ⟨d,g⟩;exact .agg _ Q this.1 this.2
  |ia q i Q h0 d g=>
   have:=D (by simpa [zJ]using h) ⟨d,g⟩;exact .ia q _ Q h0 this.1 this.2
  |fm i Q d g=>
   have:=D (by simpa [zJ]using h) ⟨d,g⟩;exact .fm _ Q this.1 this.2
  |_ =>simp[zJ]at h
theorem YT{Z:gU}{m p:Nat}{μs:gE}{Vs:gN}{O:iI}(hr:Bg Z m μs U)(hθ:GJ O p Vs V):∀(k:Nat) (a:A),zJ m p k a=true->∀(t:T),Gm V U (uV Z O k a) t->Gm Vs μs a t
 |0,_,h,_,_ =>by simp[zJ]at h
 |k+1,a,h,t,g=>by
  have W:=YT (Vs:=Vs) hr hθ k;have I:∀{u:List A},HD (zJ m p k) u=true->∀{Q:gC},pT V U (u.map (uV Z O k)) Q->pT Vs μs u Q:=λh _ g=>KJ (λa ha t g=>W a (qM h a ha) t g) g;cases a<;>simp only[uV]at g<;>try(simp[zJ]at h;done)
  case top=>exact .top t
  case any=>cases g with|any _ h=>exact .any t h
  case ft=>cases g with|ft _ _ _ n d i D=>exact .ft _ _ _ n d i D
  case bool B=>
   cases g with
   |bool _ b hb=>
   rcases B with x|⟨_ |⟨p,ps⟩,_ |⟨q,qs⟩⟩;exact .bool _ _ hb;exact .bool _ _ (sL b);simp[zJ]at h;simp[zJ]at h;simp[zJ]at h
  case gh=>cases g;exact .gh _
  case fy=>cases g with|fy _ _ l d i=>exact .fy _ _ l d i
  case fS=>cases g;exact .fS
  case fp=>cases g;exact .fp
  case gg=>cases g;exact .gg
  case gb=>cases g;exact .gb
  case fw=>cases g;exact .fw
  case ig=>cases g with|ig _ _ full n f d i=>exact .ig _ _ full n f d i
  case i7=>cases g with|i7 t x=>exact .i7 t x
  case ptr j o=>
   obtain⟨l,y,d,i,D⟩:=hr j (pC (by simpa [zJ]using h));rw[d]at g;cases g with
   |ptr _ _ x K=>
   rw[D]at K;cases K;exact .ptr j o y i
  case int q s c=>
   obtain⟨M,w,J,z,e3⟩:=hθ s (pC (by simpa [zJ]using h));cases g with
   |int _ _ _ v d i=>
   rw[d]at z;cases z;have:=Gm.int (V:=Vs) (U:=μs) q s c M J (by rw[show M+c=w+((uH O s).2+c) by omega];exact i)
   rwa [show M+c=w+((uH O s).2+c) by omega]at this
  case str s c=>
   obtain⟨M,w,J,z,e3⟩:=hθ s (pC (by simpa [zJ]using h));cases g with
   |str _ _ v l d i=>
   rw[d]at z;cases z;exact .str s c M l J (by omega)
  case sl e s c=>
   simp only[zJ,aA]at h;obtain⟨M,w,J,z,e3⟩:=hθ s (pC h.2);cases g with
   |sl _ _ _ _ N v d i D L=>
   rw[i]at z;cases z;exact .sl e s c t N M d J (by omega) λx K=>W e h.1 x (L x K)
  case g7 q e s c=>
   simp only[zJ,aA]at h;obtain⟨M,w,J,z,e3⟩:=hθ s (pC h.2);cases g with
   |g7 _ _ _ _ _ N v Y d i D L=>
   rw[i]at z;cases z;exact .g7 q e s c t N M Y d J (by omega) λx K=>W e h.1 x (L x K)
  case gp e lo hi=>cases g with|gp _ _ _ _ N d i D L=>exact .gp e lo hi t N d i D (λx K=>W e (by simpa [zJ]using h) x (L x K))
  case gr q e lo hi=>cases g with|gr _ _ _ _ _ N Y d i D L=>exact .gr q e lo hi t N Y d i D (λx K=>W e (by simpa [zJ]using h) x (L x K))
  case ie es=>
   cases g with
   |ie _ _ N d i D=>
   have:=I (by simpa [zJ]using h) ⟨i,D⟩;exact .ie es t N d this.1 this.2
  case fn f u bs=>
   cases g with
   |fn _ _ _ as' bs' d i D L=>
   simp only[zJ,aA]at h;have J:=I h.1 ⟨d,i⟩;have z:=I h.2 ⟨D,L⟩;exact .fn f _ _ as' bs' J.1 J.2 z.1 z.2
  case or u=>
   cases g with
   |or _ b _ hm d=>
   obtain⟨a,ha,rfl⟩:=bS.1 hm;exact .or _ a t ha (W a (qM (by simpa [zJ]using h) a ha) t d)
  case agg u=>
   cases g with
   |agg _ Q d i=>
   have:=I (by simpa [zJ]using h) ⟨d,i⟩;exact .agg _ Q this.1 this.2
  case ia q u=>
   cases g with
   |ia _ _ Q Y d i=>
   have:=I (by simpa [zJ]using h) ⟨d,i⟩;exact .ia q _ Q Y this.1 this.2
  case fm u=>
   cases g with
   |fm _ Q d i=>
   have:=I (by simpa [zJ]using h) ⟨d,i⟩;exact .fm _ Q this.1 this.2
end
def OT(j:Nat):List A->List A->Option Nat
 | .ptr i o::b,.ptr l c::a=>if Nat.beq i j&&(Nat.beq o 0&&Nat.beq c 0)then some l else OT j b a
 |_ ::b,_ ::a=>OT j b a|_,_ =>none
def Vh(b a:List A):Nat->Nat->Option (List Nat)
 |0,_ =>some []
 |n+1,j=>match OT j b a with
  |some l=>match Vh b a n (j+1)with
   |some r=>if sA l r then none else some (l::r)
   |none=>none
  |none=>none
def JV(S:AS)(Z:gU)(O:iI)(n:Nat):List Nat->List (TypeId×List A×List A)->Bool
 |[],[]=>true
 |l::a,(e,c,_)::r=>(match oV S.hp l with
  |some (.fix b x)=>Nat.beq b e&&yW (GM S.cs n S.nl qZ) x (c.map (uV Z O qZ))|_ =>false)&&JV S Z O n a r
 |_,_ =>false
def Vn(f:gX)(a:List A)(S:AS)(s:MS):Option (List Nat):=
 if Nat.beq s.f f&&(HD (zJ s.J.length 0 qZ) s.pre&&(s.J.all λq=>HD (zJ s.J.length 0 qZ) q.2.1&&HD (zJ s.J.length 0 qZ) q.2.2)&&zJ s.J.length 0 qZ s.res)then
  match Vh s.pre a s.J.length 0 with
  |some Z=>if yW (GM S.cs 1 S.nl qZ) a (s.pre.map (uV Z [] qZ))&&JV S Z [] 1 Z s.J then some Z else none
  |none=>none
 else none
def KF:List (Nat×AO)->List Nat->List (TypeId×List A×List A)->List A->List (Nat×AO)
 |hp,l::a,(e,_,c)::r,y=>KF (zZ hp l (.fix e (y.take c.length))) a r (y.drop c.length)|hp,_,_,_ =>hp
def Vo(S:AS)(s:MS)(Z:gU):Option (List AR):=
 match uO (.fm (uV Z [] qZ s.res::s.J.flatMap λq=>q.2.2.map (uV Z [] qZ))) S.nx S.cs with
 |⟨.fm (a::y),n,c⟩=>some [⟨a,KF S.hp Z s.J y,n,S.nl,c⟩]|_ =>none
def aDm(f:gX)(a:List A)(S:AS):List MS->Option (List AR)
 |[]=>none
 |s::r=>match Vn f a S s with
  |some Z=>Vo S s Z|none=>aDm f a S r
section
variable{V V':gN}{U μ':gE}{S:AS}{H H':Hp}{P:gD}
theorem XV:∀{l:gU},(∀i j,i<j->j<l.length->l[i]? ≠l[j]?)->l.Nodup
 |[],_ =>List.nodup_nil
 |x::d,h=>by
  refine dU.2 ⟨λc=> ?_,XV λi j b a=> ?_⟩;obtain⟨j,a,e⟩:=bX c;exact h 0 (j+1) (by omega) (by simpa using a) (by simp[<-e,a]);have:=h (i+1) (j+1) (by omega) (by simpa using a);simpa using this
theorem CF:∀{l:gU},l.Nodup->∀i j,i<j->j<l.length->l[i]? ≠l[j]?
 |x::b,h,0,j+1,_,a=>by
  have a:j<b.length:=by simpa using a
  have:=(dU.1 h).1;simp only[cJ,dL,aB a];exactλe=>this (by rw[bV e];exact cC a)
 |x::b,h,i+1,j+1,c,a=>by
  have:=CF (dU.1 h).2 i j (by omega) (by simpa using a);simpa using this
theorem YP{j:Nat}:∀{e b:List A} {l:Nat},OT j e b=some l->∃i:Nat,e[i]? =some (A.ptr j 0)/\b[i]? =some (A.ptr l 0)
 |[],b,l,h=>by cases b<;>simp[OT]at h|p::e,[],l,h=>by cases p<;>simp[OT]at h
 |p::e,a::b,l,h=>by
  unfold OT at h;split at h;rename_i d c;cases d;cases c;split at h;rename_i f;cases h;simp only[aA]at f;obtain⟨k1,k2,k3⟩:=f;rw[oT k1,oT k2,oT k3];exact⟨0,rfl,rfl⟩;obtain⟨i,d,c⟩:=YP h;exact⟨i+1,d,c⟩;rename_i d c;cases d;cases c;obtain⟨i,d,c⟩:=YP h;exact⟨i+1,d,c⟩;cases h
theorem UL{b a:List A}:∀(n j:Nat) (Z:gU),Vh b a n j=some Z->Z.length=n/\Z.Nodup/\∀i,i<n->∃l,Z[i]? =some l/\OT (j+i) b a=some l
 |0,j,Z,h=>by simp only[Vh]at h;cases h;exact⟨rfl,List.nodup_nil,λi c=>absurd c (by omega)⟩
 |n+1,j,Z,h=>by
  simp only[Vh]at h;split at h;rename_i l w;split at h;rename_i r e;obtain⟨g,o,f⟩:=UL n (j+1) r e;split at h;cases h;rename_i d;cases h;refine⟨by simp[g],dU.2 ⟨λq=>d (OK.2 q),o⟩,λi c=> ?_⟩;cases i with
  |zero=>exact⟨l,rfl,w⟩
  |succ i=>
   obtain⟨u,v,s⟩:=f i (by omega);exact⟨u,by simpa using v,by rw[show j+(i+1)=j+1+i by omega];exact s⟩
  cases h;cases h
theorem GH.ff{K:gP}{nl:Nat}{Hm:Nat->Option Ob}{Z:gU}(s:GH K nl V U H)(hn:H.next<=H'.next)(hf:Fin H'){u:gU}
  (hx:∀(j l x:Nat),Z[j]? =some l->u[j]? =some x->U[l]? =some (some x)) (hlen:u.length=Z.length) (hr:∀y,y∉u->y<H.next->H'.any y=H.any y)
  {g:gP} (h1:∀l,l∉Z->oV g l=oV K l) (h2:∀(j l x:Nat),Z[j]? =some l->u[j]? =some x->(∃q,oV K l=some q)/\∃e I o,oV g l=some (.fix e I)/\H'.get x=some o/\(o.elem=e/\o.sz=0)/\pT V U I o.cells):GH g nl V U H':=by
 have d:∀l,l∉Z\/∃j x,Z[j]? =some l/\u[j]? =some x:=λl=>by
  by_cases h:l∈Z;obtain⟨j,M,rfl⟩:=bX h;exact .inr ⟨j,u[j],aB M,aB (by omega)⟩;exact .inl h
 have D:∀{l:Nat} {q:AO},oV g l=some q->∃q',oV K l=some q':=λ{l q} h=>by
  rcases d l with b|⟨j,x,f,i⟩;exact⟨q,by rw[<-h1 l b];exact h⟩;exact(h2 j l x f i).1
 refine⟨s.len,λl q b=> ?_,λl l' q q' y b L W hy'=> ?_,λl y W=>cX (s.lt l y W) hn,λl e I b=> ?_,hf⟩;rcases d l with J|⟨j,x,f,i⟩;rw[h1 l J]at b;obtain⟨y,k1,k2⟩:=s.obj l q b;refine⟨y,k1,λz v=> ?_⟩;obtain⟨c,k3,Q⟩:=k2 z v;subst v;have Y:z∉u:=λv=>by
  obtain⟨j,M,rfl⟩:=bX v;have w:j<Z.length:=by omega
  have f:=aB w;have i:=aB M;have e3:=hx j _ _ f i;obtain⟨q',hq'⟩:=(h2 j _ _ f i).1;have:=s.inj _ _ _ _ _ b hq' k1 e3;exact J (this▸cC w)
 have a:=hr z Y (s.lt l z k1);refine⟨c,?_,Q⟩;rw[<-k3];cases q with
 |loop=>exact a|map=>exact a|fix=>exact FP a|row=>exact FP a|ax=>exact FP a
 obtain⟨_,e,I,o,k1,k2,k3,Q⟩:=h2 j l x f i;rw[k1]at b;cases b;refine⟨some x,hx j l x f i,λz v=> ?_⟩;cases v;exact⟨o,k2,k3,Q⟩;obtain⟨p,hp1⟩:=D b;obtain⟨p',N⟩:=D L;exact s.inj l l' p p' y hp1 N W hy';rcases d l with J|⟨j,x,f,i⟩;rw[h1 l J]at b;exact s.aN l e I b;exact⟨x,hx j l x f i⟩
theorem MM:∀(Z:gU) (o:List (TypeId×List A×List A)) (a:gP) (y:List A),Z.Nodup->(∀l∈Z,∃q,oV a l=some q)->Z.length=o.length->
  (∀l,l∉Z->oV (KF a Z o y) l=oV a l)/\
  ∀(j l:Nat) (q:TypeId×List A×List A),Z[j]? =some l->o[j]? =some q->oV (KF a Z o y) l=some (.fix q.1 ((y.drop ((o.take j).flatMap (·.2.2)).length).take q.2.2.length))
 |[],[],a,y,_,_,_ =>⟨λl _ =>rfl,λj l q h=>by simp at h⟩|[],_ ::_,_,_,_,_,h=>by simp at h|_ ::_,[],_,_,_,_,h=>by simp at h
 |l0::z,(e,D,v)::r,a,y,u,c,f=>by
  obtain⟨w,x⟩:=dU.1 u
  have s:=MM z r (zZ a l0 (.fix e (y.take v.length))) (y.drop v.length) x (λl d=>by
   rw[rS];split;rename_i i;subst i;exact absurd d w
   exact c l (aC _ d)) (by simpa using f)
  simp only[KF];refine⟨λl d=> ?_,λj l q g b=> ?_⟩;rw[s.1 l (λh=>d (aC _ h)),rS,aH (λi:l0=l=>d (by subst i;exact aO))];cases j with
  |zero=>
   simp only[cJ,aI]at g b;subst g b;rw[s.1 l0 w,rS,aJ rfl];obtain⟨q,b⟩:=c l0 aO;rw[b];simp
  |succ j=>
   simp only[dL]at g b;rw[s.2 j l q g b];simp[List.drop_drop]
theorem zX{Z:gU}{O:iI}{n:Nat}:∀(b:gU) (o:List (TypeId×List A×List A)),JV S Z O n b o=true->
  ∀(j l:Nat) (q:TypeId×List A×List A),b[j]? =some l->o[j]? =some q->∃x,oV S.hp l=some (.fix q.1 x)/\yW (GM S.cs n S.nl qZ) x (q.2.1.map (uV Z O qZ))=true
 |[],_,_,j,l,q,a,_ =>by simp at a|l0::b,[],h,_,_,_,_,_ =>by simp[JV]at h
 |l0::b,(e,s,g)::r,h,j,l,q,a,d=>by
  simp only[JV,aA]at h;cases j with
  |zero=>
   simp only[cJ,aI]at a d;subst a d;have c:=h.1;split at c;rename_i i x f;simp only[aA]at c;have:=oT c.1;subst this;exact⟨x,f,c.2⟩;cases c
  |succ j=>exact zX b r h.2 j l q (by simpa using a) (by simpa using d)
theorem DN{f:gN}{μs:gE}{w:TypeId×List A×List A->List A}:∀(a:List (TypeId×List A×List A)) (e:gU),e.length=a.length->
  (∀(j:Nat) (q:TypeId×List A×List A),a[j]? =some q->∃x o,e[j]? =some x/\H.get x=some o/\(o.elem=q.1/\o.sz=0)/\pT f μs (w q) o.cells)->
  ∃u:List T,pT f μs (a.flatMap w) u/\∀(j:Nat) (q:TypeId×List A×List A) (x:Nat),a[j]? =some q->e[j]? =some x->∃o,H.get x=some o/\(o.elem=q.1/\o.sz=0)/\(w q).length=o.cells.length/\o.cells=(u.drop ((a.take j).flatMap w).length).take (w q).length
 |[],e,_,_ =>⟨[],pT.nil,λj q x h=>by simp at h⟩|q0::r,[],h,_ =>by simp at h
 |q0::r,N::J,M,h=>by
  obtain⟨x,o,g,D,z,c⟩:=h 0 q0 rfl;simp only[cJ,aI]at g;subst g
  obtain⟨u,i,s⟩:=DN (w:=w) r J (by simpa using M) (λj q b=>by
   obtain⟨x,o,k1,k2⟩:=h (j+1) q (by simpa using b)
   exact⟨x,o,by simpa using k1,k2⟩)
  refine⟨o.cells++u,by rw[bP];exact c.app i,λj q x b d=> ?_⟩;cases j with
  |zero=>
   simp only[cJ,aI]at b d;subst b d;exact⟨o,D,z,c.1,by rw[c.1];simp⟩
  |succ j=>
   simp only[dL]at b d;obtain⟨I,y,L,v,K⟩:=s j q x b d;refine⟨I,y,L,v,?_⟩;rw[List.take_succ_cons,bP,aU,<-List.drop_drop,c.1,List.drop_left' rfl];exact K
theorem aDn{ee:gQ}{s:MS}(ht:HG ee s){f:gX}{Q:List A}{Z:gU}(h:Vn f Q S s=some Z){rs:jS}(hr:Vo S s Z=some rs){ts:gC}(hs:Sy V S.nx S.cs)(hh:GH S.hp S.nl V U H)(I:pT V U Q ts):
  ∃r H',Ev (λn d=>ee n d f ts H=some (r,H'))/\∃R∈rs,ip V U R r H':=by
 unfold Vn at h;split at h;rename_i hc;simp only[aA,aP]at hc;obtain⟨c1,⟨c2,c3⟩,c4⟩:=hc;have c1:=oT c1;subst c1;split at h;rename_i σ' hsig;split at h;rename_i hc;cases h;simp only[aA]at hc;obtain⟨c5,c6⟩:=hc;obtain⟨s1,s2,s3⟩:=UL _ _ _ hsig;have y:∀j,j<s.J.length->∃l x,Z[j]? =some l/\U[l]? =some (some x):=λj u=>by
  obtain⟨l,D,h2⟩:=s3 j u;obtain⟨i,h3,h4⟩:=YP h2;obtain⟨t,h5,h6⟩:=I.at h4;cases h6 with
  |ptr _ _ x hx=>exact⟨l,x,D,hx⟩
 let c:List Nat:=Z.map λl=>match U[l]? with
  |some (some x)=>x|_ =>0
 have hxl:c.length=s.J.length:=by simp[c,s1]
 have W:∀(j l x:Nat),Z[j]? =some l->c[j]? =some x->U[l]? =some (some x):=λj l x D h2=>by
  have u:j<s.J.length:=by rw[<-s1];exact(aQ.1 D).1
  obtain⟨l',x',g,K⟩:=y j u;rw[D]at g;cases g;simp only[c,bA,D,cK,K,aI]at h2;subst h2;exact K
 have N:Bg Z s.J.length (c.map some) U:=λj u=>by
  obtain⟨l,x,g,K⟩:=y j u;refine⟨l,x,g,?_,K⟩;simp only[c,List.map_map,bA,g,cK,Function.comp,K]
 have L:∀l∈Z,∃q,oV S.hp l=some q:=λl hl=>by
  obtain⟨j,u,rfl⟩:=bX hl;have w:j<s.J.length:=by omega
  obtain⟨ys,k1,_⟩:=zX _ _ c6 j _ _ (aB u) (aB w);exact⟨_,k1⟩
 have hnd:c.Nodup:=by
  refine XV λi j hij u e=> ?_;have hi:i<c.length:=by omega
  have ei:=aB hi;have ej:=aB u;have hi':i<Z.length:=by omega
  have w:j<Z.length:=by omega
  have g:=W i _ _ (aB hi') ei;have K:=W j _ _ (aB w) ej;obtain⟨q,J⟩:=L _ (cC hi');obtain⟨q',hq'⟩:=L _ (cC w);rw[ei,ej]at e;have e:=bV e;rw[e]at g;have:=hh.inj _ _ _ _ _ J hq' g K;exact CF s2 i j hij w (by rw[aB hi',aB w,this])
 have tk:∀{a:A} {t:T},Gm (V.take 1) (U.take S.nl) a t->Gm V U a t:=λh=>h.ext (λj v e=>by
  rw[bJ]at e;split at e;exact e
  cases e) (λj v e=>by
  rw[bJ]at e;split at e;exact e
  cases e)
 have back:∀{Y ps:List A} {z:gC},yW (GM S.cs 1 S.nl qZ) Y (ps.map (uV Z [] qZ))=true->HD (zJ s.J.length 0 qZ) ps=true->pT V U Y z->pT [0] (c.map some) ps z:=λ{Y ps z} hle hok I=>by
  have D:=AC (λa t x=>wW hs.cs hs.zero 1 S.nl qZ a t x) hle I;exact KJ (λa ha t I=>YT N aAl qZ a (qM hok a ha) t (tk I)) D
 obtain⟨r,H',q1,q2,q3,q4,q5,q6⟩:=ht H ts c hh.fin hxl hnd (back c5 c2 I) (λj q J=>by
  have u:j<s.J.length:=(aQ.1 J).1;obtain⟨l,x,g,K⟩:=y j u;obtain⟨ys,k1,k2⟩:=zX _ _ c6 j l q g J;have ex:c[j]? =some x:=by simp only[c,bA,g,cK,K]
  obtain⟨b,b1,b2,b3⟩:=hh.at k1 K
  exact⟨x,b,ex,b1,b2,back k2 (c3 q (bK J)).1 b3⟩)
 refine⟨r,H',q1,?_⟩;have fwd:∀{a:A} {t:T},zJ s.J.length 0 qZ a=true->Gm [0] (c.map some) a t->Gm V U (uV Z [] qZ a) t:=λha I=>Ux N aAl qZ _ ha _ I;have M:∃z:List T,pT V U (s.J.flatMap λq=>q.2.2.map (uV Z [] qZ)) z/\∀(j:Nat) (q:TypeId×List A×List A) (x:Nat),s.J[j]? =some q->c[j]? =some x->∃o,H'.get x=some o/\(o.elem=q.1/\o.sz=0)/\q.2.2.length=o.cells.length/\o.cells=(z.drop ((s.J.take j).flatMap (·.2.2)).length).take q.2.2.length:=
 by
          obtain⟨z,v1,v2⟩:=DN s.J c hxl q5;refine⟨z,?_,v2⟩
          have:=Ie (f:=uV Z [] qZ) (λa ha t I=>by
            obtain⟨q,J,ha⟩:=List.mem_flatMap.1 ha
            exact fwd (qM (c3 q J).2 a ha) I) v1
          rwa [List.map_flatMap]at this
 obtain⟨z,u1,u2⟩:=M
 have hv:=rB (U:=U) hs (a:= .fm (uV Z [] qZ s.res::s.J.flatMap λq=>q.2.2.map (uV Z [] qZ))) (t:= .fm (r::z)) (by
  have:=pT.cons (fwd c4 q2) u1
  exact .fm _ _ this.1 this.2)
 unfold Vo at hr;split at hr
 .rename_i a ys n cs hm;cases hr;rw[hm]at hv;obtain⟨V1,g,s4,g1⟩:=hv;cases g1 with
  |fm _ _ g1 g2=>
  have hl:pT V1 U (a::ys) (r::z):=⟨g1,g2⟩;obtain⟨z1,z2⟩:=MM Z s.J S.hp ys s2 L s1;refine⟨_,aR _,V1,U,g,.refl _,s4,?_,hl.head⟩;refine(hh.ext g).ff (Hm:=λ_ =>none) q4 q3 W (by omega) q6 z1 (λj l x D h2=>⟨L l (bK D),?_⟩);have u:j<s.J.length:=by rw[<-s1];exact(aQ.1 D).1
  have J:=aB u;obtain⟨o,o1,o2,o3,o4⟩:=u2 j _ x J h2;refine⟨_,_,o,z2 j l _ D J,o1,o2,?_⟩;rw[o4];exact((hl.tail.drop _).take _)
 cases hr
 cases h
 cases h
 cases h
theorem Ka{ee:gQ}:∀{gz:List MS},(∀s∈gz,HG ee s)->wN (λf a S=>aDm f a S gz) ee
 |[],_ =>λf a S g h=>by simp[aDm]at h
 |s::r,d=>λf a S g h V U H i b c e=>by
  simp only[aDm]at h;split at h;rename_i Z j;exact aDn (d s aO) j h b c e;exact Ka (λq o=>d q (aC _ o)) f a S g h V U H i b c e
def nS(f:gX)(b:List A)(S:AS):Option (List AR):=
 if Nat.beq f 123 then match b with
  |[.ptr l 0]=>match oV S.hp l with
   | some (.fix e [a,v])=>if Nat.beq e 135 then(match a with
     | .fS=>some [⟨.fm [],zZ S.hp l (.fix e [.ptr l 0,v]),S.nx,S.nl,S.cs⟩]| .ptr g 0=>if Nat.beq g l then some [⟨.fm [],S.hp,S.nx,S.nl,S.cs⟩]else none
     | .or [.fS,.ptr g 0]=>if Nat.beq g l then some [⟨.fm [],zZ S.hp l (.fix e [.ptr l 0,v]),S.nx,S.nl,S.cs⟩]else none
     |_ =>none)
    else none
   |_ =>none
  |_ =>none
 else if Nat.beq f 79 then match b with
  |[.ptr l 0]=>match oV S.hp l with
   | some (.fix e [a,v])=>if Nat.beq e 135 then(match v with
     | .fp=>some [⟨.gh [],S.hp,S.nx,S.nl,S.cs⟩]
     | .ge m q h o s c=>match oV S.hp m with
      | some (.row u d (.ft .u8 x w) i j)=>if Nat.beq u 5&&(Nat.beq q 1&&(Nat.beq d 1&&(Nat.beq h 0&&(o==0&&(Nat.beq s i&&(c==j&& !(Nat.beq m l)))))))then
        some [⟨.str s c,vB S.hp m,S.nx,S.nl,S.cs⟩]
       else none
      |_ =>none
     |_ =>none)
    else none
   |_ =>none
  |_ =>none
 else none
section
variable{V V':gN}{U μ':gE}{S:AS}{H H':Hp}{P:gD}
theorem aMy:wN nS (λ_ _ =>MR):=by
 intro f args S rs h V U H ts hs i hg;unfold nS at h;split at h
 .rename_i Z;have Z:=oT Z;subst Z;split at h
  .rename_i l;obtain⟨t,r,rfl,g1,g2⟩:=hg.I;have:=g2.ae;subst this;cases g1 with
   |ptr _ _ x K=>
   split at h
   .rename_i e a v z;split at h
    .rename_i he;have he:=oT he;subst he;obtain⟨o,M,I,o3⟩:=i.at z K;obtain⟨x1,x2,W,c1,c2⟩:=o3.two;obtain⟨I,d⟩:=I
     .
      have put:Gm V U .fS x1\/x1= .ptr x 0->∃H',MR 123 [.ptr x 0] H=some (.fm [],H')/\ip V U ⟨.fm [],zZ S.hp l (.fix 135 [.ptr l 0,v]),S.nx,S.nl,S.cs⟩ (.fm []) H':=by
       intro hq;rcases hq with hq|hq
       cases hq;refine⟨H.put x {o with cells:=[.ptr x 0,x2]},?_,V,U,.refl _,.refl _,hs,?_,.fm _ _ rfl (λj a t h=>by simp at h)⟩;simp only[MR,cB,NM,M,W];rw[aJ ⟨I,d⟩];exact i.put z K M ⟨⟨I,d⟩,pT.cons (.ptr _ _ _ K) (pT.cons c2 .nil)⟩ (pD M).2;subst hq;refine⟨H,?_,V,U,.refl _,.refl _,hs,?_,.fm _ _ rfl (λj a t h=>by simp at h)⟩;simp only[MR,cB,NM,M,W];rw[aJ ⟨trivial,I,d⟩];refine⟨i.len,λm q D=> ?_,λm m' q q' y D hm' N hy'=> ?_,i.lt,λm e xs D=> ?_,i.fin⟩;rw[rS]at D;split at D;rename_i L;subst L;rw[z]at D;cases D;refine⟨some x,K,λy N=> ?_⟩;cases N;exact⟨o,M,⟨I,d⟩,by rw[W];exact pT.cons (.ptr _ _ _ K) (pT.cons c2 .nil)⟩;exact i.obj m q D;have old:∀{m:Nat} {q:AO},oV (zZ S.hp l (.fix 135 [.ptr l 0,v])) m=some q->∃q,oV S.hp m=some q:=λ{m q} h=>by
        rw[rS]at h;split at h;rename_i e;subst e;exact⟨_,z⟩;exact⟨q,h⟩
       obtain⟨p,hp1⟩:=old D;obtain⟨p',hp2⟩:=old hm';exact i.inj m m' p p' y hp1 hp2 N hy';rw[rS]at D;split at D;rename_i L;subst L;exact⟨x,K⟩;exact i.aN m e xs D
      split at h;cases h;obtain⟨H',q1,q2⟩:=put (.inl c1);exact⟨_,H',.of λ_ _ =>q1,_,aR _,q2⟩
      .split at h
       .rename_i l' g;have g:=oT g;subst g;cases h;cases c1 with
        |ptr _ _ y N=>
        rw[K]at N;cases N;refine⟨.fm [],H,.of λ_ _ => ?_,_,aR _,V,U,.refl _,.refl _,hs,i,.fm _ _ rfl (λj a t h=>by simp at h)⟩;simp only[MR,cB,NM,M,W];rw[aJ ⟨trivial,I,d⟩]
       cases h
      .split at h
       .rename_i l' g;have g:=oT g;subst g;cases h;have hq:Gm V U .fS x1\/x1= .ptr x 0:=by
         cases c1 with
         |or _ b _ D hb=>
         simp only[aY,dF,fQ]at D;rcases D with rfl|rfl
         exact .inl hb;cases hb with
         |ptr _ _ y N=>rw[K]at N;cases N;exact .inr rfl
        obtain⟨H',q1,q2⟩:=put hq;exact⟨_,H',.of λ_ _ =>q1,_,aR _,q2⟩
       cases h
      cases h
    cases h
   cases h
  cases h
 rename_i hf1;split at h
 .rename_i Z;have Z:=oT Z;subst Z;split at h
  .rename_i l;obtain⟨t,r,rfl,g1,g2⟩:=hg.I;have:=g2.ae;subst this;cases g1 with
   |ptr _ _ x K=>
   split at h
   .rename_i e a v z;split at h
    .rename_i he;have he:=oT he;subst he;obtain⟨o,M,I,o3⟩:=i.at z K;obtain⟨x1,x2,W,c1,c2⟩:=o3.two;obtain⟨I,d⟩:=I;have J:MR 79 [.ptr x 0] H=Ao 135 5 [.ptr x 0] H:=by simp[MR]
     split at h;cases h;cases c2;refine⟨.str [],H,.of λ_ _ => ?_,_,aR _,V,U,.refl _,.refl _,hs,i,.gh _⟩;refine J.trans ?_;simp only[Ao,M,W];rw[aJ ⟨I,d⟩]
     .rename_i m sz si ci s c;split at h
      .rename_i e2 sz2 lo hi s2 c2' Y;split at h
       .rename_i hk;simp only[aA,bN,bQ]at hk;obtain⟨k1,k2,k3,k4,k5,k6,k7,k8⟩:=hk;have k1:=oT k1;have k2:=oT k2;have k3:=oT k3;have k4:=oT k4;have k6:=oT k6;subst k1 k2 k3 k4 k5 k6 k7;cases h;cases c2 with
        |ar _ _ _ _ _ _ vi w w1 w2 w3 w4 w5=>
         refine⟨.str [],H,.of λ_ _ => ?_,_,aR _,V,U,.refl _,.refl _,hs,i.sub (λl o h=>NS h),.str _ _ w _ w4 (by simpa using w5.symm)⟩;refine J.trans ?_;simp only[Ao,M,W];rw[aJ ⟨I,d⟩]
        |ge _ _ _ _ _ _ y vi w w1 w2 w3 w4 w5=>
         rw[hs.zero]at w2;cases w2;obtain⟨o',p1,p2,p3,Q,w',r1,r2,r3,r4⟩:=i.at Y w1;rw[w4]at r1;cases r1;have hcl:∀u∈Q,∃n:Int,u= .int .u8 n/\0<=n/\n<256:=λu hu=>by
          have:=(r4 u hu).1;cases this with
          |ft _ _ _ n n1 n2 n3=>
          have n3:(0:Int)<=n/\n<=255:=n3;exact⟨n,rfl,n3.1,by omega⟩
         have hflat:Q.flatMap T.cells=Q:=by
          clear r4 r3 r2
          induction Q with
          |nil=>rfl
          |cons u Q ih=>
           obtain⟨n,rfl,_⟩:=hcl u aO;rw[bP,ih (λu hu=>hcl u (aC _ hu))];rfl
         rw[hflat]at r3;obtain⟨bs,b1,b2⟩:=PN Q hcl;have hlen:(w+c).toNat=Q.length:=by omega
         have hxy:y≠x:=λL=>by
          subst L;have:=i.inj _ _ _ _ _ Y z w1 K;subst this;simp at k8
         have hz:Q.length≠0:=λL=>by
          have:=p3.2 rfl;rw[r3]at this;exact this (eU.1 L)
         refine⟨.str bs,H.drop y,.of λ_ _ => ?_,_,aR _,V,U,.refl _,.refl _,hs,i.cr Y w1,.str _ _ w _ w4 (by rw[b2];omega)⟩;refine J.trans ?_;simp only[Ao,M,W];rw[aJ ⟨I,d⟩];have L:(w+c).toNat=o'.cells.length:=by rw[r3];exact hlen
         have e1:(0+0:Int).toNat=0:=rfl;simp only[p1,e1];rw[aJ ⟨p2,p3.1,L.symm,by rw[L,r3];exact hz⟩,r3,b1]
       cases h
      cases h
     cases h
    cases h
   cases h
  cases h
 cases h
end
noncomputable def TK(P:gD)(Y:AX)(gz:List MS):Nat->bCv
 |0=>⟨λf a S=>aDm f a S gz,λ_ _ _ =>none⟩|d+1=>⟨λf a S=>if(gz.any λs=>Nat.beq s.f f)then aDm f a S gz else if sA f [123,79]then(if Y.top f then none else nS f a S)else Mz P Y (TK P Y gz d).fn (TK P Y gz d).yd f a S,aSr P Y (TK P Y gz d).fn (TK P Y gz d).yd⟩
variable{X:AX}{gl:gG}{pe:gM}
theorem Jj(I:Cn X gl pe){gz:List MS}(D:∀s∈gz,HG (λn d=>(qW P ⟨gl,pe⟩ X.own X.top n d).ee) s):
  ∀(d:Nat),wN (TK P X gz d).fn (λn d=>(qW P ⟨gl,pe⟩ X.own X.top n d).ee)/\Fl (TK P X gz d).yd (λn d=>(qW P ⟨gl,pe⟩ X.own X.top n d).yd)
 |0=>⟨Ka D,λl a S z h=>by simp[TK]at h⟩
 |d+1=>by
  obtain⟨i,v⟩:=Jj I D d;have L:∀n d,ZQ (qW P ⟨gl,pe⟩ X.own X.top n d).ee:=λn d=>(sI d).1;have u:∀n d,Ky (qW P ⟨gl,pe⟩ X.own X.top n d).yd:=λn d=>(sI d).2;refine⟨λf a S z h V U H y g q e=> ?_,λl a S z h V U H y x g q e N=> ?_⟩;simp only[TK]at h;split at h;exact Ka D f a S z h V U H y g q e;split at h;split at h;cases h;rename_i w;obtain⟨r,H',⟨m,o⟩,fin⟩:=aMy f a S z h V U H y g q e;refine⟨r,H',⟨m+1,λn c J K=> ?_⟩,fin⟩;obtain⟨c,rfl⟩:∃d0,c=d0+1:=⟨c-1,by omega⟩;simp only[qW];rw[aH w];exact o n c (by omega) (by omega);obtain⟨M,r,H',⟨m,o⟩,fin⟩:=JK I i v L u h g q e;refine⟨r,H',⟨m+1,λn c J K=> ?_⟩,fin⟩;obtain⟨c,rfl⟩:∃d0,c=d0+1:=⟨c-1,by omega⟩;simp only[qW];rw[aJ M];exact o n c (by omega) (by omega);obtain⟨b,H',⟨m,o⟩,fin⟩:=Zt I i v L u _ _ _ _ h V U H y x g q e N;refine⟨b,H',⟨m+1,λn c J K=> ?_⟩,fin⟩;obtain⟨c,rfl⟩:∃d0,c=d0+1:=⟨c-1,by omega⟩;simp only[qW];exact o n c (by omega) (by omega)
end
end
section
variable{V V':gN}{U μ':gE}{S:AS}{H H':Hp}{P:gD}{X:AX}{gl:gG}{pe:gM}
theorem Ht.bq:∀(p:gL) (t R:Ht),Ht.bj p t=none->Ht.over t (Ht.az none p R)=Ht.az none p (Ht.over t R)
 |p,.nl,R,_ =>rfl
 |[],.nd v l r,R,h=>by
  have:v=none:=h;subst this;rfl
 |false::p,.nd v l r,R,h=>by
  show Ht.over (.nd v l r) (.nd R.val (Ht.az none p R.lf) R.rt)= .nd (Ht.over (.nd v l r) R).val (Ht.az none p (Ht.over (.nd v l r) R).lf) (Ht.over (.nd v l r) R).rt;rw[Ht.bl,Ht.bc,Ht.bf,Ht.bg];show Ht.nd _ (Ht.over l (Ht.az none p R.lf)) _ =_;rw[Ht.bq p l R.lf h];rfl
 |true::p,.nd v l r,R,h=>by
  show Ht.over (.nd v l r) (.nd R.val R.lf (Ht.az none p R.rt))= .nd (Ht.over (.nd v l r) R).val (Ht.over (.nd v l r) R).lf (Ht.az none p (Ht.over (.nd v l r) R).rt);rw[Ht.bl,Ht.bc,Ht.bf,Ht.bg];show Ht.nd _ _ (Ht.over r (Ht.az none p R.rt))=_;rw[Ht.bq p r R.rt h];rfl
theorem rU.many{H:Hp}(b:Fin H):∀(d:gU),d.Nodup->(∀x∈d,∃o,H.any x=some o)->
  ∃R A,rU R A H/\A.next=H.next/\(∀y,A.any y=if y∈d then H.any y else none)/\∀y,R.get y=if y∈d then none else H.any y
 |[],_,_ =>⟨H.J,⟨H.next,.nl⟩,⟨rfl,λl o h=>⟨vX _ _,b l o h⟩⟩,rfl,λy=>vX _ _,λy=>rfl⟩
 |x::d,g,s=>by
  obtain⟨K,v⟩:=dU.1 g;obtain⟨R,A,c,D,j,M⟩:=rU.many b d v (λy z=>s y (aC _ z));obtain⟨o,u⟩:=s x aO;have w:A.any x=none:=by rw[j,aH K]
  have i:∀y,(Ht.put (some o) A.J x).get y=if y=x then some o else A.any y:=λy=>Ht.gw (some o) A.J x y
  refine⟨Ht.put none R x,⟨A.next,Ht.put (some o) A.J x⟩,⟨?_,λl q e=> ?_⟩,D,λy=> ?_,λy=> ?_⟩;show H=⟨A.next,Ht.over (Ht.put (some o) A.J x) (Ht.put none R x)⟩;rw[Ht.bb _ _ _ _ (λh=>by cases h)];unfold Ht.put;rw[Ht.bq _ _ _ w,Ht.cg];have I:Ht.bj (Qt x) (Ht.over A.J R)=some o:=by
   have:=u;rw[c.eq]at this;exact this
  rw[Ht.cb _ _ I];exact c.eq;rw[Ht.gw]at e;split at e;cases e;rename_i f;obtain⟨L,J⟩:=c.jd l q e;refine⟨?_,J⟩;show(Ht.put (some o) A.J x).get l=none;rw[i,aH f];exact L;show(Ht.put (some o) A.J x).get y=_;rw[i];by_cases h:y=x;subst h;rw[aJ rfl,aJ aO,u];rw[aH h,j];by_cases a:y∈d;rw[aJ a,aJ (aC _ a)];rw[aH a,aH (λq=>by rcases aY.1 q with q|q;exact h q;exact a q)];rw[Ht.gw];by_cases h:y=x;subst h;rw[aJ rfl,aJ aO];rw[aH h,M];by_cases a:y∈d;rw[aJ a,aJ (aC _ a)];rw[aH a,aH (λq=>by rcases aY.1 q with q|q;exact h q;exact a q)]
def KX:List (TypeId×List A×List A)->Nat->List A->List (Nat×AO)
 |[],_,_ =>[]|(e,c,_)::r,j,a=>(j,.fix e (a.take c.length))::KX r (j+1) (a.drop c.length)
theorem MF:∀(b:List (TypeId×List A×List A)) (i:Nat) (a:List A) (l:Nat) (o:AO),oV (KX b i a) l=some o->
  ∃j q,l=i+j/\b[j]? =some q/\o= .fix q.1 ((a.drop ((b.take j).flatMap (·.2.1)).length).take q.2.1.length)
 |[],i,a,l,o,h=>by simp[KX,oV]at h
 |(e,u,g)::r,i,a,l,o,h=>by
  simp only[KX,oV]at h;split at h;rename_i c;have c:=oT c;cases h;exact⟨0,_,by omega,rfl,by simp⟩;obtain⟨j,q,s,f,d⟩:=MF r (i+1) _ l o h;exact⟨j+1,q,by omega,by simpa using f,by rw[d];simp[List.drop_drop]⟩
def TS(k:Nat)(R:AR):List (TypeId×List A×List A)->Nat->Bool
 |[],_ =>true
 |(e,_,c)::r,j=>(match oV R.hp j with
  |some (.fix a y)=>Nat.beq a e&&yW (GM R.cs 1 k qZ) y c|_ =>false)&&TS k R r (j+1)
theorem WG{k:Nat}{R:AR}:∀(o:List (TypeId×List A×List A)) (i:Nat),TS k R o i=true->
  ∀(j:Nat) (q:TypeId×List A×List A),o[j]? =some q->∃y,oV R.hp (i+j)=some (.fix q.1 y)/\yW (GM R.cs 1 k qZ) y q.2.2=true
 |[],i,_,j,q,h=>by simp at h
 |(e,g,f)::r,i,h,j,q,b=>by
  simp only[TS,aA]at h;cases j with
  |zero=>
   simp only[cJ,aI]at b;subst b;have a:=h.1;split at a;rename_i s y c;simp only[aA]at a;have:=oT a.1;subst this;exact⟨y,c,a.2⟩;cases a
  |succ j=>
   obtain⟨y,a,d⟩:=WG r (i+1) h.2 j q (by simpa using b);exact⟨y,by rw[show i+(j+1)=i+1+j by omega];exact a,d⟩
noncomputable def sB(P:gD)(X:AX)(gz:List MS)(d:Nat)(s:MS):Bool:=
 match uO (.fm (s.pre++s.J.flatMap (·.2.1))) 1 []with
 |⟨.fm a,n,c⟩=>match Mz P X (TK P X gz d).fn (TK P X gz d).yd s.f (a.take s.pre.length) ⟨[],KX s.J 0 (a.drop s.pre.length),n,s.J.length,c⟩with
  |some b=>b.all λR=>GM R.cs 1 s.J.length qZ R.a s.res&&TS s.J.length R s.J 0|none=>false
 |_ =>false
theorem bAr(hc:Cn X gl pe)(hpm:∀R A B f b r,rU R A B->pe A f b=some r->pe B f b=some r)(hpn:∀f,X.top f=true->∀B b,pe B f b=none)(hpx:∀f b A v,MR f b A=some v->∀B b,pe B f b=none){gz:List MS}
  (ht:∀s∈gz,HG (λn d=>(qW P ⟨gl,pe⟩ X.own X.top n d).ee) s) {d:Nat} {s:MS} (h:sB P X gz d s=true):HG (λn d=>(qW P ⟨gl,pe⟩ X.own X.top n d).ee) s:=by
 intro H b K J hxl hnd N i;have hx:∀(j:Nat),j<s.J.length->∃x o,K[j]? =some x/\H.get x=some o:=λj hj=>by
  obtain⟨x,o,c,u,_⟩:=i j _ (aB hj);exact⟨x,o,c,u⟩
 have hxa:∀x∈K,∃o,H.get x=some o:=λx hx'=>by
  obtain⟨j,hj,rfl⟩:=bX hx';obtain⟨x,o,c,u⟩:=hx j (by omega);rw[aB hj]at c;cases c;exact⟨o,u⟩
 obtain⟨R,A,cm,M,D,hRget⟩:=rU.many J K hnd (λx hx=>by obtain⟨o,ho⟩:=hxa x hx;exact⟨o,(pD ho).1⟩);have hAget:∀x∈K,A.get x=H.get x:=λx hx=>FP (by rw[D,aJ hx]);unfold sB at h;have h0:Sy [0] 1 []:=⟨rfl,rfl,λq g=>by simp at g,λv h=>by cases h⟩;obtain⟨us,u1,u2⟩:=DN (w:=(·.2.1)) s.J K hxl i;have Y:pT [0] (K.map some) (s.pre++s.J.flatMap (·.2.1)) (b++us):=N.app u1;have hv:=rB h0 (a:= .fm (s.pre++s.J.flatMap (·.2.1))) (t:= .fm (b++us)) (.fm _ _ Y.1 Y.2);split at h
 .rename_i a n cs hm;rw[hm]at hv;obtain⟨V1,e1,s1,g1⟩:=hv;cases g1 with
  |fm _ _ g1 g2=>
  have ga:pT V1 (K.map some) a (b++us):=⟨g1,g2⟩;rw[show s.pre.length=b.length from N.1]at h;have gt:pT V1 (K.map some) (a.take b.length) b:=by
   have:=ga.take b.length
   rwa [List.take_left' rfl]at this
  have gd:pT V1 (K.map some) (a.drop b.length) us:=by
   have:=ga.drop b.length
   rwa [List.drop_left' rfl]at this
  split at h;rename_i rs hrs;have hh:GH (KX s.J 0 (a.drop b.length)) s.J.length V1 (K.map some) A:=by
   have fnd:∀{l:Nat} {o:AO},oV (KX s.J 0 (a.drop b.length)) l=some o->∃q,s.J[l]? =some q/\o= .fix q.1 (((a.drop b.length).drop ((s.J.take l).flatMap (·.2.1)).length).take q.2.1.length):=λ{l o} h=>by
    obtain⟨j,q,c,u,W⟩:=MF _ _ _ _ _ h;rw[cG]at c;subst c;exact⟨q,u,W⟩
   refine⟨by simp[hxl],λl o L=> ?_,λl l' q q' y L hl' Z hy'=> ?_,λl y L=> ?_,λl e ys L=> ?_,λm q g=> ?_⟩;obtain⟨q,c,rfl⟩:=fnd L;obtain⟨x,o,u,W,h4,h5⟩:=i l q c;refine⟨some x,by rw[bA,u];rfl,λy Z=> ?_⟩;cases Z;obtain⟨o',k1,k2,k3,k4⟩:=u2 l q x c u;rw[W]at k1;cases k1;refine⟨o,?_,h4,?_⟩;show A.get x=some o;rw[hAget x (bK u)];exact W;rw[k4];exact(gd.drop _).take _;rw[bA]at Z hy';obtain⟨x,c,u⟩:=aG.1 Z;obtain⟨x',W,h4⟩:=aG.1 hy';cases u;cases h4;have hl1:=(aQ.1 c).1;have hl2:=(aQ.1 W).1;rcases Nat.lt_trichotomy l l' with e|e|e
   exact absurd (c.trans W.symm) (CF hnd l l' e hl2);exact e;exact absurd (W.trans c.symm) (CF hnd l' l e hl1);rw[bA]at L;obtain⟨x,c,u⟩:=aG.1 L;cases u;obtain⟨o,ho⟩:=hxa y (bK c);rw[M];exact J y o (pD ho).1;obtain⟨q,c,_⟩:=fnd L;obtain⟨x,o,u,_⟩:=i l q c;exact⟨x,by rw[bA,u];rfl⟩;rw[D]at g;split at g;rw[M];exact J m q g;cases g
  obtain⟨ih1,ih2⟩:=Jj (P:=P) hc ht d;have hK:∀n d,ZQ (qW P ⟨gl,pe⟩ X.own X.top n d).ee:=λn d=>(sI d).1;have hKy:∀n d,Ky (qW P ⟨gl,pe⟩ X.own X.top n d).yd:=λn d=>(sI d).2;obtain⟨htop,r,A',⟨m,ev⟩,RR,m1,V2,μ2,x1,x2,x3,x4,x5⟩:=JK hc ih1 ih2 hK hKy hrs s1 hh gt;have ev2:∀n I,m+1<=n->m+1<=I->(qW P ⟨gl,pe⟩ X.own X.top n I).ee s.f b A=some (r,A'):=λn I hn hd'=>by
   obtain⟨I,rfl⟩:∃d0,I=d0+1:=⟨I-1,by omega⟩;simp only[qW];rw[aJ htop];exact ev n I (by omega) (by omega)
  have mono:=λ(R:Ht) (n I:Nat)=>RM (R:=R) (P:=P) (E:=⟨gl,pe⟩) (n:=n) (own:=X.own) (ok:=X.top) (hpm R) hpn hpx I;have e0:=ev2 (m+1) (m+1) (bB _) (bB _);obtain⟨B0,b1,b2⟩:=(mono R (m+1) (m+1)).1 _ _ _ _ _ _ cm e0;have keep:=(sI (P:=P) (E:=⟨gl,pe⟩) (n:=m+1) (own:=X.own) (ok:=X.top) (m+1)).1 _ _ _ _ _ e0;have L:=aP.1 h RR m1;simp only[aA]at L;obtain⟨l1,l2⟩:=L;have r1:V2.take 1=[0]:=by
   have:=x3.zero;cases V2 with
   |nil=>simp at this|cons v r=>simp at this;subst this;rfl
  have r2:μ2.take s.J.length=K.map some:=tC x2 (by simp[hxl]);have Q:=wW x3.cs x3.zero 1 s.J.length qZ _ _ _ l1 x5;rw[r1,r2]at Q;refine⟨r,B0,⟨m+1,λn I hn hd'=> ?_⟩,Q,λy q g=> ?_,?_,λj q g=> ?_,λy Z hlt=> ?_⟩;obtain⟨B,k1,k2⟩:=(mono R n I).1 _ _ _ _ _ _ cm (ev2 n I hn hd');rw[b2.eq,<-k2.eq];exact k1;rw[b2.any]at g;rw[b2.nx];cases hz:A'.any y with
  |some z=>exact x4.fin y z hz|none=>rw[hz]at g;exact(b2.jd y q g).2
  rw[b2.nx,<-M];exact keep.nx;obtain⟨x,o,c,u,_⟩:=i j q g;obtain⟨ys,f1,f2⟩:=WG _ _ l2 j q g;rw[cG]at f1;obtain⟨o',o1,o2,o3⟩:=x4.at f1 (x2 j _ (by rw[bA,c];rfl));refine⟨x,o',c,b2.get o1,o2,?_⟩;have:=AC (λa t x=>wW x3.cs x3.zero 1 s.J.length qZ a t x) f2 o3
  rwa [r1,r2]at this
  have hRy:R.get y=H.any y:=by rw[hRget,aH Z]
  rw[b2.any,hRy];cases hz:H.any y with
  |some q=>rw[(b2.jd y q (by rw[hRy,hz])).1];rfl
  |none=>
   have cy:rU (Ht.put (some ⟨0,0,[],none⟩) .nl y) A ⟨A.next,Ht.over A.J (Ht.put (some ⟨0,0,[],none⟩) .nl y)⟩:=⟨rfl,λl q g=>by
    rw[Ht.gw]at g;split at g;rename_i e;subst e;exact⟨by rw[D,aH Z],by rw[M];exact hlt⟩
    rw[Ht.ii]at g;cases g⟩
   obtain⟨By,_,k2⟩:=(mono _ (m+1) (m+1)).1 _ _ _ _ _ _ cy e0;rw[(k2.jd y _ (by rw[Ht.gw,aJ rfl])).1];rfl
  cases h
 cases h
noncomputable def PO(P:gD)(X:AX)(gz:List MS)(d:Nat)(c:tW):Bool:=
 match uO (.fm c.pre) 1 []with
 |⟨.fm a,n,e⟩=>match Mz P X (TK P X gz d).fn (TK P X gz d).yd c.f a ⟨[],[],n,0,e⟩with
  |some g=>g.all λR=>match kk R.hp qZ R.a with
   |some b=>GM R.cs 0 0 qZ b c.res|none=>false
  |none=>false
 |_ =>false
theorem Gq{i:gI}{k:Nat}(Z:Cn X gl (sR k i))(hk:qZ<=k){gz:List MS}(hs:∀s∈gz,HG (λn d=>(qW P ⟨gl,sR k i⟩ X.own X.top n d).ee) s){d:Nat}{c:tW}(h:PO P X gz d c=true){ts:gC}(W:pT [] [] c.pre ts):
  ∃r,lj P gl i X.own X.top k c.f ts r/\Gm [] [] c.res r:=by
 unfold PO at h;have h0:Sy [0] 1 []:=⟨rfl,rfl,λq hq=>by simp at hq,λv h=>by cases h⟩;have N:=rB (U:=[]) h0 (a:= .fm c.pre) (t:= .fm ts) (.fm _ _ (W.ext (V':=[0]) (λj v h=>by simp at h) (.refl _)).1 (W.ext (V':=[0]) (λj v h=>by simp at h) (.refl _)).2);split at h
 .rename_i a n cs hm;rw[hm]at N;obtain⟨M,e1,s1,K⟩:=N;cases K with
  |fm _ _ K g2=>
  split at h;rename_i rs y;have hh:GH [] 0 M [] ⟨0,.nl⟩:=⟨rfl,λl o h=>by simp[oV]at h,λl l' o o' x h=>by simp[oV]at h,λl x h=>by simp at h,λl e xs h=>by simp[oV]at h,λm o h=>by rw[vX]at h;cases h⟩;obtain⟨z,J⟩:=Jj (P:=P) Z hs d;have hK:∀n d,ZQ (qW P ⟨gl,sR k i⟩ X.own X.top n d).ee:=λn d=>(sI d).1;have D:∀n d,Ky (qW P ⟨gl,sR k i⟩ X.own X.top n d).yd:=λn d=>(sI d).2;obtain⟨u,r,H',⟨m,e2⟩,R,m1,V2,μ2,x1,x2,I,x4,x5⟩:=JK Z z J hK D y (V:=M) (U:=[]) (H:=⟨0,.nl⟩) (ts:=ts) s1 hh ⟨K,g2⟩;have L:=aP.1 h R m1;split at L;rename_i b hb;obtain⟨r',f1,f2⟩:=WV I.zero x4 qZ R.a b r hb x5 k hk;have Y:=wW I.cs I.zero 0 0 qZ _ _ _ L f2;rw[TE,TE]at Y;refine⟨r',⟨m+1,λQ w hn hd=> ?_⟩,Y⟩;unfold ir;have e3:(qW P ⟨gl,sR k i⟩ X.own X.top Q w).ee c.f ts ⟨0,.nl⟩=some (r,H'):=by
   obtain⟨w,rfl⟩:∃d0,w=d0+1:=⟨w-1,by omega⟩;simp only[qW];rw[aJ u];exact e2 Q w (by omega) (by omega)
  rw[e3];exact f1;cases L;cases h
 cases h
def Ar(P:gD)(gl:gG)(b:gI)(X:AX)(k:Nat)(c:tW):Prop:=HD (qT qZ) c.pre=true/\∀a,pT [] [] c.pre a->∃r,lj P gl b X.own X.top k c.f a r/\Gm [] [] c.res r
theorem aCn{o:gI}{k:Nat}(hk:qZ<=k){L:FuncId->List A->Nat->List pR->Option AV}(I:mU (sR k o) L){l:List tW}(hl:∀c∈l,Ar P gl o X k c):
  mU (sR k (LN P gl o X.own X.top k λf=>l.any λc=>Nat.beq c.f f)) (pY l L):=by
 intro f a n M v h V U H d q N;unfold pY at h;split at h;rename_i i;split at h;rename_i c K;have g:=eO K;have b:=List.find?_some (p:=λc:tW=>Nat.beq c.f f&&yW (GM M 0 0 qZ) a c.pre) K;simp only[aA]at b;obtain⟨b,w⟩:=b;have b:=oT b;subst b;obtain⟨Y,W⟩:=hl c g;cases h;have e:pT [] [] c.pre d:=by
  have:=AC (λa t x=>wW q.cs q.zero 0 0 qZ a t x) w N
  rwa [TE,TE]at this
 obtain⟨r,s,z⟩:=W d e;have y:qJ (pM k ⟨0,.nl⟩) d=some d:=yY _ λx Z=>by
  obtain⟨a,Q,D⟩:=yU e.1 e.2 Z;exact FK qZ a x (qM Y a Q) D k hk
 refine⟨r,?_,rB q (z.ext (λj v h=>by simp at h) (λj v h=>by simp at h))⟩;unfold sR;rw[y];exact Mt i s;cases h;rename_i u;obtain⟨r,s,z⟩:=I f a n M v h V U H d q N;refine⟨r,?_,z⟩;have J:∀d,LN P gl o X.own X.top k (λf=>l.any λc=>Nat.beq c.f f) f d=o f d:=λd=>by
  unfold LN;rw[aH u]
 unfold sR at s⊢;simp only[J];exact s
variable{k:Nat}{ga:Nat->Option A}{pa:FuncId->List A->Nat->List pR->Option AV}{pc:gI}{dom:hC}
theorem iu.ct(h:iu P gl k ga pa pc dom)(i:P.follows .mixedOrders=true)(s:wO gl)(u:qZ<=k){X:AX}{tl:gU}(g:X.top=λf=>sA f tl)(a:tl.all (λf=>uQ P f&&zN P f)=true){l:List tW}(o:∀c∈l,Ar P gl pc X k c):
  iu P gl k ga (pY l pa) (LN P gl pc X.own X.top k λf=>l.any λc=>Nat.beq c.f f) (λf=>(l.any λc=>Nat.beq c.f f)||dom f):=by
 refine⟨h.gA,aCn u h.pA o,aPw i s h.hx h.pc (λf d=>bIz a f (by rw[g]at d;exact d)),λf j b=> ?_,h.hx⟩;simp only[fI]at b;unfold LN;rw[aH (λq=>by have e:(l.any λc=>Nat.beq c.f f)=true:=q;rw[b.1]at e;cases e)];exact h.dm f j b.2
theorem iu.fi(h:iu P gl k ga pa pc dom){X:AX}(o:X.gl=ga)(j:X.pe=pa){il tl:gU}(i:X.inl=λf=>sA f il)(w:il.all (λf=> !dom f)=true)(y:X.top=λf=>sA f tl)(L:tl.all (λf=> !dom f)=true)
  {gz:List MS} (I:∀s∈gz,HG (λn d=>(qW P ⟨gl,sR k pc⟩ X.own X.top n d).ee) s) {d:Nat} {s:MS} (D:sB P X gz d s=true) (K:dom 123=false) (J:dom 79=false) (x:dom 130=false:=by first|rfl|assumption) (M:qZ<=k:=by first|assumption|decide):HG (λn d=>(qW P ⟨gl,sR k pc⟩ X.own X.top n d).ee) s:=by
 refine bAr (h.cn o j i w) (λR A B f a r c e=>Dd c e) (λf u B a=> ?_) (λf a A v g B z=> ?_) I D
 rotate_left 1
 have q:dom f=false:=by
  unfold MR at g;by_cases o:f=123;subst o;exact K;rw[aH o]at g;by_cases j:f=79;subst j;exact J;rw[aH j]at g;by_cases i:f=130;subst i;exact x;rw[aH i]at g;cases g
 have b:∀a,pc f a=none:=λa=>h.dm f a q;unfold sR;split;exact b _;split;simp only[b];rfl;rw[y]at u;have q:=IQ L f u;have b:∀a,pc f a=none:=λa=>h.dm f a (by simpa using q);unfold sR;split;exact b _;split;simp only[b];rfl
end
theorem aDo{ee:gQ}{s:MS}
  (h:∀(b:gC) (U:gE),pT [0] U s.pre b->∃a:MS,HG ee a/\a.f=s.f/\a.J=s.J/\pT [0] U a.pre b/\∀r,Gm [0] U a.res r->Gm [0] U s.res r):HG ee s:=by
 intro H b x u o j d g;obtain⟨a,k1,k2,k3,e,k5⟩:=h b _ d;obtain⟨r,H',c,v,q⟩:=k1 H b x u (by rw[k3];exact o) j e (by rw[k3];exact g);rw[k2]at c;rw[k3]at q;exact⟨r,H',c,k5 r v,q⟩
section
variable{P:gD}{gl:gG}{k:Nat}
open Classical in
noncomputable def kG(P:gD)(gl:gG)(f0:gX)(Q:List T->T->Prop)(b:gI):FuncId->List T->Option T:=λf a=>
 if Nat.beq f0 f=true then(if h:∃r,fj P gl f a r/\Q a r then some (Classical.choose h)else none)else b f a
variable{ga:Nat->Option A}{pa:FuncId->List A->Nat->List pR->Option AV}{pe:gI}{dom:hC}
theorem iu.cu(h:iu P gl k ga pa pe dom){f0:gX}{Q:List T->T->Prop}{pq:List A->Nat->List pR->Option AV}
  (W:∀c n d v,pq c n d=some v->∀V U b,Sy V n d->pT V U c b->qJ (pM k ⟨0,.nl⟩) b=some b/\(∃r,fj P gl f0 b r/\Q b r)/\∀r,Q b r->im V U v r):
  iu P gl k ga (λf c n d=>if Nat.beq f0 f then pq c n d else pa f c n d) (kG P gl f0 Q pe) (λf=>Nat.beq f0 f||dom f):=by
 refine⟨h.gA,?_,?_,λf b D=> ?_,h.hx⟩;intro f a n d v u V U H b I s;have i:(if Nat.beq f0 f=true then pq a n d else pa f a n d)=some v:=u;by_cases o:Nat.beq f0 f=true;rw[aJ o]at i;have e:=oT o;subst e;obtain⟨L,x,K⟩:=W a n d v i V U b I s;refine⟨Classical.choose x,?_,K _ (cO x).2⟩;unfold sR;rw[L];show kG P gl f0 Q pe f0 b=_;unfold kG;rw[aJ o,dif_pos x];rw[aH o]at i;obtain⟨r,J,M⟩:=h.pA f a n d v i V U H b I s;refine⟨r,?_,M⟩;have y:∀b,kG P gl f0 Q pe f b=pe f b:=λb=>by unfold kG;rw[aH o]
 unfold sR at J⊢;simp only[y];exact J;intro f b r j;unfold kG at j;split at j;split at j;rename_i Y;cases j;have q:=(cO Y).1;exact⟨q.1,λg N s w z u=>q.2 g N s ⟨0,λl _ =>w l⟩ z u⟩;cases j;exact h.pc f b r j;simp only[fI]at D;unfold kG;rw[aH (λq=>by rw[D.1]at q;cases q)];exact h.dm f b D.2
abbrev DI:=AX×List Nat×List tW
def CB:List DI->List tW
 |[]=>[]|[g]=>g.2.2|g::r=>g.2.2++CB r
noncomputable def yD(P:gD)(a:List DI):Bool:=a.all λg=>g.2.2.all λc=>PO P g.1 [] 8 c
noncomputable def aGk(d:hC)(a:List DI):Bool:=a.all λg=>g.2.1.all (λf=> !d f)&&g.2.2.all λc=>HD (qT qZ) c.pre
def bGy:List DI->FuncId->Nat->Bool
 |[]=>λ_ _ =>false|g::_ =>g.1.own
def bIy:List DI->FuncId->Bool
 |[]=>λ_ =>false|g::_ =>g.1.top
def mW(ga:Nat->Option A)(a:FuncId->List A->Nat->List pR->Option AV)(X:AX):List DI->Prop
 |[]=>True|g::r=>(g.1.gl=ga/\g.1.pe=a/\(g.1.inl=λf=>sA f g.2.1)/\g.1.own=X.own/\g.1.top=X.top)/\mW ga a X r
theorem r5{J V M K W:Type}{a:J}{b:V}{c:M}{d:K}{e:W}:a=a/\b=b/\c=c/\d=d/\e=e:=⟨rfl,rfl,rfl,rfl,rfl⟩
theorem bCz(h:iu P gl k ga pa pe dom)(y:qZ<=k){X:AX}:∀{d:List DI},mW ga pa X d->aGk dom d=true->yD P d=true->∀c∈CB d,Ar P gl pe X k c:=by
 have one:∀g:DI,(g.1.gl=ga/\g.1.pe=pa/\(g.1.inl=λf=>sA f g.2.1)/\g.1.own=X.own/\g.1.top=X.top)->(g.2.1.all (λf=> !dom f)&&g.2.2.all λc=>HD (qT qZ) c.pre)=true->(g.2.2.all λc=>PO P g.1 [] 8 c)=true->∀c∈g.2.2,Ar P gl pe X k c:=by
  intro g ⟨i,j,h3,h4,h5⟩ a e c b;simp only[aA]at a;refine⟨aP.1 a.2 c b,λz u=> ?_⟩;obtain⟨r,o,v⟩:=Gq (h.cn (X:=g.1) i j (l:=g.2.1) h3 a.1) y (gz:=[]) (by simp) (aP.1 e c b) u;rw[h4,h5]at o;exact⟨r,o,v⟩
 intro d
 induction d with
 |nil=>intro _ _ _ c b;cases b
 |cons g r s=>
  intro q a e c b;unfold aGk at a;unfold yD at e;simp only[List.all_cons,aA]at a e;have i:=one g q.1 (by simp only[aA];exact a.1) e.1;have j:=s q.2 a.2 e.2;cases r with
  |nil=>exact i c b
  |cons x w=>
   rcases bZ.1 (show c∈g.2.2++CB (x::w)from b)with h|h;exact i c h;exact j c h
theorem iu.go(h:iu P gl k ga pa pe dom)(s:P.follows .mixedOrders=true)(u:wO gl)(e:qZ<=k){g:DI}{a:List DI}(d:gU)(i:g.1.top=λf=>sA f d)(b:d.all (λf=>uQ P f&&zN P f)=true)
  (q:mW ga pa g.1 (g::a)) (o:aGk dom (g::a)=true) (j:yD P (g::a)=true):
  iu P gl k ga (pY (CB (g::a)) pa) (LN P gl pe (bGy (g::a)) (bIy (g::a)) k λf=>(CB (g::a)).any λc=>Nat.beq c.f f) (λf=>((CB (g::a)).any λc=>Nat.beq c.f f)||dom f):=
 h.ct s u e (X:=g.1) i b (bCz h e q o j)
end
structure Oq where
 nq:Nat:=0
 cs:List pR:=[]
 res:A
 J:List (List A)
structure tJ where
 f:FuncId
 np:Nat
 ji:List pR
 pre:List A
 J:List (TypeId×List A)
 outs:List Oq
def EU:List (TypeId×List A)->List (List A)->List (TypeId×List A×List A)
 |(e,a)::r,c::b=>(e,a,c)::EU r b|_,_ =>[]
def aUm(H:Hp)(b:gU)(V:gN)(a:List (TypeId×List A×List A))(w:TypeId×List A×List A->List A):Prop:=
 ∀(j:Nat) (q:TypeId×List A×List A),a[j]? =some q->∃x o,b[j]? =some x/\H.get x=some o/\(o.elem=q.1/\o.sz=0)/\pT V (b.map some) (w q) o.cells
def tJ.bn(s:tJ):List (TypeId×List A×List A):=s.J.map λq=>(q.1,q.2,[])
def UY(ee:gQ)(s:tJ)(v:gN):Prop:=
 v.length=s.np->oZ (0::v) s.ji->∀(H:Hp) (b:gC) (x:gU),Fin H->x.length=s.J.length->x.Nodup->pT (0::v) (x.map some) s.pre b->aUm H x (0::v) s.bn (·.2.1)->
  ∃r H',Ev (λn d=>ee n d s.f b H=some (r,H'))/\Fin H'/\H.next<=H'.next/\(∀y,y∉x->y<H.next->H'.any y=H.any y)/\
   ∃o∈s.outs,∃w:List Int,w.length=o.nq/\oZ (0::v++w) o.cs/\Gm (0::v++w) (x.map some) o.res r/\aUm H' x (0::v++w) (EU s.J o.J) (·.2.2)
def nT:Nat->A->A->List (Nat×Nat×Int)->List (Nat×Nat×Int)
 |0,_,_,r=>r
 |k+1,p,a,r=>match p,a with
  | .int _ s c,.int _ s' c'=>(s,s',c'-c)::r| .str s c,.str s' c'=>(s,s',c'-c)::r| .str s c,.gh l=>(s,0,l.length-c)::r| .sl _ s c,.sl _ s' c'=>(s,s',c'-c)::r| .g7 _ _ s c,.g7 _ _ s' c'=>(s,s',c'-c)::r| .agg ps,.agg a_s=>mX k ps a_s r| .fm ps,.fm a_s=>mX k ps a_s r|_,_ =>r
 where
 mX (k:Nat):List A->List A->List (Nat×Nat×Int)->List (Nat×Nat×Int)
  |p::ps,a::a_s,r=>nT k p a (mX k ps a_s r)|_,_,r=>r
def nU(k:Nat)(h:gP):List Nat->List (List A)->List (Nat×Nat×Int)->List (Nat×Nat×Int)
 |l::a,c::b,r=>(match oV h l with
  |some (.fix _ x)=>nT.mX k c x (nU k h a b r)|_ =>nU k h a b r)
 |_,_,r=>r
def sj(s:Nat):List (Nat×Nat×Int)->Option (Nat×Int)
 |[]=>none|(a,v)::r=>if Nat.beq s a then some v else sj s r
def mY(r:List (Nat×Nat×Int))(k:Nat):Nat->Option (List (Nat×Int))
 |0=>some []
 |n+1=>match sj k r with
  |some v=>(mY r (k+1) n).map (v:: ·)|none=>none
def Ly(O:iI):pR->pR
 | .le x y c=> .le (uH O x).1 (uH O y).1 (c+(uH O y).2-(uH O x).2)| .ne x y c=> .ne (uH O x).1 (uH O y).1 (c+(uH O y).2-(uH O x).2)| .ev x y c=> .ev (uH O x).1 (uH O y).1 (c+(uH O y).2-(uH O x).2)| .sm x y z c=> .sm (uH O x).1 (uH O y).1 (uH O z).1 (c+(uH O z).2-(uH O x).2-(uH O y).2)
def nV(a:List pR):pR->Bool
 | .le x y c=>leq a x 0 y c|_ =>false
def aZp(s:tJ)(o:Oq):Bool:=zJ s.J.length (s.np+1+o.nq) qZ o.res&&((o.J.all λc=>HD (zJ s.J.length (s.np+1+o.nq) qZ) c)&&(Nat.beq o.J.length s.J.length&&vJ (s.np+1+o.nq) o.cs))
def tJ.ok(s:tJ):Bool:=HD (zJ s.J.length (s.np+1) qZ) s.pre&&((s.J.all λq=>HD (zJ s.J.length (s.np+1) qZ) q.2)&&(vJ (s.np+1) s.ji&&s.outs.all (aZp s)))
def bAo(s:tJ)(a:List A)(S:AS):Option (List Nat):=
 match Vh s.pre a s.J.length 0 with
 |some Z=>some Z
 |none=>match OT 0 s.pre a,s.J with
  |some l,(_,c)::_ =>(match oV S.hp l with
   |some (.fix _ x)=>Vh (s.pre++c) (a++x) s.J.length 0|_ =>none)
  |_,_ =>none
def Jz(f:gX)(a:List A)(S:AS)(s:tJ):Option (List Nat×List (Nat×Int)):=
 if Nat.beq s.f f&&s.ok then
  match bAo s a S with
  |some Z=>match mY (nT.mX qZ s.pre a (nU qZ S.hp Z (s.J.map Prod.snd) [])) 1 s.np with
   |some O=>if(O.all λq=>Nat.blt q.1 S.nx)&&(yW (GM S.cs S.nx S.nl qZ) a (s.pre.map (uV Z ((0,0)::O) qZ))&&(JV S Z ((0,0)::O) S.nx Z s.bn&&s.ji.all λq=>nV S.cs (Ly ((0,0)::O) q)))then some (Z,O)else none
   |none=>none
  |none=>none
 else none
def aZt(S:AS)(s:tJ)(Z:gU)(O:iI)(o:Oq):Option (Option AR):=
 let θ':=(0,0)::O++(List.range o.nq).map λi=>(S.nx+i,0)
 match yO S.cs (o.cs.map (Ly θ'))with
 |none=>some none
 |some c=>match uO (.fm (uV Z θ' qZ o.res::(EU s.J o.J).flatMap λq=>q.2.2.map (uV Z θ' qZ))) (S.nx+o.nq) c with
  |⟨.fm (a::y),n,c⟩=>some (some ⟨a,KF S.hp Z (EU s.J o.J) y,n,S.nl,c⟩)|_ =>none
def Pg(S:AS)(s:tJ)(Z:gU)(O:iI):List Oq->Option (List AR)
 |[]=>some []
 |o::r=>match aZt S s Z O o with
  |some q=>(Pg S s Z O r).map λl=>match q with
   |some R=>R::l|none=>l
  |none=>none
def sn(c:List pR)(rk:Nat)(O:iI):Option Nat->Bool
 |none=>true
 |some r=>match O with
  |q::_ =>leq c q.1 q.2 1 (-1)||(Nat.blt r rk&&leq c q.1 q.2 1 0)|[]=>false
def Vm(rk:Nat)(f:gX)(a:List A)(S:AS):List (tJ×Option Nat)->Option (List AR)
 |[]=>none
 |(s,g)::r=>match Jz f a S s with
  |some (Z,O)=>if sn S.cs rk O g then Pg S s Z O s.outs else Vm rk f a S r
  |none=>Vm rk f a S r
noncomputable def TJ(P:gD)(Y:AX)(gz:List (tJ×Option Nat))(rk:Nat):Nat->bCv
 |0=>⟨λf a S=>Vm rk f a S gz,λ_ _ _ =>none⟩|d+1=>⟨λf a S=>if(gz.any λs=>Nat.beq s.1.f f)then Vm rk f a S gz else if sA f [123,79]then(if Y.top f then none else nS f a S)else Mz P Y (TJ P Y gz rk d).fn (TJ P Y gz rk d).yd f a S,aSr P Y (TJ P Y gz rk d).fn (TJ P Y gz rk d).yd⟩
def aPq(k:Nat)(R:AR)(O:iI)(Z:gU):List (TypeId×List A×List A)->Nat->Bool
 |[],_ =>true
 |(e,_,c)::r,j=>(match oV R.hp j with
  |some (.fix a y)=>Nat.beq a e&&yW (GM R.cs R.nx k qZ) y (c.map (uV Z O qZ))|_ =>false)&&aPq k R O Z r (j+1)
def bEm(s:tJ)(R:AR)(o:Oq):Bool:=
 match mY (nT qZ o.res R.a (nU qZ R.hp (List.range s.J.length) o.J [])) (s.np+1) o.nq with
 | some O=>(O.all λq=>Nat.blt q.1 R.nx)&&(GM R.cs R.nx s.J.length qZ R.a (uV (List.range s.J.length) ((List.range (s.np+1)).map (λi=>(i,0))++O) qZ o.res)&&
   (aPq s.J.length R ((List.range (s.np+1)).map (λi=>(i,0))++O) (List.range s.J.length) (EU s.J o.J) 0&&o.cs.all λq=>nV R.cs (Ly ((List.range (s.np+1)).map (λi=>(i,0))++O) q)))
 |none=>false
def Vp(R:AR):List AR:=
 match R.a with
 | .bool (.imp p n)=>(AZ R.cs (.imp p n)).map λq=>{R with a:= .bool (.lit q.1),cs:=q.2}
 | .fm [x,.bool (.imp p n)]=>(AZ R.cs (.imp p n)).map λq=>{R with a:= .fm [x,.bool (.lit q.1)],cs:=q.2}
 |_ =>[R]
noncomputable def qS(P:gD)(X:AX)(gz:List (tJ×Option Nat))(rk d:Nat)(s:tJ):Bool:=
 s.ok&&(s.ji.any (λq=>match q with| .le x y c=>Nat.beq x 0&&(Nat.beq y 1&&sQ c 0)|_ =>false)&&
 match uO (.fm (s.pre++s.bn.flatMap (·.2.1))) (s.np+1) s.ji with
 |⟨.fm a,n,b⟩=>match Mz P X (TJ P X gz rk d).fn (TJ P X gz rk d).yd s.f (a.take s.pre.length) ⟨[],KX s.bn 0 (a.drop s.pre.length),n,s.J.length,b⟩with
  |some e=>e.all λR=>(Vp R).all λR=>s.outs.any (bEm s R)|none=>false
 |_ =>false)
section
variable[jm]
variable{V V' Vs:gN}{U μ':gE}{S:AS}{H H':Hp}{P:gD}{O:iI}{p:Nat}
theorem aPd(j:GJ O p Vs V){J:List pR}(e:vJ p J=true)(h:∀q∈J,UT V (Ly O q)):oZ Vs J:=by
 induction J with
 |nil=>exact .nil
 |cons q r M=>
  have D:=h q (by simp);have i:=λY=>M Y λq D=>h q (by simp[D]);cases q with
  |le x y c=>
   simp only[vJ,aA]at e;obtain⟨v,w,s,u,L⟩:=j x (pC e.1);obtain⟨o,K,f1,f2,f3⟩:=j y (pC e.2.1);obtain⟨a,b,g,f,I⟩:=D;rw[u]at g;rw[f2]at f;cases g;cases f;exact .cons ⟨v,o,s,f1,by omega⟩ (i e.2.2)
  |ne x y c=>
   simp only[vJ,aA]at e;obtain⟨v,w,s,u,L⟩:=j x (pC e.1);obtain⟨o,K,f1,f2,f3⟩:=j y (pC e.2.1);obtain⟨a,b,g,f,I⟩:=D;rw[u]at g;rw[f2]at f;cases g;cases f;exact .cons ⟨v,o,s,f1,by omega⟩ (i e.2.2)
  |ev x y c=>
   simp only[vJ,aA]at e;obtain⟨v,w,s,u,L⟩:=j x (pC e.1);obtain⟨o,K,f1,f2,f3⟩:=j y (pC e.2.1);obtain⟨a,b,g,f,I⟩:=D;rw[u]at g;rw[f2]at f;cases g;cases f;exact .cons ⟨v,o,s,f1,by omega⟩ (i e.2.2)
  |sm x y z c=>
   simp only[vJ,aA]at e;obtain⟨v,w,s,u,L⟩:=j x (pC e.1);obtain⟨o,K,f1,f2,f3⟩:=j y (pC e.2.1);obtain⟨N,w2,Q,W,g3⟩:=j z (pC e.2.2.1);obtain⟨a,b,g,f,d,I,Z⟩:=D;rw[u]at g;rw[f2]at f;rw[W]at I;cases g;cases f;cases I;exact .cons ⟨v,o,s,f1,N,Q,by omega⟩ (i e.2.2.2)
theorem aPe(j:GJ O p Vs V){J:List pR}(e:vJ p J=true)(h:oZ Vs J):oZ V (J.map (Ly O)):=by
 induction J with
 |nil=>exact .nil
 |cons q r M=>
  have D:=h q (by simp);have i:=λY=>M Y λq D=>h q (by simp[D]);cases q with
  |le x y c=>
   simp only[vJ,aA]at e;obtain⟨v,w,o,u,L⟩:=j x (pC e.1);obtain⟨K,s,f1,f2,f3⟩:=j y (pC e.2.1);obtain⟨a,b,g,f,I⟩:=D;rw[o]at g;rw[f1]at f;cases g;cases f;exact .cons ⟨w,s,u,f2,by omega⟩ (i e.2.2)
  |ne x y c=>
   simp only[vJ,aA]at e;obtain⟨v,w,o,u,L⟩:=j x (pC e.1);obtain⟨K,s,f1,f2,f3⟩:=j y (pC e.2.1);obtain⟨a,b,g,f,I⟩:=D;rw[o]at g;rw[f1]at f;cases g;cases f;exact .cons ⟨w,s,u,f2,by omega⟩ (i e.2.2)
  |ev x y c=>
   simp only[vJ,aA]at e;obtain⟨v,w,o,u,L⟩:=j x (pC e.1);obtain⟨K,s,f1,f2,f3⟩:=j y (pC e.2.1);obtain⟨a,b,g,f,I⟩:=D;rw[o]at g;rw[f1]at f;cases g;cases f;exact .cons ⟨w,s,u,f2,by omega⟩ (i e.2.2)
  |sm x y z c=>
   simp only[vJ,aA]at e;obtain⟨v,w,o,u,L⟩:=j x (pC e.1);obtain⟨K,s,f1,f2,f3⟩:=j y (pC e.2.1);obtain⟨v2,N,Q,W,g3⟩:=j z (pC e.2.2.1);obtain⟨a,b,g,f,d,I,Z⟩:=D;rw[o]at g;rw[f1]at f;rw[Q]at I;cases g;cases f;cases I;exact .cons ⟨w,s,u,f2,N,W,by omega⟩ (i e.2.2.2)
theorem Yt(e:GJ O p Vs V){d:List pR}(D:oZ V d){f:List pR}(b:vJ p f=true)(h:f.all (λq=>nV d (Ly O q))=true):oZ Vs f:=by
 have h:=aP.1 h;have g:∀{l:List pR},vJ p l=true->∀q∈l,(∃x y c,q= .le x y c/\x<p/\y<p)\/nV d (Ly O q)=false:=by
  intro l
  induction l with
  |nil=>intro _ q hq;simp at hq
  |cons a r i=>
   intro b q hq;cases a<;>simp only[vJ,aA]at b<;>rcases aY.1 hq with rfl|hq
   exact .inl ⟨_,_,_,rfl,pC b.1,pC b.2.1⟩;exact i b.2.2 q hq;exact .inr rfl;exact i b.2.2 q hq;exact .inr rfl;exact i b.2.2 q hq;exact .inr rfl;exact i b.2.2.2 q hq
 refine aPd e b λq hq=> ?_;rcases g b q hq with⟨x,y,c,rfl,u,o⟩|hf
 have z:=h _ hq;obtain⟨v,w,J,j,K⟩:=e x u;obtain⟨I,s,f1,f2,f3⟩:=e y o;have:=oX D z j f2;exact⟨w,s,j,f2,by omega⟩;rw[h q hq]at hf;cases hf
theorem aDq{R:AR}{r:T}(h:Sy V R.nx R.cs)(j:GH R.hp R.nl V U H)(e:Gm V U R.a r):∃d∈Vp R,Sy V d.nx d.cs/\GH d.hp d.nl V U H/\Gm V U d.a r:=by
 unfold Vp;split;rename_i p n f;rw[f]at e;cases e with
 |bool _ b i=>
  obtain⟨c,o,g⟩:=yL h.zero h.cs i;exact⟨_,bS.2 ⟨(b,c),o,rfl⟩,⟨h.len,h.zero,g,h.one⟩,j,.bool _ _ rfl⟩
 rename_i x p n f;rw[f]at e;cases e with
 |fm _ w s q=>
  obtain⟨y,z,rfl,u,v⟩:=pT.two ⟨s,q⟩;cases v with
  |bool _ b i=>
   obtain⟨c,o,g⟩:=yL h.zero h.cs i;refine⟨_,bS.2 ⟨(b,c),o,rfl⟩,⟨h.len,h.zero,g,h.one⟩,j,?_⟩;have:=pT.cons u (pT.cons (show Gm V U (.bool (.lit b)) (.bool b)from .bool _ _ rfl) .nil);exact .fm _ _ this.1 this.2
 exact⟨R,bR.2 rfl,h,j,e⟩
theorem bIp(h:O.all (λq=>Nat.blt q.1 V.length)=true)(c:V[0]? =some 0):GJ ((0,0)::O) (O.length+1) (0::O.map λq=>V.getD q.1 0+q.2) V:=by
 intro s a;cases s with
 |zero=>exact⟨0,0,rfl,c,rfl⟩
 |succ s=>
  have a:s<O.length:=by omega
  have b:=pC (aP.1 h _ (cC a));have e:uH ((0,0)::O) (s+1)=O[s]:=by simp[uH,bC,aB a]
  refine⟨V[O[s].1]+O[s].2,V[O[s].1],?_,by rw[e];exact aB b,by rw[e]⟩;simp[aB a,bC,aB b]
theorem Kh{r:List (Nat×Nat×Int)}:∀{n k:Nat} {O:iI},mY r k n=some O->O.length=n
 |0,k,O,h=>by cases h;rfl
 |n+1,k,O,h=>by
  unfold mY at h;split at h;obtain⟨l,a,rfl⟩:=aG.1 h;simp[Kh a];cases h
theorem bAw{ws:gN}{n:Nat}(d:GJ O p Vs V)(g:O.length=p)(a:Vs.length=p)(o:V.length=n):GJ (O++(List.range ws.length).map λi=>(n+i,0)) (p+ws.length) (Vs++ws) (V++ws):=by
 intro s q;by_cases h:s<p;obtain⟨v,w,f,c,j⟩:=d s h;have e:uH (O++(List.range ws.length).map λi=>(n+i,0)) s=uH O s:=by
  unfold uH;rw[bC,bC,dI (by omega)]
 rw[e];exact⟨v,w,rX.app _ _ _ _ f,rX.app _ _ _ _ c,j⟩;obtain⟨i,rfl⟩:∃i,s=p+i:=⟨s-p,by omega⟩;have b:i<ws.length:=by omega
 have e:uH (O++(List.range ws.length).map λi=>(n+i,0)) (p+i)=(n+i,0):=by
  unfold uH;rw[bC,cU (by omega)];simp[g,b]
 rw[e];refine⟨ws[i],ws[i],?_,?_,by simp⟩;rw[cU (by omega)];simp[a,b];rw[cU (by omega)];simp[o,b]
theorem Dp{s:tJ}{Z:gU}:∀{l:List Oq} {a:jS},Pg S s Z O l=some a->∀o∈l,∃q,aZt S s Z O o=some q/\∀R,q=some R->R∈a
 |[],a,_,o,ho=>by simp at ho
 |o0::l,a,h,o,ho=>by
  unfold Pg at h;split at h;rename_i q f;obtain⟨i,d,rfl⟩:=aG.1 h;rcases aY.1 ho with rfl|ho
  refine⟨q,f,λR e=> ?_⟩;subst e;simp;obtain⟨g,c,b⟩:=Dp d o ho;refine⟨g,c,λR e=> ?_⟩;have:=b R e;cases q<;>simp[this];cases h
theorem Qv{l:List (TypeId×List A)}:∀{m:List (List A)},l.length=m.length->(EU l m).length=l.length:=by
 induction l with
 |nil=>intro m _;cases m<;>rfl
 |cons a l i=>
  intro m h;cases m with
  |nil=>simp at h|cons c m=>simp[EU,i (by simpa using h)]
theorem Qw{l:List (TypeId×List A)}:∀{m:List (List A)} {q:TypeId×List A×List A},q∈EU l m->q.2.2∈m:=by
 induction l with
 |nil=>intro m q h;simp[EU]at h
 |cons a l i=>
  intro m q h;cases m with
  |nil=>simp[EU]at h
  |cons c m=>
   rcases aY.1 h with rfl|h;simp;exact aC _ (i h)
theorem aTa{s:tJ}{a:List A}{S:AS}{Z:gU}(h:bAo s a S=some Z):Z.length=s.J.length/\Z.Nodup:=by
 unfold bAo at h;split at h;rename_i σ' c;cases h;obtain⟨q,b,_⟩:=UL _ _ _ c;exact⟨q,b⟩;split at h;split at h;obtain⟨q,b,_⟩:=UL _ _ _ h;exact⟨q,b⟩;cases h;cases h
theorem aDl{ee:gQ}{s:tJ}{f:gX}{args:List A}{Z:gU}(h:Jz f args S s=some (Z,O)){rs:jS}(hr:Pg S s Z O s.outs=some rs){ts:gC}(K:Sy V S.nx S.cs)(hh:GH S.hp S.nl V U H)(W:pT V U args ts)
  (ht:UY ee s (O.map λq=>V.getD q.1 0+q.2)):∃r H',Ev (λn d=>ee n d f ts H=some (r,H'))/\∃R∈rs,ip V U R r H':=by
 unfold Jz at h;split at h
 .rename_i hc;simp only[aA]at hc;obtain⟨c1,cok⟩:=hc;have c1:=oT c1;subst c1;split at h
  .rename_i σ' hsig;split at h
   .rename_i θ' hth;split at h
    .rename_i hc;cases h;simp only[aA]at hc;obtain⟨d1,d2,d3,d4⟩:=hc;simp only[tJ.ok,aA,aP]at cok;obtain⟨k1,k2,k3,k4⟩:=cok;obtain⟨s1,s2⟩:=aTa hsig;have L:=Kh hth;have Y:GJ ((0,0)::O) (s.np+1) (0::O.map λq=>V.getD q.1 0+q.2) V:=by
      have:=bIp (O:=O) (by rw[K.len];exact d1) K.zero
      rwa [L]at this
     generalize hvs:(O.map λq=>V.getD q.1 0+q.2)=vs at Y ht;have hvl:vs.length=s.np:=by rw[<-hvs];simp[L]
     have hbl:s.bn.length=s.J.length:=by simp[tJ.bn]
     have I:∀j,j<s.J.length->∃l x,Z[j]? =some l/\U[l]? =some (some x):=λj z=>by
      have D:=aB (l:=Z) (i:=j) (by omega);obtain⟨ys,k1,_⟩:=zX _ _ d3 j _ _ D (aB (by omega));obtain⟨x,hx⟩:=hh.aN _ _ _ k1;exact⟨_,x,D,hx⟩
     let c:List Nat:=Z.map λl=>match U[l]? with
      |some (some x)=>x|_ =>0
     have hxl:c.length=s.J.length:=by simp[c,s1]
     have hxs:∀(j l x:Nat),Z[j]? =some l->c[j]? =some x->U[l]? =some (some x):=λj l x D h2=>by
      have z:j<s.J.length:=by rw[<-s1];exact(aQ.1 D).1
      obtain⟨l',x',g,N⟩:=I j z;rw[D]at g;cases g;simp only[c,bA,D,cK,N,aI]at h2;subst h2;exact N
     have hren:Bg Z s.J.length (c.map some) U:=λj z=>by
      obtain⟨l,x,g,N⟩:=I j z;refine⟨l,x,g,?_,N⟩;simp only[c,List.map_map,bA,g,cK,Function.comp,N]
     have hin:∀l∈Z,∃q,oV S.hp l=some q:=λl hl=>by
      obtain⟨j,z,rfl⟩:=bX hl;have u:j<s.bn.length:=by omega
      obtain⟨ys,k1,_⟩:=zX _ _ d3 j _ _ (aB z) (aB u);exact⟨_,k1⟩
     have hnd:c.Nodup:=by
      refine XV λi j hij z e=> ?_;have hi:i<c.length:=by omega
      have ei:=aB hi;have ej:=aB z;have hi':i<Z.length:=by omega
      have u:j<Z.length:=by omega
      have g:=hxs i _ _ (aB hi') ei;have N:=hxs j _ _ (aB u) ej;obtain⟨q,M⟩:=hin _ (cC hi');obtain⟨q',hq'⟩:=hin _ (cC u);rw[ei,ej]at e;have e:=bV e;rw[e]at g;have:=hh.inj _ _ _ _ _ M hq' g N;exact CF s2 i j hij u (by rw[aB hi',aB u,this])
     have tk:∀{a:A} {t:T},Gm (V.take S.nx) (U.take S.nl) a t->Gm V U a t:=λh=>h.ext (λj v e=>by
      rw[bJ]at e;split at e;exact e
      cases e) (λj v e=>by
      rw[bJ]at e;split at e;exact e
      cases e)
     have back:∀{a_s ps:List A} {J:gC},yW (GM S.cs S.nx S.nl qZ) a_s (ps.map (uV Z ((0,0)::O) qZ))=true->HD (zJ s.J.length (s.np+1) qZ) ps=true->pT V U a_s J->pT (0::vs) (c.map some) ps J:=λ{a_s ps J} hle hok W=>by
      have D:=AC (λa t x=>wW K.cs K.zero S.nx S.nl qZ a t x) hle W;exact KJ (λa ha t W=>YT hren Y qZ a (qM hok a ha) t (tk W)) D
     obtain⟨r,H',q1,q3,q4,q6,o,ho,y,w1,w2,w3,w4⟩:=ht hvl (Yt Y K.cs k3 d4) H ts c hh.fin hxl hnd (back d2 k1 W) (λj q M=>by
      have z:j<s.J.length:=by rw[<-hbl];exact(aQ.1 M).1
      obtain⟨l,x,g,N⟩:=I j z;obtain⟨ys,f1,f2⟩:=zX _ _ d3 j l q g M;have ex:c[j]? =some x:=by simp only[c,bA,g,cK,N]
      obtain⟨b,b1,b2,b3⟩:=hh.at f1 N;refine⟨x,b,ex,b1,b2,back f2 ?_ b3⟩;obtain⟨q0,hq0,rfl⟩:=bS.1 (bK M)
      exact k2 q0 hq0)
     refine⟨r,H',q1,?_⟩;have hoq:=k4 o ho;simp only[aZp,aA,aP]at hoq;obtain⟨z1,z2,z3,z4⟩:=hoq;have z3:=oT z3;have hsy':GJ ((0,0)::O++(List.range o.nq).map λi=>(S.nx+i,0)) (s.np+1+o.nq) (0::vs++y) (V++y):=by
      have:=bAw (ws:=y) (n:=S.nx) Y (by simp[L]) (by simp[hvl]) K.len
      rwa [w1]at this
     have hren':Bg Z s.J.length (c.map some) U:=hren;have fwd:∀{a:A} {t:T},zJ s.J.length (s.np+1+o.nq) qZ a=true->Gm (0::vs++y) (c.map some) a t->Gm (V++y) U (uV Z ((0,0)::O++(List.range o.nq).map λi=>(S.nx+i,0)) qZ a) t:=λha W=>Ux hren' hsy' qZ _ ha _ W;obtain⟨Q,hQ,hQ2⟩:=Dp hr o ho;unfold aZt at hQ;simp only at hQ;obtain⟨cs',a1,a2⟩:=xI (V:=V++y) (rX.app _ _ _ _ K.zero) (o.cs.map (Ly ((0,0)::O++(List.range o.nq).map λi=>(S.nx+i,0)))) S.cs (K.cs.ext (.app _ _)) (aPe hsy' z4 w2);rw[a1]at hQ;simp only at hQ;have hs':Sy (V++y) (S.nx+o.nq) cs':=⟨by simp[K.len,w1],rX.app _ _ _ _ K.zero,a2,K.fst (.app _ _)⟩;have htl:(EU s.J o.J).length=s.J.length:=Qv z3.symm;have hcells:∃J:List T,pT (V++y) U ((EU s.J o.J).flatMap λq=>q.2.2.map (uV Z ((0,0)::O++(List.range o.nq).map λi=>(S.nx+i,0)) qZ)) J/\∀(j:Nat) (q:TypeId×List A×List A) (x:Nat),(EU s.J o.J)[j]? =some q->c[j]? =some x->∃o',H'.get x=some o'/\(o'.elem=q.1/\o'.sz=0)/\q.2.2.length=o'.cells.length/\o'.cells=(J.drop (((EU s.J o.J).take j).flatMap (·.2.2)).length).take q.2.2.length:=by
      obtain⟨J,v1,v2⟩:=DN (w:=(·.2.2)) (EU s.J o.J) c (by rw[hxl,htl]) w4;refine⟨J,?_,v2⟩
      have:=Ie (f:=uV Z ((0,0)::O++(List.range o.nq).map λi=>(S.nx+i,0)) qZ) (V2:=V++y) (μ2:=U) (λa ha t W=>by
       obtain⟨q,M,ha⟩:=List.mem_flatMap.1 ha
       exact fwd (qM (z2 _ (Qw M)) a ha) W) v1
      rwa [List.map_flatMap]at this
     obtain⟨J,u1,u2⟩:=hcells
     have hv:=rB (U:=U) hs' (a:= .fm (uV Z ((0,0)::O++(List.range o.nq).map λi=>(S.nx+i,0)) qZ o.res::(EU s.J o.J).flatMap λq=>q.2.2.map (uV Z ((0,0)::O++(List.range o.nq).map λi=>(S.nx+i,0)) qZ))) (t:= .fm (r::J)) (by
      have:=pT.cons (fwd z1 w3) u1
      exact .fm _ _ this.1 this.2)
     split at hQ
     .rename_i a ys n cs hm;cases hQ;rw[hm]at hv;obtain⟨V1,g,s4,g1⟩:=hv;cases g1 with
      |fm _ _ g1 g2=>
      have hl:pT V1 U (a::ys) (r::J):=⟨g1,g2⟩;obtain⟨z1,z2⟩:=MM Z (EU s.J o.J) S.hp ys s2 hin (by rw[s1,htl]);refine⟨_,hQ2 _ rfl,V1,U,(rX.app V y).trans g,.refl _,s4,?_,hl.head⟩;refine(hh.ext ((rX.app V y).trans g)).ff (Hm:=λ_ =>none) q4 q3 hxs (by omega) q6 z1 (λj l x D h2=>⟨hin l (bK D),?_⟩);have z:j<(EU s.J o.J).length:=by rw[htl,<-s1];exact(aQ.1 D).1
      have M:=aB z;obtain⟨o',o1,o2,o3,o4⟩:=u2 j _ x M h2;refine⟨_,_,o',z2 j l _ D M,o1,o2,?_⟩;rw[o4];exact((hl.tail.drop _).take _)
     cases hQ
    cases h
   cases h
  cases h
 cases h
end
section
variable[jm]
variable{V V':gN}{U μ':gE}{S:AS}{H H':Hp}{P:gD}
def aFo(ee:gQ)(v:Int)(rk:Nat)(gz:List (tJ×Option Nat)):Prop:=
 ∀q∈gz,∀a:List Int,(∀r,q.2=some r->∃u,a[0]? =some u/\(u<v\/u<=v/\r<rk))->UY ee q.1 a
theorem Jy{ee:gQ}{v:Int}{rk:Nat}:∀{tab:List (tJ×Option Nat)},((∀q∈tab,q.2=none)\/jm.one=some v)->aFo ee v rk tab->wN (λf a S=>Vm rk f a S tab) ee
 |[],_,_ =>λf a S K h=>by simp[Vm]at h
 |(s,g)::r,hb,D=>λf a S K h V U H L i y I=>by
  have x:=λh=>Jy (tab:=r) (hb.imp (λz q o=>z q (by simp[o])) id) (λq o=>D q (by simp[o])) f a S K h V U H L i y I;simp only[Vm]at h;split at h;rename_i Z O b;split at h;rename_i c;have w:O.all (λq=>Nat.blt q.1 S.nx)=true:=by
   unfold Jz at b;split at b;split at b;split at b;split at b;rename_i J;cases b;simp only[aA]at J;exact J.1;cases b;cases b;cases b;cases b
  refine aDl b h i y I (D (s,g) (by simp) _ λN e=> ?_);simp only at e;subst e;rcases hb with hb|hb
  have:=hb (s,some N) (by simp);cases this;simp only[sn]at c;split at c;rename_i q θ';have j:=i.one v hb;have o:q.1<V.length:=by rw[i.len];exact pC (aP.1 w q (by simp))
  have d:V[q.1]? =some V[q.1]:=aB o;refine⟨V[q.1]+q.2,by simp[bC,d],?_⟩;simp only[bO,aA]at c;rcases c with u|⟨u,M⟩
  have:=oX i.cs u d j;left;omega;have:=oX i.cs M d j;right;exact⟨by omega,pC u⟩;cases c;exact x h;exact x h
variable{X:AX}{gl:gG}{pe:gM}
theorem Ji(K:Cn X gl pe){v:Int}{rk:Nat}{gz:List (tJ×Option Nat)}(I:(∀q∈gz,q.2=none)\/jm.one=some v)(J:aFo (λn d=>(qW P ⟨gl,pe⟩ X.own X.top n d).ee) v rk gz):
  ∀(d:Nat),wN (TJ P X gz rk d).fn (λn d=>(qW P ⟨gl,pe⟩ X.own X.top n d).ee)/\Fl (TJ P X gz rk d).yd (λn d=>(qW P ⟨gl,pe⟩ X.own X.top n d).yd)
 |0=>⟨Jy I J,λl a S D h=>by simp[TJ]at h⟩
 |d+1=>by
  obtain⟨i,w⟩:=Ji K I J d;have N:∀n d,ZQ (qW P ⟨gl,pe⟩ X.own X.top n d).ee:=λn d=>(sI d).1;have u:∀n d,Ky (qW P ⟨gl,pe⟩ X.own X.top n d).yd:=λn d=>(sI d).2;refine⟨λf a S D h V U H z g s e=> ?_,λl a S D h V U H z x g s e W=> ?_⟩;simp only[TJ]at h;split at h;exact Jy I J f a S D h V U H z g s e;split at h;split at h;cases h;rename_i y;obtain⟨r,H',⟨m,o⟩,fin⟩:=aMy f a S D h V U H z g s e;refine⟨r,H',⟨m+1,λn c L M=> ?_⟩,fin⟩;obtain⟨c,rfl⟩:∃d0,c=d0+1:=⟨c-1,by omega⟩;simp only[qW];rw[aH y];exact o n c (by omega) (by omega);obtain⟨Q,r,H',⟨m,o⟩,fin⟩:=JK K i w N u h g s e;refine⟨r,H',⟨m+1,λn c L M=> ?_⟩,fin⟩;obtain⟨c,rfl⟩:∃d0,c=d0+1:=⟨c-1,by omega⟩;simp only[qW];rw[aJ Q];exact o n c (by omega) (by omega);obtain⟨b,H',⟨m,o⟩,fin⟩:=Zt K i w N u _ _ _ _ h V U H z x g s e W;refine⟨b,H',⟨m+1,λn c L M=> ?_⟩,fin⟩;obtain⟨c,rfl⟩:∃d0,c=d0+1:=⟨c-1,by omega⟩;simp only[qW];exact o n c (by omega) (by omega)
theorem Xk{k:Nat}{R:AR}{O:iI}{Z:gU}:∀(o:List (TypeId×List A×List A)) (i:Nat),aPq k R O Z o i=true->
  ∀(j:Nat) (q:TypeId×List A×List A),o[j]? =some q->∃y,oV R.hp (i+j)=some (.fix q.1 y)/\yW (GM R.cs R.nx k qZ) y (q.2.2.map (uV Z O qZ))=true
 |[],i,_,j,q,h=>by simp at h
 |(e,g,f)::r,i,h,j,q,b=>by
  simp only[aPq,aA]at h;cases j with
  |zero=>
   simp only[cJ,aI]at b;subst b;have a:=h.1;split at a;rename_i s y c;simp only[aA]at a;have:=oT a.1;subst this;exact⟨y,c,a.2⟩;cases a
  |succ j=>
   obtain⟨y,a,d⟩:=Xk r (i+1) h.2 j q (by simpa using b);exact⟨y,by rw[show i+(j+1)=i+1+j by omega];exact a,d⟩
theorem aLp(hc:Cn X gl pe)(hpm:∀R A B f c r,rU R A B->pe A f c=some r->pe B f c=some r)(hpn:∀f,X.top f=true->∀B c,pe B f c=none)(hpx:∀f c A v,MR f c A=some v->∀B c,pe B f c=none){v:Int}(hb:jm.one=some v){rk:Nat}{gz:List (tJ×Option Nat)}
  (ht:aFo (λn d=>(qW P ⟨gl,pe⟩ X.own X.top n d).ee) v rk gz) {d:Nat} {s:tJ} (h:qS P X gz rk d s=true) {Z:gN} (hv0:Z[0]? =some v):UY (λn d=>(qW P ⟨gl,pe⟩ X.own X.top n d).ee) s Z:=by
 intro M hpcs H c L N hxl hnd hpre J;unfold qS at h;simp only[aA]at h;obtain⟨cok,_,h⟩:=h;simp only[tJ.ok,aA,aP]at cok;obtain⟨k1,k2,k3,k4⟩:=cok;have hbl:s.bn.length=s.J.length:=by simp[tJ.bn]
 have hx:∀(j:Nat),j<s.J.length->∃x o,L[j]? =some x/\H.get x=some o:=λj W=>by
  obtain⟨x,o,b,D,_⟩:=J j _ (aB (by rw[hbl];exact W));exact⟨x,o,b,D⟩
 have hxa:∀x∈L,∃o,H.get x=some o:=λx hx'=>by
  obtain⟨j,W,rfl⟩:=bX hx';obtain⟨x,o,b,D⟩:=hx j (by omega);rw[aB W]at b;cases b;exact⟨o,D⟩
 obtain⟨R,A,cm,Q,I,hRget⟩:=rU.many N L hnd (λx hx=>by obtain⟨o,ho⟩:=hxa x hx;exact⟨o,(pD ho).1⟩);have hAget:∀x∈L,A.get x=H.get x:=λx hx=>FP (by rw[I,aJ hx]);have h0:Sy (0::Z) (s.np+1) s.ji:=⟨by simp[M],rfl,hpcs,λw hw=>by rw[hb]at hw;cases hw;simpa using hv0⟩;obtain⟨us,u1,u2⟩:=DN (w:=(·.2.1)) s.bn L (by rw[hxl,hbl]) J;have hall:pT (0::Z) (L.map some) (s.pre++s.bn.flatMap (·.2.1)) (c++us):=hpre.app u1;have hv:=rB h0 (a:= .fm (s.pre++s.bn.flatMap (·.2.1))) (t:= .fm (c++us)) (.fm _ _ hall.1 hall.2);split at h
 .rename_i a n cs hm;rw[hm]at hv;obtain⟨V1,e1,s1,g1⟩:=hv;cases g1 with
  |fm _ _ g1 g2=>
  have ga:pT V1 (L.map some) a (c++us):=⟨g1,g2⟩;rw[show s.pre.length=c.length from hpre.1]at h;have gt:pT V1 (L.map some) (a.take c.length) c:=by
   have:=ga.take c.length
   rwa [List.take_left' rfl]at this
  have gd:pT V1 (L.map some) (a.drop c.length) us:=by
   have:=ga.drop c.length
   rwa [List.drop_left' rfl]at this
  split at h;rename_i rs hrs;have hh:GH (KX s.bn 0 (a.drop c.length)) s.J.length V1 (L.map some) A:=by
   have fnd:∀{l:Nat} {o:AO},oV (KX s.bn 0 (a.drop c.length)) l=some o->∃q,s.bn[l]? =some q/\o= .fix q.1 (((a.drop c.length).drop ((s.bn.take l).flatMap (·.2.1)).length).take q.2.1.length):=λ{l o} h=>by
    obtain⟨j,q,b,D,h3⟩:=MF _ _ _ _ _ h;rw[cG]at b;subst b;exact⟨q,D,h3⟩
   refine⟨by simp[hxl],λl o hl=> ?_,λl l' q q' y hl hl' hy hy'=> ?_,λl y hl=> ?_,λl e ys hl=> ?_,λm q g=> ?_⟩;obtain⟨q,b,rfl⟩:=fnd hl;obtain⟨x,o,D,h3,h4,h5⟩:=J l q b;refine⟨some x,by rw[bA,D];rfl,λy hy=> ?_⟩;cases hy;obtain⟨o',k1,k2,k3,k4⟩:=u2 l q x b D;rw[h3]at k1;cases k1;refine⟨o,?_,h4,?_⟩;show A.get x=some o;rw[hAget x (bK D)];exact h3;rw[k4];exact(gd.drop _).take _;rw[bA]at hy hy';obtain⟨x,b,D⟩:=aG.1 hy;obtain⟨x',h3,h4⟩:=aG.1 hy';cases D;cases h4;have hl1:=(aQ.1 b).1;have hl2:=(aQ.1 h3).1;rcases Nat.lt_trichotomy l l' with e|e|e
   exact absurd (b.trans h3.symm) (CF hnd l l' e hl2);exact e;exact absurd (h3.trans b.symm) (CF hnd l' l e hl1);rw[bA]at hl;obtain⟨x,b,D⟩:=aG.1 hl;cases D;obtain⟨o,ho⟩:=hxa y (bK b);rw[Q];exact N y o (pD ho).1;obtain⟨q,b,_⟩:=fnd hl;obtain⟨x,o,D,_⟩:=J l q b;exact⟨x,by rw[bA,D];rfl⟩;rw[I]at g;split at g;rw[Q];exact N m q g;cases g
  obtain⟨ih1,ih2⟩:=Ji (P:=P) hc (.inr hb) ht d;have hK:∀n d,ZQ (qW P ⟨gl,pe⟩ X.own X.top n d).ee:=λn d=>(sI d).1;have hKy:∀n d,Ky (qW P ⟨gl,pe⟩ X.own X.top n d).yd:=λn d=>(sI d).2;obtain⟨htop,r,A',⟨m,ev⟩,RR,m1,V2,μ2,x1,x2,Y,x4,x5⟩:=JK hc ih1 ih2 hK hKy hrs s1 hh gt;have ev2:∀n K,m+1<=n->m+1<=K->(qW P ⟨gl,pe⟩ X.own X.top n K).ee s.f c A=some (r,A'):=λn K hn hd'=>by
   obtain⟨K,rfl⟩:∃d0,K=d0+1:=⟨K-1,by omega⟩;simp only[qW];rw[aJ htop];exact ev n K (by omega) (by omega)
  have mono:=λ(R:Ht) (n K:Nat)=>RM (R:=R) (P:=P) (E:=⟨gl,pe⟩) (n:=n) (own:=X.own) (ok:=X.top) (hpm R) hpn hpx K;have e0:=ev2 (m+1) (m+1) (bB _) (bB _);obtain⟨B0,b1,b2⟩:=(mono R (m+1) (m+1)).1 _ _ _ _ _ _ cm e0;have keep:=(sI (P:=P) (E:=⟨gl,pe⟩) (n:=m+1) (own:=X.own) (ok:=X.top) (m+1)).1 _ _ _ _ _ e0;have hl0:=aP.1 h RR m1;obtain⟨RR,m2,Y,x4,x5⟩:=aDq Y x4 x5;have hl:=aP.1 hl0 RR m2;obtain⟨o,ho,u⟩:=eP.1 hl;have hoq:=k4 o ho;simp only[aZp,aA,aP]at hoq;obtain⟨z1,z2,z3,z4⟩:=hoq;have z3:=oT z3;have htl:(EU s.J o.J).length=s.J.length:=Qv z3.symm;unfold bEm at u;split at u;rename_i O hth;have hlen:=Kh hth;simp only[aA]at u;obtain⟨f1,f2,f3,f4⟩:=u;have r0:V2.take (s.np+1)=0::Z:=tC (e1.trans x1) (by simp[M]);have r2:μ2.take s.J.length=L.map some:=tC x2 (by simp[hxl])
  let ws:List Int:=O.map λq=>V2.getD q.1 0+q.2
  have hwl:ws.length=o.nq:=by simp[ws,hlen]
  have hsy:GJ ((List.range (s.np+1)).map (λi=>(i,0))++O) (s.np+1+o.nq) (0::Z++ws) V2:=by
   intro j W;by_cases hjp:j<s.np+1;have e:uH ((List.range (s.np+1)).map (λi=>(i,0))++O) j=(j,0):=by
    unfold uH;rw[bC,dI (by simpa using hjp)];simp[hjp]
   have hj':j<(0::Z).length:=by simp[M];omega
   have b:(0::Z)[j]? =some (0::Z)[j]:=aB hj';rw[e];exact⟨_,_,rX.app _ _ _ _ b,(e1.trans x1) _ _ b,by simp⟩;obtain⟨i,rfl⟩:∃i,j=s.np+1+i:=⟨j-(s.np+1),by omega⟩;have hi:i<O.length:=by omega
   have e:uH ((List.range (s.np+1)).map (λi=>(i,0))++O) (s.np+1+i)=O[i]:=by
    unfold uH;rw[bC,cU (by simp)];simp[hi]
   have g:=pC (aP.1 f1 _ (cC hi));rw[e];refine⟨_,_,?_,aB (by rw[Y.len];exact g),rfl⟩;rw[cU (by simp[M])];simp[ws,M,hi,bC,aB (show O[i].1<V2.length by rw[Y.len];exact g)]
  have hren:Bg (List.range s.J.length) s.J.length (L.map some) μ2:=λj W=>by
   obtain⟨x,_,b,_⟩:=hx j W;exact⟨j,x,by simp[W],by rw[bA,b];rfl,x2 j _ (by rw[bA,b];rfl)⟩
  have tk:∀{a} {t:T},Gm (V2.take RR.nx) (μ2.take s.J.length) a t->Gm V2 μ2 a t:=λh=>h.ext (λj v e=>by
   rw[bJ]at e;split at e;exact e
   cases e) (λj v e=>by
   rw[bJ]at e;split at e;exact e
   cases e)
  have hres:=YT hren hsy qZ _ z1 _ (tk (wW Y.cs Y.zero RR.nx s.J.length qZ _ _ _ f2 x5));refine⟨r,B0,⟨m+1,λn K hn hd'=> ?_⟩,λy q g=> ?_,?_,λy hy hlt=> ?_,o,ho,ws,hwl,Yt hsy Y.cs z4 f4,hres,λj q g=> ?_⟩;obtain⟨B,k1,k2⟩:=(mono R n K).1 _ _ _ _ _ _ cm (ev2 n K hn hd');rw[b2.eq,<-k2.eq];exact k1;rw[b2.any]at g;rw[b2.nx];cases hz:A'.any y with
  |some z=>exact x4.fin y z hz|none=>rw[hz]at g;exact(b2.jd y q g).2
  rw[b2.nx,<-Q];exact keep.nx;have hRy:R.get y=H.any y:=by rw[hRget,aH hy]
  rw[b2.any,hRy];cases hz:H.any y with
  |some q=>rw[(b2.jd y q (by rw[hRy,hz])).1];rfl
  |none=>
   have cy:rU (Ht.put (some ⟨0,0,[],none⟩) .nl y) A ⟨A.next,Ht.over A.J (Ht.put (some ⟨0,0,[],none⟩) .nl y)⟩:=⟨rfl,λl q g=>by
    rw[Ht.gw]at g;split at g;rename_i e;subst e;exact⟨by rw[I,aH hy],by rw[Q];exact hlt⟩
    rw[Ht.ii]at g;cases g⟩
   obtain⟨By,_,k2⟩:=(mono _ (m+1) (m+1)).1 _ _ _ _ _ _ cy e0;rw[(k2.jd y _ (by rw[Ht.gw,aJ rfl])).1];rfl
  have W:j<s.J.length:=by rw[<-htl];exact(aQ.1 g).1
  obtain⟨x,o',b,D⟩:=hx j W;obtain⟨ys,g1,g2⟩:=Xk _ _ f3 j q g;rw[cG]at g1;obtain⟨o2,o3,o4,o5⟩:=x4.at g1 (x2 j _ (by rw[bA,b];rfl));refine⟨x,o2,b,b2.get o3,o4,?_⟩;have hm:=AC (λa t x=>wW Y.cs Y.zero RR.nx s.J.length qZ a t x) g2 o5;have hm2:pT V2 μ2 (q.2.2.map (uV (List.range s.J.length) ((List.range (s.np+1)).map (λi=>(i,0))++O) qZ)) o2.cells:=⟨hm.1,λj a t ha ht=>tk (hm.2 j a t ha ht)⟩;exact KJ (λa ha t hg=>YT hren hsy qZ a (qM (z2 _ (Qw (bK g))) a ha) t hg) hm2;cases u;cases h
 cases h
end
theorem YO{P:gD}{X:AX}{gz:List (tJ×Option Nat)}{rk d:Nat}{s:tJ}(h:qS P X gz rk d s=true){v:gN}(w:oZ (0::v) s.ji):∃u,v[0]? =some u/\0<=u:=by
 unfold qS at h;simp only[aA,eP]at h;obtain⟨_,⟨q,j,e⟩,_⟩:=h;split at e;rename_i x y c;simp only[aA]at e;obtain⟨a,b,o,f,z⟩:=w _ j;have i:=oT e.1;have g:=oT e.2.1;subst i g;simp only[cJ,aI,dL]at o f;have:=e.2.2;simp only[sQ,aF]at this;exact⟨b,f,by omega⟩;cases e
theorem YN{P:gD}{X:AX}{gz:List (tJ×Option Nat)}{rk d:Nat}{s:tJ}(h:qS P X gz rk d s=true){b:gN}(e:oZ (0::b) s.ji){u:Int}(f:b[0]? =some u):0<=u:=by
 obtain⟨v,a,c⟩:=YO h e;rw[f]at a;cases a;exact c
theorem Cn.fg{X:AX}{gl:gG}{b:gM}(h:Cn X gl b)(o:Option Int): @Cn _ ⟨o⟩ X gl b:=
 @Cn.mk _ ⟨o⟩ X gl b h.gl (λg c n d v f V U H i a q=>by
  obtain⟨r,j,V',e,s,u⟩:=h.pe g c n d v f V U H i (@Sy.mk iO V n d (@Sy.len ⟨o⟩ _ _ _ a) (@Sy.zero ⟨o⟩ _ _ _ a) (@Sy.cs ⟨o⟩ _ _ _ a) (λv h=>by cases h)) q
  exact⟨r,j,V',e, @Sy.mk ⟨o⟩ _ _ _ (@Sy.len iO _ _ _ s) (@Sy.zero iO _ _ _ s) (@Sy.cs iO _ _ _ s) (@Sy.fst _ ⟨o⟩ _ _ _ _ a e),u⟩) h.inl h.fz
section
variable{X:AX}{gl:gG}{pe:gM}{P:gD}
def RY(ee:gQ)(s:tJ):Prop:=∀v,UY ee s v
noncomputable def Gp(P:gD)(X:AX)(gz:List tJ)(d:Nat)(c:tW):Bool:=
 match uO (.fm c.pre) 1 []with
 |⟨.fm a,n,e⟩=>match Mz P X (TJ P X (gz.map λs=>(s,none)) 0 d).fn (TJ P X (gz.map λs=>(s,none)) 0 d).yd c.f a ⟨[],[],n,0,e⟩with
  |some g=>g.all λR=>match kk R.hp qZ R.a with
   |some b=>GM R.cs 0 0 qZ b c.res|none=>false
  |none=>false
 |_ =>false
theorem Gn{i:gI}{k:Nat}(hc:Cn X gl (sR k i))(hk:qZ<=k){gz:List tJ}(hs:∀s∈gz,RY (λn d=>(qW P ⟨gl,sR k i⟩ X.own X.top n d).ee) s){d:Nat}{c:tW}(h:Gp P X gz d c=true){ts:gC}(Z:pT [] [] c.pre ts):
  ∃r,lj P gl i X.own X.top k c.f ts r/\Gm [] [] c.res r:=by
 unfold Gp at h;have h0:Sy [0] 1 []:=⟨rfl,rfl,λq y=>by simp at y,λv h=>by cases h⟩;have W:=rB (U:=[]) h0 (a:= .fm c.pre) (t:= .fm ts) (.fm _ _ (Z.ext (V':=[0]) (λj v h=>by simp at h) (.refl _)).1 (Z.ext (V':=[0]) (λj v h=>by simp at h) (.refl _)).2);split at h
 .rename_i a n cs hm;rw[hm]at W;obtain⟨Q,e1,s1,L⟩:=W;cases L with
  |fm _ _ L g2=>
  split at h;rename_i rs z;have hh:GH [] 0 Q [] ⟨0,.nl⟩:=⟨rfl,λl o h=>by simp[oV]at h,λl l' o o' x h=>by simp[oV]at h,λl x h=>by simp at h,λl e xs h=>by simp[oV]at h,λm o h=>by rw[vX]at h;cases h⟩;obtain⟨D,K⟩:=Ji (P:=P) (v:=0) (rk:=0) (gz:=gz.map λs=>(s,none)) hc (.inl λq y=>by obtain⟨s,_,rfl⟩:=bS.1 y;rfl) (λq y vs _ =>by obtain⟨s,M,rfl⟩:=bS.1 y;exact hs s M vs) d;have hK:∀n d,ZQ (qW P ⟨gl,sR k i⟩ X.own X.top n d).ee:=λn d=>(sI d).1;have I:∀n d,Ky (qW P ⟨gl,sR k i⟩ X.own X.top n d).yd:=λn d=>(sI d).2;obtain⟨u,r,H',⟨m,e2⟩,R,m1,V2,μ2,x1,x2,J,x4,x5⟩:=JK hc D K hK I z (V:=Q) (U:=[]) (H:=⟨0,.nl⟩) (ts:=ts) s1 hh ⟨L,g2⟩;have N:=aP.1 h R m1;split at N;rename_i b hb;obtain⟨r',f1,f2⟩:=WV J.zero x4 qZ R.a b r hb x5 k hk;have hg:=wW J.cs J.zero 0 0 qZ _ _ _ N f2;rw[TE,TE]at hg;refine⟨r',⟨m+1,λY w hn hd=> ?_⟩,hg⟩;unfold ir;have e3:(qW P ⟨gl,sR k i⟩ X.own X.top Y w).ee c.f ts ⟨0,.nl⟩=some (r,H'):=by
   obtain⟨w,rfl⟩:∃d0,w=d0+1:=⟨w-1,by omega⟩;simp only[qW];rw[aJ u];exact e2 Y w (by omega) (by omega)
  rw[e3];exact f1;cases N;cases h
 cases h
end
end Go.Ps
namespace Go.Proofs.Tryz
noncomputable section
open Go.Ps
def fk:A:= .ft .i64 (-9223372036854775808) 9223372036854775807
def EB:A:= .ft .i64 0 255
def DC:A:= .ft .i64 0 4611686018427387904
def txt(n:Int):A:= .fy 0 n
def gO:Int:=9223372036854775807
def a6:List A:=[fk,fk,fk,txt 0,.ig 0 0,.ig 0 0]
def a5:List A:=[fk,fk,txt 0,.ig 0 0,.ig 0 0]
def vA(t w:Int):Nat->List A
 |0=>[fk,fk,fk,txt t,.gp (.agg a6) 0 0,.gp (.agg (txt 0::a6)) 0 0]|d+1=>[fk,fk,fk,txt t,.gp (.agg (vA t w d)) 0 w,.gp (.agg (txt t::vA t w d)) 0 w]
def eA:Nat->List A
 |0=>[fk,fk,txt 60,.gp (.agg (vA 40 6 1)) 0 2,.gp (.agg a5) 0 0]|d+1=>[fk,fk,txt 60,.gp (.agg (vA 40 6 1)) 0 2,.gp (.agg (eA d)) 0 4]
def vI:Nat->List A
 |0=>[fk,fk,fk,txt gO,.ig 0 gO,.ig 0 gO]|d+1=>[fk,fk,fk,txt gO,.gp (.agg (vI d)) 0 gO,.gp (.agg (txt gO::vI d)) 0 gO]
def eI:Nat->List A
 |0=>[fk,fk,txt gO,.gp (.agg (vI 1)) 0 gO,.ig 0 gO]|d+1=>[fk,fk,txt gO,.gp (.agg (vI 1)) 0 gO,.gp (.agg (eI d)) 0 gO]
def aKb:A:= .agg [fk,fk,txt 1000000]
def bDr(n:Int):A:= .ft .i64 n n
def Wa(i n:Tmp):LA:={sp:=[(i,.a DC)],ms:= .up (.slot i) (.slot n) 0}
def Px(i out:Tmp)(e:gB)(s:Nat)(a:A)(m:Int):LA:={sp:=[(i,.a DC),(out,.row e s a 0 m)],cons:=[(.slot out,.slot i,0)],ms:= .up (.slot i) .zero m,m0:=m}
def jk(d j:Tmp)(i:Tmp)(e:gB)(s:Nat)(a:A)(m:Int):LA:={sp:=[(i,.a DC)],oc:=[(d,j,.row e s a 0 m)],cons:=[(.cell d j,.slot i,0)],ms:= .up (.slot i) .zero m,m0:=m}
def mZ:FuncId->List A->Nat->List pR->Option AV:=λf l n a=>
 if Nat.beq f 115 then match l with
  |[s,.gh b]=>if ND b [46,91,63]then match GY s with
   |some (x,c)=>if leq a x c 0 4000000000 then some ⟨.int .i64 n 0,n+1,.le 0 n 1:: .le n x (c-1):: .le n 0 1000000000000000000::a⟩else none
   |none=>none
   else none
  |_ =>none
 else if Nat.beq f 207 then match l with
  |[s,t]=>match GY s,GY t with
   |some (x,c),some _ =>if leq a x c 0 4000000000 then some ⟨.fm [.str n 0,.str (n+1) 0,.bool tA],n+2,.le 0 n 0:: .le n x c:: .le 0 (n+1) 0:: .le (n+1) x c::a⟩else none
   |_,_ =>none
  |_ =>none
 else if Nat.beq f 208 then match l with
  |[s]=>match GY s with
   |some (x,c)=>if leq a x c 0 4000000000 then some (uO (.fm [fk,.or [.gb,.i7]]) n a)else none
   |none=>none
  |_ =>none
 else if Nat.beq f 56 then match l with
  |[s]=>match GY s with
   |some (x,c)=>if leq a x c 0 4000000000 then some ⟨.bool tA,n,a⟩else none
   |none=>none
  |_ =>none
 else if Nat.beq f 40 then match l with
  |[.int .i64 _ _]=>some (uO (.fy 0 40) n a)|_ =>none
 else none
def bDw(l:gU):FuncId->Bool:=λf=>sA f l
def KN:FuncId->An:=λf=>
 if Nat.beq f 26 then .node .leaf (.node .leaf (.node (.node .leaf (.loop (Wa 16 15) .leaf)) .leaf))
 else if Nat.beq f 273 then .node .leaf (.node (.node .leaf (.loop (Wa 7 6) .leaf)) .leaf)
 else if Nat.beq f 280 then .node .leaf (.node .leaf (.node (.node .leaf (.loop (Wa 16 15) .leaf)) .leaf))
 else if Nat.beq f 283 then .node .leaf (.node .leaf (.node (.node .leaf (.loop {Wa 17 16 with oc:=[(5002,0,.a fk),(3002,0,.a EB)]} .leaf)) .leaf))
 else if Nat.beq f 317 then .node .leaf (.node (.node .leaf (.node .leaf (.node .leaf (.node .leaf (.node (.node .leaf (.node (.node .leaf (.loop {Px 18 3 36 6 (.agg (vA 1000000 6 0)) 6 with cons:=[(.slot 3,.slot 18,0),(.slot 18,.slot 17,0)]} .leaf)) .leaf)) .leaf))))) .leaf)
 else if Nat.beq f 137 then .node .leaf (.node .leaf (.node .leaf (.node (.node .leaf (.node .leaf (.loop {oc:=[(4,0,.a fk),(2,0,.a EB)],ms:= .down .zero} .leaf))) .leaf)))
 else if Nat.beq f 57 then .node .leaf (.node .leaf (.node .leaf (.node .leaf (.node .leaf (.node (.node .leaf (.loop {Wa 25 24 with oc:=[(2,0,.a fk)]} .leaf)) .leaf)))))
 else if Nat.beq f 92 then .node .leaf (.node .leaf (.node .leaf (.node (.node .leaf (.loop {sp:=[(5,.a (txt 201)),(4,.row 165 3 aKb 0 300)],cons:=[(.slot 4,.ghost,0)],ms:= .down (.slot 5),m0:=201} .leaf)) .leaf)))
 else if Nat.beq f 141 then .node .leaf (.node (.node .leaf (.loop (Wa 8 7) .leaf)) .leaf)
 else if Nat.beq f 209 then .node .leaf (.node .leaf (.node (.node .leaf (.loop (Wa 25 24) .leaf)) .leaf))
 else .leaf
def xz:FuncId->Option Kw:=λf=>
 if Nat.beq f 57 then some {res:=EB,oc:=[(2,0,.a fk)]}
 else if Nat.beq f 91 then some {res:=EB}
 else if Nat.beq f 88 then some {res:= .fm [fk,fk]}
 else if sA f [89,90,138,93]then some {res:= .bool tA}
 else none
def sr:FuncId->Nat->Bool:=λf r=>Nat.beq f 205||Nat.beq f 60||Nat.beq f 26||Nat.beq f 209&&Nat.beq r 6||Nat.beq f 58&&(Nat.beq r 6||Nat.beq r 4||Nat.beq r 21)
def aSl:A:= .agg [.gh [45,62],.gh [33,61],.gh [60,61],.gh [62,61],.gh [46,46]]
def Tn:Nat->Option A:=λg=>if Nat.beq g 3 then some (.ref aSl 0)else none
def kX(pe:FuncId->List A->Nat->List pR->Option AV)(t i:gU):AX:={gl:=Tn,pe:=pe,inl:=bDw i,top:=bDw t,own:=λf s=> !(Nat.beq f 272&&Nat.beq s 9),jr:=sr,an:=KN,post:=xz,lk:=true}
def bLq:tW:=⟨209,[txt 1000000],.bool tA⟩
def su:tW:=⟨92,[txt 1000000000000],.fm [.gp aKb 0 300,EB]⟩
def bDb:tW:=⟨137,[.agg (vA 1000000 6 1)],EB⟩
def sv:tW:=⟨58,[.agg (eA 3)],EB⟩
def kq(f0:gX)(a:List A->Nat->List pR->Option AV)(b:FuncId->List A->Nat->List pR->Option AV):FuncId->List A->Nat->List pR->Option AV:=λf l n c=>if Nat.beq f0 f then a l n c else b f l n c
def sw:List tW:=[bLq]
def x7:=kX mZ [209] []
def oO:=pY sw mZ
def cR(f:Nat):tW:=⟨f,[.agg (vA 1000000 6 1)],EB⟩
def bLp:tW:=⟨205,[.agg (vA 1000000 6 1)],.bool tA⟩
def x8:tW:=⟨60,[.agg (vA 1000000 6 1)],.bool tA⟩
def bDj:tW:=⟨317,[.agg (vA 1000000 6 0)],.gp (.agg a6) 0 0⟩
def bDk:tW:=⟨317,[.agg (vA 1000000 6 1)],.gp (.agg (vA 1000000 6 0)) 0 6⟩
def sO:tW:=⟨26,[txt 1000000],.bool tA⟩
def s5:tW:=⟨27,[txt 1000000],.bool tA⟩
def uT:Nat->Int
 |0=>2000|d+1=>4*(uT d+20)
def tB:Int:=uT 3
def wB:Int:=200000
def vT(t:Int)(d:Nat):List A:=vA t wB d
def bMf:tW:=⟨60,[.agg (vT (uT 3) 5)],.bool tA⟩
def lR:List tW:=[cR 269,cR 271,cR 272,cR 274,cR 276,cR 277,cR 278,cR 279,cR 280,cR 281,bLp,x8,bMf,bDj,bDk,sO,s5]
def bLv:tW:=⟨270,[fk,fk,fk],EB⟩
def bLw:tW:=⟨273,[.gp EB 0 10],EB⟩
def bLx:tW:=⟨275,[fk,fk,EB],EB⟩
def s6:List tW:=[bLv,bLw,bLx]
def x9:=kX oO [270,273,275] []
def oP:=pY s6 oO
def ya:=kX oP [26,27,60,205,317,269,271,272,274,276,277,278,279,280,281] []
def nW:=pY lR oP
def yb:=kX nW [137,203,204,282,283,92,139,140,197,206,262] [203,204,282,283]
def yc:=kX nW [137,203,204,282,283,92,139,140,197,206,262] [139,140,197,206,262]
def ye:List tW:=[su]++[bDb]
def oQ:=pY ye nW
def s7:=kX oQ [58,88,89,90,91,93,94,138,141] [88,89,90,91,93,94,138,141]
def ZU(d:Nat)(a h:Int):A:=match d with
 |0=> .gp (.agg a5) 0 0|d+1=> .gp (.agg (eA d)) a h
def l6(a h:Int):A:= .gp (.agg (vA 40 6 1)) a h
def Ad(k:Int):Int:=if k=1\/k=2\/k=22\/k=26 then 0 else if k=3\/k=16\/k=18\/k=19\/k=20\/k=27\/k=28 then 1 else if k=21\/k=24 then 3 else 2
def aZs:List Int:=[3,4,5,6,7,8,9,10,11,12,13,14,15,16,17,18,19,20,21,23,24,25,27,28]
def oR(a h:Int):A:= .ie [.agg (.ft .i64 a h::(vA 40 6 1).drop 1)]
def aKw(d:Nat):List (List A):=
 [.ft .i64 (-9223372036854775808) 0,fk,txt 60,l6 0 2,ZU d 0 4]::
 [.ft .i64 29 9223372036854775807,fk,txt 60,l6 0 2,ZU d 0 4]::
 [.ft .i64 1 1,fk,txt 60,l6 0 0,ZU d 0 4]::
 [.ft .i64 1 1,fk,txt 60,l6 2 2,ZU d 0 4]::
 [.ft .i64 1 1,fk,txt 60,oR (-9223372036854775808) 0,ZU d 0 4]::
 [.ft .i64 1 1,fk,txt 60,oR 8 9223372036854775807,ZU d 0 4]::
 aZs.map λk=>[.ft .i64 k k,fk,txt 60,l6 0 2,ZU d 0 (Ad k-1)]
def aQy(d n i:Nat):List A:=[fk,fk,txt 60,l6 0 2,.ie ((List.range n).map λj=>if Nat.beq j i then .ia (200+d+1) (eA d)else .agg (eA d))]
def nX:List A:=[fk,fk,txt 1000000000000,.gr 32 .top 0 1000000000000,.gr 31 .top 0 1000000000000]
def bDp:tW:=⟨58,[.agg nX],EB⟩
def Ln:A:= .ft .i64 1 255
def bFb:List tW:=(aKw 3).map λr=>⟨58,[.agg r],Ln⟩
def yf:List tW:=bFb++[sv,bDp]
def bMj:AX:={s7 with post:=λ_ =>none}
def DK:=pY yf oQ
def yg:=DK
def yh(d:Nat):FuncId->An:=λf=>
 if Nat.beq f 29 then .node .leaf (.node .leaf (.node .leaf (.node .leaf (.node (.node .leaf (.loop (Px 7 5 36 6 (.agg (vA 40 6 (d-1))) (if Nat.beq d 0 then 0 else 6)) .leaf)) (.node (.node .leaf (.loop (Px 8 6 114 7 (.agg (txt 40::vA 40 6 (d-1))) (if Nat.beq d 0 then 0 else 6)) .leaf)) .leaf)))))
 else if Nat.beq f 55 then .node .leaf (.node .leaf (.node .leaf (.node (.node .leaf (.loop (Px 6 5 36 6 (.agg (vA 40 6 1)) 2) .leaf)) (.node .leaf (.node (.node .leaf (.loop (Px 8 7 66 5 (.agg (eA (d-1))) (if Nat.beq d 0 then 0 else 4)) .leaf)) .leaf)))))
 else if Nat.beq f 23 then .node .leaf (.node .leaf (.node (.node .leaf (.loop (jk 3 0 4 68 6 (.agg (txt 60::eA 3)) 8) .leaf)) .leaf))
 else if Nat.beq f 8 then .node .leaf (.node .leaf (.node (.node .leaf (.loop (jk 3 0 4 68 6 (.agg (txt 0::eI 3)) 2) .leaf)) (.node .leaf (.node .leaf (.node (.node .leaf (.loop (jk 1 4 5 66 5 (.agg (eA 3)) 8) .leaf)) .leaf)))))
 else .leaf
def Rm(d:Nat):tW:=⟨29,[.agg (vI d),bDr (d+1)],.agg (vA 40 6 d)⟩
def Cc(d:Nat):tW:=⟨55,[.agg (eI d),bDr (d+1)],.agg (eA d)⟩
def c8:tW:=⟨8,[.agg [txt gO,txt gO,fk,fk,.gp (.agg (eI 3)) 0 gO]],.agg [txt 100,txt 100,fk,fk,.gp (.agg (eA 3)) 0 8]⟩
def bMk:FuncId->Tmp->Bool:=λf s=> !(Nat.beq f 29&&Nat.beq s 84||Nat.beq f 8&&(Nat.beq s 25||Nat.beq s 46)||Nat.beq f 23&&Nat.beq s 41)
def cS(d:Nat)(pe:FuncId->List A->Nat->List pR->Option AV)(t i:gU):AX:={gl:=Tn,pe:=pe,inl:=λf=>sA f i,top:=λf=>sA f t,own:=bMk,jr:=λ_ _ =>false,an:=yh d,post:=λ_ =>none}
def s8:Nat->List tW
 |0=>[]|d+1=>Rm d::s8 d
def pZ:Nat->(FuncId->List A->Nat->List pR->Option AV)
 |0=>yg|d+1=>pY (s8 (d+1)) (pZ d)
def nY:=pY [Cc 0] (pZ 5)
def m4:=pY [Cc 0,Cc 1] nY
def mv:=pY [Cc 0,Cc 1,Cc 2] m4
def o6:=pY [Cc 0,Cc 1,Cc 2,Cc 3] mv
def yi:=pY [c8] o6
def c12:tW:=⟨12,[.agg ([fk,.gp fk 0 gO,fk,.gp fk 0 gO]++vI 4)],.agg ([fk,.gp fk 0 6,fk,.gp fk 0 6]++vA 40 6 4)⟩
def Ha:A:= .fn 57 [] [.ptr 0 0,.ptr 1 0]
def l7(e r:A):MS:=⟨57,[e,fk,.ptr 0 0,.ptr 1 0],[(3,[fk],[fk]),(112,[Ha],[Ha])],r⟩
def Vc(d:Nat):MS:=l7 (.agg (eA d)) EB
def bAk(d:Nat):MS:=l7 (.ia (200+d+1) (eA d)) Ln
def Ec(d:Nat):List MS:=(aKw d).map λr=>l7 (.agg r) Ln
def aLb(e:Nat):List MS:=[(1,0),(2,0),(2,1),(3,0),(3,1),(3,2),(4,0),(4,1),(4,2),(4,3)].map λq=>l7 (.agg (aQy e q.1 q.2)) Ln
def aOd:FuncId->An:=λf=>if Nat.beq f 57 then .node .leaf (.node .leaf (.node .leaf (.node .leaf (.node .leaf (.node (.node .leaf (.da [.leaf,.leaf,.leaf,.leaf,.leaf])) .leaf)))))else KN f
def GV(an:FuncId->An)(pe:FuncId->List A->Nat->List pR->Option AV):AX:={gl:=Tn,pe:=pe,inl:=λf=>sA f [57,28],top:=λf=>sA f [57,28],own:=λf s=> !(Nat.beq f 28&&Nat.beq s 1||Nat.beq f 57&&(Nat.beq s 4||(Nat.beq s 9||Nat.beq s 1009))),jr:=sr,an:=an,post:=λ_ =>none}
def Eu:Nat->List MS
 |0=>[]|d+1=>[bAk d,Vc d]
def c28:tW:=⟨28,[.agg (eA 3)],EB⟩
def bDf:tW:=⟨28,[.ia 204 (eA 3)],Ln⟩
def m5:List tW:=[bDf,c28]
def Kt(l:Int):MS:=⟨57,[.agg nX,.ft .i64 l l,.ptr 0 0,.ptr 1 0],[(3,[fk],[fk]),(112,[Ha],[Ha])],EB⟩
def lu(l:Int):List MS:=if l=9 then []else [Kt (l+1)]
def bDg:tW:=⟨28,[.agg nX],EB⟩
def Nx:List tW:=m5++[bDg]
def kI:=pY Nx DK
def o7:List A->Nat->List pR->Option AV:=λl n a=>match l with
 |[s,.int .u8 _ _]=>match GY s with
  |some (x,c)=>if leq a x c 0 4000000000 then some ⟨.int .i64 n 0,n+1,.le 0 n 1:: .le n x (c-1):: .le n 0 1000000000000000000::a⟩else none
  |none=>none
 |_ =>none
def aQw:List A->Nat->List pR->Option AV:=λl n a=>match l with
 |[s]=>match GY s with
  |some (x,c)=>if leq a 0 1 x c&&leq a x c 0 4000000000 then some ⟨.fm [.int .i32 n 0,.int .i64 (n+1) 0],n+2,.le 0 n 0:: .le n 0 1114111:: .le 0 (n+1) (-1):: .le (n+1) 0 4:: .le (n+1) x c::a⟩else none
  |none=>none
 |_ =>none
def m6:List A->Nat->List pR->Option AV:=λl n a=>match l with
 |[.int .i64 x c,.int .i64 0 b]=>if b==16&&(leq a 0 0 x c&&leq a x c 0 127)then some (uO (.fy 1 2) n a)else none
 |_ =>none
def bBc(f:Nat->An):List An:=[f 0,f 1,f 2,f 3,f 4,f 5,f 6,f 7,f 8,f 9,f 10,f 11,f 12,f 13,f 14,f 15,f 16]
def l8:Int:=4000000000
def aZm:A:= .agg [fk,fk]
def VT:tW:=⟨259,[aZm],.fm [txt 40,EB]⟩
def ZV:tW:=⟨312,[.gh [48],.ft .i64 0 100],.fy 0 100⟩
def Ge:tW:=⟨309,[fk],.fm [.ft .i64 0 9999,.ft .i64 0 12,.ft .i64 0 31,EB]⟩
def Lu:tW:=⟨260,[fk],.fm [.fy 0 4,EB]⟩
def Sm:tW:=⟨255,[txt 40],txt 100⟩
def aBf:tW:=⟨199,[txt l8,.gh [10]],.ft .i64 0 l8⟩
def o8:=kq 72 o7 (kq 261 aQw (kq 73 m6 (pY [aBf] (pY [Sm] (pY [Lu] (pY [Ge] (pY [ZV] (pY [VT] kI))))))))
def yj:FuncId->An:=λf=>
 if Nat.beq f 251 then(.node .leaf (.node (.node .leaf (.loop ({sp:=[(8,.a DC)],ms:= .up (.slot 8) (.slot 7) 0}) .leaf)) .leaf))
 else if Nat.beq f 266 then(.node .leaf (.node (.node .leaf (.loop ({sp:=[(5,.a (.ft .i64 (-1) 4000000000))],cons:=[(.slot 5,.slot 0,-1)],ms:= .down (.slot 5) 1,m0:=4000000001}) .leaf)) .leaf))
 else if Nat.beq f 372 then(.node .leaf (.node .leaf (.node (.node .leaf (.da (bBc λk=> .leaf))) .leaf)))
 else if Nat.beq f 375 then(.node .leaf (.node .leaf (.node (.node .leaf (.loop ({sp:=[(14,.a DC),(4,.a fk)],ms:= .up (.slot 14) (.slot 13) 0}) .leaf)) .leaf)))
 else if Nat.beq f 373 then(.node .leaf (.node .leaf (.node .leaf (.node .leaf (.node (.node .leaf (.loop ({sp:=[(11,.a DC),(10,.a fk)],cons:=[(.zero,.slot 11,-1)],ms:= .up (.slot 11) (.slot 1) 0,m0:=13}) .leaf)) .leaf)))))
 else if Nat.beq f 39 then(.node .leaf (.node .leaf (.node .leaf (.node (.node .leaf (.loop ({sp:=[(13,.a DC),(3,.row 5 1 (.ft .u8 0 255) 1 700)],cons:=[(.slot 3,.ghost,1)],ms:= .up (.slot 13) (.slot 12) 0,m0:=100,gk:=6}) .leaf)) .leaf))))
 else if Nat.beq f 254 then(.node .leaf (.node .leaf (.node .leaf (.node (.node .leaf (.loop ({sp:=[(9,.a DC)],oc:=[(3,0,.a (.or [.fS,.ptr 0 0])),(3,1,.row 5 1 (.ft .u8 0 255) 1 9000)],cons:=[(.cell 3 1,.ghost,1)],ms:= .up (.slot 9) (.slot 8) 0,m0:=1400,gk:=6}) .leaf)) .leaf))))
 else if Nat.beq f 179 then(.node .leaf (.node (.node .leaf (.loop ({sp:=[(8,.a DC)],ms:= .up (.slot 8) (.slot 7) 0}) .leaf)) .leaf))
 else .leaf
def bOs:List (Nat×Nat):=[(368,9),(368,10),(370,14),(370,15)]
def xB(pe:FuncId->List A->Nat->List pR->Option AV)(t i:gU):AX:={gl:=Tn,pe:=pe,inl:=λf=>sA f i,top:=λf=>sA f t,own:=λf s=> !(bOs.any λq=>Nat.beq q.1 f&&Nat.beq q.2 s),jr:=λ_ _ =>false,an:=yj,post:=λ_ =>none,lk:=true}
def bLm:tW:=⟨188,[.ft .u8 0 255],.ft .i64 (-1) 15⟩
def bLo:tW:=⟨200,[txt l8,.ft .u8 0 255],.ft .i64 (-1) l8⟩
def bLj:tW:=⟨116,[txt 140000],.bool tA⟩
def bMa:tW:=⟨331,[fk,.ft .i64 1 12],.ft .i64 28 31⟩
def bMe:tW:=⟨376,[fk,fk],.fm [fk,EB]⟩
def bLr:tW:=⟨253,[fk,fk],txt 40⟩
def bLy:tW:=⟨310,[.ft .i64 0 9999,.ft .i64 2 4],txt 140⟩
def bLz:tW:=⟨311,[fk],.fm [fk,.ft .i64 0 86399999,EB]⟩
def ta:tW:=⟨39,[txt 100],txt 700⟩
def bLs:tW:=⟨254,[txt 1400],txt 9000⟩
def bLn:tW:=⟨194,[txt l8],.fm [.agg [fk,fk],EB]⟩
def bLk:tW:=⟨177,[.gp (.fy 0 20) 0 20,txt 140000],.bool tA⟩
def o9(f:Nat):tW:=⟨f,[.ft .u8 0 255],.bool tA⟩
def tb:List Nat:=[266,177,178,251,329,345,189,78,123,79]
def tc:List Nat:=[191,193,188,200,116,331,376,253,310,311,39,254,194,266,177,178,251,329,345,189,78]
def pg:List tW:=[o9 191,o9 193,bLm,bLo,bLj,bMa,bMe,bLr,bLy,bLz,ta,bLs,bLn]
def yk:=xB o8 tc tb
def ph:=pY pg o8
def bMd:tW:=⟨373,[fk,fk,fk],.fm [fk,EB]⟩
def bLt:tW:=⟨256,[fk],.fm [txt 500,EB]⟩
def td:List tW:=[bMd,bLt,bLk,o9 192]
def ym:=xB ph [373,256,177,192,329,377,330,251] [329,377,330,251]
def pj:=pY td ph
def bMb:tW:=⟨368,[txt l8],.fm [fk,EB]⟩
def bMc:tW:=⟨370,[txt l8],.fm [fk,EB]⟩
def bLu:tW:=⟨257,[fk],.fm [txt 1400,EB]⟩
def te:List tW:=[bMb,bMc,bLu]
def yn:=xB pj [368,370,257,372,375,374,378,197,262,329] [372,375,374,378,197,262,329]
def pk:=pY te pj
def vK(k:Int):List A:= .ft .i64 k k::(vA 40 6 1).drop 1
def kK:List Int:=[1,2,3,4,5,6,7]
def bLl(k:Int):tW:=⟨182,[.agg (vK k)],txt 9100⟩
def aOr(k:Int):tW:=⟨121,[.agg (vK k)],.fm [txt 9100,EB]⟩
def tf:List tW:=kK.map bLl
def yo:=xB pk [182,252,308] [252,308]
def pl:=pY tf pk
def tg:List tW:=kK.map aOr
def yp:=xB pl [121,181] [181]
def nZ:=pY tg pl
def c75(d:Nat):tW:=⟨75,[.agg (eA d)],.bool tA⟩
def pH:Nat->FuncId->List A->Nat->List pR->Option AV
 |0=>nZ|d+1=>pY [c75 d] (pH d)
def xH(d:Nat):=xB (pH d) [75,117,179] [117,179]
def bIx(k:A):A:= .agg [k,fk,fk,txt 140000,txt 1000000,fk,fk,.bool tA]
def pm:List A:=[.ft .i64 0 5,fk,fk,txt 140000,txt 1000000,fk,fk,.bool tA]
def tok:A:=bIx (.ft .i64 0 5)
def Vw:A:=bIx (.ft .i64 0 0)
def j9:A:= .ft .i64 0 0
def mw(a w:Nat)(e:A):TypeId×List A:=(200,[.str 1 0,.int .i64 a 0,.int .i64 w 0,e])
def lH:List pR:=[.le 0 1 0,.le 1 0 65536,.le 0 2 0,.le 2 1 0,.le 0 3 0,.le 3 1 0]
def Vb:tJ:=⟨130,3,lH,[.ptr 0 0],[mw 2 3 j9],[⟨1,[.le 2 4 0,.le 0 4 0,.le 4 1 0],.fm [],[(mw 4 3 j9).2]⟩]⟩
def Vd(f:Nat):tJ:=⟨f,3,if Nat.beq f 129 then .le 2 1 (-1)::lH else lH,[.ptr 0 0,.ptr 1 0],[mw 2 3 j9,(103,pm)],[⟨0,[],.bool (.lit false),[(mw 2 3 j9).2,pm]⟩,⟨2,[.le 2 4 0,.le 0 4 0,.le 4 1 0,.le 0 5 0,.le 5 1 0],.bool (.lit true),[(mw 4 5 EB).2,pm]⟩]⟩
def th:TA:= .row 5 1 (.ft .u8 0 255) 0 1000000
def bOt:List (Nat×Nat):=[(128,9000011),(129,9000011),(54,9000002),(54,4),(54,1004),(201,6),(201,1006),(81,29),(81,68),(81,118),(353,4),(353,1004),(355,3),(355,1003),(355,14),(364,5),(364,1005),(358,3),(358,1003),(363,1),(365,1),(366,1),(135,9200005),(267,3),(267,1003),(267,6000000),(316,6000000),(354,4),(354,1004),(354,3),(354,1003),(357,8),(357,1008),(357,9),(357,1009),(135,8000029),(354,8000033),(352,8000032),(202,8000025),(267,8000018),(267,28),(267,9000004),(267,9000007),(316,42),(357,8000072),(21,8000041),(135,9200005)]
def aSj:FuncId->Tmp->Bool:=λf s=> !(bOt.any λq=>Nat.beq q.1 f&&Nat.beq q.2 s)
def l9:A:= .gr 31 .top 0 1000000000000
def Kr:A:= .agg nX
def wid:LA:={oc:=[(2,0,.a (txt 140000)),(2,1,.a (txt 1000000)),(2,2,.a fk),(2,3,.a fk),(2,4,.a l9),(6,0,.a (.gr 30 tok 0 100000)),(6,1,.a fk),(6,2,.a fk),(6,3,.a EB)],ms:= .down .zero}
def yq:FuncId->An:=λf=>
 if Nat.beq f 186 then(.node .leaf (.node .leaf (.node (.loop ({oc:=[(0,1,.a DC)],cons:=[(.cell 0 1,.cell 0 0,0),(.slot 5,.cell 0 1,0)],ms:= .up (.cell 0 1) (.cell 0 0) 0,m0:=70000}) .leaf) .leaf)))
 else if Nat.beq f 125 then(.node .leaf (.node .leaf (.node .leaf (.node .leaf (.node .leaf (.node .leaf (.node (.node .leaf (.node .leaf (.node .leaf (.node .leaf (.node .leaf (.node .leaf (.node (.node .leaf (.loop ({sp:=[(8,.a DC)],oc:=[(7,0,.a (.or [.fS,.ptr 2 0])),(7,1,th)],cons:=[(.slot 8,.ghost,0),(.ghost,.slot 8,0),(.cell 7 1,.ghost,0)],ms:= .up (.slot 8) (.slot 6) 0,m0:=70000,gk:=2}) .leaf)) .leaf))))))) .leaf)))))))
 else if Nat.beq f 195 then(.node .leaf (.node .leaf (.node .leaf (.node .leaf (.node .leaf (.node .leaf (.node (.loop ({sp:=[(6,.a fk),(7,.a DC)],oc:=[(0,1,.a DC)],cons:=[(.cell 0 1,.cell 0 0,0),(.slot 4,.cell 0 1,-3)],ms:= .up (.slot 7) .zero 7,m0:=7}) .leaf) .leaf)))))))
 else if Nat.beq f 128 then(.node .leaf (.node .leaf (.node .leaf (.node .leaf (.node .leaf (.node (.node .leaf (.loop ({oc:=[(0,1,.a DC),(0,2,.a DC),(0,3,.a EB),(6,0,.a (.or [.fS,.ptr 2 0])),(6,1,th)],cons:=[(.cell 0 1,.cell 0 0,0),(.cell 0 2,.cell 0 0,0),(.sym 2,.cell 0 1,0),(.cell 6 1,.ghost,0)],ms:= .up (.cell 0 1) (.cell 0 0) 0,m0:=70000,gk:=6}) .leaf)) .leaf))))))
 else if Nat.beq f 129 then(.node .leaf (.node (.node .leaf (.da (bBc λk=> .leaf))) .leaf))
 else if Nat.beq f 198 then(.node .leaf (.node (.node .leaf (.da (bBc λk=> .leaf))) .leaf))
 else if Nat.beq f 81 then(.node .leaf (.node .leaf (.node .leaf (.node .leaf (.node .leaf (.node .leaf (.loop ({sp:=[(2,.row 103 8 tok 0 16384),(3,.a fk),(4,.a fk),(8,.a DC),(9,.a fk)],oc:=[(6,1,.a DC),(6,2,.a DC),(6,3,.a (.ft .i64 0 0))],cons:=[(.cell 6 1,.cell 6 0,0),(.slot 8,.cell 6 1,0),(.cell 6 2,.cell 6 0,0)],ms:= .up (.slot 2) .zero 16384,m0:=16384}) (.node .leaf (.node (.node .leaf (.loop ({sp:=[(41,.a DC),(3,.a fk),(4,.a fk)],cons:=[(.slot 41,.ghost,0)],ms:= .up (.slot 41) (.slot 40) 0,m0:=70000}) .leaf)) .leaf)))))))))
 else if Nat.beq f 358 then(.node .leaf (.node .leaf (.node .leaf (.node .leaf (.node .leaf (.node .leaf (.node (.loop ({sp:=[(4,.a (txt 100000000000))],oc:=[(0,0,.a (.gr 30 tok 1 100000)),(0,1,.a fk),(0,2,.a fk),(0,3,.a j9)],cons:=[(.cell 0 0,.sym 1,-1),(.slot 4,.ghost,140000)],ms:= .down (.cell 0 0),m0:=100000,gk:=420000}) .leaf) .leaf)))))))
 else if Nat.beq f 135 then(.node .leaf (.node .leaf (.node (.node .leaf (.loop ({sp:=[(8,.a fk),(9,.a (.bool (.lit true)))],oc:=[(0,1,.a fk),(900,0,.a (.gr 30 tok 1 100000)),(900,1,.a fk),(900,2,.a fk),(900,3,.a j9),(7,0,.a fk),(7,1,.a fk),(7,2,.a (txt 1000000000000)),(7,3,.a (.gr 32 .top 0 1000000000000)),(7,4,.a l9)],cons:=[(.cell 900 0,.sym 1,-1)],ms:= .down (.cell 900 0),m0:=100000}) .leaf)) .leaf)))
 else if Nat.beq f 316 then(.node .leaf (.node .leaf (.node .leaf (.node (.node .leaf (.loop ({sp:=[(8,.a DC),(7,.row 66 5 Kr 0 200000)],oc:=[(0,1,.a fk),(900,0,.a (.gr 30 tok 1 100000)),(900,1,.a fk),(900,2,.a fk),(900,3,.a j9)],cons:=[(.slot 7,.ghost,0),(.slot 8,.ghost,0),(.cell 900 0,.sym 1,0)],ms:= .down (.cell 900 0),m0:=100000}) .leaf)) .leaf))))
 else if Nat.beq f 10 then(.node .leaf (.node .leaf (.node .leaf (.node (.node .leaf (.loop ({sp:=[(58,.a DC)],ms:= .up (.slot 58) (.slot 57) 0}) .leaf)) .leaf))))
 else if Nat.beq f 21 then(.node .leaf (.node .leaf (.node (.node .leaf (.loop (wid) .leaf)) (.node (.node .leaf (.loop (wid) .leaf)) (.node (.node .leaf (.loop (wid) .leaf)) (.node (.node .leaf (.loop (wid) .leaf)) (.node (.node .leaf (.loop (wid) .leaf)) (.node (.node .leaf (.node .leaf (.loop (wid) .leaf))) (.node (.node .leaf (.node .leaf (.loop (wid) .leaf))) .leaf)))))))))
 else .leaf
def xL(pe:FuncId->List A->Nat->List pR->Option AV)(t i:gU):AX:={gl:=Tn,pe:=pe,inl:=λf=>sA f i,top:=λf=>sA f t,own:=aSj,jr:=λ_ _ =>false,an:=yq,post:=λ_ =>none,lk:=true}
def m7:tW:=⟨81,[txt 4000000000],.fm [.gr 30 tok 0 20000,fk,fk,EB]⟩
def aWb:List tJ:=[Vb,Vd 125,Vd 126,Vd 127,Vd 128,Vd 129]
def mz:List (tJ×Option Nat):=[(Vb,none)]
def tS:List Nat:=[81,125,126,127,128,129,131,132,133,134,185,186,187,190,195,196,197,198,262,189,78]
def iS:List Nat:=[123,79,130]++tS
def xS:=xL nZ tS iS
def po:=pY [m7] nZ
def c10:tW:=⟨10,[.agg [txt 140000,txt 1000000,fk,fk,l9]],EB⟩
def yr:=xL po [10,25] [25]
def pL:=pY [c10] po
def jo(n:Nat)(c:Int)(e:A):TypeId×List A:=(147,[.g7 30 tok n c,fk,fk,e])
def eS(k:Nat):A:= .int .i64 k 0
def En:TypeId×List A:=jo 1 0 (eS 2)
def Um:List pR:=[.le 0 1 0,.le 1 0 100000,.le 0 2 0,.le 2 0 255]
def same(r:A)(c:List pR):Oq:=⟨0,c,r,[En.2]⟩
def Vx(r:A):Oq:=⟨0,[.le 0 1 (-2),.le 2 0 0],r,[(jo 1 (-1) (eS 2)).2]⟩
def fresh(r:A):Oq:=⟨1,[.le 2 0 0,.le 0 1 (-1),.le 0 3 (-1),.le 3 0 255],r,[(jo 1 0 (eS 3)).2]⟩
def bIj:tJ:=⟨53,2,Um,[.ptr 0 0],[En],[same Vw [.le 1 0 1],same Vw [.le 0 2 (-1)],same tok [.le 0 1 (-2),.le 2 0 0]]⟩
def bQs:tJ:=⟨83,2,Um,[.ptr 0 0],[En],[same Vw [.le 1 0 1],same Vw [.le 0 2 (-1)],Vx tok]⟩
def bQr:tJ:=⟨82,2,Um,[.ptr 0 0,txt 100],[En],[same (.bool (.lit false)) [],same (.bool (.lit true)) [.le 0 1 (-2),.le 2 0 0]]⟩
def bAi:tJ:=⟨48,2,Um,[.ptr 0 0,txt 100],[En],[same (.bool (.lit false)) [],Vx (.bool (.lit true))]⟩
def bQl:tJ:=⟨337,2,Um,[.ptr 0 0,txt 100],[En],[Vx (.fm []),same (.fm []) [.le 0 2 (-1)],same (.fm []) [.le 1 0 0],fresh (.fm [])]⟩
def bIk:tJ:=⟨54,3,Um++[.le 0 3 0,.le 3 0 255],[.ptr 0 0,.int .i64 3 0],[En],[same (.fm []) [.le 3 0 0],same (.fm []) [.le 0 2 (-1)],same (.fm []) [.le 1 0 0],⟨0,[.le 0 3 (-1),.le 2 0 0,.le 0 1 (-1)],.fm [],[(jo 1 0 (eS 3)).2]⟩]⟩
def bIh:tJ:=⟨49,2,Um,[.ptr 0 0,.ft .i64 1 5],[En],[Vx tok,same Vw [.le 0 2 (-1)],same Vw [.le 1 0 0],fresh Vw]⟩
def bIi:tJ:=⟨50,2,Um,[.ptr 0 0,.ft .i64 0 1000000000000,.ft .i64 0 1000000000000],[En],[Vx fk,same fk [.le 0 2 (-1)],same fk [.le 1 0 0],fresh fk]⟩
def bIl:List tJ:=[bIj,bQs,bQr,bAi,bQl,bIk,bIh,bIi]
def bIb:tJ:=⟨353,2,Um,[.ptr 0 0],[En],[same (.bool (.lit false)) [],same (.bool (.lit true)) [.le 0 1 (-2),.le 2 0 0]]⟩
def bQm:tJ:={bIb with f:=355}
def bAh(c:Nat):tJ:=⟨364,2,Um,[.ptr 0 0,.fn c [] []],[En],[Vx (txt 140000),same (txt 0) [.le 0 2 (-1)],same (txt 0) [.le 1 0 0],fresh (txt 0)]⟩
def aVs(r:A):List Oq:=[⟨1,[.le 2 0 0,.le 0 3 (-1),.le 3 1 (-1)],r,[(jo 3 0 j9).2]⟩,same r [.le 0 2 (-1)],same r [.le 1 0 0],⟨2,[.le 2 0 0,.le 0 1 (-1),.le 0 3 0,.le 3 1 0,.le 0 4 (-1),.le 4 0 255],r,[(jo 3 0 (eS 4)).2]⟩]
def bQn:tJ:=⟨358,2,Um,[.ptr 0 0],[En],aVs (txt 100000000000)⟩
def ti:List tJ:=[bIb,bQm,bAh 363,bAh 365,bAh 366,bQn]
def vR:List A:=[fk,fk,fk,txt 1000000,.fp,.fp]
def bIe:tJ:=⟨362,2,Um,[.ptr 0 0,txt 140000],[En],[same (.agg vR) [],Vx (.agg vR),⟨2,[.le 2 0 0,.le 0 1 (-1),.le 0 3 0,.le 3 1 0,.le 0 4 (-1),.le 4 0 255],.agg vR,[(jo 3 0 (eS 4)).2]⟩]⟩
def bIc:tJ:=⟨356,2,Um,[.ptr 0 0],[En],aVs (.agg vR)⟩
def lI:TypeId×List A:=(150,[.ptr 1 0,fk])
def yt:List pR:=[.le 0 1 0,.le 1 0 100000,.le 0 2 (-1),.le 2 0 255]
def tm:List pR:=[.le 0 1 (-1),.le 1 0 100000,.le 0 2 0,.le 2 0 0]
def tn(b:List pR)(f:Nat)(a:List A)(r:A):tJ:=⟨f,2,b,.ptr 0 0::a,[lI,En],[⟨0,[],r,[lI.2,En.2]⟩]⟩
def yu:=tn yt
def yv:=tn [.le 0 1 0,.le 1 0 0,.le 0 2 0,.le 2 0 0]
def pp(f:Nat)(a:List A)(r:A):tJ:=⟨f,2,tm,.ptr 0 0::a,[lI,En],[⟨1,[.le 0 3 (-1),.le 3 1 (-1)],r,[lI.2,(jo 3 0 j9).2]⟩,⟨2,[.le 0 3 0,.le 3 1 0,.le 0 4 (-1),.le 4 0 255],r,[lI.2,(jo 3 0 (eS 4)).2]⟩]⟩
def yw(f:Nat)(o:List Oq):tJ:=⟨f,2,Um,[.ptr 0 0],[lI,En],o⟩
def mA(n:Nat)(c:Int)(e:A):List (List A):=[lI.2,(jo n c e).2]
def bAg:tJ:=yw 336 [⟨0,[.le 0 1 (-2),.le 2 0 0],.fm [],mA 1 (-1) (eS 2)⟩,⟨0,[.le 0 2 (-1)],.fm [],mA 1 0 (eS 2)⟩,⟨0,[.le 1 0 0],.fm [],mA 1 0 (eS 2)⟩,⟨1,[.le 2 0 0,.le 0 1 (-1),.le 0 3 (-1),.le 3 0 255],.fm [],mA 1 0 (eS 3)⟩]
def bHz:tJ:={bAg with f:=338}
def TL(b:Int):tJ:=⟨201,2,Um,[.ptr 0 0,.ft .i64 b b],[lI,En],[⟨0,[],.fm [fk,.bool (.lit false)],mA 1 0 (eS 2)⟩,⟨0,[.le 0 1 (-2),.le 2 0 0],.fm [fk,.bool (.lit true)],mA 1 (-1) (eS 2)⟩]⟩
def m8(b:Int)(g:Nat):List A:=[.ft .i64 b b,.fn g [.ptr 0 0] []]
def pr(mk:Nat->List A->A->tJ):List tJ:=[mk 354 [] Kr,mk 352 [] Kr,mk 135 (m8 7 352) Kr,mk 349 [] Kr,mk 135 (m8 6 349) Kr,mk 335 [] Kr,mk 135 (m8 5 335) Kr,mk 315 [] Kr,mk 267 [] Kr,mk 202 [] Kr,mk 135 (m8 2 202) Kr,mk 136 [] Kr,mk 135 (m8 1 136) Kr,mk 85 [] Kr]
def tQ:List Nat:=[21,144,225,229,294,361,47,48,49,50,51,52,53,54,82,83,84,85,86,122,135,136,180,197,201,202,262,267,268,315,316,335,336,337,338,349,352,353,354,355,356,357,358,359,360,362,363,364,365,366,367,369,371]
def tq:List (tJ×Option Nat):=(bIl++ti++[bIe,bIc,bAg,bHz,TL 1,TL 2,TL 4,TL 5,TL 6,TL 7]).map λs=>(s,none)
def xQ:=xL pL tQ tQ
def xF(f:Nat):AX:={xQ with fl:=Nat.beq f 267}
def fG(mk:Nat->List A->A->tJ):List tJ:=pr mk++[mk 316 [fk,fk] (.gr 31 .top 0 1000000)]
def fF:List tJ:=fG yu
def fZ:List tJ:=pr yv
def fK:List (tJ×Nat):=(pr pp++[pp 316 [fk,fk] (.gr 31 .top 0 1000000),pp 357 [fk,fk] Kr]).zipIdx
def tK:List (tJ×Option Nat):=fK.map (λq=>(q.1,some q.2))++(fF++fZ).map (λs=>(s,none))++tq
def n4:tJ:=⟨51,2,tm,[.ptr 0 0],[En],[⟨1,[.le 0 3 (-1),.le 3 1 (-1)],Kr,[(jo 3 0 j9).2]⟩,⟨2,[.le 0 3 0,.le 3 1 0,.le 0 4 (-1),.le 4 0 255],Kr,[(jo 3 0 (eS 4)).2]⟩]⟩
def n5(s:tJ)(r:A):tJ:={s with outs:=[⟨2,[.le 0 3 0,.le 3 0 100000,.le 0 4 0,.le 4 0 255],r,[(jo 3 0 (eS 4)).2]⟩]}
def bQp:tJ:={bAi with pre:=[.ptr 0 0,.gh [119,104,101,114,101]]}
def bQq:tJ:={bIk with outs:=[⟨2,[.le 0 4 0,.le 4 0 100000,.le 0 5 0,.le 5 0 255],.fm [],[(jo 4 0 (eS 5)).2]⟩]}
def lC:List tJ:=[bQp,n5 bAi (.bool tA),n5 bIh tok,n5 bIi fk,n5 bIj tok,bQq]
def tt:List tJ:=lC++[n4]
def c21:tW:=⟨21,[txt 4000000000],.fm [.agg [txt 140000,txt 1000000,fk,fk,l9],fk,fk,EB]⟩
def lT:List tJ:=bIl++ti++[bIe,bIc,bAg,bHz,TL 1,TL 2,TL 4,TL 5,TL 6,TL 7]
def aDd(P:gD)(X:Nat->AX)(t:List tJ):List tJ->Bool
 |[]=>true|s::r=>qS P (X s.f) ((r++t).map λs=>(s,none)) 0 8 s&&aDd P X t r
def AF(i:Nat):tJ×Nat:=fK.getD i (n4,0)
def pt:List DI:=[(x7,[],sw)]
def pu:List DI:=[(x9,[],s6)]
def mB:List DI:=[(ya,[],lR)]
def pv:List DI:=[(yc,[139,140,197,206,262],[su]),(yb,[203,204,282,283],[bDb])]
def pw:List DI:=[(bMj,[88,89,90,91,93,94,138,141],bFb),(s7,[88,89,90,91,93,94,138,141],[sv,bDp])]
def px:List DI:=[(yk,tb,pg)]
def py:List DI:=[(ym,[329,377,330,251],td)]
def pz:List DI:=[(yn,[372,375,374,378,197,262,329],te)]
def pI:List DI:=[(yo,[252,308],tf)]
def n6:List DI:=[(yp,[181],tg)]
def p0:List DI:=[((xH 0),[117,179],[c75 0])]
def qa:List DI:=[((xH 1),[117,179],[c75 1])]
def qb:List DI:=[((xH 2),[117,179],[c75 2])]
def qc:List DI:=[((xH 3),[117,179],[c75 3])]
def qd:List DI:=[((cS 0 (pZ 0) [29] []),[],[Rm 0])]
def qe:List DI:=[((cS 1 (pZ 1) [29] []),[],[Rm 1]),((cS 0 (pZ 1) [29] []),[],[Rm 0])]
def qf:List DI:=[((cS 2 (pZ 2) [29] []),[],[Rm 2]),((cS 1 (pZ 2) [29] []),[],[Rm 1]),((cS 0 (pZ 2) [29] []),[],[Rm 0])]
def qg:List DI:=[((cS 3 (pZ 3) [29] []),[],[Rm 3]),((cS 2 (pZ 3) [29] []),[],[Rm 2]),((cS 1 (pZ 3) [29] []),[],[Rm 1]),((cS 0 (pZ 3) [29] []),[],[Rm 0])]
def qh:List DI:=[((cS 4 (pZ 4) [29] []),[],[Rm 4]),((cS 3 (pZ 4) [29] []),[],[Rm 3]),((cS 2 (pZ 4) [29] []),[],[Rm 2]),((cS 1 (pZ 4) [29] []),[],[Rm 1]),((cS 0 (pZ 4) [29] []),[],[Rm 0])]
def qi:List DI:=[((cS 0 (pZ 5) [55] []),[],[Cc 0])]
def qj:List DI:=[((cS 0 nY [55] []),[],[Cc 0]),((cS 1 nY [55] []),[],[Cc 1])]
def qk:List DI:=[((cS 0 m4 [55] []),[],[Cc 0]),((cS 1 m4 [55] []),[],[Cc 1]),((cS 2 m4 [55] []),[],[Cc 2])]
def ql:List DI:=[((cS 0 mv [55] []),[],[Cc 0]),((cS 1 mv [55] []),[],[Cc 1]),((cS 2 mv [55] []),[],[Cc 2]),((cS 3 mv [55] []),[],[Cc 3])]
def qm:List DI:=[((cS 3 o6 [8,23] [23]),[23],[c8])]
def qn:List DI:=[(yr,[25],[c10])]
end
open Go.Ps
def kn(t:T):Prop:=∀(k:Nat) (H:Hp),20<=k->pM k H t=some t
def bBh(v:T):Prop:=∃(q:Int) (r:gC),v= .agg (.int .i64 q::r)/\1<=q/\q<=7
def VE:Nat->T->Prop
 |0,_ =>False|d+1,t=>∃(k:Int) (x y v a:T) (b e:gC),t= .agg [.int .i64 k,x,y,v,a]/\wP v b/\wP a e/\1<=k/\k<=28/\Ad k<=(e.length:Int)/\(k=1->∃v,b=[v]/\bBh v)/\∀u∈e,VE d u
variable[Inhabited gy]
structure Is:Prop where
 b:∀(d:Nat) (t:T),d<=5->((default:gy).q (200+d) t↔¬VE d t/\kn t)
variable{V:gN}{U:gE}
theorem Zm{a:A}{t:T}(h:qT 20 a=true)(b:Gm V U a t):kn t:=λk H c=>FK 20 a t h b k c
theorem PL{e:List A}{a:gC}(h:pT V U e a):Gm V U (.agg e) (.agg a):= .agg e a h.1 h.2
theorem pV{a:A}{e:List A}{t:T}{b:gC}(h:Gm V U a t)(f:pT V U e b):pT V U (a::e) (t::b):=by
 refine⟨by simp[f.1],λj x y c d=> ?_⟩;cases j with
 |zero=>cases c;cases d;exact h|succ j=>exact f.2 j x y (by simpa using c) (by simpa using d)
theorem wF:pT V U [] []:=⟨rfl,λj x y h a=>by simp at h⟩
theorem aVg{o s st v e:A}{t:T}(h:Gm V U (.agg [o,s,st,v,e]) t):∃x a b c d,t= .agg [x,a,b,c,d]/\Gm V U o x/\Gm V U s a/\Gm V U st b/\Gm V U v c/\Gm V U e d:=by
 cases h with
 |agg _ i w u=>
 obtain⟨f,L,rfl,I,h⟩:=(show pT V U _ i from⟨w,u⟩).I;obtain⟨j,M,rfl,z,h⟩:=h.I;obtain⟨y,Q,rfl,D,h⟩:=h.I;obtain⟨J,N,rfl,g,h⟩:=h.I;obtain⟨q,W,rfl,K,h⟩:=h.I;obtain rfl:=h.ae;exact⟨f,j,y,J,q,rfl,I,z,D,g,K⟩
theorem Ih{o s st v a:A}{c d x e b:T}(g:Gm V U o c)(h:Gm V U s d)(i:Gm V U st x)(f:Gm V U v e)(j:Gm V U a b):Gm V U (.agg [o,s,st,v,a]) (.agg [c,d,x,e,b]):=
 PL (pV g (pV h (pV i (pV f (pV j wF)))))
theorem gm{t:T}(h:Gm V U fk t):∃n:Int,t= .int .i64 n/\-9223372036854775808<=n/\n<=9223372036854775807:=by
 unfold fk at h;cases h with
 |ft _ _ _ n b a c=>exact⟨n,rfl,b,a⟩
theorem XU{n a h:Int}(d:a<=n)(c:n<=h)(b:-9223372036854775808<=n)(e:n<=9223372036854775807):Gm V U (.ft .i64 a h) (.int .i64 n):= .ft _ _ _ _ d c ⟨b,e⟩
theorem Hs{e:A}{b c:Int}{t:T}(h:Gm V U (.gp e b c) t):∃a,wP t a/\b<=(a.length:Int)/\(a.length:Int)<=c/\∀x∈a,Gm V U e x:=by
 cases h with
 |gp _ _ _ _ a g f d i=>exact⟨a,g,f,d,i⟩
theorem Cm(d:Nat):eA d=[fk,fk,txt 60,l6 0 2,ZU d 0 4]:=by
 cases d<;>rfl
theorem Yg{d:Nat}{t:T}(h:Gm V U (ZU d 0 4) t):∃a,wP t a/\(d=0->a=[])/\(a.length:Int)<=4/\∀x∈a,∀e,d=e+1->Gm V U (.agg (eA e)) x:=by
 cases d with
 |zero=>
  obtain⟨a,c,j,f,g⟩:=Hs (show Gm V U (.gp (.agg a5) 0 0) t from h);have:a=[]:=eU.1 (by omega);exact⟨a,c,λ_ =>this,by omega,λx b=>by rw[this]at b;simp at b⟩
 |succ d=>
  obtain⟨a,c,j,f,g⟩:=Hs (show Gm V U (.gp (.agg (eA d)) 0 4) t from h);exact⟨a,c,(by intro q;cases q),f,λx b e i=>by cases i;exact g x b⟩
theorem aJn{d:Nat}{t:T}{xs:gC}{b a:Int}(h:wP t xs)(f:d=0->xs=[])(c:∀x∈xs,∀e,d=e+1->Gm V U (.agg (eA e)) x)(g:b<=(xs.length:Int))(j:(xs.length:Int)<=a):Gm V U (ZU d b a) t:=by
 cases d with
 |zero=>
  have:=f rfl;subst this;exact .gp _ _ _ _ [] h (by simp) (by simp) (by simp)
 |succ d=>exact .gp _ _ _ _ xs h g j (λx i=>c x i d rfl)
theorem bAb:((List.range 5).all λd=>qT 20 (.agg (eA d)))=true:=by kernel_rfl
theorem ir(d:Nat)(h:d<=4):qT 20 (.agg (eA d))=true:=aP.1 bAb d (eT.2 (by omega))
theorem aRp{k:Int}(c:1<=k)(b:k<=28)(h:0<Ad k):k∈aZs:=by
 have a:k=1\/k=2\/k=3\/k=4\/k=5\/k=6\/k=7\/k=8\/k=9\/k=10\/k=11\/k=12\/k=13\/k=14\/k=15\/k=16\/k=17\/k=18\/k=19\/k=20\/k=21\/k=22\/k=23\/k=24\/k=25\/k=26\/k=27\/k=28:=by omega
 rcases a with rfl|rfl|rfl|rfl|rfl|rfl|rfl|rfl|rfl|rfl|rfl|rfl|rfl|rfl|rfl|rfl|rfl|rfl|rfl|rfl|rfl|rfl|rfl|rfl|rfl|rfl|rfl|rfl<;>first|exact absurd h (by decide)|(unfold aZs;decide)
theorem cls(hI:Is){d:Nat}(hd:d<=4){t:T}(z:Gm V U (.agg (eA d)) t)(hb:¬VE (d+1) t):
  (∃r∈aKw d,Gm V U (.agg r) t)\/∃e n i,d=e+1/\i<n/\n<=4/\Gm V U (.agg (aQy e n i)) t:=by
 rw[Cm]at z;obtain⟨x0,x1,x2,x3,x4,rfl,g0,g,o,M,D⟩:=aVg z;obtain⟨k,rfl,k1,k2⟩:=gm g0;obtain⟨vs,c,Y,I,f⟩:=Hs (show Gm V U (.gp (.agg (vA 40 6 1)) 0 2) x3 from M);obtain⟨x,a1,a2,a3,a4⟩:=Yg D;by_cases c1:k<=0;exact .inl ⟨_,aO,Ih (XU k1 c1 k1 k2) g o M D⟩;by_cases c2:29<=k;exact .inl ⟨_,aC _ aO,Ih (XU c2 k2 k1 k2) g o M D⟩;by_cases c3:Ad k<=(x.length:Int);by_cases c4:k=1->∃v,vs=[v]/\bBh v;have Z:∃u∈x,¬VE d u:=by
  refine dJ λhn=>hb ⟨k,x1,x2,x3,x4,vs,x,rfl,c,a1,by omega,by omega,c3,c4,λu Z=> ?_⟩;exact dJ λq=>hn ⟨u,Z,q⟩
 obtain⟨u,Z,hn⟩:=Z;obtain⟨i,K,rfl⟩:=bX Z;cases d with
 |zero=>have:=a2 rfl;subst this;simp at K
 |succ e=>
  refine .inr ⟨e,x.length,i,rfl,K,by omega,Ih g0 g o M (.ie _ _ x a1 (by simp) λj a t s y=> ?_)⟩;obtain⟨hj,rfl⟩:=aQ.1 y;have z:=a4 _ (cC hj) e rfl;rw[bA,List.getElem?_range hj]at s;cases s;by_cases N:j=i;subst N;show Gm V U (if Nat.beq j j=true then .ia (200+e+1) (eA e)else .agg (eA e)) _;rw[aJ (by simp)];have hq:=(hI.b (e+1) x[j] (by omega)).2 ⟨hn,Zm (ir e (by omega)) z⟩;generalize x[j]=u at z hq;cases z with
  |agg _ ts Q W=>exact .ia _ _ _ hq Q W
  show Gm V U (if Nat.beq j i=true then .ia (200+e+1) (eA e)else .agg (eA e)) _;rw[aH (by simpa using N)];exact z
 obtain⟨c5,L⟩:k=1/\¬∃v,vs=[v]/\bBh v:=⟨dJ λq=>c4 λe=>absurd e q,λq=>c4 λ_ =>q⟩;subst c5;have h:Gm V U (.ft .i64 1 1) (.int .i64 1):=XU (by omega) (by omega) k1 k2
 match vs,c,Y,I,f,L with
 |[],c,Y,I,f,L=>exact .inl ⟨_,aC _ (aC _ aO),Ih h g o (.gp _ _ _ _ [] c (by simp) (by simp) f) D⟩
 |[v],c,Y,I,f,L=>
  obtain⟨J,rfl,gu⟩:∃J,v= .agg J/\pT V U (vA 40 6 1) J:=by
   have:=f v (by simp);cases this with
   |agg _ J Q W=>exact⟨J,rfl,Q,W⟩
  obtain⟨u0,r,rfl,q1,q2⟩:=(show pT V U (fk::(vA 40 6 1).drop 1) J from gu).I;obtain⟨q,rfl,m1,m2⟩:=gm q1;have one:∀{lo K:Int},lo<=q->q<=K->Gm V U (oR lo K) x3:=λ{lo K} Q W=> .ie _ _ [_] c rfl λj a t s y=>by
   match j,s,y with
   |0,s,y=>cases s;cases y;exact PL (pV (XU Q W m1 m2) q2)|j+1,s,y=>simp at y
  by_cases b1:q<=0;exact .inl ⟨_,aC _ (aC _ (aC _ (aC _ aO))),Ih h g o (one m1 b1) D⟩;by_cases b2:8<=q;exact .inl ⟨_,aC _ (aC _ (aC _ (aC _ (aC _ aO)))),Ih h g o (one b2 m2) D⟩;exact absurd ⟨_,rfl,q,r,rfl,by omega,by omega⟩ L
 |[v,w],c,Y,I,f,L=>exact .inl ⟨_,aC _ (aC _ (aC _ aO)),Ih h g o (.gp _ _ _ _ [v,w] c (by simp) (by simp) f) D⟩|_ ::_ ::_ ::_,c,Y,I,f,L=>simp only[aZ]at I;omega
 have hm:=aRp (k:=k) (by omega) (by omega) (by omega);refine .inl ⟨_,aC _ (aC _ (aC _ (aC _ (aC _ (aC _ (eM hm)))))),Ih (XU (by omega) (by omega) k1 k2) g o M (aJn a1 a2 a4 (by omega) (by omega))⟩
end Go.Proofs.Tryz
