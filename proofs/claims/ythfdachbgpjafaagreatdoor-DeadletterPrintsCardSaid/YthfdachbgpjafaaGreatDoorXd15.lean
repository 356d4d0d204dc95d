/- Lemmas for the card; no conditions. -/
import Derived.Test.YthfdachbgpjafaaGreatDoorXd14
set_option linter.all false
set_option maxRecDepth 100000
namespace Go.Ps
noncomputable section
section
variable(P:gD)(E:uW)(F:Fc)
def aZk(o:Oper)(f:gC)(H:Hp):Option (List (T×Hp)):=match o.op with
 | .range b x=>(match pQ E.gl f x with
  |some v=>(match CI P H b v with
   |some q=>some [q]|none=>none)
  |none=>none)
 | .next x s=>(match pQ E.gl f x with
  |some v=>OL H s v|none=>none)
 | .entry x=>(match pQ E.gl f x with
  |some v=>stepT H v|none=>none)
 |_ =>none
def aJo(b:gF)(j:Nat)(h:gC)(H:Hp)(K:List T->Hp->Bool):Bool:=match b.toList.drop j with
 |[]=>false
 |o::p=>match o.guard with
  |some _ =>false
  |none=>tP b&&(match pU P E F b (b.toList.take j) ⟨h,H,none⟩with
   |some ⟨f,i,none⟩=>(match aZk P E o f i with
    |some k=>k.all λq=>(match pU P E F b p ⟨pW f o.dst q.1,q.2,none⟩with
     |some ⟨d,u,none⟩=>K d u|_ =>false)
    |none=>false)
   |_ =>false)
def aCg(m v:Nat)(o d:gF)(w b:Code)(K:List T->Hp->Bool):Nat->List T->Hp->Bool
 |0,_,_ =>false
 |k+1,x,H=>aJo P E F o 0 x H λu D=>(match oW P E F m w u D with
  |some (.normal,f,j)=>aJo P E F d 0 f j λp z=>(match oW P E F m b p z with
   |some (.normal,h,B)=>aCg m v o d w b K k h B|_ =>false)
  |some (.exit i,f,j)=>Nat.beq i v&&K f j|_ =>false)
end
section
variable{P:gD}{E:uW}{F:Fc}{ro:gW}{n:Nat}{Q:gT}
theorem aRx{o:Oper}{f:gC}{H:Hp}{i:jV}(h:aZk P E o f H=some i):UX P E o f H i:=by
 unfold aZk at h;split at h;rename_i p x d;split at h;rename_i v b;split at h;rename_i q j;cases h;obtain⟨t,k⟩:=q;exact CJ d b j;cases h;cases h;rename_i x s d;split at h;rename_i v b;exact RP d b h;cases h;rename_i x d;split at h;rename_i v b;exact ZD d b h;cases h;cases h
theorem Ii(D:rV P E.gl E.pe)(hF:sD P E.gl F.ee){b:gF}{id j:Nat}{i:gC}{H:Hp}{K:List T->Hp->Bool}(h:aJo P E F b j i H K=true)(I:∀f k,K f k=true->Q .normal f k):gj P E ro n (.region id b false) i H Q:=by
 unfold aJo at h;split at h;cases h;rename_i o post M;split at h;cases h;rename_i B;rw[aA]at h;obtain⟨w,h⟩:=h;split at h;rename_i L R z;split at h;rename_i N d;rw[aP]at h;refine wT D hF w (pre:=b.toList.take j) (post:=post) (o:=o) (by rw[<-M,fH]) B z (aRx d) λt v u=> ?_;have:=h (t,v) u;simp only at this;split at this;rename_i J O x;exact⟨_,_,x,I _ _ this⟩;cases this;cases h;cases h
theorem aRu(B:P.follows .mixedOrders=true)(x:rV P E.gl E.pe)(hF:sD P E.gl F.ee){m z b i1 i2:Nat}{o f:gF}{w d:Code}{K:List T->Hp->Bool}(V:b≠z)
  (u:codeOk w=true/\uZ w=true/\codeOk d=true/\uZ d=true) {k:Nat} {j:gC} {H:Hp} (h:aCg P E F m z o f w d K k j H=true) (O:∀v L,K v L=true->Q (.exit z) v L):
  gj P E ro n (.loop (.seq (.region i1 o false) (.seq w (.block b (.seq (.region i2 f false) d))))) j H Q:=by
 refine XB (λk j H=>aCg P E F m z o f w d K k j H=true) (λj H h=>by simp[aCg]at h) (λk j H h=> ?_) k h;unfold aCg at h;refine pB (Ii x hF h λU Z p=> ?_);split at p;rename_i J M D;refine pB (oY B x hF (m:=m) u.1 u.2.1 D ?_);refine sP (pB (Ii x hF p λS W I=> ?_));split at I;rename_i N Y R;exact oY B x hF (m:=m) u.2.2.1 u.2.2.2 R I;cases I;rename_i i J M D;rw[aA]at p;have e:=aD p.1;subst e;exact pB (oY B x hF (m:=m) u.1 u.2.1 D (O _ _ p.2));cases p
end
section
variable(P:gD)(E:uW)(ee:gK)(yd:gR)(ow:hJ)(n:Nat)
def Uo:Nat->Code->List T->Hp->Option (Code×List T×Hp)
 |0,c,f,H=>some (c,f,H)
 |k+1,.seq a b,f,H=>if tT a then(match qA P E ee yd ow n none a f H with
  |some (.normal,d,h)=>Uo k b d h|_ =>none)else none
 |_,_,_,_ =>none
end
section
variable{P:gD}{E:uW}{ee:gK}{yd:gR}{ow:hJ}{n:Nat}
theorem Zl(M:P.follows .mixedOrders=true)(N:rV P E.gl E.pe)(hF:sD P E.gl ee)(L:Fk P E.gl yd){Q:gT}{D:G}{S:Hp}{R:gJ}(o:∀a w,¬R .outgrown a w)
  (O:∀x f i v u j,Q x f i->qK E D S u v f i->Mk D u i j->R x.au (DS j v) u.w):∀(k:Nat) {c B:Code} {z f:gC} {H i:Hp},Uo P E ee yd ow n k c z H=some (B,f,i)->gj P E none 0 B f i Q->
  ∀(g:G) (a:Act) (ds:iU),qK E D S g a z H->Mk D g H ds->c.wpIn (Fw none) 0 P R (DS ds a) g.w
 |0,c,B,z,f,H,i,h,K,g,a,ds,d,p=>by
  simp only[Uo,aI,bF]at h;obtain⟨rfl,rfl,rfl⟩:=h;exact K g g H a ds ⟨d.ok,d.st,d.gl,d.df,d.fr,pP.refl _ _⟩ R o λx f i v u W b=>
   O x f i v u ds W ⟨b.ok,b.st,b.gl,b.df,b.fr,d.step.trans b.step⟩ (p.af b.step)
 |k+1,c,B,z,f,H,i,h,K,g,a,ds,d,p=>by
  cases c with
  |seq U Z=>
   simp only[Uo]at h;split at h;rename_i I;split at h;rename_i f1 H1 V;refine wpIn_seq (NJ M N hF L (ro:=none) (λl Y=>by cases Y) U _ _ _ _ _ I V g a ds d p _ (xN o) λv u j b J=> ?_);exact Zl M N hF L o O k h K u v j b J;cases h;cases h
  |_ =>simp only[Uo]at h;cases h
theorem aCr(L:wO E.gl)(I:P.follows .mixedOrders=true)(D:rV P E.gl E.pe)(hF:sD P E.gl ee)(z:Fk P E.gl yd){f:gX}{i:Func}{c x:Code}(J:uQ P f=true)(w:P.funcs[f]? =some i)(M:i.body=some c){k:Nat}{d:gC}(o:qJ (pM k ⟨0,.nl⟩) d=some d){r:T}{j:Nat}{b:gC}{H:Hp}
  (B:Uo P E ee yd ow n j c (d++List.replicate (i.ntmps-d.length) oS) ⟨0,.nl⟩=some (x,b,H)) (h:gj P E none 0 x b H (KR P i k r)):fj P E.gl f d r:=
 Dx L J w M o λN g a p R v K u=>Zl I D hF z v K j B h g a [] p u
theorem XA(hF:sD P E.gl ee)(o:hJ):sD P E.gl (LO o ee).ee:=by rw[FH];exact hF
end
end
end Go.Ps
namespace Go.Proofs.Tryz
open Go.Ps
noncomputable section
def kW:List UInt8:=[119,111,114,107]
def kL:List UInt8:=[108,97,116,101]
def kP:List UInt8:=[112,97,121]
def kT:List UInt8:=[116,105,109,101,111,117,116]
def zl(e:Int)(b d:gH):T:= .agg [.int .i64 e,.sl false [.int .i64 1],.int .i64 1048576,.sl false [.int .i64 e],.int .i64 9,.int .i64 0,.int .i64 0,.str [],.fp,.fp,.str b,.str d,.int .i64 1]
def kM:T:= .agg [.int .i64 0,.int .i64 0,.int .i64 0,.fp,.fp,.fp,.fp,.sl true [zl 4 kW kL,zl 5 kP kT,zl 9 kW kL]]
def rb:T:= .agg [.str [],.str [],.int .i64 0,.int .i64 0,.fp]
def ni:T:= .agg [.str kW,.str [],.int .i64 5,.int .i64 0,.fp]
def xg:List UInt8:=[110,111,100,101,32,119,111,114,107,32,102,114,111,109,32,53]
section
variable(m:Int)(C:gB)
theorem DO(e:Int)(b d:gH):fj prog (fo m C) 24 [.int .i64 e,.str b,.str d] (zl e b d):=rK m C (by kernel_rfl) (by kernel_rfl)
theorem D0:fj prog (fo m C) 21 [.str xg] (.fm [ni,.int .i64 0,.int .i64 0,.int .i64 0]):=rK m C (by kernel_rfl) (by kernel_rfl)
def aSi:Nat->Nat->Bool:=λf s=> !(sA f [34,35,36]||sA f [67,37]&&(Nat.beq s 1||Nat.ble 9000000 s&&Nat.blt s 9200000))
noncomputable abbrev og(f:gX):Bool:=uQ prog f&&zN prog f
def eK:uW:=⟨fo m C,sR 40 lV⟩
def re:=qW prog (eK m C) aSi og 100 30
theorem aJt:∀f,og f=true->uQ prog f=true/\zN prog f=true:=λf h=>by unfold og at h;simpa using h
theorem aSm:iq prog (fo m C) lV:=iq.of λf b r h=>jg (Iz h)
theorem D2{f:gX}{b:gC}{r:T}(h:Ps.ir prog (fo m C) lV aSi og 40 100 30 f b=some r)(d:qJ (pM 40 ⟨0,.nl⟩) b=some b):fj prog (fo m C) f b r:=
 aKm follows (qN m C) (RU _) (aSm m C) h d
theorem D4:fj prog (fo m C) 17 [kM,ni] (.sl false [zl 9 kW kL]):=D2 m C (by kernel_rfl) (by kernel_rfl)
noncomputable def bAy:Code:= .seq (rg f16 18) (.seq (rg f16 19) .ret)
def c16:Code:= .seq (.seq (rg f16 14) (.block 2 (.loop (.seq (.region 15 (BN f16 15) false) (.seq (.cond (.tmp 70) .skip (.exit 2)) (.block 3 (.seq (.region 16 (BN f16 16) false) (rg f16 17)))))))) bAy
def oh:Fc:=LO (λ_ =>true) (re m C).ee
def nj:T:= .sl false [.agg [.str kP,.str kT,.int .i64 1,.int .i64 1048576,.int .i64 5,.int .i64 5],.agg [.str kW,.str kL,.int .i64 2,.int .i64 2097152,.int .i64 4,.int .i64 9]]
def aYl:T->Bool
 | .sl false [.agg [.str a,.str b,.int .i64 c,.int .i64 d,.int .i64 e,.int .i64 f],.agg [.str h,.str j,.int .i64 i,.int .i64 k,.int .i64 p,.int .i64 o]]=>a==kP&&(b==kT&&(c==1&&(d==1048576&&(e==5&&(f==5&&(h==kW&&(j==kL&&(i==2&&(k==2097152&&(p==4&&o==9))))))))))|_ =>false
def rf(d:gC)(H:Hp):Bool:=match oW prog (eK m C) (oh m C) 100 bAy d H with
 |some (.ret,f,b)=>(match rJ prog f b f16.results.toList with
  |some [t]=>(match pM 40 b t with
   |some r=>aYl r|none=>false)
  |_ =>false)
 |_ =>false
def bPo:Option (Code×List T×Hp):=Uo prog (eK m C) (re m C).ee (re m C).yd (λ_ =>true) 100 4 (pO f16) ([kM,rb]++List.replicate 78 oS) ⟨0,.nl⟩
def bDv(d:gC)(H:Hp):Bool:=aJo prog (eK m C) (oh m C) (BN f16 14) 1 d H λf b=>aCg prog (eK m C) (oh m C) 3 2 (BN f16 15) (BN f16 16) (.cond (.tmp 70) .skip (.exit 2)) (rg f16 17) (rf m C) 5 f b
theorem aQf{t:T}(h:aYl t=true):t=nj:=by
 unfold aYl at h;split at h;simp only[aA,bN]at h;obtain⟨rfl,rfl,rfl,rfl,rfl,rfl,rfl,rfl,rfl,rfl,rfl,rfl⟩:=h;rfl;cases h
theorem aWp{f:gC}{H:Hp}(h:rf m C f H=true):gj prog (eK m C) none 0 bAy f H (KR prog f16 40 nj):=by
 have p:=OX (E:=eK m C) follows (CW (k:=40) (qN m C) (aSm m C)) (RU _) (own:=aSi) aJt (n:=100) 30;unfold rf at h;split at h;rename_i j u i;split at h;rename_i t d;split at h;rename_i r b;exact oY follows (CW (k:=40) (qN m C) (aSm m C)) (XA p.1 _) (m:=100) (by kernel_rfl) (by kernel_rfl) i ⟨.inr rfl,t,r,d,b,λg v o=>by rw[<-aQf h];exact o⟩;cases h;cases h;cases h
theorem bHr:(bPo m C).map (λq=>(q.1,bDv m C q.2.1 q.2.2))=some (c16,true):=by kernel_rfl
theorem D5:fj prog (fo m C) 16 [kM,rb] nj:=by
 have d:=CW (k:=40) (qN m C) (aSm m C);have i:=OX (E:=eK m C) follows d (RU _) (own:=aSi) aJt (n:=100) 30;have hF:sD prog (eK m C).gl (oh m C).ee:=XA i.1 _;have h:=bHr m C;obtain⟨⟨c,w,H⟩,p,b⟩:=aG.1 h;simp only[bF]at b;obtain⟨rfl,b⟩:=b;refine aCr (E:=eK m C) (qN m C) follows d i.1 i.2 (f:=16) (by kernel_rfl) func16 (c:=pO f16) (by kernel_rfl) (k:=40) (by kernel_rfl) p ?_;unfold c16;unfold bDv at b;refine pB (pB (Ii d hF b λv x o=> ?_));exact sP (aRu follows d hF (by decide) ⟨by kernel_rfl,by kernel_rfl,by kernel_rfl,by kernel_rfl⟩ o λu z j=>aWp m C j)
def xh:List T->Option (T×List Bool)
 |[.int .i64 e,.str b,.str d]=>some (zl e b d,[])|_ =>none
def xi:Ed:=⟨fo m C,qC 24 xh (qC 16 (sT m C 16 nj) (qC 21 (sT m C 21 (.fm [ni,.int .i64 0,.int .i64 0,.int .i64 0])) (qC 17 (sT m C 17 (.sl false [zl 9 kW kL])) λ_ _ _ =>none)))⟩
theorem aWi:rV prog (xi m C).env.gl (xi m C).env.pe:=
 pG (pG (pG (pG rM λf r d h b=>xY m C h b) λf r d h b=>xY m C h b) λf r d h b=>xY m C h b) λf r d h b=>by
  unfold xh at h;split at h;cases h;exact DO m C _ _ _;cases h
theorem lw:fj prog (fo m C) 9 [] (.bool true):=
 gq (aWi m C) rfl (f:=9) (by kernel_rfl) (by kernel_rfl) func9 (by kernel_rfl) (ts:=[]) rfl (ds:=List.replicate 33 true)
  (b:=pb (fj prog (fo m C) 17 [kM,ni] (.sl false [zl 9 kW kL]))&&(pb (fj prog (fo m C) 21 [.str xg] (.fm [ni,.int .i64 0,.int .i64 0,.int .i64 0]))&&(pb (fj prog (fo m C) 16 [kM,rb] nj)&&true)))
  (by kernel_rfl) (by simp[pN,D5,D4,D0])
end
def uE(D:Ed)(i:Func)(c:Code)(d:gC)(H:Hp)(ds:gL):Option (List T×Bool):=match qH prog D F0 40 c d H ds []with
 | .ok (.ret,f,h) _ b=>(rJ prog f h i.results.toList).map λj=>(j,oU b)|_ =>none
theorem bJd{D:Ed}(I:rV prog D.env.gl D.env.pe){k:Func}{c:Code}(i:(codeOk c&&uZ c)=true){j:gC}{H:Hp}{ds:gL}{f:gC}{b:Bool}(h:uE D k c j H ds=some (f,b))(x:b=true)(J:∀H,pM 40 H (YE f)=some (YE f)):gj prog D.env none 0 c j H (aAt prog k 40 (YE f)):=by
 simp only[aA]at i;unfold uE at h;split at h;rename_i p K w z o;obtain⟨B,u,d⟩:=aG.1 h;simp only[bF]at d;obtain⟨rfl,d⟩:=d;exact oY follows I vW i.1 i.2 (wR 40 o (d.trans x)).1 ⟨.inr rfl,_,_,u,J _,λg v h=>h⟩;cases h
def Ps.dz:RD (Code×List T×Hp)->Hp
 | .ok (_,_,H) _ _ =>H|_ =>⟨0,.nl⟩
section
variable(m:Int)(C:gB)(a g:Fq)(q s t:gH)(E e l c y:Int)(bw:Bool)
def ji(b1 b2 b3 b4 K:Bool):List (List UInt8):=(if b1 then [[110,111,100,101,32]++a.nd]else [])++((if b2 then [[114,101,97,115,111,110,32]++q]else [])++((if b3 then [[102,114,111,109,32]++qL a.fr]else [])++((if b4 then [[116,111,32]++qL a.till]else [])++if K then [[119,104,101,114,101,32]++s]else [])))
def mK:List (List UInt8)->List UInt8
 |[]=>[]|l=>tY [32] l
def rh:List (List UInt8)->Bool
 |[]=>true|l=>decide ((tY [32] l).length<=140737488355328)
def bIf:List T->Option (T×List Bool)
 |[.int .i64 n]=>some (.str (qL n),[pb (fj prog (fo m C) 40 [.int .i64 n] (.str (qL n)))])|_ =>none
def lL:Ed:=⟨fo m C,qC 10 (sT m C 10 (.int .i64 E)) (qC 39 (sT m C 39 (.str q)) (qC 40 (bIf m C) (qC 41 (sT m C 41 (.fm [.str s,.int .i64 e])) (qC 21 (sT m C 21 (.fm [BI g,.int .i64 l,.int .i64 c,.int .i64 y])) (qC 43 (sT m C 43 (.bool bw)) (Iy 40 42 nP λ_ _ _ =>none))))))⟩
theorem Rp:rV prog (lL m C g q s E e l c y bw).env.gl (lL m C g q s E e l c y bw).env.pe:=
 pG (pG (pG (pG (pG (pG (Dq (qN m C) rM λf r d h b=>aLa h b) λf r d h b=>xY m C h b) λf r d h b=>xY m C h b) λf r d h b=>xY m C h b) λf r d h b=>by
  unfold bIf at h;split at h;rename_i n;cases h;have k:fj prog (fo m C) 40 [.int .i64 n] (.str (qL n)):=by simpa [oU,pN]using b
  exact k
  cases h) λf r d h b=>xY m C h b) λf r d h b=>xY m C h b
abbrev aK(K:Bool):Fq:={a with k:=if K then 1 else 0}
def nk(b1 b2 b3 b4:Bool):List Bool:=
 (if b4 then [decide (3+(qL a.till).length<=pK),pb (fj prog (fo m C) 40 [.int .i64 a.till] (.str (qL a.till))),a.till !=0]else [!(a.till !=0)])++
 ((if b3 then [decide (5+(qL a.fr).length<=pK),pb (fj prog (fo m C) 40 [.int .i64 a.fr] (.str (qL a.fr))),a.fr !=0]else [!(a.fr !=0)])++
 ((if b2 then [decide (7+q.length<=pK),pb (fj prog (fo m C) 39 [.str a.rs] (.str q)),!(a.rs==[])]else [!!(a.rs==[])])++
 (if b1 then [decide (5+a.nd.length<=pK),!(a.nd==[])]else [!!(a.nd==[])])))
def aRk(K:Bool):List Bool:=[!(E !=0),pb (fj prog (fo m C) 10 [BI (aK a K)] (.int .i64 E))]
abbrev oi:Bool:=pb (fj prog (fo m C) 41 [pJ (a.u 0)] (.fm [.str s,.int .i64 e]))
def ri(K:Bool):List Bool:=if K then [decide (6+s.length<=pK),!(e !=0),oi m C a s e]else []
def bMq(b1 b2 b3 b4 K:Bool):List Bool:=[false,b1,b2,b3,b4]++if K then [true,false,false]else [false]
def oj:Nat->Code->Code
 |0,c=>c|k+1,.seq _ b=>oj k b|_,c=>c
def mL(b1 b2 b3 b4 K:Bool):RD (Code×List T×Hp):=Jb prog (lL m C g q s E e l c y bw) F0 40 9 (pO f19) ([BI (aK a K)]++List.replicate 127 oS) ⟨0,.nl⟩ (bMq b1 b2 b3 b4 K) []
theorem D6(b1 b2 b3 b4 K:Bool):aKi (mL m C a g q s E e l c y bw b1 b2 b3 b4 K)=some (oj 9 (pO f19),Ps.dz (mL m C a g q s E e l c y bw b1 b2 b3 b4 K),rh (ji a q s b1 b2 b3 b4 K)&&oU (ri m C a s e K++(nk m C a q b1 b2 b3 b4++aRk m C a E K))):=by
 cases b1<;>cases b2<;>cases b3<;>cases b4<;>cases K<;>kernel_rfl
theorem D8(b1 b2 b3 b4 K:Bool):Pk (mL m C a g q s E e l c y bw b1 b2 b3 b4 K)=qD [(1,.ref (BI (aK a K)) 0),(10,.str (mK (ji a q s b1 b2 b3 b4 K)))] 128 λi=>rW (Pk (mL m C a g q s E e l c y bw b1 b2 b3 b4 K)) i:=by
 cases b1<;>cases b2<;>cases b3<;>cases b4<;>cases K<;>kernel_rfl
theorem bPq:(uC (lL m C g q s E e l c y bw) f19 [BI a] [true]).map (λq=>(q.1,oU q.2))=some (.fm [.str [],.int .i64 E],(E !=0)&&(pb (fj prog (fo m C) 10 [BI a] (.int .i64 E))&&true)):=by kernel_rfl
theorem bPr(b1 b2 b3 b4:Bool):(uC (lL m C g q s E e l c y bw) f19 [BI (aK a true)] [false,b1,b2,b3,b4,true,true]).map (λq=>(q.1,oU q.2))=some (.fm [.str [],.int .i64 e],oU ((e !=0)::oi m C a s e::(nk m C a q b1 b2 b3 b4++aRk m C a E true))):=by
 cases b1<;>cases b2<;>cases b3<;>cases b4<;>kernel_rfl
def tj:Nat->Bool
 |0=>y !=0|1=> !(g.nd==a.nd)|2=> !(g.rs==a.rs)|3=>g.fr !=a.fr|_ =>g.till !=a.till
def nr:Nat->List Bool
 |0=>[pb (fj prog (fo m C) 21 [.str t] (.fm [BI g,.int .i64 l,.int .i64 c,.int .i64 y]))]|j+1=>List.replicate 6 (!tj a g y j)++nr j
abbrev D9(K:Bool)(u:iK):List T:=qD [(1,.ref (BI (aK a K)) 0),(10,.str t)] 128 u
abbrev rj(K:Bool)(u:iK)(H:Hp)(ds:gL):Option (List T×Bool):=uE (lL m C g q s E e l c y bw) f19 (oj 9 (pO f19)) (D9 a t K u) H ds
abbrev E0(K:Bool):Bool:=pb (fj prog (fo m C) 43 [jp g.u g.k,jp a.u (if K then 1 else 0),.fn (.func 44) [] []] (.bool bw))
theorem E1(K:Bool)(u:iK)(H:Hp):∀j:Nat,j<=4->rj m C a g q s t E e l c y bw K u H (List.replicate (6*j) false++List.replicate (32-6*j) true)=some ([.str [],.int .i64 3],oU (List.replicate (if j=4 then 7 else 6) (tj a g y j)++nr m C a g t l c y j)):=by
 intro j h;rcases j with _ |_ |_ |_ |_ |j<;>first|omega|kernel_rfl
theorem bHt(K:Bool)(u:iK)(H:Hp)(b:Bool):rj m C a g q s t E e l c y bw K u H (List.replicate 31 false++[b])=some (if b then [.str [],.int .i64 3]else [.str t,.int .i64 0],oU ((if b then !bw else !!bw)::(!tj a g y 4)::(!tj a g y 4)::E0 m C a g bw K::(List.replicate 5 (!tj a g y 4)++nr m C a g t l c y 4))):=by
 cases K<;>cases b<;>kernel_rfl
variable{m C a g q s t E e l c y bw}
theorem aIr(b1 b2 b3 b4 K:Bool)(b:a.nd.length<=100)(h:q.length<=700):(mK (ji a q s b1 b2 b3 b4 K)).length<=1000+s.length:=by
 have:=tZ a.fr;have:=tZ a.till;cases b1<;>cases b2<;>cases b3<;>cases b4<;>cases K<;>simp[ji,mK,tY]<;>omega
theorem aYu:∀{p:jT},(mK p).length<=140737488355328->rh p=true
 |[],_ =>rfl|_ ::_,h=>bU h
structure lM(m:Int)(C:gB)(a:Fq)(q:gH):Prop where
 nd:a.nd.length<=100
 q7:q.length<=700
 fh:fj prog (fo m C) 39 [.str a.rs] (.str q)
 fr:0<=a.fr/\a.fr<=1048576
 till:0<=a.till/\a.till<=1048576
abbrev Tryz.b1(a:Fq):Bool:= !(a.nd==[])
abbrev Tryz.b2(a:Fq):Bool:= !(a.rs==[])
abbrev Tryz.b3(a:Fq):Bool:=a.fr !=0
abbrev Tryz.b4(a:Fq):Bool:=a.till !=0
theorem j4{n:Nat}(h:n<=4000000000):decide (n<=pK)=true:=bU (dK h (by decide))
theorem aJb(h:lM m C a q):oU (nk m C a q (Tryz.b1 a) (Tryz.b2 a) (Tryz.b3 a) (Tryz.b4 a))=true:=by
 have p:=pN.2 h.fh;have pf:=pN.2 (qq m C a.fr (by have:=h.fr;omega));have b:=pN.2 (qq m C a.till (by have:=h.till;omega));have i1:=tZ a.fr;have i2:=tZ a.till;have i:=h.nd;have d:=h.q7;unfold nk;refine Le ?_ (Le ?_ (Le ?_ ?_));cases e:Tryz.b4 a<;>simp only[cB,bI,cN];exact qB (by rw[show(a.till !=0)=false from e];rfl) rfl;exact qB (j4 (by omega)) (qB b (qB e rfl));cases e:Tryz.b3 a<;>simp only[cB,bI,cN];exact qB (by rw[show(a.fr !=0)=false from e];rfl) rfl;exact qB (j4 (by omega)) (qB pf (qB e rfl));cases e:Tryz.b2 a<;>simp only[cB,bI,cN];exact qB (by rw[show(!(a.rs==[]))=false from e];rfl) rfl;exact qB (j4 (by omega)) (qB p (qB e rfl));cases e:Tryz.b1 a<;>simp only[cB,bI,cN];exact qB (by rw[show(!(a.nd==[]))=false from e];rfl) rfl;exact qB (j4 (by omega)) (qB e rfl)
theorem Yu{K:Bool}(h:fj prog (fo m C) 10 [BI (aK a K)] (.int .i64 0)):oU (aRk m C a 0 K)=true:=qB rfl (qB (pN.2 h) rfl)
theorem aCp(h:fj prog (fo m C) 10 [BI a] (.int .i64 E))(b:E≠0):fj prog (fo m C) 19 [BI a] (.fm [.str [],.int .i64 E]):=
 gq (Rp m C a [] [] E 0 0 0 0 true) rfl (by kernel_rfl) (by kernel_rfl) func19 (by kernel_rfl) (by kernel_rfl) (bPq m C a a [] [] E 0 0 0 0 true) (by rw[pN.2 h,bne_iff_ne.2 b];rfl)
theorem aCq(d:lM m C a q)(h:fj prog (fo m C) 10 [BI (aK a true)] (.int .i64 0))(b:fj prog (fo m C) 41 [pJ (a.u 0)] (.fm [.str s,.int .i64 e]))(f:e≠0):
  fj prog (fo m C) 19 [BI (aK a true)] (.fm [.str [],.int .i64 e]):=
 gq (Rp m C a q s 0 e 0 0 0 true) rfl (by kernel_rfl) (by kernel_rfl) func19 (by kernel_rfl) (by kernel_rfl) (bPr m C a a q s 0 e 0 0 0 true (Tryz.b1 a) (Tryz.b2 a) (Tryz.b3 a) (Tryz.b4 a)) (qB (bne_iff_ne.2 f) (qB (pN.2 b) (Le (aJb d) (Yu h))))
def kU(a:Fq)(q s:gH)(K:Bool):List UInt8:=mK (ji a q s (Tryz.b1 a) (Tryz.b2 a) (Tryz.b3 a) (Tryz.b4 a) K)
def lx(a g:Fq)(y:Int)(b:Bool):Bool:=(y==0)&&((g.nd==a.nd)&&((g.rs==a.rs)&&((g.fr==a.fr)&&((g.till==a.till)&&b))))
theorem aKl{K:Bool}(I:lM m C a q)(hs:s.length<=100000000)(h:fj prog (fo m C) 10 [BI (aK a K)] (.int .i64 0))(D:K=true->fj prog (fo m C) 41 [pJ (a.u 0)] (.fm [.str s,.int .i64 0]))
  (L:fj prog (fo m C) 21 [.str (kU a q s K)] (.fm [BI g,.int .i64 l,.int .i64 c,.int .i64 y])) (z:fj prog (fo m C) 43 [jp g.u g.k,jp a.u (if K then 1 else 0),.fn (.func 44) [] []] (.bool bw)):
  fj prog (fo m C) 19 [BI (aK a K)] (if lx a g y bw then .fm [.str (kU a q s K),.int .i64 0]else .fm [.str [],.int .i64 3]):=by
 have O:=Rp m C g q s 0 0 l c y bw;have x:oU (ri m C a s 0 K)=true:=by
  cases K with
  |false=>rfl|true=>exact qB (j4 (by omega)) (qB rfl (qB (pN.2 (D rfl)) rfl))
 have hjn:=aIr (q:=q) (s:=s) (a:=a) (Tryz.b1 a) (Tryz.b2 a) (Tryz.b3 a) (Tryz.b4 a) K I.nd I.q7;have p:=D6 m C a g q s 0 0 l c y bw (Tryz.b1 a) (Tryz.b2 a) (Tryz.b3 a) (Tryz.b4 a) K;have M:=D8 m C a g q s 0 0 l c y bw (Tryz.b1 a) (Tryz.b2 a) (Tryz.b3 a) (Tryz.b4 a) K;generalize hH:Ps.dz (mL m C a g q s 0 0 l c y bw (Tryz.b1 a) (Tryz.b2 a) (Tryz.b3 a) (Tryz.b4 a) K)=H at p;have U:(rh (ji a q s (Tryz.b1 a) (Tryz.b2 a) (Tryz.b3 a) (Tryz.b4 a) K)&&oU (ri m C a s 0 K++(nk m C a q (Tryz.b1 a) (Tryz.b2 a) (Tryz.b3 a) (Tryz.b4 a)++aRk m C a 0 K)))=true:=by
  rw[aYu (by omega),cL];exact Le x (Le (aJb I) (Yu h))
 have v:∀{ts:gC} {ds:gL} {b:Bool},(∀u,rj m C a g q s (kU a q s K) 0 0 l c y bw K u H ds=some (ts,b))->b=true->(∀H,pM 40 H (YE ts)=some (YE ts))->fj prog (fo m C) 19 [BI (aK a K)] (YE ts):=λ{ts ds b} W B Z=>by
  refine SM (E:=(lL m C g q s 0 0 l c y bw).env) (qN m C) (f:=19) (by kernel_rfl) func19 (c:=pO f19) (by kernel_rfl) (k:=40) (by kernel_rfl) (aKj follows O vW p U ?_);have k2:gj prog (lL m C g q s 0 0 l c y bw).env none 0 (oj 9 (pO f19)) (Pk (mL m C a g q s 0 0 l c y bw (Tryz.b1 a) (Tryz.b2 a) (Tryz.b3 a) (Tryz.b4 a) K)) H (aAt prog f19 40 (YE ts)):=by
   rw[M];exact bJd O (by kernel_rfl) (W _) B Z
  exact k2
 have l0:oU (nr m C a g (kU a q s K) l c y 0)=true:=qB (pN.2 L) rfl;have N:∀j,(∀i,i<j->tj a g y i=false)->oU (nr m C a g (kU a q s K) l c y j)=true:=by
  intro j
  induction j with
  |zero=>exactλ_ =>l0|succ j V=>exactλh=>BD 6 (by rw[h j (by omega)];rfl) (V λi J=>h i (by omega))
 obtain⟨j,j1,d,j3⟩:=HQ (λi=> !tj a g y i) 5;have d:∀i,i<j->tj a g y i=false:=λi J=>by simpa using d i J
 by_cases R:j<5;have w:tj a g y j=true:=by simpa using j3 R
 have no:lx a g y bw=false:=by
  unfold lx;rcases j with _ |_ |_ |_ |_ |j
  rw[show(y==0)=false by simpa [tj]using w];rfl;rw[show(g.nd==a.nd)=false by simpa [tj]using w];simp;rw[show(g.rs==a.rs)=false by simpa [tj]using w];simp;rw[show(g.fr==a.fr)=false by simpa [tj]using w];simp;rw[show(g.till==a.till)=false by simpa [tj]using w];simp;omega
 rw[no];exact v (λu=>E1 m C a g q s _ 0 0 l c y bw K u H j (by omega)) (BD _ w (N j d)) λH=>rfl;obtain rfl:j=5:=by omega
 have t4:(!tj a g y 4)=true:=by rw[d 4 (by omega)];rfl
 have ok:lx a g y bw=bw:=by
  have Y:=d 0 (by omega);have k1:=d 1 (by omega);have k2:=d 2 (by omega);have k3:=d 3 (by omega);have S:=d 4 (by omega);unfold lx;rw[show(y==0)=true by simpa [tj]using Y,show(g.nd==a.nd)=true by simpa [tj]using k1,show(g.rs==a.rs)=true by simpa [tj]using k2,show(g.fr==a.fr)=true by simpa [tj]using k3,show(g.till==a.till)=true by simpa [tj]using S];simp
 rw[ok];have lt:=qB t4 (qB t4 (qB (pN.2 z) (BD 5 t4 (N 4 λi J=>d i (by omega)))));cases bw with
 |true=>exact v (ts:=[.str (kU a q s K),.int .i64 0]) (λu=>bHt m C a g q s _ 0 0 l c y true K u H false) (qB rfl lt) λH=>rfl|false=>exact v (ts:=[.str [],.int .i64 3]) (λu=>bHt m C a g q s _ 0 0 l c y false K u H true) (qB rfl lt) λH=>rfl
end
theorem NP:∀(k u:Nat) (b:gH),FD k u b=FD k u []++b
 |0,_,b=>by simp[FD]
 |k+1,u,b=>by
  unfold FD;split;rfl;rw[NP k (u/10) (UInt8.ofNat (48+u%10)::b),NP k (u/10) [UInt8.ofNat (48+u%10)]];simp
theorem Mg:∀(k u:Nat),u<10^(k+1)->FD (k+1) u []=FD (k+2) u []
 |0,u,h=>by
  have:u<10:=by simpa using h
  simp[FD,this]
 |k+1,u,h=>by
  show(if u<10 then UInt8.ofNat (48+u)::[]else FD (k+1) (u/10) [UInt8.ofNat (48+u%10)])=(if u<10 then UInt8.ofNat (48+u)::[]else FD (k+2) (u/10) [UInt8.ofNat (48+u%10)]);split;rfl;rw[NP (k+1),NP (k+2),Mg k (u/10) (by rw[Nat.pow_succ]at h;omega)]
theorem Ub{x:Int}(f:10<=x)(h:x<=9223372036854775807):qL x=qL (x/10)++[UInt8.ofNat (48+x%10).toNat]:=by
 unfold qL;rw[aH (by omega),aH (by omega),FD];have d:(x/10).toNat=x.toNat/10:=by omega
 have b:(48+x%10).toNat=48+x.toNat%10:=by omega
 rw[aH (by omega),NP,d,b,Mg 18 (x.toNat/10) (by omega)]
theorem Nn{x:Int}(d:0<=x)(h:x<10):qL x=[UInt8.ofNat (48+x).toNat]:=by
 unfold qL;have b:(48+x).toNat=48+x.toNat:=by omega
 rw[aH (by omega),FD,aJ (by omega),b]
def E2:List UInt8:=[48,49,50,51,52,53,54,55,56,57]
def ol(d:Int):List UInt8:=(E2.take (IntKind.i64.wrap (d+1)).toNat).drop d.toNat
theorem aXs{d:Int}(h:0<=d)(b:d<10):ol d=[UInt8.ofNat (48+d).toNat]:=by
 have:d=0\/d=1\/d=2\/d=3\/d=4\/d=5\/d=6\/d=7\/d=8\/d=9:=by omega
 rcases this with rfl|rfl|rfl|rfl|rfl|rfl|rfl|rfl|rfl|rfl<;>rfl
section
variable(m:Int)(C:gB)
def oo(s:gH):Ed:=⟨fo m C,qC 46 (sT m C 46 (.str s)) λ_ _ _ =>none⟩
theorem aFj(s:gH):rV prog (oo m C s).env.gl (oo m C s).env.pe:=pG rM λf r d h b=>xY m C h b
def aRl(n:Int):List Bool:=[decide (0<=IntKind.i64.wrap (n.tmod 10+1)),decide (IntKind.i64.wrap (n.tmod 10+1)<=10),decide (0<=n.tmod 10),decide (n.tmod 10<=(IntKind.i64.wrap (n.tmod 10+1)).toNat)]
theorem bRq(s:gH)(n:Int):(uC (oo m C s) f46 [.int .i64 n] [true]).map (λq=>(q.1,oU q.2))=some (.str (s++ol (n.tmod 10)),oU (decide (s.length+(ol (n.tmod 10)).length<=pK)::pb (fj prog (fo m C) 46 [.int .i64 (IntKind.i64.wrap (n.tdiv 10))] (.str s))::decide (n>9)::aRl n)):=by kernel_rfl
theorem bRr(s:gH)(n:Int):(uC (oo m C s) f46 [.int .i64 n] [false]).map (λq=>(q.1,oU q.2))=some (.str (ol (n.tmod 10)),oU ((!decide (n>9))::aRl n)):=by kernel_rfl
theorem xj:∀(k:Nat) (n:Int),0<=n->n<=9223372036854775807->n.toNat<=k->fj prog (fo m C) 46 [.int .i64 n] (.str (qL n)):=by
 intro k
 induction k using Nat.strongRecOn with
 |ind k o=>
  intro n i u x;have f:n.tmod 10=n%10:=Int.tmod_eq_emod_of_nonneg i;have p:IntKind.i64.wrap (n%10+1)=n%10+1:=IntWalk.i64_in _ (by omega);have j:oU (aRl n)=true:=by
   unfold aRl;rw[f,p];exact qB (bU (by omega)) (qB (bU (by omega)) (qB (bU (by omega)) (qB (bU (by omega)) rfl)))
  have dg:=aXs (d:=n%10) (by omega) (by omega);by_cases h:n>9;have v:IntKind.i64.wrap (n.tdiv 10)=n/10:=by rw[Int.tdiv_eq_ediv_of_nonneg i,IntWalk.i64_in _ (by omega)]
  have w:=o (n/10).toNat (by omega) (n/10) (by omega) (by omega) (bB _);have b:=bRq m C (qL (n/10)) n;rw[v,f,dg,<-Ub (by omega) u]at b;refine gq (aFj m C _) rfl (by kernel_rfl) (by kernel_rfl) func46 (by kernel_rfl) (by kernel_rfl) b (qB (j4 ?_) (qB (pN.2 w) (qB (bU h) j)));have:=tZ (n/10);simp;omega;have b:=bRr m C [] n;rw[f,dg]at b;rw[Nn i (by omega),show(48+n)=48+n%10 by omega];exact gq (aFj m C _) rfl (by kernel_rfl) (by kernel_rfl) func46 (by kernel_rfl) (by kernel_rfl) b (qB (by rw[cT h];rfl) j)
def HS(s:gH):Hp:=⟨1,.nd (some {elem:=9,sz:=0,cells:=[.str s]}) .nl .nl⟩
def VF(t:Bool)(s w x:gH):List UInt8:=if t then(if s==[]then((s++w)++[32])++x else(((s++[32])++w)++[32])++x)else s
def rl:List T->Hp->Option (T×Hp×List Bool):=λb H=>match b with
 |[.bool t,.str w,.str x,.ptr 0 0]=>(match H with
  |⟨1,.nd (some ⟨9,0,[.str s],none⟩) .nl .nl⟩=>some (.fm [],HS (VF t s w x),[decide (s.length+w.length+x.length+2<=4000000000)])|_ =>none)
 |_ =>none
def xk:Fc:=⟨λs=>Nat.beq s 4,λ_ _ _ =>none⟩
def xl:Fc:=⟨λs=>Nat.beq s 4,aGx 45 rl λ_ _ _ =>none⟩
abbrev Dn:Ed:=⟨fo m C,λ_ _ _ =>none⟩
theorem E3:Cx prog (Dn m C) xk:=⟨follows,rM,vW⟩
def oq(t:Bool)(s w x:gH)(ds:gL):Option (T×Hp×List Bool):=aZu prog f45 (qH prog (Dn m C) xk 5 (pO f45) ([.bool t,.str w,.str x,.ptr 0 0]++List.replicate 17 oS) (HS s) ds [])
theorem bRn(s w x:gH):(oq m C true s w x [true,true,true,true,true]).map (λq=>(q.1,q.2.1,oU q.2.2))=some (.fm [],HS ((((s++[32])++w)++[32])++x),oU [decide (((((s++[32])++w)++[32]):List UInt8).length+x.length<=pK),decide ((((s++[32])++w):List UInt8).length+1<=pK),decide (((s++[32]):List UInt8).length+w.length<=pK),decide (s.length+1<=pK),!(s==[])]):=by kernel_rfl
theorem bRo(s w x:gH):(oq m C true s w x [true,true,true,false,true]).map (λq=>(q.1,q.2.1,oU q.2.2))=some (.fm [],HS (((s++w)++[32])++x),oU [decide (((s++w)++[32]:List UInt8).length+x.length<=pK),decide ((s++w).length+1<=pK),decide (s.length+w.length<=pK),!!(s==[])]):=by kernel_rfl
theorem bRp(s w x:gH):(oq m C false s w x [false,false,false,false,false]).map (λq=>(q.1,q.2.1,oU q.2.2))=some (.fm [],HS s,true):=by kernel_rfl
theorem E4{f:gC}{H d:Hp}{r:T}{i:gL}(h:rl f H=some (r,d,i))(z:oU i=true):Rq prog (fo m C) 45 f H r d:=by
 unfold rl at h;split at h;rename_i t w x;split at h;rename_i s;cases h;have D:s.length+w.length+x.length+2<=4000000000:=by simpa [oU]using z
 have go:∀{t:Bool} {ds:gL} {d:Hp} {b:Bool},(oq m C t s w x ds).map (λq=>(q.1,q.2.1,oU q.2.2))=some (.fm [],d,b)->b=true->Rq prog (fo m C) 45 [.bool t,.str w,.str x,.ptr 0 0] (HS s) (.fm []) d:=λ{t ds d b} o k=>by
  obtain⟨⟨r,B,v⟩,p,j⟩:=aG.1 o;simp only[bF]at j;obtain⟨rfl,rfl,u⟩:=j;exact bEe (E3 m C) (by kernel_rfl) (by kernel_rfl) func45 (by kernel_rfl) rfl p (u.trans k)
 unfold VF;cases t with
 |false=>exact go (bRp m C s w x) rfl
 |true=>
  rw[aJ rfl];split
  .rename_i e;refine go (bRo m C s w x) (qB (j4 ?_) (qB (j4 ?_) (qB (j4 ?_) (qB (by rw[e];rfl) rfl))))<;>(try simp only[aU,aZ,bL])<;>omega
  .rename_i e;refine go (bRn m C s w x) (qB (j4 ?_) (qB (j4 ?_) (qB (j4 ?_) (qB (j4 ?_) (qB (by simpa using e) rfl)))))<;>(try simp only[aU,aZ,bL])<;>omega
 cases h;cases h
end
section
variable(m:Int)(C:gB)(a:Fq)(q s:gH)(e:Int)
def bIg:List T->Option (T×List Bool)
 |[.int .i64 n]=>some (.str (qL n),[pb (fj prog (fo m C) 46 [.int .i64 n] (.str (qL n)))])|_ =>none
def ot:Ed:=⟨fo m C,qC 39 (sT m C 39 (.str q)) (qC 46 (bIg m C) (qC 41 (sT m C 41 (.fm [.str s,.int .i64 e])) λ_ _ _ =>none))⟩
theorem aWg:rV prog (ot m C q s e).env.gl (ot m C q s e).env.pe:=
 pG (pG (pG rM λf r d h b=>xY m C h b) λf r d h b=>by
  unfold bIg at h;split at h;rename_i n;cases h;have k:fj prog (fo m C) 46 [.int .i64 n] (.str (qL n)):=by simpa [oU,pN]using b
  exact k
  cases h) λf r d h b=>xY m C h b
theorem aWl:sD prog (ot m C q s e).env.gl xl.ee:=aGy (own:=λ_ =>false) vW (λi H r f d h b=>E4 m C h b) _
def ma:List UInt8:=VF (Tryz.b1 a) [] [110,111,100,101] a.nd
def mb:List UInt8:=VF (Tryz.b2 a) (ma a) [114,101,97,115,111,110] q
def mc:List UInt8:=VF (Tryz.b3 a) (mb a q) [102,114,111,109] (qL a.fr)
def lN:List UInt8:=VF (Tryz.b4 a) (mc a q) [116,111] (qL a.till)
def lz(s x:gH)(n:Nat):Bool:=decide (s.length+n+x.length+2<=4000000000)
def ou:List Bool:=[lz (mc a q) (qL a.till) 2,pb (fj prog (fo m C) 46 [.int .i64 a.till] (.str (qL a.till))),lz (mb a q) (qL a.fr) 4,pb (fj prog (fo m C) 46 [.int .i64 a.fr] (.str (qL a.fr))),lz (ma a) q 6,pb (fj prog (fo m C) 39 [.str a.rs] (.str q)),lz [] a.nd 4]
abbrev ov(K:Bool)(ds:gL):Option (T×Bool):=(uF (ot m C q s e) xl f20 [BI (aK a K)] ds).map λq=>(q.1,oU q.2)
theorem bRe:ov m C a q s e false [false]=some (.fm [.str (lN a q),.int .i64 0],oU (ou m C a q)):=by kernel_rfl
theorem bRf:ov m C a q s e true [true,true]=some (.fm [.str [],.int .i64 e],oU ((e !=0)::oi m C a s e::ou m C a q)):=by kernel_rfl
theorem bRg:ov m C a q s e true [true,false]=some (.fm [.str (VF true (lN a q) [119,104,101,114,101] s),.int .i64 0],oU (lz (lN a q) s 5::(!(e !=0))::oi m C a s e::ou m C a q)):=by kernel_rfl
variable{m C a q s e}
theorem bCy(K:Bool):(if K then VF true (lN a q) [119,104,101,114,101] s else lN a q)=kU a q s K:=by
 unfold kU lN mc mb ma;generalize Tryz.b1 a=b1;generalize Tryz.b2 a=b2;generalize Tryz.b3 a=b3;generalize Tryz.b4 a=b4;cases b1<;>cases b2<;>cases b3<;>cases b4<;>cases K<;>simp[VF,ji,mK,tY]
theorem aFq(h:lM m C a q):(ma a).length<=200/\(mb a q).length<=1000/\(mc a q).length<=1100/\(lN a q).length<=1200:=by
 have i1:=tZ a.fr;have i2:=tZ a.till;have k:=h.nd;have o:=h.q7;have b:∀(t:Bool) (s w x:gH),(VF t s w x).length<=s.length+w.length+x.length+2:=λt s w x=>by
  unfold VF;split;split<;>simp<;>omega;omega
 have j:=b (Tryz.b1 a) [] [110,111,100,101] a.nd;have f:=b (Tryz.b2 a) (ma a) [114,101,97,115,111,110] q;have i:=b (Tryz.b3 a) (mb a q) [102,114,111,109] (qL a.fr);have d:=b (Tryz.b4 a) (mc a q) [116,111] (qL a.till);simp only[aZ,bL]at j f i d;have b1:(ma a).length<=200:=by unfold ma;omega
 have b2:(mb a q).length<=1000:=by unfold mb;omega
 have b3:(mc a q).length<=1100:=by unfold mc;omega
 exact⟨b1,b2,b3,by unfold lN;omega⟩
theorem Ue(h:lM m C a q):oU (ou m C a q)=true:=by
 obtain⟨d,j,k,_⟩:=aFq h;have i1:=tZ a.fr;have i2:=tZ a.till;have i:=h.nd;have b:=h.q7;have f:=h.fr;have t:=h.till;exact qB (bU (by omega)) (qB (pN.2 (xj m C _ a.till (by omega) (by omega) (bB _))) (qB (bU (by omega)) (qB (pN.2 (xj m C _ a.fr (by omega) (by omega) (bB _))) (qB (bU (by omega)) (qB (pN.2 h.fh) (qB (bU (by simp;omega)) rfl))))))
theorem bAz{K:Bool}{ds:gL}{r:T}{b:Bool}(h:ov m C a q s e K ds=some (r,b))(d:b=true):fj prog (fo m C) 20 [BI (aK a K)] r:=
 aMm (aWg m C q s e) (aWl m C q s e) rfl (by kernel_rfl) (by kernel_rfl) func20 (by kernel_rfl) (by kernel_rfl) h d
theorem aMe(b:lM m C a q)(h:fj prog (fo m C) 41 [pJ (a.u 0)] (.fm [.str s,.int .i64 e]))(d:e≠0):fj prog (fo m C) 20 [BI (aK a true)] (.fm [.str [],.int .i64 e]):=
 bAz (bRf m C a q s e) (qB (bne_iff_ne.2 d) (qB (pN.2 h) (Ue b)))
theorem aTs{K:Bool}(h:lM m C a q)(d:s.length<=100000000)(b:K=true->fj prog (fo m C) 41 [pJ (a.u 0)] (.fm [.str s,.int .i64 0])):fj prog (fo m C) 20 [BI (aK a K)] (.fm [.str (kU a q s K),.int .i64 0]):=by
 rw[<-bCy];cases K with
 |false=>exact bAz (bRe m C a q s 0) (Ue h)|true=>exact bAz (bRg m C a q s 0) (qB (bU (by have:=(aFq h).2.2.2;omega)) (qB rfl (qB (pN.2 (b rfl)) (Ue h))))
end
section
variable(m:Int)(C:gB)(a g:Fq)
def bW(K:Bool):Bool:=if K then g.k==1&&Lv m C 44 (pJ (a.u 0)) (pJ (g.u 0))else g.k==0
variable{m C a g}
theorem E5{K:Bool}(h:K=true->g.k=1->Y2 m C 44 (pJ (a.u 0)) (pJ (g.u 0))):fj prog (fo m C) 43 [jp g.u g.k,jp a.u (if K then 1 else 0),.fn (.func 44) [] []] (.bool (bW m C a g K)):=by
 have ne:∀{n:Nat},g.k≠n->PB m C 43 [jp g.u g.k,jp a.u n,.fn (.func 44) [] []] false:=λ{n} e=>uY (by kernel_rfl) (by kernel_rfl) func43 (by kernel_rfl) (by kernel_rfl) (n43 g.u a.u g.k n) (by simp[oU];omega);unfold bW;cases K with
 |false=>
  by_cases e:g.k=0;rw[e];exact uY (by kernel_rfl) (by kernel_rfl) func43 (by kernel_rfl) (by kernel_rfl) (nf g.u a.u 0 0 (by omega) (by omega)) rfl;rw[show(g.k==0)=false by simpa using e];exact ne e
 |true=>
  by_cases e:g.k=1;rw[aJ rfl,aJ rfl,show(g.k==1)=true by simpa using e,cL,e,<-Xc];have b:=pN.2 (h rfl e).sym.ok;cases hc:Lv m C 44 (pJ (g.u 0)) (pJ (a.u 0))with
  |true=>
   rw[hc]at b;refine uY (by kernel_rfl) (by kernel_rfl) func43 (by kernel_rfl) (by kernel_rfl) (nf g.u a.u 1 1 (by omega) (by omega)) (qB rfl ?_);refine Ud 1 λi d=> ?_;obtain rfl:i=0:=by omega
   exact⟨hc,by rw[show qE m C 44 (λi=>pJ (g.u i)) (λi=>pJ (a.u i)) 0=_ from rfl];unfold qE;rw[hc];exact b⟩
  |false=>
   rw[hc]at b;refine uY (by kernel_rfl) (by kernel_rfl) func43 (by kernel_rfl) (by kernel_rfl) (nf g.u a.u 1 0 (by omega) (by omega)) ?_;show oU ((!Lv m C 44 (pJ (g.u 0)) (pJ (a.u 0)))::pb (PB m C 44 [pJ (g.u 0),pJ (a.u 0)] (Lv m C 44 (pJ (g.u 0)) (pJ (a.u 0))))::(List.replicate 11 true++[true]))=true;rw[hc];exact qB rfl (qB b rfl)
  rw[aJ rfl,aJ rfl,show(g.k==1)=false by simpa using e];exact ne e
variable(m C a g)
def Vy:Nat->Bool
 |0=> !(a.nd==g.nd)|1=> !(a.rs==g.rs)|2=>a.fr !=g.fr|_ =>a.till !=g.till
def ox:Nat->List Bool
 |0=>[]|j+1=>List.replicate 6 (!Vy a g j)++ox j
abbrev ns(K:Bool)(g:Fq)(ds:gL):Option (T×Bool):=(uC (DY m C) f22 [BI (aK a K),BI g] ds).map λq=>(q.1,oU q.2)
theorem E6(K:Bool):∀j:Nat,j<=3->ns m C a K g (List.replicate (6*j) false++List.replicate (27-6*j) true)=some (.bool false,oU (List.replicate (if j=3 then 8 else 6) (Vy a g j)++ox a g j)):=by
 intro j h;rcases j with _ |_ |_ |_ |j<;>first|omega|(cases K<;>kernel_rfl)
abbrev oy:List Bool:=List.replicate 8 (!Vy a g 3)++ox a g 3
theorem bHu(K:Bool):ns m C a K g (List.replicate 26 false++[true])=some (.bool false,oU ((((if K then 1 else 0:Nat):Int) !=g.k)::oy a g)):=by cases K<;>kernel_rfl
theorem bQk:ns m C a false {g with k:=0} (List.replicate 28 false)=some (.bool true,oU (oy a g)):=by kernel_rfl
theorem bQj(b:Bool):ns m C a true {g with k:=1} (List.replicate 27 false++(true::if b then [false,false]else [true]))=some (.bool b,oU ((if b then !!Lv m C 44 (pJ (a.u 0)) (pJ (g.u 0))else !Lv m C 44 (pJ (a.u 0)) (pJ (g.u 0)))::pb (PB m C 44 [pJ (a.u 0),pJ (g.u 0)] (Lv m C 44 (pJ (a.u 0)) (pJ (g.u 0))))::oy a g)):=by cases b<;>kernel_rfl
variable{m C a g}
theorem aSx{K:Bool}(h:K=true->g.k=1->Y2 m C 44 (pJ (a.u 0)) (pJ (g.u 0))):fj prog (fo m C) 22 [BI (aK a K),BI g] (.bool ((g.nd==a.nd)&&((g.rs==a.rs)&&((g.fr==a.fr)&&((g.till==a.till)&&bW m C a g K))))):=by
 have go:∀{x:Fq} {ds:gL} {r b:Bool},ns m C a K x ds=some (.bool r,b)->b=true->fj prog (fo m C) 22 [BI (aK a K),BI x] (.bool r):=λH B=>
  gq (Wd m C) rfl (by kernel_rfl) (by kernel_rfl) func22 (by kernel_rfl) (by kernel_rfl) H B
 have w:∀j,(∀i,i<j->Vy a g i=false)->oU (ox a g j)=true:=by
  intro j
  induction j with
  |zero=>exactλ_ =>rfl|succ j D=>exactλh=>BD 6 (by rw[h j (by omega)];rfl) (D λi v=>h i (by omega))
 obtain⟨j,N,d,L⟩:=HQ (λi=> !Vy a g i) 4;have d:∀i,i<j->Vy a g i=false:=λi v=>by simpa using d i v
 by_cases z:j<4;have f:Vy a g j=true:=by simpa using L z
 have M:((g.nd==a.nd)&&((g.rs==a.rs)&&((g.fr==a.fr)&&((g.till==a.till)&&bW m C a g K))))=false:=by
  rcases j with _ |_ |_ |_ |j;rw[show(g.nd==a.nd)=false by rw[eE];simpa [Vy]using f];rfl;rw[show(g.rs==a.rs)=false by rw[eE];simpa [Vy]using f];simp;rw[show(g.fr==a.fr)=false by rw[eE];simpa [Vy]using f];simp;rw[show(g.till==a.till)=false by rw[eE];simpa [Vy]using f];simp;omega
 rw[M];exact go (E6 m C a g K j (by omega)) (BD _ f (w j d));obtain rfl:j=4:=by omega
 have ok:((g.nd==a.nd)&&((g.rs==a.rs)&&((g.fr==a.fr)&&((g.till==a.till)&&bW m C a g K))))=bW m C a g K:=by
  have J:=d 0 (by omega);have k1:=d 1 (by omega);have k2:=d 2 (by omega);have k3:=d 3 (by omega);rw[show(g.nd==a.nd)=true by rw[eE];simpa [Vy]using J,show(g.rs==a.rs)=true by rw[eE];simpa [Vy]using k1,show(g.fr==a.fr)=true by rw[eE];simpa [Vy]using k2,show(g.till==a.till)=true by rw[eE];simpa [Vy]using k3];simp
 rw[ok];have o:oU (oy a g)=true:=BD 8 (by rw[d 3 (by omega)];rfl) (w 3 λi v=>d i (by omega));unfold bW;cases K with
 |false=>
  by_cases e:g.k=0;rw[aH (by decide),show(g.k==0)=true by simpa using e];have p:{g with k:=0}=g:=by rw[<-e]
  have:=go (bQk m C a g) o
  rwa [p]at this
  rw[aH (by decide),show(g.k==0)=false by simpa using e];exact go (bHu m C a g false) (qB (bne_iff_ne.2 (by simp;omega)) o)
 |true=>
  by_cases e:g.k=1;rw[aJ rfl,show(g.k==1)=true by simpa using e,cL];have p:{g with k:=1}=g:=by rw[<-e]
  have I:=pN.2 (h rfl e).ok;have:=go (bQj m C a g (Lv m C 44 (pJ (a.u 0)) (pJ (g.u 0)))) (qB (by cases hc:Lv m C 44 (pJ (a.u 0)) (pJ (g.u 0))<;>simp[hc]) (qB I o))
  rwa [p]at this
  rw[aJ rfl,show(g.k==1)=false by simpa using e,Bool.false_and];exact go (bHu m C a g true) (qB (bne_iff_ne.2 (by simp;omega)) o)
end
end
end Go.Proofs.Tryz
