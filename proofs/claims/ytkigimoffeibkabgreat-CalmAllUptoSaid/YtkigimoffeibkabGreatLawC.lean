/- The law CalmAll answers true for every module that may be handed in: CalmAllUptoSaid. Conditions: none beside the statement's own. -/
import Derived.Test.YtkigimoffeibkabGreatLawB
import Derived.Shelf.SlSortCmp.NoneTotal
import Derived.WalkKit
import Derived.Test.YtkigimoffeibkabGreatRows
import Derived.ProofKit
import Derived.JoinedCond
set_option linter.unusedSimpArgs false
set_option linter.unusedVariables false
namespace Go.Eng.Q
open Go.Eng
def aEv(s:Int):Option Int->LD
 |some a=>[.i 1,.i (bJ .i64 s a)]
 |none=>[.i 2,.i 0]
theorem aE1:I64 0:=⟨by decide,by decide⟩
theorem D3{n:Nat}{df:Nat->D}{rk:Nat->Nat}(h:Rk n df rk)(e:∀v m,KZ df v=some m->I64 m){v:Nat}(hv:v<n){a:Int}(c:iU df rk v=some a):I64 a:=by
 rw[LA h hv]at c;split at c
 ·injection c with c;rw[<-c];exact aE1
 ·split at c
  ·cases e1:iU df rk (dW (df v) 0)with
   |none=>rw[e1]at c;cases c
   |some x=>
    rw[e1]at c;cases d:KZ df (dW (df v) 1)with
    |none=>rw[d]at c;cases c
    |some m=>rw[d]at c;injection c with c;rw[<-c];exact aC9 (e _ _ d)
  ·cases c
def aDa(bs:LD):Prop:=∀b,b<bs.length->∀k,k<(gD bs b).els.length->I64 (vI (gD (gD bs b).els k) 4)
section
variable{n1 n2 nf:Nat}{xs fs ps bs:LD}{r:Int}(h:Nr n1 n2 nf xs fs ps bs r)(hI:aDa bs)(nm:List UInt8)(o:Bool)
include hI in
theorem T2:∀v m,KZ (dD ps.length bs) v=some m->I64 m:=λv m c=>by
 unfold KZ at c;split at c
 ·rename_i e;injection c with c;by_cases d:∃q,LQ ps.length bs v q
  ·obtain⟨q,d⟩:=d;rw[<-c,BJ d];exact hI q.1 d.b q.2 d.k
  ·have:dD ps.length bs v=RV:=by unfold dD;rw[dif_neg d]
   rw[this]at e;cases e
 ·cases c
include h hI
theorem Qt:∀(c v:Nat),mN ps.length bs v<c->v<nv ps bs->∀s:Int,I64 s->
  fV Ba 0 [.i (v:Int),.i s,.s nm,.b o,.l ps,.i r,.l bs,.i 0,.i 0] (0,aEv s (iU (dD ps.length bs) (mN ps.length bs) v))
 |0,v,W,_,_,_=>absurd W (by omega)
 |c+1,v,W,hv,s,b2=>by
  have P:=Bw h;have d:=LA P.rk hv;have g:=T1 h nm o v;by_cases f:∃q,LQ ps.length bs v q
  ·obtain⟨⟨b,k⟩,f⟩:=f;have L:Gp ps.length bs v=.l [.i (b:Int),.i (k:Int)]:=by unfold Gp;rw[GH f]
   have a5:=f.b;have a6:=f.k;have G:aA (b:Int) bs.length=true:=aE a5;have H:aA (k:Int) (gD bs b).els.length=true:=aE a6;have lb:aQ (b:Int) 0=false:=KR (by omega);have T:=P.rk.fall v hv;rw[L]at g;rw[BJ f]at d T;simp only at d T;have b0:vI (D.l (LO (gD (gD bs b).els k))) 0=vI (gD (gD bs b).els k) 0:=rfl;have b4:eX (D.l (LO (gD (gD bs b).els k))) 5=eX (gD (gD bs b).els k) 5:=rfl;have V:∀j,dW (D.l (LO (gD (gD bs b).els k))) j=dW (gD (gD bs b).els k) j:=λj=>rfl;rw[b0,V,V]at d;by_cases e1:vI (gD (gD bs b).els k) 0=18\/vI (gD (gD bs b).els k) 0=3
   ·rw[if_pos e1]at d;refine yQ yY ?_;rw[d];show Ev _ _ (kB _) (.out (0,[.i 1,.i (bJ .i64 s 0)]));rw[aGL b2];unfold kB;refine bK g rfl (aJ lb (aC G (aC H ?_)));rcases e1 with e1 |e1
    ·exact aC ((bT _ _).2 e1) (aC ((bT _ _).2 e1) (bH rfl))
    ·exact aJ (gR (a:=vI (gD (gD bs b).els k) 0) (by omega)) (aC ((bT _ _).2 e1) (bH rfl))
   ·rw[if_neg e1]at d;have J:aD (vI (gD (gD bs b).els k) 0) 18=false:=gR λe=>e1 (.inl e);have K:aD (vI (gD (gD bs b).els k) 0) 3=false:=gR λe=>e1 (.inr e);by_cases l:vI (gD (gD bs b).els k) 0=19
    ·rw[if_pos l]at d;obtain⟨Q,u,w,y,C,U,b6,b7⟩:=T l;rw[b4]at Q;have y:pP (gD (gD bs b).els k) 0=(u:Int):=y;have C:pP (gD (gD bs b).els k) 1=(w:Int):=C;have a3:dW (gD (gD bs b).els k) 0=u:=by unfold dW;rw[y];rfl
     have a4:dW (gD (gD bs b).els k) 1=w:=by unfold dW;rw[C];rfl
     rw[a3,a4]at d;have t:=D2 h nm o w;rw[<-C]at t;have b3:aA 0 (eX (gD (gD bs b).els k) 5).length=true:=by rw[Q];rfl
     have a0:aA 1 (eX (gD (gD bs b).els k) 5).length=true:=by rw[Q];rfl
     cases F:KZ (dD ps.length bs) w with
     |none=>
      have a7:iU (dD ps.length bs) (mN ps.length bs) v=none:=by rw[d,F];cases iU (dD ps.length bs) (mN ps.length bs) u<;>rfl
      rw[F]at t;refine yQ yY ?_;rw[a7];refine bK g rfl (aJ lb (aC G (aC H (aJ J (aJ K ?_)))));unfold AH;exact aC ((bT _ _).2 l) (aC a0 (bK t rfl (aC rfl (bH rfl))))
     |some m=>
      have Y:=T2 hI w m F;have b5:=Qt c u (by omega) U (bJ .i64 s m) (aC9 Y);rw[F]at t d;have b1:aEv (bJ .i64 s m) (iU (dD ps.length bs) (mN ps.length bs) u)=aEv s (iU (dD ps.length bs) (mN ps.length bs) v):=by
       rw[d];cases a9:iU (dD ps.length bs) (mN ps.length bs) u with
       |none=>rfl
       |some a=>have a2:=D3 P.rk (T2 hI) U a9;show[D.i 1,.i (bJ .i64 (bJ .i64 s m) a)]=[D.i 1,.i (bJ .i64 s (bJ .i64 a m))];rw[S9 Y a2]
      rw[<-b1];refine sR yY ?_ b5;refine bK g rfl (aJ lb (aC G (aC H (aJ J (aJ K ?_)))));unfold AH;refine aC ((bT _ _).2 l) (aC a0 (bK t rfl (aJ rfl (aC b3 (aO ?_)))));show _=[D.i (pP (gD (gD bs b).els k) 0),_,_,_,_,_,_,_,_];rw[y];rfl
    ·rw[if_neg l]at d;refine yQ yY ?_;rw[d];refine bK g rfl (aJ lb (aC G (aC H (aJ J (aJ K ?_)))));unfold AH;exact aJ (gR l) (bH rfl)
  ·have L:Gp ps.length bs v=.l [.i (-1),.i (-1)]:=by unfold Gp Vt;rw[dif_neg f]
   have a1:dD ps.length bs v=RV:=by unfold dD;rw[dif_neg f]
   rw[L]at g;rw[a1]at d;have d:iU (dD ps.length bs) (mN ps.length bs) v=none:=d;refine yQ yY ?_;rw[d];exact bK g rfl (aC rfl (bH rfl))
theorem T3(v:Nat)(hv:v<nv ps bs):iQ E aW sites Ua [oK nm o ps r bs,.i (v:Int)] (BK (iU (dD ps.length bs) (mN ps.length bs) v)) []:=by
 have d:=Qt h hI nm o _ v (Nat.lt_succ_self _) hv 0 aE1;have e:D.l (aEv 0 (iU (dD ps.length bs) (mN ps.length bs) v))=BK (iU (dD ps.length bs) (mN ps.length bs) v):=by
  cases f:iU (dD ps.length bs) (mN ps.length bs) v with
  |none=>rfl
  |some a=>have c:=D3 (Bw h).rk (T2 hI) hv f;show D.l [D.i 1,.i (bJ .i64 0 a)]=D.l [D.i 1,.i a];rw[Mu c,Int.zero_add,vM c.1 c.2]
 refine bA yY (by rfl) rfl ?_;refine aP d (bG (bI ?_ rfl));rw[<-e];cases iU (dD ps.length bs) (mN ps.length bs) v<;>rfl
noncomputable abbrev OX(ps bs:LD)(j v:Nat):D:=if v<j then(if(gD (bB ps bs) v).toI=3 then BK (iU (dD ps.length bs) (mN ps.length bs) v)else z2)else z2
theorem D4(y:(gD (bB ps bs) 0).toI≠3):iQ E aW sites Jp [oK nm o ps r bs] (.l (qP (nv ps bs) (bB ps bs) (dD ps.length bs) (mN ps.length bs))) []:=by
 have F:=h.n;have f:(bB ps bs).length=nv ps bs:=zD ps bs;have G:nv ps bs<=400:=by unfold nv;omega
 refine bA UG (by rfl) rfl ?_;show Ev _ _ (TZ _) _;unfold TZ;have s:fV UF 0 [.i 1,.s nm,.b o,.l ps,.i r,.l bs,.l (aK (nv ps bs) (OX ps bs 1)),.l (bB ps bs)] (0,[.l (aK (nv ps bs) (OX ps bs (nv ps bs)))]):=by
  refine cI UG (λj=>[.i ((j+1:Nat):Int),.s nm,.b o,.l ps,.i r,.l bs,.l (aK (nv ps bs) (OX ps bs (j+1))),.l (bB ps bs)]) (nv ps bs-1) (λj C=>?_) ?_
  ·have c:j+1<nv ps bs:=by omega
   have w:aA ((j+1:Nat):Int) (bB ps bs).length=true:=by rw[f];exact aE c
   refine aC ?_ (aC w ?_)
   ·show aQ ((j+1:Nat):Int) ((bB ps bs).length:Int)=true;rw[f];exact aV c
   by_cases g:(gD (bB ps bs) (j+1)).toI=3
   ·refine aC ((bT _ _).2 g) (bK (T3 h hI nm o (j+1) c) rfl (aC ?_ (aO ((nx c (by omega) [] _).trans ?_))))
    ·show aA ((j+1:Nat):Int) (aK (nv ps bs) (OX ps bs (j+1))).length=true;rw[dA];exact aE c
    have u:OX ps bs (j+1) (j+1)=z2:=if_neg (by omega);have e:∀x:D,BK (iU (dD ps.length bs) (mN ps.length bs) (j+1))=x->aK (nv ps bs) (fS (OX ps bs (j+1)) (j+1) x)=aK (nv ps bs) (OX ps bs (j+2)):=λx hx=>dV λi _=>by
     by_cases e:i=j+1
     ·subst e;rw[fK,<-hx];unfold OX;rw[if_pos (by omega),if_pos g]
     ·rw[nW _ _ e];unfold OX;by_cases d:i<j+1
      ·rw[if_pos d,if_pos (show i<j+2 by omega)]
      ·rw[if_neg d,if_neg (show¬i<j+2 by omega)]
    show[D.i (bJ .i64 ((j+1:Nat):Int) 1),.s nm,.b o,.l ps,.i r,.l bs,.l (aK (nv ps bs) (OX ps bs (j+2))),.l (bB ps bs)]=_;cases t:iU (dD ps.length bs) (mN ps.length bs) (j+1)with
    |none=>rw[t]at e;rw[<-e _ rfl];rw[<-Gq (n:=nv ps bs) _ c u none 2 0 rfl z2];rfl
    |some a=>rw[t]at e;rw[<-e _ rfl];rw[<-Gq (n:=nv ps bs) _ c u (some a) 1 a rfl z2];rfl
   ·refine aJ (gR g) (aO ((nx c (by omega) [] _).trans ?_));have e:aK (nv ps bs) (OX ps bs (j+1))=aK (nv ps bs) (OX ps bs (j+2)):=dV λi _=>by
     unfold OX;by_cases d:i<j+1
     ·rw[if_pos d,if_pos (show i<j+2 by omega)]
     ·rw[if_neg d];by_cases l:i<j+2
      ·have:i=j+1:=by omega
       subst this;rw[if_pos l,if_neg g]
      ·rw[if_neg l]
    show[D.i (bJ .i64 ((j+1:Nat):Int) 1),.s nm,.b o,.l ps,.i r,.l bs,.l (aK (nv ps bs) (OX ps bs (j+2))),.l (bB ps bs)]=_;rw[<-e];rfl
  ·have e:nv ps bs-1+1=nv ps bs:=by unfold nv;omega
   show Ev _ _ (xE _) _;unfold xE;rw[e];refine aJ ?_ (bH rfl);show aQ (nv ps bs:Int) ((bB ps bs).length:Int)=false;rw[f];exact aX _
 have e1:aK (nv ps bs) (OX ps bs (nv ps bs))=qP (nv ps bs) (bB ps bs) (dD ps.length bs) (mN ps.length bs):=dV λi m=>if_pos m;have v:aK (nv ps bs) (OX ps bs 1)=List.replicate (bB ps bs).length (D.l [.i 0,.i 0]):=by
  rw[f,<-rY];refine dV λi m=>?_;unfold OX;by_cases e:i<1
  ·have:i=0:=by omega
   subst this;rw[if_pos e,if_neg y]
  ·rw[if_neg e]
 rw[e1,v]at s;refine bK (OO nm o ps r bs h.tp h.tb) rfl (aC ?_ (aP s (bG (bI rfl rfl))));show(cK 0 ((bB ps bs).length:Int)&&(aD ((bB ps bs).length:Int) ((bB ps bs).length:Int)&&jP (Int.toNat ((bB ps bs).length:Int)) 16))=true;rw[jK (by omega),qF];exact fG (by show(bB ps bs).length<=_;omega) (by omega)
end
end Go.Eng.Q

namespace Go.Eng.Q
open Go.Eng
def qQ(x:SP):List SP->Nat
 |[]=>0
 |y::l=>if tN y x=true then qQ x l+1 else 0
theorem YI(x:SP):∀l,qQ x l<=l.length
 |[]=>Nat.le_refl _
 |y::l=>by
  have:=YI x l;unfold qQ;split
  ·simp;omega
  ·omega
theorem o7(x:SP):∀(l:List SP)(k:Nat),k<qQ x l->tN (gP l k) x=true
 |[],k,h=>absurd h (by unfold qQ;omega)
 |y::l,k,h=>by
  unfold qQ at h;split at h
  ·rename_i e;cases k with
   |zero=>exact e
   |succ k=>exact o7 x l k (by omega)
  ·omega
theorem D5(x:SP):∀(l:List SP),qQ x l<l.length->tN (gP l (qQ x l)) x=false
 |[],h=>absurd h (by simp)
 |y::l,h=>by
  unfold qQ at h⊢;split at h
  ·rename_i e;rw[if_pos e];exact D5 x l (by simp at h;omega)
  ·rename_i e;rw[if_neg e];cases c:tN y x with
   |true=>exact absurd c e
   |false=>exact c
def UT(a:List SP)(x:SP):List SP:=a.take (qQ x a)++([x]++a.drop (qQ x a))
theorem D6{a:List SP}{x c:SP}:c∈UT a x<->c∈a\/c=x:=by
 unfold UT;have e:c∈a<->c∈a.take (qQ x a)\/c∈a.drop (qQ x a):=by rw[<-List.mem_append,List.take_append_drop]
 rw[e,List.mem_append,List.mem_append,List.mem_singleton];constructor
 ·rintro(h |h |h)
  ·exact .inl (.inl h)
  ·exact .inr h
  ·exact .inl (.inr h)
 ·rintro((h |h) |h)
  ·exact .inl h
  ·exact .inr (.inr h)
  ·exact .inr (.inl h)
theorem aDb(a:List SP)(x:SP):(UT a x).length=a.length+1:=by have:=YI x a;unfold UT;simp;omega
theorem Qu:∀(a:List SP)(x:SP),IF a->x∉a->IF (UT a x)
 |[],x,_,_=>List.pairwise_singleton _ _
 |y::l,x,h,hx=>by
  obtain⟨m,r⟩:=List.pairwise_cons.1 h;have s:x∉l:=λf=>hx (List.mem_cons_of_mem _ f);by_cases e:tN y x=true
  ·have d:UT (y::l) x=y::UT l x:=by unfold UT;rw[show qQ x (y::l)=qQ x l+1 from if_pos e];rfl
   rw[d];refine List.pairwise_cons.2 ⟨λz c=>?_,Qu l x r s⟩;rcases D6.1 c with c |rfl
   ·exact m z c
   ·exact e
  ·have d:UT (y::l) x=x::y::l:=by unfold UT;rw[show qQ x (y::l)=0 from if_neg e];rfl
   rw[d];have j:tN x y=true:=by
    have:tN y x=false:=by cases f:tN y x with|true=>exact absurd f e |false=>rfl
    rcases OT.1 this with g |g
    ·exact absurd (List.mem_cons.2 (.inl g)) hx
    ·exact g
   refine List.pairwise_cons.2 ⟨λz c=>?_,h⟩;rcases List.mem_cons.1 c with rfl |c
   ·exact j
   ·exact KW j (m z c)
def xX(a:List SP)(x:SP):List SP:=if x∈a then a else UT a x
def BQ(a b:List SP):List SP:=b.foldl xX a
theorem aAX{a:List SP}{x c:SP}:c∈xX a x<->c∈a\/c=x:=by
 unfold xX;split
 ·rename_i h;constructor
  ·exact .inl
  ·rintro(d |rfl)
   ·exact d
   ·exact h
 ·exact D6
theorem T4{a:List SP}{x:SP}(h:IF a):IF (xX a x):=by
 unfold xX;split
 ·exact h
 ·rename_i c;exact Qu a x h c
theorem aAY(a:List SP)(x:SP):(xX a x).length<=a.length+1:=by
 unfold xX;split
 ·omega
 ·rw[aDb];omega
theorem II:∀{b a:List SP}{c:SP},c∈BQ a b<->c∈a\/c∈b
 |[],a,c=>by unfold BQ;simp
 |x::b,a,c=>by show c∈BQ (xX a x) b<->_;rw[II,aAX,List.mem_cons,or_assoc]
theorem EZ:∀{b a:List SP},IF a->IF (BQ a b)
 |[],_,h=>h
 |x::b,a,h=>by show IF (BQ (xX a x) b);exact EZ (T4 h)
theorem Bz:∀(b a:List SP),(b.foldl xX a).length<=a.length+b.length
 |[],a=>Nat.le_refl _
 |x::b,a=>by have c:=Bz b (xX a x);have d:=aAY a x;simp only[List.foldl_cons,List.length_cons];omega
theorem T5(l:List SP)(x:SP)(J:l.length<=1000000):iQ E aW sites NJ [eW l,eS x] (.b (decide (x∈l))) []:=by
 refine bA zN (by rfl) rfl ?_;show Ev _ _ (GT _) _;unfold GT;have H:((l.map eS).length:Int)<=9223372036854775807:=by rw[List.length_map];omega
 have s:∀g:SP,(aD (vI (eS g) 0) (x.1.val:Int)&&(aD (vI (eS g) 1) (x.2.val:Int)&&true))=decide (g=x):=λg=>eqS g x;have t:∀j,j<(l.map eS).length->gP l j≠x->rO E aW sites qA (qA.F.lp 0 [.l (l.map eS),.i (j:Int),.i (x.1.val:Int),.i (x.2.val:Int)]) (.again [.l (l.map eS),.i ((j+1:Nat):Int),.i (x.1.val:Int),.i (x.2.val:Int)]):=λj d G=>by
  have h:j<l.length:=by rw[List.length_map]at d;exact d
  have hg:=OU h;have m:(aD (vI (gD (l.map eS) j) 0) (x.1.val:Int)&&(aD (vI (gD (l.map eS) j) 1) (x.2.val:Int)&&true))=false:=by rw[hg,s,decide_eq_false G]
  exact aC (aV d) (aC (aE d) (aJ m (aO (nx d H [_] _))))
 by_cases hx:x∈l
 ·obtain⟨j,d,C,F⟩:∃j,j<l.length/\gP l j=x/\∀i,i<j->gP l i≠x:=by
   have u:eD l.length (λj=>decide (gP l j=x))=true:=by
    cases e:eD l.length (λj=>decide (gP l j=x))with
    |true=>rfl
    |false=>
     obtain⟨i,c,rfl⟩:=List.mem_iff_getElem.1 hx;have:=bQ.1 e i c;have f:gP l i=l[i]:=by simp[gP,c]
     rw[f,decide_eq_true rfl]at this;cases this
   obtain⟨j,v,y,f⟩:=yR u;exact⟨j,v,of_decide_eq_true y,λi c=>of_decide_eq_false (f i c)⟩
  have h:j<(l.map eS).length:=by rw[List.length_map];exact d
  have r:fV qA 0 [.l (l.map eS),.i 0,.i (x.1.val:Int),.i (x.2.val:Int)] (0,[.b true]):=by
   refine cI zN (λj=>[.l (l.map eS),.i (j:Int),.i (x.1.val:Int),.i (x.2.val:Int)]) j (λi c=>t i (by omega) (F i c)) ?_;have m:(aD (vI (gD (l.map eS) j) 0) (x.1.val:Int)&&(aD (vI (gD (l.map eS) j) 1) (x.2.val:Int)&&true))=true:=by rw[OU d,s,decide_eq_true C]
   exact aC (aV h) (aC (aE h) (aC m (bH rfl)))
  rw[decide_eq_true hx];exact aP r (bG (bI rfl rfl))
 ·have r:fV qA 0 [.l (l.map eS),.i 0,.i (x.1.val:Int),.i (x.2.val:Int)] (1,[]):=by
   refine cI zN (λj=>[.l (l.map eS),.i (j:Int),.i (x.1.val:Int),.i (x.2.val:Int)]) (l.map eS).length (λi c=>t i c λe=>hx ?_) ?_
   ·rw[List.length_map]at c;have f:gP l i=l[i]:=by simp[gP,c]
    rw[<-e,f];exact List.getElem_mem c
   ·exact aJ (aX _) (bH rfl)
  rw[decide_eq_false hx];exact aP r (eO (bG (bI rfl rfl)))
theorem aGM(c x:SP):(aQ (vI (eS c) 0) (vI (eS x) 0)||(aD (vI (eS c) 0) (vI (eS x) 0)&&aQ (vI (eS c) 1) (vI (eS x) 1)))=tN c x:=by
 rw[Bool.eq_iff_iff,IE,Bool.or_eq_true,Bool.and_eq_true,bT];show(aQ (c.1.val:Int) (x.1.val:Int)=true\/((c.1.val:Int)=(x.1.val:Int))/\aQ (c.2.val:Int) (x.2.val:Int)=true)<->_;have h:∀a b:Nat,aQ (a:Int) (b:Int)=true<->a<b:=λa b=>by
  constructor
  ·intro h;by_cases e:a<b
   ·exact e
   ·rw[KR (by omega)]at h;cases h
  ·exact aV
 rw[h,h];omega
theorem nb1{q c:Bool}(h:q=false):((!(q&&true))||c)=true:=by rw[h];rfl
theorem nb2{q c z:Bool}(h:q=false):((!((q&&true)&&z))||c)=true:=by rw[h];rfl
theorem nb3{q c z w:Bool}(h:q=false):((!(((q&&true)&&z)&&w))||c)=true:=by rw[h];rfl
theorem aGN{q z:Bool}(h:q=false):(q&&z)=false:=by rw[h];rfl
theorem aFT(b a:List SP){j:Nat}(m:j<b.length)(t:a.length<=1000000):
  fV KN 2 [eW b,.i 0,.i (j:Int),eW a] (0,[eW b,.i (qQ (gP b j) a:Int),.i (j:Int),eW a]):=by
 have c:aA (j:Int) (b.map eS).length=true:=by rw[List.length_map];exact aE m
 have l:=OU m;refine cI KO (λk=>[eW b,.i (k:Int),.i (j:Int),eW a]) (qQ (gP b j) a) (λk s=>?_) ?_
 ·have r:k<a.length:=by have:=YI (gP b j) a;omega
  have f:k<(a.map eS).length:=by rw[List.length_map];exact r
  have h:(aQ (k:Int) ((a.map eS).length:Int)&&(aQ (vI (gD (a.map eS) k) 0) (vI (gD (b.map eS) j) 0)||(aD (vI (gD (a.map eS) k) 0) (vI (gD (b.map eS) j) 0)&&aQ (vI (gD (a.map eS) k) 1) (vI (gD (b.map eS) j) 1))))=true:=by rw[OU r,l,aGM,aV f,o7 _ _ _ s];rfl
  have d:=aE f;exact aC (aH d) (aC (aH c) (aC (aH d) (aC (aH c) (aC (aH d) (aC (aH c) (aC h (aO (nx f (by rw[List.length_map];omega) [_] _))))))))
 ·show Ev _ _ (xG _) _;unfold xG;by_cases e:qQ (gP b j) a<a.length
  ·have f:qQ (gP b j) a<(a.map eS).length:=by rw[List.length_map];exact e
   have d:=aE f;have h:(aQ (qQ (gP b j) a:Int) ((a.map eS).length:Int)&&(aQ (vI (gD (a.map eS) (qQ (gP b j) a)) 0) (vI (gD (b.map eS) j) 0)||(aD (vI (gD (a.map eS) (qQ (gP b j) a)) 0) (vI (gD (b.map eS) j) 0)&&aQ (vI (gD (a.map eS) (qQ (gP b j) a)) 1) (vI (gD (b.map eS) j) 1))))=false:=by rw[OU e,l,aGM,D5 _ _ e,Bool.and_false]
   exact aC (aH d) (aC (aH c) (aC (aH d) (aC (aH c) (aC (aH d) (aC (aH c) (aJ h (bH rfl)))))))
  ·have g:aQ (qQ (gP b j) a:Int) ((a.map eS).length:Int)=false:=by
    have:=YI (gP b j) a;rw[List.length_map];exact KR (by omega)
   exact aC (nb1 g) (aC (aH c) (aC (nb2 g) (aC (aH c) (aC (nb3 g) (aC (aH c) (aJ (aGN g) (bH rfl)))))))
theorem Gs(a b:List SP)(J:a.length<=100000)(K:b.length<=100000):iQ E aW sites DY [eW a,eW b] (eW (BQ a b)) []:=by
 refine bA KO (by rfl) rfl ?_;show Ev _ _ (UA _) _;unfold UA;have y:fV KN 0 [eW b,.i 0,eW a] (0,[eW (BQ a b)]):=by
  have t:BQ a b=(b.take b.length).foldl xX a:=by rw[List.take_length];rfl
  rw[t];refine cI KO (λj=>[eW b,.i (j:Int),eW ((b.take j).foldl xX a)]) b.length (λj f=>?_) ?_
  ·have g:j<(b.map eS).length:=by rw[List.length_map];exact f
   have u:gP b j=b[j]:=by simp[gP,f]
   have F:(b.take (j+1)).foldl xX a=xX ((b.take j).foldl xX a) (gP b j):=by rw[List.take_succ_eq_append_getElem f,List.foldl_append,u];rfl
   have C:=Bz (b.take j) a;rw[List.length_take]at C;generalize P:(b.take j).foldl xX a=c at*;have L:c.length<=200000:=by omega
   have m:=T5 c (gP b j) (by omega);have v:=OU f;have l:D.l [.i (vI (gD (b.map eS) j) 0),.i (vI (gD (b.map eS) j) 1)]=eS (gP b j):=by rw[v];rfl
   rw[<-l]at m;refine aC (aV g) (aC (aE g) (bK m rfl ?_));rw[F];by_cases hx:gP b j∈c
   ·have e:xX c (gP b j)=c:=if_pos hx;rw[e];exact aC (decide_eq_true hx) (aO (nx g (by rw[List.length_map];omega) [_] _))
   ·have e:xX c (gP b j)=UT c (gP b j):=if_neg hx;have H:=YI (gP b j) c;have d:(c.map eS).length=c.length:=List.length_map _;rw[e];have r:cK (qQ (gP b j) c:Int) (c.length:Int)=true:=jK (by omega);have h:List.take (c.map eS).length (c.map eS)=c.map eS:=List.take_length;have G:((b.map eS).length:Int)<=9223372036854775807:=by rw[List.length_map];omega
    refine aJ (decide_eq_false hx) (aP (aFT b c f (by omega)) (bG (aC ?_ (aC (aE g) (aC ?_ (aC ?_ (aC ?_ (aC ?_ (aO ((nx g G [_] _).trans ?_))))))))))
    ·show(cK 0 (qQ (gP b j) c:Int)&&cK (qQ (gP b j) c:Int) ((c.map eS).length:Int))=true;rw[d,r,jK (by omega)];rfl
    ·show kP (qQ (gP b j) c:Int) ((c.map eS).length:Int) ((c.map eS).length:Int)=true;rw[d];unfold kP;simp only[r,jK (show(0:Int)<=(qQ (gP b j) c:Int)by omega),jK (Int.le_refl _)];rfl
    ·show jP (1+(List.drop (qQ (gP b j) c) (List.take (c.map eS).length (c.map eS))).length) 16=true;rw[h,List.length_drop,d];exact fG (by omega) (by omega)
    ·show Nat.ble (qQ (gP b j) c) (c.map eS).length=true;rw[d];exact Nat.ble_eq_true_of_le H
    ·show jP ((List.take (qQ (gP b j) c) (c.map eS)).length+([D.l [.i (vI (gD (b.map eS) j) 0),.i (vI (gD (b.map eS) j) 1)]]++List.drop (qQ (gP b j) c) (List.take (c.map eS).length (c.map eS))).length) 16=true;rw[h,List.length_append,List.length_take,List.length_drop,d];exact fG (by simp;omega) (by omega)
    ·have s:(UT c (gP b j)).map eS=List.take (qQ (gP b j) c) (c.map eS)++([D.l [.i (vI (gD (b.map eS) j) 0),.i (vI (gD (b.map eS) j) 1)]]++List.drop (qQ (gP b j) c) (List.take (c.map eS).length (c.map eS))):=by
      rw[h,l];unfold UT;rw[List.map_append,List.map_append,List.map_take,List.map_drop];rfl
     show[D.l (b.map eS),.i (bJ .i64 (j:Int) 1),.l ((UT c (gP b j)).map eS)]=_;rw[s];rfl
  ·refine aJ ?_ (bH rfl);show aQ (b.length:Int) ((b.map eS).length:Int)=false;rw[List.length_map];exact aX _
 refine aC ?_ (aP y (bG (bI rfl rfl)));show jP (0+(a.map eS).length) 16=true;rw[List.length_map];exact fG (by omega) (by omega)
end Go.Eng.Q

namespace Go.Eng.Q
open Go.Eng
theorem aDc{l:List SP}(h:IF l)(c:∀x,x∈l->x∈Ml):l.length<=1600:=by rw[<-Mm];exact h.nodup.length_le_of_subset λx hx=>c x hx
theorem IJ{l m:List SP}(h:IF l)(c:∀x,x∈l<->x∈m):l=yD m:=Mf h (Mj m) λx=>by rw[c,GJ]
theorem Mv(b:Nat->List SP)(v:Nat):iH b v (b v)=b:=funext λu=>by
 unfold iH;split
 ·rename_i e;rw[e]
 ·rfl
section
variable{n1 n2 nf:Nat}{xs fs ps bs:LD}{r:Int}(h:Nr n1 n2 nf xs fs ps bs r)(hng:n2<=12)(nm:List UInt8)(o:Bool)
abbrev st6(nm:List UInt8)(o:Bool)(ps:LD)(r:Int)(bs:LD)(B:Nat)(k:Nat)(q:Bool×(Nat->List SP)):LD:=[.i (k:Int),.b q.1,.i (B:Int),.s nm,.b o,.l ps,.i r,.l bs,.l (cC (nv ps bs) q.2)]
noncomputable def YJ(df:Nat->D)(v:Nat)(q:Bool×(Nat->List SP)):Bool×(Nat->List SP):=if(yD (bF df q.2 v)).length=(q.2 v).length then q else(true,iH q.2 v (yD (bF df q.2 v)))
abbrev dC(bs:LD)(B k:Nat):D:=gE (gD bs B) k
theorem o8{v:Nat}(hv:v<nv ps bs)(f:xW (dD ps.length bs) v=true){t:Bool}{b:Nat->List SP}(c:EW (nv ps bs) ps (dD ps.length bs) b):
  iH b v (yD (bF (dD ps.length bs) b v))=(YJ (dD ps.length bs) v (t,b)).2 /\(t||!(aD (((yD (bF (dD ps.length bs) b v)).length:Nat):Int) (((b v).length:Nat):Int)))=(YJ (dD ps.length bs) v (t,b)).1 :=by
 unfold YJ;by_cases e:(yD (bF (dD ps.length bs) b v)).length=(b v).length
 ·have hd:=Bu c hv f e;have d:b v=yD (bF (dD ps.length bs) b v):=IJ (c.rise v hv) hd;rw[if_pos e];refine⟨?_,?_⟩
  ·rw[<-d];exact Mv b v
  ·rw[e,qF];cases t<;>rfl
 ·rw[if_neg e];refine⟨rfl,?_⟩;rw[gR (by omega)];cases t<;>rfl
include h hng
omit hng in
theorem D7{B k v:Nat}(c:LQ ps.length bs v (B,k))(hv:v<nv ps bs)(s:xW (dD ps.length bs) v=true){t:Bool}{b:Nat->List SP}(l:EW (nv ps bs) ps (dD ps.length bs) b){row:D}(u:D.l (D.els row)=eW (yD (bF (dD ps.length bs) b v))):
  rO E aW sites lM (.ask ((!(!t))||(aA (vI (dC bs B k) 2) (List.length (List.set (cC (nv ps bs) b) (Int.toNat (vI (dC bs B k) 2)) (D.l (D.els row))))))
   (.again (let z0:=Int.toNat (vI (dC bs B k) 2);let e:=List.set (cC (nv ps bs) b) z0 (D.l (D.els row));[.i (bJ .i64 (k:Int) 1),.b (t||(!(aD (iE (gD e z0)) (iE (gD (cC (nv ps bs) b) z0))))),.i (B:Int),.s nm,.b o,.l ps,.i r,.l bs,.l e])) .bad)
   (.again (st6 nm o ps r bs B (k+1) (YJ (dD ps.length bs) v (t,b)))):=by
 have d:vI (dC bs B k) 2=(v:Int):=Mr h c;obtain⟨g,j⟩:=o8 hv s (t:=t) l;have y:=(h.tb.2 B c.b).ins.sane;refine aC (aH ?_) (aO ((nx c.k y [] _).trans ?_))
 ·rw[d,List.length_set,dA];exact aE hv
 ·show[D.i (bJ .i64 (k:Int) 1),.b (YJ (dD ps.length bs) v (t,b)).1,.i (B:Int),.s nm,.b o,.l ps,.i r,.l bs,.l (cC (nv ps bs) (YJ (dD ps.length bs) v (t,b)).2)]=_;rw[<-g,<-j,u,d];show _=[D.i (bJ .i64 (k:Int) 1),.b (t||(!(aD (iE (gD ((cC (nv ps bs) b).set v (eW (yD (bF (dD ps.length bs) b v)))) v)) (iE (gD (cC (nv ps bs) b) v))))),.i (B:Int),.s nm,.b o,.l ps,.i r,.l bs,.l ((cC (nv ps bs) b).set v (eW (yD (bF (dD ps.length bs) b v))))];have hg:gD (cC (nv ps bs) b) v=eW (b v):=eB _ hv;have m:gD (cC (nv ps bs) (iH b v (yD (bF (dD ps.length bs) b v)))) v=eW (yD (bF (dD ps.length bs) b v)):=by
   refine(eB _ hv).trans ?_;unfold iH;rw[if_pos rfl]
  rw[OV,hg,m];have e1:iE (eW (yD (bF (dD ps.length bs) b v)))=(((yD (bF (dD ps.length bs) b v)).length:Nat):Int):=by show(((List.map eS _).length:Nat):Int)=_;rw[List.length_map]
  have f:iE (eW (b v))=(((b v).length:Nat):Int):=by show(((List.map eS _).length:Nat):Int)=_;rw[List.length_map]
  rw[e1,f]
omit h hng in
def BF(b:Nat->List SP)(v:Nat)(as1:LD):Nat->List SP
 |0=>b v
 |j+1=>BQ (BF b v as1 j) (iH b v (BF b v as1 j) (gD as1 j).toI.toNat)
omit h hng in
theorem YK{b:Nat->List SP}{v:Nat}{as1:LD}{x:SP}:∀j,x∈BF b v as1 j<->x∈b v\/∃i,i<j/\x∈b (gD as1 i).toI.toNat
 |0=>by
  show x∈b v<->_;constructor
  ·exact .inl
  ·rintro(h |⟨i,h,_⟩)
   ·exact h
   ·omega
 |j+1=>by
  show x∈BQ _ _<->_;rw[II,YK j];constructor
  ·rintro(h |h)
   ·rcases h with h |⟨i,f,c⟩
    ·exact .inl h
    ·exact .inr ⟨i,by omega,c⟩
   ·unfold iH at h;split at h
    ·rcases(YK j).1 h with h |⟨i,f,c⟩
     ·exact .inl h
     ·exact .inr ⟨i,by omega,c⟩
    ·exact .inr ⟨j,by omega,h⟩
  ·rintro(h |⟨i,f,c⟩)
   ·exact .inl (.inl h)
   ·by_cases e:i=j
    ·subst e;by_cases d:(gD as1 i).toI.toNat=v
     ·exact .inl (.inl (d▸c))
     ·right;unfold iH;rw[if_neg d];exact c
    ·exact .inl (.inr ⟨i,by omega,c⟩)
omit h hng in
theorem Ca{b:Nat->List SP}{v:Nat}{as1:LD}(c:IF (b v)):∀j,IF (BF b v as1 j)
 |0=>c
 |j+1=>EZ (Ca c j)
omit h hng in
theorem aDd{b:Nat->List SP}{v:Nat}{as1:LD}(d:∀i,i<as1.length->∀x,x∈b (gD as1 i).toI.toNat->x∈Ml)(hv:∀x,x∈b v->x∈Ml){j:Nat}(f:j<=as1.length):∀x,x∈BF b v as1 j->x∈Ml:=λx hx=>by
 rcases(YK j).1 hx with h |⟨i,e,c⟩
 ·exact hv x h
 ·exact d i (by omega) x c
omit h hng in
theorem aEw{B k v:Nat}(hv:v<nv ps bs)(t:Bool){b:Nat->List SP}(d:EW (nv ps bs) ps (dD ps.length bs) b)(as1 is1:LD)(l:∀j,j<as1.length->∃u:Nat,(gD as1 j).toI=u/\u<nv ps bs)(V:as1.length<=40)(l0 op ty sym num to:Int)(P:to=(v:Int)):
  fV lM 9 [.i (k:Int),.b t,.i l0,.i (B:Int),.i 0,.s nm,.b o,.l ps,.i r,.l bs,.i op,.i ty,.i to,.i sym,.i num,.l as1,.l is1,.l (cC (nv ps bs) b)]
   (0,[.i (k:Int),.b t,.i l0,.i (B:Int),.s nm,.b o,.l ps,.i r,.l bs,.i op,.i ty,.i to,.i sym,.i num,.l as1,.l is1,.l (cC (nv ps bs) (iH b v (BF b v as1 as1.length)))]):=by
 subst P;have F:cC (nv ps bs) b=cC (nv ps bs) (iH b v (BF b v as1 0)):=by rw[show BF b v as1 0=b v from rfl,Mv]
 rw[F];refine cI rB (λj=>[.i (k:Int),.b t,.i l0,.i (B:Int),.i (j:Int),.s nm,.b o,.l ps,.i r,.l bs,.i op,.i ty,.i (v:Int),.i sym,.i num,.l as1,.l is1,.l (cC (nv ps bs) (iH b v (BF b v as1 j)))]) as1.length (λj c=>?_) ?_
 ·obtain⟨u,f,g⟩:=l j c;have Q:∀i,i<as1.length->∀x,x∈b (gD as1 i).toI.toNat->x∈Ml:=λi L x hx=>by
   obtain⟨w,H,J⟩:=l i L;rw[H]at hx;exact d.uni w J x hx
  have C:=aDc (Ca (as1:=as1) (d.rise v hv) j) (aDd Q (d.uni v hv) (Nat.le_of_lt c));have m:gD (cC (nv ps bs) (iH b v (BF b v as1 j))) v=eW (BF b v as1 j):=by refine(eB _ hv).trans ?_;unfold iH;rw[if_pos rfl]
  have s:gD (cC (nv ps bs) (iH b v (BF b v as1 j))) (Int.toNat (gD as1 j).toI)=eW (iH b v (BF b v as1 j) (gD as1 j).toI.toNat):=by rw[f];exact eB _ g
  have U:(iH b v (BF b v as1 j) (gD as1 j).toI.toNat).length<=1600:=by
   unfold iH;split
   ·exact C
   ·rw[f];exact d.len g
  have h:=Gs (BF b v as1 j) (iH b v (BF b v as1 j) (gD as1 j).toI.toNat) (by omega) (by omega);rw[<-m,<-s]at h;have y:aA (v:Int) (cC (nv ps bs) (iH b v (BF b v as1 j))).length=true:=by rw[dA];exact aE hv
  have T:aA (gD as1 j).toI (cC (nv ps bs) (iH b v (BF b v as1 j))).length=true:=by rw[f,dA];exact aE g
  have K:iQ E aW sites DY [.l (D.els (gD (cC (nv ps bs) (iH b v (BF b v as1 j))) v)),.l (D.els (gD (cC (nv ps bs) (iH b v (BF b v as1 j))) (Int.toNat (gD as1 j).toI)))] (eW (BF b v as1 (j+1))) []:=by rw[m,s]at h⊢;exact h
  refine aC (aV c) (aC y (aC (aE c) (aC T (bK K rfl (aC y (aO ((nx c (by omega) [_,_,_,_] _).trans ?_)))))));have G:cC (nv ps bs) (iH b v (BF b v as1 (j+1)))=(cC (nv ps bs) (iH b v (BF b v as1 j))).set v (eW (BF b v as1 (j+1))):=by
   rw[OV];refine dV λi _=>?_;unfold iH;by_cases e:i=v
   ·rw[if_pos e,if_pos e]
   ·rw[if_neg e,if_neg e,if_neg e]
  show[D.i (k:Int),.b t,.i l0,.i (B:Int),.i (bJ .i64 (j:Int) 1),.s nm,.b o,.l ps,.i r,.l bs,.i op,.i ty,.i (v:Int),.i sym,.i num,.l as1,.l is1,.l (cC (nv ps bs) (iH b v (BF b v as1 (j+1))))]=_;rw[G];rfl
 ·exact aJ (aX _) (bH rfl)
theorem Vn{B k v:Nat}(V:LQ ps.length bs v (B,k))(hv:v<nv ps bs)(U:xW (dD ps.length bs) v=true)(t:Bool)(b:Nat->List SP)(d:EW (nv ps bs) ps (dD ps.length bs) b):
  rO E aW sites lM (lM.F.lp 6 (st6 nm o ps r bs B k (t,b))) (.again (st6 nm o ps r bs B (k+1) (YJ (dD ps.length bs) v (t,b)))):=by
 have b3:=Ms h hng;have hd:=b3.d v hv U;have f2:=b3.n400;have a3:∀{row:D},D.l (D.els row)=eW (yD (bF (dD ps.length bs) b v))->_:=λ{row}d3=>D7 h nm o V hv U (t:=t) d d3;have H:vI (dC bs B k) 2=(v:Int):=Mr h V;have K:dD ps.length bs v=.l (LO (dC bs B k)):=BJ V;have a1:=V.b;have P:=V.k;simp only at a1 P;have c1:aA (B:Int) bs.length=true:=aE a1;have wk:aA (k:Int) (nE (gD bs B))=true:=aE P;have e2:aQ (k:Int) (iE (gD bs B))=true:=aV P;have Q:∀j:Int,vI (dD ps.length bs v) 0=j->vI (dC bs B k) 0=j:=λj e=>by rw[K]at e;exact e
 have T:∀j:Int,¬vI (dD ps.length bs v) 0=j->aD (vI (dC bs B k) 0) j=false:=λj e=>by rw[K]at e;exact gR e
 have W:eX (dC bs B k) 5=eX (dD ps.length bs v) 5:=by rw[K];rfl
 have d2:(!(aD (vI (dC bs B k) 1) 3))=false:=by have:aD (vI (dD ps.length bs v) 1) 3=true:=U;rw[K]at this;have:aD (vI (dC bs B k) 1) 3=true:=this;rw[this];rfl
 have wv:aA (vI (dC bs B k) 2) (cC (nv ps bs) b).length=true:=by rw[H,dA];exact aE hv
 have b7:D.l (D.els (gD (cC (nv ps bs) b) (Int.toNat (vI (dC bs B k) 2))))=eW (b v):=by rw[H];have:gD (cC (nv ps bs) b) v=eW (b v):=eB _ hv;show D.l (D.els (gD (cC (nv ps bs) b) v))=_;rw[this];rfl
 have a5:∀j,j<(eX (dD ps.length bs v) 5).length->dW (dD ps.length bs v) j<nv ps bs/\aA (gD (eX (dC bs B k) 5) j).toI (cC (nv ps bs) b).length=true/\D.l (D.els (gD (cC (nv ps bs) b) (Int.toNat (gD (eX (dC bs B k) 5) j).toI)))=eW (b (dW (dD ps.length bs v) j)):=λj c7=>by
  obtain⟨u,a0,C⟩:=hd.a j c7;have c4:(gD (eX (dD ps.length bs v) 5) j).toI=u:=a0;have e:dW (dD ps.length bs v) j=u:=by unfold dW;rw[a0];rfl
  rw[W,c4,dA,e];refine⟨C,aE C,?_⟩;show D.l (D.els (gD (cC (nv ps bs) b) u))=_;rw[eB _ C];rfl
 have a6:=d.rise v hv;have F:=d.sub v hv U;have f1:=d.len hv;have c0:∀x:SP,IF [x]:=λx=>List.pairwise_singleton _ _;refine aC c1 (aC e2 (aC c1 (aC wk (aJ d2 (aC wv ?_)))));by_cases f:vI (dD ps.length bs v) 0=18
 ·have c:bF (dD ps.length bs) b v=[RY 2 v]:=by unfold bF;rw[if_pos f]
  refine aC ((bT _ _).2 (Q 18 f)) (aC wv (a3 (row:=.l [.l [.i 2,.i (vI (dC bs B k) 2)]]) ?_));rw[c,<-IJ (c0 (RY 2 v)) (λx=>Iff.rfl),H];exact congrArg (λY=>D.l [Y]) (Qq (k:=2) (n:=v) (by omega) (by omega)).symm
 refine aJ (T 18 f) ?_;by_cases s:vI (dD ps.length bs v) 0=3
 ·have c:bF (dD ps.length bs) b v=[RY 3 (vI (dD ps.length bs v) 3).toNat]:=by unfold bF;rw[if_neg f,if_pos s]
  obtain⟨g,a4,e8⟩:=hd.glo s;have c3:vI (dC bs B k) 3=(g:Int):=by rw[K]at a4;exact a4
  refine aC ((bT _ _).2 (Q 3 s)) (aC wv (a3 (row:=.l [.l [.i 3,.i (vI (dC bs B k) 3)]]) ?_));rw[c,<-IJ (c0 (RY 3 (vI (dD ps.length bs v) 3).toNat)) (λx=>Iff.rfl),a4,c3];exact congrArg (λY=>D.l [Y]) (Qq (k:=3) (n:=g) (by omega) (by omega)).symm
 refine aJ (T 3 s) ?_;by_cases y:vI (dD ps.length bs v) 0=19
 ·have c:bF (dD ps.length bs) b v=b (dW (dD ps.length bs v) 0):=by unfold bF;rw[if_neg f,if_neg s,if_pos y]
  have a2:=hd.at' y;obtain⟨a9,b0,b1⟩:=a5 0 (by omega);have c8:=d.len a9;have b6:=Gs (b v) (b (dW (dD ps.length bs v) 0)) (by omega) (by omega);rw[<-b7,<-b1]at b6;refine aC ((bT _ _).2 (Q 19 y)) (aC wv (aC ?_ (aC b0 (bK b6 rfl (aC wv (a3 (row:=eW (BQ (b v) (b (dW (dD ps.length bs v) 0)))) ?_))))))
  ·show aA 0 (eX (dC bs B k) 5).length=true;rw[W,a2];rfl
  ·show eW _=_;rw[c]at F⊢;rw[IJ (EZ a6) (m:=b (dW (dD ps.length bs v) 0)) λx=>by rw[II];exact⟨λh=>h.elim (F x) id,.inr⟩]
 refine aJ (T 19 y) ?_;by_cases G:vI (dD ps.length bs v) 0=17
 ·have c:bF (dD ps.length bs) b v=b (dW (dD ps.length bs v) 1)++b (dW (dD ps.length bs v) 2):=by unfold bF;rw[if_neg f,if_neg s,if_neg y,if_pos G]
  have a2:=hd.sel G;obtain⟨a9,b0,b1⟩:=a5 1 (by omega);obtain⟨e3,e4,e5⟩:=a5 2 (by omega);have c8:=d.len a9;have e9:=d.len e3;have b4:=Gs (b v) (b (dW (dD ps.length bs v) 1)) (by omega) (by omega);have f0:(BQ (b v) (b (dW (dD ps.length bs v) 1))).length<=3200:=by have:=Bz (b (dW (dD ps.length bs v) 1)) (b v);unfold BQ;omega
  have b5:=Gs (BQ (b v) (b (dW (dD ps.length bs v) 1))) (b (dW (dD ps.length bs v) 2)) (by omega) (by omega);rw[<-b7,<-b1]at b4;rw[<-e5]at b5;refine aC ((bT _ _).2 (Q 17 G)) (aC wv (aC ?_ (aC b0 (aC ?_ (aC e4 (bK b4 rfl (bK b5 rfl (aC wv (a3 (row:=eW (BQ (BQ (b v) (b (dW (dD ps.length bs v) 1))) (b (dW (dD ps.length bs v) 2)))) ?_)))))))))
  ·show aA 1 (eX (dC bs B k) 5).length=true;rw[W,a2];rfl
  ·show aA 2 (eX (dC bs B k) 5).length=true;rw[W,a2];rfl
  ·show eW _=_;rw[c]at F⊢;rw[IJ (EZ (EZ a6)) (m:=b (dW (dD ps.length bs v) 1)++b (dW (dD ps.length bs v) 2)) λx=>by
    have:=F x;rw[II,II,List.mem_append];rw[List.mem_append]at this;constructor
    ·rintro((h |h) |h)
     ·exact this h
     ·exact .inl h
     ·exact .inr h
    ·rintro(h |h)
     ·exact .inl (.inr h)
     ·exact .inr h]
 refine aJ (T 17 G) ?_;by_cases J:vI (dD ps.length bs v) 0=26
 ·have c:bF (dD ps.length bs) b v=FI b (eX (dD ps.length bs v) 5):=by unfold bF;rw[if_neg f,if_neg s,if_neg y,if_neg G,if_pos J]
  have b2:=aEw (r:=r) nm o (B:=B) (k:=k) hv t d (eX (dD ps.length bs v) 5) (eX (dC bs B k) 6) hd.a (hd.phi J) (iE (gD (cC (nv ps bs) b) (Int.toNat (vI (dC bs B k) 2)))) (vI (dC bs B k) 0) (vI (dC bs B k) 1) (vI (dC bs B k) 3) (vI (dC bs B k) 4) (vI (dC bs B k) 2) H;have c9:∀x,x∈BF b v (eX (dD ps.length bs v) 5) (eX (dD ps.length bs v) 5).length<->x∈bF (dD ps.length bs) b v:=λx=>by
   rw[YK];have hx:x∈FI b (eX (dD ps.length bs v) 5)<->∃i,i<(eX (dD ps.length bs v) 5).length/\x∈b (gD (eX (dD ps.length bs v) 5) i).toI.toNat:=by
    unfold FI;rw[List.mem_flatMap];constructor
    ·rintro⟨a,a0,C⟩;obtain⟨i,L,rfl⟩:=List.mem_iff_getElem.1 a0;refine⟨i,L,?_⟩;rw[show gD (eX (dD ps.length bs v) 5) i=(eX (dD ps.length bs v) 5)[i]by simp[gD,List.getD,L]];exact C
    ·rintro⟨i,L,C⟩;refine⟨gD (eX (dD ps.length bs v) 5) i,?_,C⟩;rw[show gD (eX (dD ps.length bs v) 5) i=(eX (dD ps.length bs v) 5)[i]by simp[gD,List.getD,L]];exact List.getElem_mem L
   rw[c]at F⊢;rw[hx];constructor
   ·rintro(h |h)
    ·exact hx.1 (F x h)
    ·exact h
   ·exact .inr
  have d1:=IJ (Ca (as1:=eX (dD ps.length bs v) 5) a6 _) c9;rw[d1,<-W]at b2;obtain⟨e6,e7⟩:=o8 hv U (t:=t) d;have a7:=(h.tb.2 B a1).ins.sane;refine aC ((bT _ _).2 (Q 26 J)) (aP b2 (bG (aC (aH ?_) (aO ((nx P a7 [] _).trans ?_)))))
  ·show aA (vI (dC bs B k) 2) (cC (nv ps bs) (iH b v (yD (bF (dD ps.length bs) b v)))).length=true;rw[H,dA];exact aE hv
  ·show[D.i (bJ .i64 (k:Int) 1),.b (YJ (dD ps.length bs) v (t,b)).1,.i (B:Int),.s nm,.b o,.l ps,.i r,.l bs,.l (cC (nv ps bs) (YJ (dD ps.length bs) v (t,b)).2)]=[D.i (bJ .i64 (k:Int) 1),.b (t||!(aD (iE (gD (cC (nv ps bs) (iH b v (yD (bF (dD ps.length bs) b v)))) (Int.toNat (vI (dC bs B k) 2)))) (iE (gD (cC (nv ps bs) b) (Int.toNat (vI (dC bs B k) 2)))))),.i (B:Int),.s nm,.b o,.l ps,.i r,.l bs,.l (cC (nv ps bs) (iH b v (yD (bF (dD ps.length bs) b v))))];rw[<-e6,<-e7,H];have hg:gD (cC (nv ps bs) b) v=eW (b v):=eB _ hv;have c6:gD (cC (nv ps bs) (iH b v (yD (bF (dD ps.length bs) b v)))) v=eW (yD (bF (dD ps.length bs) b v)):=by
    refine(eB _ hv).trans ?_;unfold iH;rw[if_pos rfl]
   have e1:iE (eW (yD (bF (dD ps.length bs) b v)))=(((yD (bF (dD ps.length bs) b v)).length:Nat):Int):=by show(((List.map eS _).length:Nat):Int)=_;rw[List.length_map]
   have c2:iE (eW (b v))=(((b v).length:Nat):Int):=by show(((List.map eS _).length:Nat):Int)=_;rw[List.length_map]
   rw[show Int.toNat (v:Int)=v from rfl,hg,c6,e1,c2]
 refine aJ (T 26 J) ?_;have c:bF (dD ps.length bs) b v=[]:=by unfold bF;rw[if_neg f,if_neg s,if_neg y,if_neg G,if_neg J]
 have d0:b v=[]:=by
  cases c5:b v with
  |nil=>rfl
  |cons Y l=>have:=F Y (by rw[c5];exact List.mem_cons_self);rw[c]at this;cases this
 have e0:YJ (dD ps.length bs) v (t,b)=(t,b):=by unfold YJ;refine if_pos ?_;show(yD (bF (dD ps.length bs) b v)).length=(b v).length;rw[c,d0];rfl
 have a7:=(h.tb.2 B a1).ins.sane;rw[e0];refine aC (aH wv) (aO ((nx P a7 [] _).trans ?_));show[D.i (bJ .i64 (k:Int) 1),.b t,.i (B:Int),.s nm,.b o,.l ps,.i r,.l bs,.l (cC (nv ps bs) b)]=[D.i (bJ .i64 (k:Int) 1),.b (t||!(aD (iE (gD (cC (nv ps bs) b) (Int.toNat (vI (dC bs B k) 2)))) (iE (gD (cC (nv ps bs) b) (Int.toNat (vI (dC bs B k) 2)))))),.i (B:Int),.s nm,.b o,.l ps,.i r,.l bs,.l (cC (nv ps bs) b)];rw[qF];cases t<;>rfl
end
end Go.Eng.Q

namespace Go.Eng.Q
open Go.Eng
theorem UP.rnd{n:Nat}{ps:LD}{df:Nat->D}{b0:Nat->List SP}{j:Nat}{q:Bool×(Nat->List SP)}(f:l5 n ps df)(h:UP n ps df b0 j q)(d:j<n)(g:xW df j=true):UP n ps df b0 (j+1) (YJ df j q):=by
 obtain⟨t,b⟩:=q;unfold YJ;by_cases c:(yD (bF df b j)).length=(b j).length
 ·rw[if_pos c];refine⟨h.g,h.t,λe=>⟨(h.f e).1,λv hv s=>?_⟩,h.le⟩;by_cases l:v=j
  ·subst l;have:=(h.f e).1;simp only at this;subst this;exact c
  ·exact(h.f e).2 v (by omega) s
 ·rw[if_neg c];obtain⟨m,r⟩:=Qr f h.g d g c;have u:nD (iH b j (yD (bF df b j))) n<nD b n:=Mq m r n d;have y:nD b n<=nD b0 n:=h.le;refine⟨C7 f h.g d g,λ_=>?_,λe=>(by cases e),?_⟩
  ·show nD (iH b j (yD (bF df b j))) n<_;omega
  ·show nD (iH b j (yD (bF df b j))) n<=_;omega
theorem UP.skip{n:Nat}{ps:LD}{df:Nat->D}{b0:Nat->List SP}{j:Nat}{q:Bool×(Nat->List SP)}(h:UP n ps df b0 j q)(f:xW df j=false):UP n ps df b0 (j+1) q:=
 ⟨h.g,h.t,λe=>⟨(h.f e).1,λv hv c=>by
  by_cases d:v=j
  ·subst d;rw[f]at c;cases c
  ·exact(h.f e).2 v (by omega) c⟩,h.le⟩
section
variable{n1 n2 nf:Nat}{xs fs ps bs:LD}{r:Int}(h:Nr n1 n2 nf xs fs ps bs r)(hng:n2<=12)(nm:List UInt8)(o:Bool)
include h hng
theorem aAZ{B:Nat}(l:B<bs.length){b0:Nat->List SP}{q:Bool×(Nat->List SP)}(c:UP (nv ps bs) ps (dD ps.length bs) b0 (aM ps.length bs B+1) q):
  ∃s,UP (nv ps bs) ps (dD ps.length bs) b0 (aM ps.length bs (B+1)+1) s/\fV lM 6 (st6 nm o ps r bs B 0 q) (0,[.b s.1,.i (B:Int),.s nm,.b o,.l ps,.i r,.l bs,.l (cC (nv ps bs) s.2)]):=by
 have C:=Ms h hng;have v:=(h.tb.2 B l).ins.sane;have j:aA (B:Int) bs.length=true:=aE l;refine EP rB (λk q=>st6 nm o ps r bs B k q) (gD bs B).els.length (λq=>(0,[.b q.1,.i (B:Int),.s nm,.b o,.l ps,.i r,.l bs,.l (cC (nv ps bs) q.2)])) (λk q=>UP (nv ps bs) ps (dD ps.length bs) b0 (aM ps.length bs B+eF (gD bs B).els k+1) q) (λk q f c=>?_) (λq c=>?_) (s0:=q) c
 ·obtain⟨t,b⟩:=q;have wk:aA (k:Int) (nE (gD bs B))=true:=aE f;have y:aQ (k:Int) (iE (gD bs B))=true:=aV f;by_cases ht:eJ (gD (gD bs B).els k)=true
  ·have u:LQ ps.length bs (lQ ps.length bs B k) (B,k):=⟨l,f,ht,rfl⟩;have hv:lQ ps.length bs B k<nv ps bs:=by have:=Ve l f ht (np:=ps.length);unfold nv;omega
   have d:=Es ht;cases g:xW (dD ps.length bs) (lQ ps.length bs B k)with
   |true=>refine⟨YJ (dD ps.length bs) (lQ ps.length bs B k) (t,b),?_,Vn h hng nm o u hv g t b c.g⟩;have:=UP.rnd C c hv g;rw[d];exact this
   |false=>
    refine⟨(t,b),?_,?_⟩
    ·have:=UP.skip c (show xW (dD ps.length bs) (aM ps.length bs B+eF (gD bs B).els k+1)=false from g);rw[d];exact this
    ·have d:(!(aD (vI (dC bs B k) 1) 3))=true:=by
      unfold xW at g;rw[BJ u]at g;have:aD (vI (dC bs B k) 1) 3=false:=g;rw[this];rfl
     exact aC j (aC y (aC j (aC wk (aC d (aO (nx f v [] _))))))
  ·have m:eJ (gD (gD bs B).els k)=false:=by cases e:eJ (gD (gD bs B).els k)with|true=>exact absurd e ht |false=>rfl
   refine⟨(t,b),?_,?_⟩
   ·rw[Ly m];exact c
   ·have d:(!(aD (vI (dC bs B k) 1) 3))=true:=by
     have:aD (vI (dC bs B k) 1) 0=true:=by
      unfold eJ at m;cases e:aD (vI (gD (gD bs B).els k) 1) 0 with
      |true=>rfl
      |false=>rw[e]at m;cases m
     rw[(bT _ _).1 this];rfl
    exact aC j (aC y (aC j (aC wk (aC d (aO (nx f v [] _))))))
 ·exact aC j (aJ (aX _) (bH rfl))
theorem aA0{b0:Nat->List SP}(t:EW (nv ps bs) ps (dD ps.length bs) b0):
  ∃c,UP (nv ps bs) ps (dD ps.length bs) b0 (nv ps bs) c/\fV lM 4 [.b false,.i 0,.s nm,.b o,.l ps,.i r,.l bs,.l (cC (nv ps bs) b0)] (0,[.b c.1,.s nm,.b o,.l ps,.i r,.l bs,.l (cC (nv ps bs) c.2)]):=by
 have s:=Ms h hng;refine EP rB (λj q=>[.b q.1,.i (j:Int),.s nm,.b o,.l ps,.i r,.l bs,.l (cC (nv ps bs) q.2)]) bs.length (λq=>(0,[.b q.1,.s nm,.b o,.l ps,.i r,.l bs,.l (cC (nv ps bs) q.2)])) (λj q=>UP (nv ps bs) ps (dD ps.length bs) b0 (aM ps.length bs j+1) q) (λj q d g=>?_) (λq g=>?_) (s0:=(false,b0)) ⟨t,λe=>(by cases e),λ_=>⟨rfl,λv hv f=>?_⟩,Nat.le_refl _⟩
 ·obtain⟨c,l,m⟩:=aAZ h hng nm o d g;refine⟨c,l,?_⟩;exact aC (aV d) (aP m (bG (aO (nx d h.tb.1.sane [_] _))))
 ·exact aJ (aX _) (bH rfl)
 ·have hv:v<=ps.length:=by have:v<ps.length+1:=hv;omega
  rw[s.par v hv]at f;cases f
theorem aA1{b0:Nat->List SP}(C:EW (nv ps bs) ps (dD ps.length bs) b0):
  ∃b,l7 (nv ps bs) ps (dD ps.length bs) b/\fV lM 2 [.b true,.s nm,.b o,.l ps,.i r,.l bs,.l (cC (nv ps bs) b0)] (0,[.l (cC (nv ps bs) b)]):=by
 have F:=HU rB (b:=2) (λ(q:Bool×(Nat->List SP))=>[.b q.1,.s nm,.b o,.l ps,.i r,.l bs,.l (cC (nv ps bs) q.2)]) (λq=>EW (nv ps bs) ps (dD ps.length bs) q.2/\(q.1=false->l7 (nv ps bs) ps (dD ps.length bs) q.2)) (λq=>2*nD q.2 (nv ps bs)+bif q.1 then 1 else 0) (λu=>∃b,l7 (nv ps bs) ps (dD ps.length bs) b/\u=(0,[.l (cC (nv ps bs) b)])) (λq d=>?_) (s0:=(true,b0)) ⟨C,λe=>(by cases e)⟩
 ·obtain⟨u,⟨b,c,rfl⟩,f⟩:=F;exact⟨b,c,f⟩
 ·obtain⟨t,b⟩:=q;cases t with
  |false=>refine .inl ⟨_,⟨b,d.2 rfl,rfl⟩,?_⟩;exact aJ rfl (bH rfl)
  |true=>
   obtain⟨l,c,f⟩:=aA0 h hng nm o d.1;refine .inr ⟨l,⟨c.g,λg=>?_⟩,?_,?_⟩
   ·obtain⟨s,y⟩:=c.f g;rw[s];exact⟨d.1,λv hv j=>Bu d.1 hv j (y v hv j)⟩
   ·cases g:l.1 with
    |true=>have:=c.t g;have m:nD (true,b).2 (nv ps bs)=nD b (nv ps bs):=rfl;simp only[cond_true];omega
    |false=>have:=c.le;have m:nD (true,b).2 (nv ps bs)=nD b (nv ps bs):=rfl;simp only[cond_false,cond_true];omega
   ·exact aC rfl (aP f (bG (aO rfl)))
omit hng in
theorem aA2:fV lM 0 [.i 1,.s nm,.b o,.l ps,.i r,.l bs,.l (List.replicate (nv ps bs) (D.l []))] (0,[.s nm,.b o,.l ps,.i r,.l bs,.l (cC (nv ps bs) (rI ps))]):=by
 have H:=h.n;have K:=ON ps.length bs bs.length;have J:nv ps bs=aM ps.length bs bs.length+1:=rfl;let g:Nat->Nat->List SP:=λj v=>if v<=j then rI ps v else[]
 have t:List.replicate (nv ps bs) (D.l [])=cC (nv ps bs) (g 0):=by
  rw[<-rY];refine dV λi _=>?_;show D.l []=eW (if i<=0 then rI ps i else[]);by_cases h:i<=0
  ·have:i=0:=by omega
   subst this;rfl
  ·rw[if_neg h];rfl
 have e1:cC (nv ps bs) (rI ps)=cC (nv ps bs) (g ps.length):=by
  refine dV λi _=>?_;show eW (rI ps i)=eW (if i<=ps.length then rI ps i else[]);by_cases h:i<=ps.length
  ·rw[if_pos h]
  ·rw[if_neg h];have:rI ps i=[]:=by unfold rI;rw[if_neg (by omega)]
   rw[this]
 rw[t,e1];refine cI rB (λj=>[.i ((j+1:Nat):Int),.s nm,.b o,.l ps,.i r,.l bs,.l (cC (nv ps bs) (g j))]) ps.length (λj y=>?_) ?_
 ·have f:bE .i64 (((j+1:Nat):Int)-1)=(j:Int):=by rw[vM (by omega) (by omega)];omega
  have d:j+1<nv ps bs:=by omega
  have F:aA (bE .i64 (((j+1:Nat):Int)-1)) ps.length=true:=by rw[f];exact aE y
  have s:∀l:List SP,rI ps (j+1)=l->cC (nv ps bs) (g (j+1))=cC (nv ps bs) (iH (g j) (j+1) l):=λl C=>by
   refine dV λi _=>?_;show eW (if i<=j+1 then rI ps i else[])=eW (iH (g j) (j+1) l i);unfold iH;by_cases h:i=j+1
   ·subst h;rw[if_pos (Nat.le_refl _),if_pos rfl,C]
   ·rw[if_neg h];show _=eW (if i<=j then rI ps i else[]);by_cases m:i<=j
    ·rw[if_pos m,if_pos (by omega)]
    ·rw[if_neg m,if_neg (by omega)]
  have u:g j (j+1)=[]:=if_neg (by omega);have c:rI ps (j+1)=if(gD ps j).toI=3 then[RY 1 (j+1)]else[]:=by
   unfold rI;by_cases e:(gD ps j).toI=3
   ·rw[if_pos e,if_pos ⟨by omega,by omega,e⟩]
   ·rw[if_neg e,if_neg λh=>e h.2.2]
  refine aC (jK (show((j+1:Nat):Int)<=(ps.length:Int)by omega)) (aC F ?_);by_cases e:(gD ps j).toI=3
  ·rw[if_pos e]at c;refine aC ?_ (aC ?_ (aO ((nx d (by omega) [] _).trans ?_)))
   ·show aD (gD ps (Int.toNat (bE .i64 (((j+1:Nat):Int)-1)))).toI 3=true;rw[f];exact(bT _ _).2 e
   ·show aA ((j+1:Nat):Int) (cC (nv ps bs) (g j)).length=true;rw[dA];exact aE d
   ·show[D.i (bJ .i64 ((j+1:Nat):Int) 1),.s nm,.b o,.l ps,.i r,.l bs,.l (cC (nv ps bs) (g (j+1)))]=_;rw[s _ c,<-OV];have:D.l [.l [.i 1,.i ((j+1:Nat):Int)]]=eW [RY 1 (j+1)]:=congrArg (λG=>D.l [G]) (Qq (k:=1) (n:=j+1) (by omega) (by omega)).symm;rw[<-this];rfl
  ·rw[if_neg e]at c;refine aJ ?_ (aO ((nx d (by omega) [] _).trans ?_))
   ·show aD (gD ps (Int.toNat (bE .i64 (((j+1:Nat):Int)-1)))).toI 3=false;rw[f];exact gR e
   ·show[D.i (bJ .i64 ((j+1:Nat):Int) 1),.s nm,.b o,.l ps,.i r,.l bs,.l (cC (nv ps bs) (g (j+1)))]=_;rw[s _ c,<-u,Mv];rfl
 ·exact aJ (Uw (show(ps.length:Int)<((ps.length+1:Nat):Int)by omega)) (bH rfl)
theorem Vo:∃b,l7 (nv ps bs) ps (dD ps.length bs) b/\iQ E aW sites Ab [oK nm o ps r bs] (.l (cC (nv ps bs) b)) []:=by
 have l:=h.n;have j:=Ms h hng;have m:nv ps bs=aM ps.length bs bs.length+1:=rfl;obtain⟨b,f,g⟩:=aA1 h hng nm o (C8 j);refine⟨b,f,bA rB (by rfl) rfl ?_⟩;show Ev _ _ (NV _) _;unfold NV;have c:=aA2 h nm o;have d:bJ .i64 (aM ps.length bs bs.length:Int) 1=(nv ps bs:Int):=Vd (by omega);have e:List.replicate (nv ps bs) (D.l [])=List.replicate (Int.toNat (bJ .i64 (aM ps.length bs bs.length:Int) 1)) (D.l []):=by rw[d];rfl
 rw[e]at c;refine bK (YE nm o ps r bs h.tp h.tb) rfl (aC ?_ (aP c (bG (aP g (bG (bI rfl rfl))))));show(cK 0 (bJ .i64 (aM ps.length bs bs.length:Int) 1)&&(aD (bJ .i64 (aM ps.length bs bs.length:Int) 1) (bJ .i64 (aM ps.length bs bs.length:Int) 1)&&jP (Int.toNat (bJ .i64 (aM ps.length bs bs.length:Int) 1)) 24))=true;rw[d,jK (by omega),qF];exact fG (by show nv ps bs<=_;omega) (by omega)
end
end Go.Eng.Q

namespace Go.Eng.Q
open Go.Eng
section
variable{n1 nf:Nat}{xs gs ts fs ps bs:LD}{r:Int}(h:Nr n1 gs.length nf xs fs ps bs r)(hng:gs.length<=12)(nm:List UInt8)(o:Bool)
include h hng
theorem D8{b:Nat->List SP}(a9:l7 (nv ps bs) ps (dD ps.length bs) b){B k:Nat}(a7:B<bs.length)(b5:k<(gD bs B).els.length):
  iQ E aW sites Ju [.l [.l xs,.l gs,.l ts,.l fs],oK nm o ps r bs,.l (LO (dC bs B k)),.l (cC (nv ps bs) b),.l (qP (nv ps bs) (bB ps bs) (dD ps.length bs) (mN ps.length bs))] (.b (Ns gs (dD ps.length bs) (mN ps.length bs) (dC bs B k))) []:=by
 have c3:=h.n;have b0:=Bw h;have c4:nv ps bs=aM ps.length bs bs.length+1:=rfl;refine bA Kt (by rfl) rfl ?_;show Ev _ _ (TV _) _;unfold TV;have W:=n8 h a7 b5;have hx:gD (gD bs B).els k=dC bs B k:=rfl;rw[hx]at W;generalize dC bs B k=x at*;by_cases s:vI x 0=20\/vI x 0=21
 ·have b3:(!(aD (vI x 0) 20)&&!(aD (vI x 0) 21))=false:=by
   rcases s with e |e
   ·rw[e];rfl
   ·rw[e];rfl
  have b7:(aD (vI x 0) 20||aD (vI x 0) 21)=true:=by
   rcases s with e |e
   ·rw[e];rfl
   ·rw[e];rfl
  obtain⟨b1,p,a0,f,a1⟩:=W s;have c1:dW x 0=p:=by unfold dW;rw[a0];rfl
  have C:(gD (eX x 5) 0).toI=(p:Int):=a0;have b4:Ns gs (dD ps.length bs) (mN ps.length bs) x=YH gs (dD ps.length bs) (mN ps.length bs) p:=by unfold Ns;rw[b7,c1];rfl
  have a3:aA 0 (eX x 5).length=true:=aE (j:=0) b1;have b6:(qP (nv ps bs) (bB ps bs) (dD ps.length bs) (mN ps.length bs)).length=nv ps bs:=dA _ _;have m:gD (qP (nv ps bs) (bB ps bs) (dD ps.length bs) (mN ps.length bs)) (Int.toNat (gD (eX x 5) 0).toI)=BK (iU (dD ps.length bs) (mN ps.length bs) p):=by rw[C];refine(eB _ f).trans ?_;rw[if_pos a1]
  have t:aA (gD (eX x 5) 0).toI (qP (nv ps bs) (bB ps bs) (dD ps.length bs) (mN ps.length bs)).length=true:=by rw[C,b6];exact aE f
  have K:aA (gD (eX x 5) 0).toI (cC (nv ps bs) b).length=true:=by rw[C,dA];exact aE f
  rw[b4];refine aJ b3 (aC a3 (aC t (aC (aH K) ?_)));cases l:iU (dD ps.length bs) (mN ps.length bs) p with
  |none=>
   rw[l]at m;refine aC ?_ (bI ?_ rfl)
   ·show((!(aD (vI (gD (qP (nv ps bs) (bB ps bs) (dD ps.length bs) (mN ps.length bs)) (Int.toNat (gD (eX x 5) 0).toI)) 0) 1))||_)=true;rw[m];rfl
   ·unfold YH;rw[l]
  |some a=>
   have a2:(iU (dD ps.length bs) (mN ps.length bs) p).isSome=true:=by rw[l];rfl
   have b2:=US b0 a9 (λv hv c0=>aC8 hv c0) _ p (Nat.lt_succ_self _) f a1 a2;have F:YH gs (dD ps.length bs) (mN ps.length bs) p=(cK 0 a&&aQ a (szR gs (dD ps.length bs) (tH (dD ps.length bs) (mN ps.length bs) p))):=by unfold YH;rw[l]
   rw[l]at m;have y:gD (cC (nv ps bs) b) (Int.toNat (gD (eX x 5) 0).toI)=eW [tH (dD ps.length bs) (mN ps.length bs) p]:=by rw[C];show gD (cC (nv ps bs) b) p=_;rw[eB _ f,b2]
   have w0:aA 0 (nE (gD (cC (nv ps bs) b) (Int.toNat (gD (eX x 5) 0).toI)))=true:=by rw[y];rfl
   have T:vI (gD (qP (nv ps bs) (bB ps bs) (dD ps.length bs) (mN ps.length bs)) (Int.toNat (gD (eX x 5) 0).toI)) 1=a:=by rw[m];rfl
   have d:vI (gE (gD (cC (nv ps bs) b) (Int.toNat (gD (eX x 5) 0).toI)) 0) 0=((tH (dD ps.length bs) (mN ps.length bs) p).1.val :Int):=by rw[y];rfl
   have e1:vI (gE (gD (cC (nv ps bs) b) (Int.toNat (gD (eX x 5) 0).toI)) 0) 1=((tH (dD ps.length bs) (mN ps.length bs) p).2.val :Int):=by rw[y];rfl
   have a4:((!(aD (vI (gD (qP (nv ps bs) (bB ps bs) (dD ps.length bs) (mN ps.length bs)) (Int.toNat (gD (eX x 5) 0).toI)) 0) 1))||(!(aD (iE (gD (cC (nv ps bs) b) (Int.toNat (gD (eX x 5) 0).toI))) 1)))=false:=by rw[m,y];rfl
   refine aJ a4 (aC K (aC w0 ?_));rcases n9 h f a2 hng with⟨u,L,a6,P⟩ |⟨g,L,P⟩
   ·rw[P]at d e1 F;rw[Ez (by omega)]at d;rw[Fa (by omega)]at e1;obtain⟨⟨H,J⟩,G⟩:=UR (ps:=ps) (bs:=bs) L a6;have a5:Gp ps.length bs u=.l [.i (H:Int),.i (J:Int)]:=by unfold Gp;rw[GH G]
    have Q:szR gs (dD ps.length bs) (RY 2 u)=vI (gD (gD bs H).els J) 4:=by unfold szR;rw[Ez (by omega),if_neg (by omega),Fa (by omega),BJ G];rfl
    have Y:=T1 h nm o u;rw[a5,<-e1]at Y;refine aC ((congrArg (λc=>aD c 2) d).trans rfl) (aC K (aC w0 (bK Y rfl (aC (aE G.b) (aC (aE G.k) (aC t (aC (aH t) (bI ?_ rfl))))))));rw[F,Q];show D.b (cK 0 a&&aQ a (vI (gD (gD bs H).els J) 4))=D.b (cK 0 (vI (gD (qP (nv ps bs) (bB ps bs) (dD ps.length bs) (mN ps.length bs)) (Int.toNat (gD (eX x 5) 0).toI)) 1)&&aQ (vI (gD (qP (nv ps bs) (bB ps bs) (dD ps.length bs) (mN ps.length bs)) (Int.toNat (gD (eX x 5) 0).toI)) 1) (vI (gD (gD bs H).els J) 4));rw[T]
   ·rw[P]at d e1 F;rw[Ez (by omega)]at d;rw[Fa (by omega)]at e1;have Q:szR gs (dD ps.length bs) (RY 3 g)=((eX (gD gs g) 1).length:Int):=by
     unfold szR;rw[Ez (by omega),if_pos rfl,Fa (by omega)]
    have c2:aA (vI (gE (gD (cC (nv ps bs) b) (Int.toNat (gD (eX x 5) 0).toI)) 0) 1) gs.length=true:=by rw[e1];exact aE L
    refine aJ ((congrArg (λc=>aD c 2) d).trans rfl) (aC ((congrArg (λc=>aD c 3) d).trans rfl) (aC K (aC w0 (aC c2 (aC t (aC (aH t) (bI ?_ rfl)))))));rw[F,Q];show D.b (cK 0 a&&aQ a ((eX (gD gs g) 1).length:Int))=D.b (cK 0 (vI (gD (qP (nv ps bs) (bB ps bs) (dD ps.length bs) (mN ps.length bs)) (Int.toNat (gD (eX x 5) 0).toI)) 1)&&aQ (vI (gD (qP (nv ps bs) (bB ps bs) (dD ps.length bs) (mN ps.length bs)) (Int.toNat (gD (eX x 5) 0).toI)) 1) (iX (gD gs (Int.toNat (vI (gE (gD (cC (nv ps bs) b) (Int.toNat (gD (eX x 5) 0).toI)) 0) 1))) 1));rw[T,e1];rfl
 ·have U:aD (vI x 0) 20=false:=gR λe=>s (.inl e);have V:aD (vI x 0) 21=false:=gR λe=>s (.inr e);refine aC ?_ (bI ?_ rfl)
  ·show(!(aD (vI x 0) 20)&&!(aD (vI x 0) 21))=true;rw[U,V];rfl
  ·unfold Ns;rw[U,V];rfl
end
end Go.Eng.Q

namespace Go.Eng.Q
open Go.Eng
theorem Cb{m:Nat}{d:FD}(F:BY E aW sites m d){b:Nat}{l:Type}(f:Nat->l->LD)(n:Nat)(c:Nat->l->Prop)(Q:Nat×LD->Prop)
  (y:∀j s,j<n->c j s->(∃t,Q t/\rO E aW sites d (d.F.lp b (f j s)) (.out t))\/∃g,c (j+1) g/\rO E aW sites d (d.F.lp b (f j s)) (.again (f (j+1) g)))
  (C:∀s,c n s->∃t,Q t/\rO E aW sites d (d.F.lp b (f n s)) (.out t)){s0:l}(G:c 0 s0):∃t,Q t/\QS E aW sites d b (f 0 s0) t.1 t.2:=by
 refine HU F (λq:Nat×l=>f q.1 q.2) (λq=>q.1<=n/\c q.1 q.2) (λq=>n-q.1) Q (λq J=>?_) (s0:=(0,s0)) ⟨Nat.zero_le _,G⟩;obtain⟨j,s⟩:=q;obtain⟨H,r⟩:=J;simp only at H r;by_cases e:j<n
 ·rcases y j s e r with h |⟨g,u,v⟩
  ·exact .inl h
  ·exact .inr ⟨(j+1,g),⟨e,u⟩,by show n-(j+1)<n-j;omega,v⟩
 ·have:j=n:=by omega
  subst this;exact .inl (C s r)
theorem BL{a b:Int}(h:aQ a b=false):b<=a:=by have:=qH h;omega
theorem Vp{a b:Bool}(h:(a||b)=false):a=false/\b=false:=by cases a<;>cases b<;>simp_all
def aGP(bs:LD):Prop:=∀b,b<bs.length->(gD bs b).els.length<=1048576
section
variable(nm:List UInt8)(o:Bool)(ps:LD)(r:Int)(bs:LD)
abbrev aG8(bs:LD)(B:Nat)(a:Int)(nm:List UInt8)(o:Bool)(ps:LD)(r:Int)(t:Nat×LD):Prop:=
 t=(0,[.i a,.b false,.i (B:Int),.s nm,.b o,.l ps,.i r,.l bs])\/(t=(1,[.i a,.i (B:Int),.s nm,.b o,.l ps,.i r,.l bs])/\Zr (gD bs B))
theorem aEx(a:Int){B:Nat}(l:B<bs.length)(u:(gD bs B).els.length<=1048576):
  ∃t,((t=(0,[.i a,.b false,.i (B:Int),.s nm,.b o,.l ps,.i r,.l bs]))\/(t=(1,[.i a,.i (B:Int),.s nm,.b o,.l ps,.i r,.l bs])/\∀i,i<(gD bs B).els.length->Zq (gD (gD bs B).els i)))/\
   fV CE 2 [.i a,.i 0,.i (B:Int),.s nm,.b o,.l ps,.i r,.l bs] t:=by
 have c:aA (B:Int) bs.length=true:=aE l;refine Cb rT (λk(_:Unit)=>[.i a,.i (k:Int),.i (B:Int),.s nm,.b o,.l ps,.i r,.l bs]) (gD bs B).els.length (λk _=>∀i,i<k->Zq (gD (gD bs B).els i)) _ (λk _ f d=>?_) (λ_ d=>?_) (s0:=()) (λi d=>absurd d (by omega))
 ·have g:aQ (k:Int) (iE (gD bs B))=true:=aV f;have wk:aA (k:Int) (nE (gD bs B))=true:=aE f;cases e:(aQ 20 (iX (dC bs B k) 5)||aQ 20 (iX (dC bs B k) 6))with
  |true=>refine .inl ⟨_,.inl rfl,?_⟩;exact aC c (aC g (aC c (aC wk (aC (aH c) (aC (aH wk) (aC e (bH rfl)))))))
  |false=>
   obtain⟨e1,h⟩:=Vp e;have m:((eX (dC bs B k) 5).length:Int)<=20:=BL e1;have s:((eX (dC bs B k) 6).length:Int)<=20:=BL h;refine .inr ⟨(),λi v=>?_,?_⟩
   ·by_cases j:i=k
    ·subst j;exact⟨by unfold fF;show(eX (dC bs B i) 5).length<=_;omega,by unfold fF;show(eX (dC bs B i) 6).length<=_;omega⟩
    ·exact d i (by omega)
   ·exact aC c (aC g (aC c (aC wk (aC (aH c) (aC (aH wk) (aJ e (aO (nx f (by omega) [_] _))))))))
 ·refine⟨_,.inr ⟨rfl,d⟩,?_⟩;exact aC c (aJ (aX _) (bH rfl))
theorem Nu(y:aGP bs):∃t,iQ E aW sites TF [oK nm o ps r bs] (.b t) []/\(t=true->fF ps/\fZ bs):=by
 cases e:((aQ 40 (nm.length:Int)||aQ 8 (ps.length:Int))||aQ 16 (bs.length:Int))with
 |true=>refine⟨false,bA rT (by rfl) rfl ?_,λh=>(by cases h)⟩;exact aC e (bI rfl rfl)
 |false=>
  obtain⟨e1,l⟩:=Vp e;have e1:=BL (Vp e1).2;have l:=BL l;have g:∃t,((t=(0,[.b false]))\/(t=(1,[])/\∀i,i<bs.length->Zr (gD bs i)))/\fV CE 0 [.i 0,.i 0,.s nm,.b o,.l ps,.i r,.l bs] t:=by
   refine Cb rT (λj(a:Nat)=>[.i (a:Int),.i (j:Int),.s nm,.b o,.l ps,.i r,.l bs]) bs.length (λj a=>a<=90/\∀i,i<j->Zr (gD bs i)) _ (λj a c d=>?_) (λa d=>?_) (s0:=0) ⟨by omega,λi d=>absurd d (by omega)⟩
   ·have C:=y j c;have m:bJ .i64 (a:Int) (iE (gD bs j))=((a+(gD bs j).els.length:Nat):Int):=by
     show bJ .i64 (a:Int) ((gD bs j).els.length:Int)=_;rw[BU _ _ _ (by simp[UU,UV];omega),vM (by omega) (by omega)];omega
    cases f:aQ 90 (bJ .i64 (a:Int) (iE (gD bs j)))with
    |true=>refine .inl ⟨_,.inl rfl,?_⟩;exact aC (aV c) (aC (aE c) (aC f (bH rfl)))
    |false=>
     have v:=BL f;rw[m]at v;obtain⟨t,ht,s⟩:=aEx nm o ps r bs (bJ .i64 (a:Int) (iE (gD bs j))) c C;rcases ht with rfl |⟨rfl,ht⟩
     ·refine .inl ⟨_,.inl rfl,?_⟩;exact aC (aV c) (aC (aE c) (aJ f (aP s (bG (bH rfl)))))
     ·refine .inr ⟨a+(gD bs j).els.length,⟨by omega,λi F=>?_⟩,?_⟩
      ·by_cases u:i=j
       ·subst u;exact⟨by unfold fF;omega,ht⟩
       ·exact d.2 i (by omega)
      ·refine aC (aV c) (aC (aE c) (aJ f (aP s (eO (bG (aO ((nx c (by omega) [_] _).trans ?_)))))));show[D.i ((a+(gD bs j).els.length:Nat):Int),.i (bJ .i64 (j:Int) 1),.s nm,.b o,.l ps,.i r,.l bs]=_;rw[<-m];rfl
   ·refine⟨_,.inr ⟨rfl,d.2⟩,?_⟩;exact aJ (aX _) (bH rfl)
  obtain⟨t,ht,g⟩:=g;rcases ht with rfl |⟨rfl,ht⟩
  ·refine⟨false,bA rT (by rfl) rfl ?_,λh=>(by cases h)⟩;exact aJ e (aP g (bG (bI rfl rfl)))
  ·refine⟨true,bA rT (by rfl) rfl ?_,λ_=>⟨by unfold fF;omega,by unfold fF;omega,ht⟩⟩;exact aJ e (aP g (eO (bG (bI rfl rfl))))
end
section
variable(xs gs ts fs:LD)
abbrev smQ(xs gs ts fs l:LD)(t:Nat×LD):Prop:=t=(0,[.b false,.l xs,.l gs,.l ts,.l fs])\/(t=(1,[.l xs,.l gs,.l ts,.l fs])/\∀i,i<l.length->fF (eX (gD l i) 1))
theorem aEy(hx:xs.length<=1000000):∃t,smQ xs gs ts fs xs t/\fV pL 0 [.i 0,.l xs,.l gs,.l ts,.l fs] t:=by
 refine Cb pM (λj(_:Unit)=>[.i (j:Int),.l xs,.l gs,.l ts,.l fs]) xs.length (λj _=>∀i,i<j->fF (eX (gD xs i) 1)) _ (λj _ c d=>?_) (λ_ d=>?_) (s0:=()) (λi d=>absurd d (by omega))
 ·cases e:(aQ 40 (iL (D.toS (D.fld (gD xs j) 0)))||aQ 10 (iX (gD xs j) 1))with
  |true=>refine .inl ⟨_,.inl rfl,?_⟩;exact aC (aV c) (aC (aE c) (aC (aH (aE c)) (aC e (bH rfl))))
  |false=>
   have e1:((eX (gD xs j) 1).length:Int)<=10:=BL (Vp e).2;refine .inr ⟨(),λi g=>?_,?_⟩
   ·by_cases f:i=j
    ·subst f;unfold fF;omega
    ·exact d i (by omega)
   ·exact aC (aV c) (aC (aE c) (aC (aH (aE c)) (aJ e (aO (nx c (by omega) [] _)))))
 ·refine⟨_,.inr ⟨rfl,d⟩,?_⟩;exact aJ (aX _) (bH rfl)
theorem aEz(hx:gs.length<=1000000):∃t,smQ xs gs ts fs gs t/\fV pL 2 [.i 0,.l xs,.l gs,.l ts,.l fs] t:=by
 refine Cb pM (λj(_:Unit)=>[.i (j:Int),.l xs,.l gs,.l ts,.l fs]) gs.length (λj _=>∀i,i<j->fF (eX (gD gs i) 1)) _ (λj _ c d=>?_) (λ_ d=>?_) (s0:=()) (λi d=>absurd d (by omega))
 ·cases e:(aQ 40 (iL (D.toS (D.fld (gD gs j) 0)))||aQ 20 (iX (gD gs j) 1))with
  |true=>refine .inl ⟨_,.inl rfl,?_⟩;exact aC (aV c) (aC (aE c) (aC (aH (aE c)) (aC e (bH rfl))))
  |false=>
   have e1:((eX (gD gs j) 1).length:Int)<=20:=BL (Vp e).2;refine .inr ⟨(),λi g=>?_,?_⟩
   ·by_cases f:i=j
    ·subst f;unfold fF;omega
    ·exact d i (by omega)
   ·exact aC (aV c) (aC (aE c) (aC (aH (aE c)) (aJ e (aO (nx c (by omega) [] _)))))
 ·refine⟨_,.inr ⟨rfl,d⟩,?_⟩;exact aJ (aX _) (bH rfl)
theorem aEA(hx:ts.length<=1000000):∃t,smQ xs gs ts fs ts t/\fV pL 4 [.i 0,.l xs,.l gs,.l ts,.l fs] t:=by
 refine Cb pM (λj(_:Unit)=>[.i (j:Int),.l xs,.l gs,.l ts,.l fs]) ts.length (λj _=>∀i,i<j->fF (eX (gD ts i) 1)) _ (λj _ c d=>?_) (λ_ d=>?_) (s0:=()) (λi d=>absurd d (by omega))
 ·cases e:(aQ 40 (iL (D.toS (D.fld (gD ts j) 0)))||aQ 16 (iX (gD ts j) 1))with
  |true=>refine .inl ⟨_,.inl rfl,?_⟩;exact aC (aV c) (aC (aE c) (aC (aH (aE c)) (aC e (bH rfl))))
  |false=>
   have e1:((eX (gD ts j) 1).length:Int)<=16:=BL (Vp e).2;refine .inr ⟨(),λi g=>?_,?_⟩
   ·by_cases f:i=j
    ·subst f;unfold fF;omega
    ·exact d i (by omega)
   ·exact aC (aV c) (aC (aE c) (aC (aH (aE c)) (aJ e (aO (nx c (by omega) [] _)))))
 ·refine⟨_,.inr ⟨rfl,d⟩,?_⟩;exact aJ (aX _) (bH rfl)
def SzM(fs:LD):Prop:=∀j,j<fs.length->aGP (eX (gD fs j) 4)
theorem aEB(hf:fs.length<=1000000)(r:SzM fs):∃t,((∃a:Int,t=(0,[.b false,.i a]))\/((∃a:Int,t=(1,[.i a]))/\∀i,i<fs.length->Ln (gD fs i)))/\fV pL 6 [.i 0,.i 0,.l xs,.l gs,.l ts,.l fs] t:=by
 refine Cb pM (λj(a:Int)=>[.i (j:Int),.i a,.l xs,.l gs,.l ts,.l fs]) fs.length (λj _=>∀i,i<j->Ln (gD fs i)) _ (λj a c d=>?_) (λa d=>?_) (s0:=0) (λi d=>absurd d (by omega))
 ·obtain⟨t,f,l⟩:=Nu (D.toS (D.fld (gD fs j) 0)) (vB (gD fs j) 1) (eX (gD fs j) 2) (vI (gD fs j) 3) (eX (gD fs j) 4) (r j c);cases t with
  |false=>refine .inl ⟨_,.inl ⟨a,rfl⟩,?_⟩;exact aC (aV c) (aC (aE c) (bK f rfl (aC rfl (bH rfl))))
  |true=>
   obtain⟨h,e⟩:=l rfl;have m:=UI (D.toS (D.fld (gD fs j) 0)) (vB (gD fs j) 1) (eX (gD fs j) 2) (vI (gD fs j) 3) (eX (gD fs j) 4) (by have:=e.1;unfold fF at this;omega);refine .inr ⟨bJ .i64 a (uG (eX (gD fs j) 4)),λi s=>?_,?_⟩
   ·by_cases g:i=j
    ·subst g;exact⟨h,e.1,e.2⟩
    ·exact d i (by omega)
   ·exact aC (aV c) (aC (aE c) (bK f rfl (aJ rfl (aC (aE c) (bK m rfl (aO (nx c (by omega) [] _)))))))
 ·refine⟨_,.inr ⟨⟨a,rfl⟩,d⟩,?_⟩;exact aJ (aX _) (bH rfl)
theorem Nv(y:SzM fs):∃t,iQ E aW sites JT [.l [.l xs,.l gs,.l ts,.l fs]] (.b t) []/\(t=true->RX xs gs ts fs):=by
 cases c:(((aQ 14 (xs.length:Int)||aQ 14 (gs.length:Int))||aQ 8 (ts.length:Int))||aQ 26 (fs.length:Int))with
 |true=>refine⟨false,bA pM (by rfl) rfl ?_,λh=>(by cases h)⟩;exact aC c (bI rfl rfl)
 |false=>
  obtain⟨e1,r⟩:=Vp c;obtain⟨e1,s⟩:=Vp e1;obtain⟨e1,u⟩:=Vp e1;have e1:=BL e1;have r:=BL r;have s:=BL s;have u:=BL u;obtain⟨t0,g,d⟩:=aEy xs gs ts fs (by omega);obtain⟨t2,j,e⟩:=aEz xs gs ts fs (by omega);obtain⟨t4,l,f⟩:=aEA xs gs ts fs (by omega);obtain⟨C,m,v⟩:=aEB xs gs ts fs (by omega) y;have key:∀{t:Bool},Ev (iQ E aW sites) (QS E aW sites pL) (lD [.l [.l xs,.l gs,.l ts,.l fs]]) (.ret (.b t) [])->iQ E aW sites JT [.l [.l xs,.l gs,.l ts,.l fs]] (.b t) []:=λ{t}h=>bA pM (by rfl) rfl h;rcases g with rfl |⟨rfl,g⟩
  ·refine⟨false,key ?_,λh=>(by cases h)⟩;unfold lD;exact aJ c (aP d (bG (bI rfl rfl)))
  rcases j with rfl |⟨rfl,j⟩
  ·refine⟨false,key ?_,λh=>(by cases h)⟩;unfold lD;exact aJ c (aP d (eO (bG (aP e (bG (bI rfl rfl))))))
  rcases l with rfl |⟨rfl,l⟩
  ·refine⟨false,key ?_,λh=>(by cases h)⟩;unfold lD;exact aJ c (aP d (eO (bG (aP e (eO (bG (aP f (bG (bI rfl rfl)))))))))
  rcases m with⟨a,rfl⟩ |⟨⟨a,rfl⟩,m⟩
  ·refine⟨false,key ?_,λh=>(by cases h)⟩;unfold lD;exact aJ c (aP d (eO (bG (aP e (eO (bG (aP f (eO (bG (aP v (bG (bI rfl rfl))))))))))))
  ·refine⟨cK a 160,key ?_,λ_=>⟨by omega,g,j,l,m⟩⟩;unfold lD;exact aJ c (aP d (eO (bG (aP e (eO (bG (aP f (eO (bG (aP v (eO (bG (bI rfl rfl)))))))))))))
theorem D9(g:SzM fs):∃t,iQ E aW sites Jo [.l [.l xs,.l gs,.l ts,.l fs]] (.b t) []/\(t=true->RX xs gs ts fs/\OkM xs gs ts fs):=by
 obtain⟨t,c,e⟩:=Nv xs gs ts fs g;cases t with
 |false=>refine⟨false,bA UE (by rfl) rfl ?_,λh=>(by cases h)⟩;exact bK c rfl (aJ rfl (bI rfl rfl))
 |true=>have d:=e rfl;have f:=C0 xs gs ts fs d;refine⟨aD (Me xs gs ts fs) 0,bA UE (by rfl) rfl ?_,λh=>⟨d,aCV ((bT _ _).1 h)⟩⟩;exact bK c rfl (aC rfl (bK f rfl (bI rfl rfl)))
end
end Go.Eng.Q

namespace Go.Eng.Q
open Go.Eng
def aEC(ts:LD)(s n:Int):Int:=bif aQ n 0||cK ((eX (gD ts s.toNat) 1).length:Int) n then-1 else(gD (eX (gD ts s.toNat) 1) n.toNat).toI
def YL(gs ts:LD)(df:Nat->D)(rk:Nat->Nat)(x:D):Bool:=
 if vI x 0=7\/vI x 0=8 then(aD (vI (df (dW x 1)) 0) 1&&!(aD (vI (df (dW x 1)) 4) 0))
 else if vI x 0=20\/vI x 0=21 then Ns gs df rk x
 else if vI x 0=24 then(aD (vI (df (dW x 0)) 0) 1&&cK 0 (aEC ts (vI x 3) (vI (df (dW x 0)) 4)))
 else !(aD (vI x 0) 30||aD (vI x 0) 25)
theorem SB{a b:Int}(h:a=b):aD a b=true:=(bT a b).2 h
theorem aDe{xs gs ts fs:LD}(f:Nat->Bool)(F:Nat->D){s:Nat}(d:s<ts.length)(n:Int):iQ E aW sites vN [By xs gs ts fs f F,.i (s:Int),.i n] (.i (aEC ts s n)) []:=by
 refine bA BN (by rfl) rfl ?_;refine aC (aE d) ?_;unfold aEC;cases e:(aQ n 0||cK ((eX (gD ts (s:Int).toNat) 1).length:Int) n)with
 |true=>exact aC e (bI rfl rfl)
 |false=>
  refine aJ e (aC ?_ (bI rfl rfl));rw[Bool.or_eq_false_iff]at e;show aA n (eX (gD ts (s:Int).toNat) 1).length=true;have g:=qH e.1;have h:¬(((eX (gD ts (s:Int).toNat) 1).length:Int)<=n):=λc=>by rw[jK c]at e;cases e.2
  obtain⟨k,rfl⟩:∃k:Nat,n=k:=⟨n.toNat,by omega⟩;exact aE (by omega)
section
variable{xs gs ts fs:LD}(hM:RX xs gs ts fs)(hO:OkM xs gs ts fs)
include hM hO
theorem Nw(m:Nat->Bool)(F:Nat->D)(H:∀i,i<fs.length->Qs fs i (F i))(j:Nat)(d:j<fs.length)(b i:Nat)(t:b<(fR (gD fs j)).length)(u:i<(gD (fR (gD fs j)) b).els.length):
  iQ E aW sites yS [By xs gs ts fs m F,.i (j:Int),.l (LO (gD (gD (fR (gD fs j)) b).els i))] (.b (YL gs ts (dD (eX (gD fs j) 2).length (fR (gD fs j))) (mN (eX (gD fs j) 2).length (fR (gD fs j))) (gD (gD (fR (gD fs j)) b).els i))) []:=by
 have hf:=QP hM hO d;have a6:=Nt hM hO m F H j d b i t u;have K:=hf.fm b t i u;have a7:vI (gD (gD (fR (gD fs j)) b).els i) 0=24->∃g:Nat,vI (gD (gD (fR (gD fs j)) b).els i) 3=g/\g<ts.length:=λe=>Vl hO.sy d t u (by rw[e];rfl);have a0:=λ(k:Nat)(y:k<(eX (gD (gD (fR (gD fs j)) b).els i) 5).length)=>Bv hf t u y;obtain⟨C,b0,a1⟩:=H j d;refine bA ED (by rfl) rfl ?_;show Ev _ _ (tU _) _;unfold tU;generalize gD (gD (fR (gD fs j)) b).els i=x at*;generalize b2:eX (gD fs j) 2=ps at*;generalize b1:fR (gD fs j)=bs at*;have a9:gD (aK fs.length F) j=fnD (bB ps bs) (cC (nv ps bs) C) (qP (nv ps bs) (bB ps bs) (dD ps.length bs) (mN ps.length bs)) (aK (nv ps bs) (dD ps.length bs)):=(eB _ d).trans a1;have P:aA (j:Int) (aK fs.length F).length=true:=by rw[dA];exact aE d
 have L:∀k,k<(eX x 5).length->iQ E aW sites lT [gD (aK fs.length F) (Int.toNat (j:Int)),.i (gD (eX x 5) k).toI] (.l [.i (vI (dD ps.length bs (dW x k)) 4),.b (aD (vI (dD ps.length bs (dW x k)) 0) 1)]) []:=λk y=>by
  obtain⟨p,G,v,s⟩:=a0 k y;have a5:(gD (eX x 5) k).toI=(p:Int):=G;have a4:dW x k=p:=by unfold dW;rw[G];rfl
  rw[a4,a5];show iQ E aW sites lT [gD (aK fs.length F) j,.i (p:Int)] _ [];rw[a9];exact aC5 (n:=nv ps bs) (T:=bB ps bs) (df:=dD ps.length bs) (cC (nv ps bs) C) _ p s
 refine aC P ?_;unfold YL;by_cases l:vI x 0=7\/vI x 0=8
 ·rw[if_pos l];have Y:(eX x 5).length=2:=K.a2 (.inl (by omega));have s:rO E aW sites pN (mV [By xs gs ts fs m F,.i (j:Int),.l (LO x)]) (.ret (.b (aD (vI (dD ps.length bs (dW x 1)) 0) 1&&!(aD (vI (dD ps.length bs (dW x 1)) 4) 0))) []):=by
   unfold mV;exact aC (aE (j:=1) (show 1<(eX x 5).length by omega)) (bK (L 1 (by omega)) rfl (bI rfl rfl))
  rcases l with e |e
  ·exact aC (SB e) (aC (SB e) s)
  ·exact aJ (gR (show vI x 0≠7 by omega)) (aC (SB e) s)
 ·rw[if_neg l];have V:vI x 0≠7:=λe=>l (.inl e);have W:vI x 0≠8:=λe=>l (.inr e);refine aJ (gR V) (aJ (gR W) ?_);unfold qW;by_cases f:vI x 0=20\/vI x 0=21
  ·rw[if_pos f];have v:rO E aW sites pN (mU [By xs gs ts fs m F,.i (j:Int),.l (LO x)]) (.ret (.b (Ns gs (dD ps.length bs) (mN ps.length bs) x)) []):=by
    unfold mU;exact bK a6 rfl (bI rfl rfl)
   rcases f with e |e
   ·exact aC (SB e) (aC (SB e) v)
   ·exact aJ (gR (show vI x 0≠20 by omega)) (aC (SB e) v)
  ·rw[if_neg f];have Q:vI x 0≠20:=λe=>f (.inl e);have U:vI x 0≠21:=λe=>f (.inr e);refine aJ (gR Q) (aJ (gR U) ?_);unfold qV;by_cases c:vI x 0=24
   ·rw[if_pos c];have Y:(eX x 5).length=1:=K.a1 (.inr (.inr (.inl c)));obtain⟨g,a2,a3⟩:=a7 c;refine aC (SB c) (aC (aE (j:=0) (show 0<(eX x 5).length by omega)) (bK (L 0 (by omega)) rfl ?_));have J:=aDe (xs:=xs) (gs:=gs) (fs:=fs) m F a3 (vI (dD ps.length bs (dW x 0)) 4);rw[<-a2]at J;cases e:aD (vI (dD ps.length bs (dW x 0)) 0) 1 with
    |true=>exact aC rfl (bK J rfl (bI rfl rfl))
    |false=>exact aJ rfl (bI rfl rfl)
   ·rw[if_neg c];refine aJ (gR c) ?_;by_cases h:vI x 0=30
    ·rw[SB h];exact aC (SB h) (aC (SB h) (bI rfl rfl))
    ·rw[gR h];refine aJ (gR h) ?_;by_cases r:vI x 0=25
     ·rw[SB r];exact aC (SB r) (bI rfl rfl)
     ·rw[gR r];exact aJ (gR r) (bI rfl rfl)
theorem Vq(j b i:Nat)(f:j<fs.length)(d:b<(fR (gD fs j)).length)(e:i<(gD (fR (gD fs j)) b).els.length):
  iQ E aW sites Ac [.l [.l xs,.l gs,.l ts,.l fs],.i (j:Int),.i (b:Int),.i (i:Int)] (.b (YL gs ts (dD (eX (gD fs j) 2).length (fR (gD fs j))) (mN (eX (gD fs j) 2).length (fR (gD fs j))) (gD (gD (fR (gD fs j)) b).els i))) []:=by
 obtain⟨r,F,h,l⟩:=D0 xs gs ts fs hM hO;have m:=Nw hM hO r F h j f b i d e;refine bA Ec (by rfl) rfl ?_;show Ev _ _ (NN _) _;unfold NN;have c:aA (j:Int) fs.length=true:=aE f;have g:aA (b:Int) (fR (gD fs j)).length=true:=aE d;have s:aA (i:Int) (gD (fR (gD fs j)) b).els.length=true:=aE e;refine bK (C1 xs gs ts fs hM hO) rfl (aC (aH c) (aC (aH c) (aC (aH g) (aJ ?_ (aC c (aC g (aC s (bK l rfl (aJ rfl (bK m rfl (bI rfl rfl)))))))))));show(((((((!(aD (0:Int) 0))||aQ (j:Int) 0)||cK (fs.length:Int) (j:Int))||aQ (b:Int) 0)||cK ((fR (gD fs j)).length:Int) (b:Int))||aQ (i:Int) 0)||cK (((gD (fR (gD fs j)) b).els.length:Nat):Int) (i:Int))=false;rw[KR (by omega),Uw (by omega),KR (by omega),Uw (by omega),KR (by omega),Uw (by omega)];rfl
end
section
variable{n1 nf:Nat}{xs gs ts fs ps bs:LD}{r:Int}(h:Nr n1 gs.length nf xs fs ps bs r)(hng:gs.length<=12)(nm:List UInt8)(o:Bool)
include h hng
theorem E0{b:Nat->List SP}(U:l7 (nv ps bs) ps (dD ps.length bs) b){B k:Nat}(F:B<bs.length)(H:k<(gD bs B).els.length)
  (a2:vI (dC bs B k) 0=24->∃g:Nat,vI (dC bs B k) 3=g/\g<ts.length):
  iQ E aW sites Jq [.l [.l xs,.l gs,.l ts,.l fs],oK nm o ps r bs,.l (LO (dC bs B k)),.l (cC (nv ps bs) b),.l (qP (nv ps bs) (bB ps bs) (dD ps.length bs) (mN ps.length bs))] (.b (YL gs ts (dD ps.length bs) (mN ps.length bs) (dC bs B k))) []:=by
 have a1:=D8 (xs:=xs) (ts:=ts) (fs:=fs) h hng nm o U F H;have G:=h.fm B F k H;have J:=λ(q:Nat)(u:q<(eX (gD (gD bs B).els k) 5).length)=>Bv h F H u;have hx:gD (gD bs B).els k=dC bs B k:=rfl;rw[hx]at G J;refine bA Kn (by rfl) rfl ?_;show Ev _ _ (TN _) _;unfold TN;generalize dC bs B k=x at*;have K:∀q,q<(eX x 5).length->iQ E aW sites CP [oK nm o ps r bs,.i (gD (eX x 5) q).toI] (match KZ (dD ps.length bs) (dW x q)with|some m=>.l [.i m,.b true] |none=>.l [.i 0,.b false]) []:=λq u=>by
  obtain⟨p,f,y,C⟩:=J q u;have u:(gD (eX x 5) q).toI=(p:Int):=f;have a0:dW x q=p:=by unfold dW;rw[f];rfl
  rw[a0,u];exact D2 h nm o p
 unfold YL;by_cases t:vI x 0=7\/vI x 0=8
 ·rw[if_pos t];have V:(eX x 5).length=2:=G.a2 (.inl (by omega));have C:rO E aW sites KE (CB [.l [.l xs,.l gs,.l ts,.l fs],oK nm o ps r bs,.l (LO x),.l (cC (nv ps bs) b),.l (qP (nv ps bs) (bB ps bs) (dD ps.length bs) (mN ps.length bs))]) (.ret (.b (aD (vI (dD ps.length bs (dW x 1)) 0) 1&&!(aD (vI (dD ps.length bs (dW x 1)) 4) 0))) []):=by
   unfold CB;refine aC (aE (j:=1) (show 1<(eX x 5).length by omega)) (bK (K 1 (by omega)) rfl (bI ?_ rfl));unfold KZ;by_cases e:vI (dD ps.length bs (dW x 1)) 0=1
   ·rw[if_pos e,SB e];rfl
   ·rw[if_neg e,gR e];rfl
  rcases t with e |e
  ·exact aC (SB e) (aC (SB e) C)
  ·exact aJ (gR (show vI x 0≠7 by omega)) (aC (SB e) C)
 ·rw[if_neg t];have Q:vI x 0≠7:=λe=>t (.inl e);have T:vI x 0≠8:=λe=>t (.inr e);refine aJ (gR Q) (aJ (gR T) ?_);unfold JY;by_cases l:vI x 0=20\/vI x 0=21
  ·rw[if_pos l];have y:rO E aW sites KE (CA [.l [.l xs,.l gs,.l ts,.l fs],oK nm o ps r bs,.l (LO x),.l (cC (nv ps bs) b),.l (qP (nv ps bs) (bB ps bs) (dD ps.length bs) (mN ps.length bs))]) (.ret (.b (Ns gs (dD ps.length bs) (mN ps.length bs) x)) []):=by
    unfold CA;exact bK a1 rfl (bI rfl rfl)
   rcases l with e |e
   ·exact aC (SB e) (aC (SB e) y)
   ·exact aJ (gR (show vI x 0≠20 by omega)) (aC (SB e) y)
  ·rw[if_neg l];have L:vI x 0≠20:=λe=>l (.inl e);have P:vI x 0≠21:=λe=>l (.inr e);refine aJ (gR L) (aJ (gR P) ?_);unfold JX;by_cases d:vI x 0=24
   ·rw[if_pos d];have V:(eX x 5).length=1:=G.a1 (.inr (.inr (.inl d)));obtain⟨g,W,Y⟩:=a2 d;have a3:aA (vI x 3) ts.length=true:=by rw[W];exact aE Y
    refine aC (SB d) (aC (aE (j:=0) (show 0<(eX x 5).length by omega)) (bK (K 0 (by omega)) rfl (aC a3 ?_)));unfold KZ;by_cases e:vI (dD ps.length bs (dW x 0)) 0=1
    ·rw[if_pos e,SB e];generalize vI (dD ps.length bs (dW x 0)) 4=n;unfold aEC;by_cases a4:0<=n
     ·obtain⟨m,rfl⟩:∃m:Nat,n=m:=⟨n.toNat,by omega⟩;by_cases f:m<(eX (gD ts (vI x 3).toNat) 1).length
      ·refine aC (aH (aE f)) (bI ?_ rfl);rw[KR (show(0:Int)<=(m:Int)by omega),Uw (show(m:Int)<((eX (gD ts (vI x 3).toNat) 1).length:Int)by omega)];show D.b (cK 0 (gD (eX (gD ts (vI x 3).toNat) 1) (m:Int).toNat).toI)=D.b (((true&&cK 0 (m:Int))&&aQ (m:Int) ((eX (gD ts (vI x 3).toNat) 1).length:Int))&&cK 0 (gD (eX (gD ts (vI x 3).toNat) 1) (m:Int).toNat).toI);rw[jK (show(0:Int)<=(m:Int)by omega),aV f];rfl
      ·have c:aQ (m:Int) ((eX (gD ts (vI x 3).toNat) 1).length:Int)=false:=KR (by omega);refine aC ?_ (bI ?_ rfl)
       ·show((!(((true&&cK 0 (m:Int))&&aQ (m:Int) ((eX (gD ts (vI x 3).toNat) 1).length:Int))&&true))||aA (m:Int) (eX (gD ts (vI x 3).toNat) 1).length)=true;rw[c,Bool.and_false];rfl
       ·rw[jK (show((eX (gD ts (vI x 3).toNat) 1).length:Int)<=(m:Int)by omega),Bool.or_true];show D.b (true&&cK 0 (-1))=D.b (((true&&cK 0 (m:Int))&&aQ (m:Int) ((eX (gD ts (vI x 3).toNat) 1).length:Int))&&_);rw[c,Bool.and_false];rfl
     ·have c:cK 0 n=false:=Uw (by omega);refine aC ?_ (bI ?_ rfl)
      ·show((!(((true&&cK 0 n)&&aQ n ((eX (gD ts (vI x 3).toNat) 1).length:Int))&&true))||aA n (eX (gD ts (vI x 3).toNat) 1).length)=true;rw[c];rfl
      ·rw[Np (show n<0 by omega)];show D.b (true&&cK 0 (-1))=D.b (((true&&cK 0 n)&&aQ n ((eX (gD ts (vI x 3).toNat) 1).length:Int))&&_);rw[c];rfl
    ·rw[if_neg e,gR e];exact aC rfl (bI rfl rfl)
   ·rw[if_neg d];refine aJ (gR d) ?_;by_cases s:vI x 0=30
    ·rw[SB s];exact aC (SB s) (aC (SB s) (bI rfl rfl))
    ·rw[gR s];refine aJ (gR s) ?_;by_cases v:vI x 0=25
     ·rw[SB v];exact aC (SB v) (bI rfl rfl)
     ·rw[gR v];exact aJ (gR v) (bI rfl rfl)
end
end Go.Eng.Q

namespace Go.Eng.Q
open Go.Eng
def T6:Cl:=λm xs=>bif Nat.beq m bD then Cn xs else S6 m xs
theorem aA3:∀m xs r,T6 m xs=some r->iQ E aW sites m xs r.1 r.2:=λm xs r h=>by
 unfold T6 at h;cases e:Nat.beq m bD with
 |true=>rw[e]at h;have d:Cn xs=some (r.1,r.2):=h;have c:m=bD:=Nat.eq_of_beq_eq_true e;subst c;refine⟨0,λk n L _ _ _=>?_⟩;have f:(Dq E) bD=some Cn:=rfl;cases n<;>simp only[qN,f,d]
 |false=>rw[e]at h;exact aAQ m xs r h
def aHQ:List Nat:=[4,11,13,14,26,27,28,53,56,57,58,59,60,88,89,90,92,93,108,111,112,113,114,128,129,130,131,132,139]
noncomputable def R17(n:Nat):Cl:=N0 aET T6 E aW sites 300 aHQ 300 n
theorem aA4:R17 40 AA []=some (.b true,[]):=by kernel_rfl
theorem E1:iQ E aW sites AA [] (.b true) []:=aCy (TE aAk) aA3 300 40 AA [] _ aA4
end Go.Eng.Q

namespace Go.Eng.Q
open Go.Eng
def aDf(fs:LD):Prop:=∀j,j<fs.length->aDa (fR (gD fs j))
section
variable{xs gs ts fs:LD}(hM:RX xs gs ts fs)(hO:OkM xs gs ts fs)(hI:aDf fs)
include hM hO hI
omit hI in
theorem aGR{j B:Nat}(g:j<fs.length)(d:B<(fR (gD fs j)).length)(nm:List UInt8)(o:Bool)(r:Int){b:Nat->List SP}(s:l7 (nv (eX (gD fs j) 2) (fR (gD fs j))) (eX (gD fs j) 2) (dD (eX (gD fs j) 2).length (fR (gD fs j))) b)(u:r=vI (gD fs j) 3):
  fV mO 4 [.i (j:Int),.i (B:Int),.i 0,.l xs,.l gs,.l ts,.l fs,.s nm,.b o,.l (eX (gD fs j) 2),.i r,.l (fR (gD fs j)),.l (cC (nv (eX (gD fs j) 2) (fR (gD fs j))) b),.l (qP (nv (eX (gD fs j) 2) (fR (gD fs j))) (bB (eX (gD fs j) 2) (fR (gD fs j))) (dD (eX (gD fs j) 2).length (fR (gD fs j))) (mN (eX (gD fs j) 2).length (fR (gD fs j))))]
   (1,[.i (j:Int),.i (B:Int),.l xs,.l gs,.l ts,.l fs,.s nm,.b o,.l (eX (gD fs j) 2),.i r,.l (fR (gD fs j)),.l (cC (nv (eX (gD fs j) 2) (fR (gD fs j))) b),.l (qP (nv (eX (gD fs j) 2) (fR (gD fs j))) (bB (eX (gD fs j) 2) (fR (gD fs j))) (dD (eX (gD fs j) 2).length (fR (gD fs j))) (mN (eX (gD fs j) 2).length (fR (gD fs j))))]):=by
 subst u;have hf:=QP hM hO g;have y:=EX hO.sm;have C:=(hf.tb.2 B d).ins.sane;have t:=λi(c:i<(gD (fR (gD fs j)) B).els.length)=>Vq hM hO j B i g d c;have v:=λi(c:i<(gD (fR (gD fs j)) B).els.length)=>E0 (xs:=xs) (ts:=ts) (fs:=fs) hf y.2.1 nm o s d c (λe=>Vl hO.sy g d c (by rw[show vI (gD (gD (eX (gD fs j) 4) B).els i) 0=24 from e];rfl));refine cI pV (λi=>[.i (j:Int),.i (B:Int),.i (i:Int),.l xs,.l gs,.l ts,.l fs,.s nm,.b o,.l (eX (gD fs j) 2),.i (vI (gD fs j) 3),.l (fR (gD fs j)),.l (cC (nv (eX (gD fs j) 2) (fR (gD fs j))) b),.l (qP (nv (eX (gD fs j) 2) (fR (gD fs j))) (bB (eX (gD fs j) 2) (fR (gD fs j))) (dD (eX (gD fs j) 2).length (fR (gD fs j))) (mN (eX (gD fs j) 2).length (fR (gD fs j))))]) (gD (fR (gD fs j)) B).els.length (λi c=>?_) ?_
 ·have f:aA (B:Int) (fR (gD fs j)).length=true:=aE d;have F:aQ (i:Int) (iE (gD (fR (gD fs j)) B))=true:=aV c;have wi:aA (i:Int) (nE (gD (fR (gD fs j)) B))=true:=aE c;have m:=nx c C [.i (j:Int),.i (B:Int)] [.l xs,.l gs,.l ts,.l fs,.s nm,.b o,.l (eX (gD fs j) 2),.i (vI (gD fs j) 3),.l (fR (gD fs j)),.l (cC (nv (eX (gD fs j) 2) (fR (gD fs j))) b),.l (qP (nv (eX (gD fs j) 2) (fR (gD fs j))) (bB (eX (gD fs j) 2) (fR (gD fs j))) (dD (eX (gD fs j) 2).length (fR (gD fs j))) (mN (eX (gD fs j) 2).length (fR (gD fs j))))];have l:rO E aW sites mO (eM [.i (j:Int),.i (B:Int),.i (i:Int),.l xs,.l gs,.l ts,.l fs,.s nm,.b o,.l (eX (gD fs j) 2),.i (vI (gD fs j) 3),.l (fR (gD fs j)),.l (cC (nv (eX (gD fs j) 2) (fR (gD fs j))) b),.l (qP (nv (eX (gD fs j) 2) (fR (gD fs j))) (bB (eX (gD fs j) 2) (fR (gD fs j))) (dD (eX (gD fs j) 2).length (fR (gD fs j))) (mN (eX (gD fs j) 2).length (fR (gD fs j))))]) (.again [.i (j:Int),.i (B:Int),.i ((i+1:Nat):Int),.l xs,.l gs,.l ts,.l fs,.s nm,.b o,.l (eX (gD fs j) 2),.i (vI (gD fs j) 3),.l (fR (gD fs j)),.l (cC (nv (eX (gD fs j) 2) (fR (gD fs j))) b),.l (qP (nv (eX (gD fs j) 2) (fR (gD fs j))) (bB (eX (gD fs j) 2) (fR (gD fs j))) (dD (eX (gD fs j) 2).length (fR (gD fs j))) (mN (eX (gD fs j) 2).length (fR (gD fs j))))]):=by
   unfold eM;refine aC f (aC wi (bK (t i c) rfl (bK (v i c) rfl (aJ ?_ (aO m)))));show(!(bif YL gs ts (dD (eX (gD fs j) 2).length (fR (gD fs j))) (mN (eX (gD fs j) 2).length (fR (gD fs j))) (dC (fR (gD fs j)) B i)then YL gs ts (dD (eX (gD fs j) 2).length (fR (gD fs j))) (mN (eX (gD fs j) 2).length (fR (gD fs j))) (dC (fR (gD fs j)) B i)else !(YL gs ts (dD (eX (gD fs j) 2).length (fR (gD fs j))) (mN (eX (gD fs j) 2).length (fR (gD fs j))) (dC (fR (gD fs j)) B i))))=false;cases YL gs ts (dD (eX (gD fs j) 2).length (fR (gD fs j))) (mN (eX (gD fs j) 2).length (fR (gD fs j))) (dC (fR (gD fs j)) B i)<;>rfl
  refine aC f (aC F (aC f (aC wi ?_)));iterate 8 refine aDU (λh=>aC h l) (λ_=>?_)
  exact aDU (λ_=>l) (λ_=>aO m)
 ·have f:aA (B:Int) (fR (gD fs j)).length=true:=aE d;exact aC f (aJ (aX _) (bH rfl))
omit hI in
theorem aGS{j:Nat}(d:j<fs.length)(nm:List UInt8)(o:Bool)(r:Int){b:Nat->List SP}(e:l7 (nv (eX (gD fs j) 2) (fR (gD fs j))) (eX (gD fs j) 2) (dD (eX (gD fs j) 2).length (fR (gD fs j))) b)(f:r=vI (gD fs j) 3):
  fV mO 2 [.i (j:Int),.i 0,.l xs,.l gs,.l ts,.l fs,.s nm,.b o,.l (eX (gD fs j) 2),.i r,.l (fR (gD fs j)),.l (cC (nv (eX (gD fs j) 2) (fR (gD fs j))) b),.l (qP (nv (eX (gD fs j) 2) (fR (gD fs j))) (bB (eX (gD fs j) 2) (fR (gD fs j))) (dD (eX (gD fs j) 2).length (fR (gD fs j))) (mN (eX (gD fs j) 2).length (fR (gD fs j))))]
   (1,[.i (j:Int),.l xs,.l gs,.l ts,.l fs]):=by
 have hf:=QP hM hO d;refine cI pV (λB=>[.i (j:Int),.i (B:Int),.l xs,.l gs,.l ts,.l fs,.s nm,.b o,.l (eX (gD fs j) 2),.i r,.l (fR (gD fs j)),.l (cC (nv (eX (gD fs j) 2) (fR (gD fs j))) b),.l (qP (nv (eX (gD fs j) 2) (fR (gD fs j))) (bB (eX (gD fs j) 2) (fR (gD fs j))) (dD (eX (gD fs j) 2).length (fR (gD fs j))) (mN (eX (gD fs j) 2).length (fR (gD fs j))))]) (fR (gD fs j)).length (λB c=>?_) ?_
 ·exact aC (aV c) (aP (aGR hM hO d c nm o r e f) (eO (bG (aO (nx c hf.tb.1.sane [_] _)))))
 ·exact aJ (aX _) (bH rfl)
theorem aGT:fV mO 0 [.i 0,.l xs,.l gs,.l ts,.l fs] (1,[]):=by
 have l:=hM.n;refine cI pV (λj=>[.i (j:Int),.l xs,.l gs,.l ts,.l fs]) fs.length (λj c=>?_) ?_
 ·have hf:=QP hM hO c;have h:=EX hO.sm;obtain⟨b,e,f⟩:=Vo hf h.2.1 (D.toS (D.fld (gD fs j) 0)) (vB (gD fs j) 1);have d:(gD (bB (eX (gD fs j) 2) (fR (gD fs j))) 0).toI≠3:=by rw[aAV (Nat.zero_le _)];exact(by decide:(0:Int)≠3)
  have g:=D4 hf (hI j c) (D.toS (D.fld (gD fs j) 0)) (vB (gD fs j) 1) d;exact aC (aV c) (aC (aE c) (bK f rfl (bK g rfl (aP (aGS hM hO c (D.toS (D.fld (gD fs j) 0)) (vB (gD fs j) 1) (vI (gD fs j) 3) e rfl) (eO (bG (aO (nx c (by omega) [] _))))))))
 ·exact aJ (aX _) (bH rfl)
end
theorem aFU(xs gs ts fs:LD)(e:SzM fs)(hI:aDf fs):iQ E aW sites RQ [.l [.l xs,.l gs,.l ts,.l fs]] (.b true) []:=by
 obtain⟨t,c,d⟩:=D9 xs gs ts fs e;refine bA pV (by rfl) rfl ?_;refine bK E1 rfl (aJ rfl (bK c rfl ?_));cases t with
 |false=>exact aC rfl (bK E1 rfl (bI rfl rfl))
 |true=>obtain⟨hM,hO⟩:=d rfl;exact aJ rfl (aP (aGT hM hO hI) (eO (bG (bI rfl rfl))))
end Go.Eng.Q

namespace Go.Eng.Q
open Go.Eng Go.Proofs
open Go.Shelf Go.RowKit Go.Lib Go.Sort
def Tryz.sortL_ren:Go.Shelf.Ren:=⟨λ|6=>84 |15=>108 |14=>107 |28=>128 |29=>129 |20=>120 |21=>121 |22=>122 |23=>123 |24=>124 |25=>125 |26=>126 |27=>127 |46=>134 |47=>135 |48=>136 |49=>137 |50=>138 |57=>148 |n=>n,λ|22=>54 |24=>53 |25=>119 |3=>3 |39=>141 |0=>0 |53=>163 |55=>165 |4=>4 |46=>156 |45=>155 |50=>160 |5=>5 |9=>9 |66=>172 |70=>176 |76=>184 |77=>76 |n=>n,λ|n=>n⟩
theorem Tryz.sortL:Go.Proofs.SlLaysF0.n6 Tryz.prog Tryz.sortL_ren:={
 mixed:=by kernel_rfl,
 f6:=⟨Tryz.f84.name,by decide,Tryz.func84.trans (congrArg some (by kernel_rfl))⟩,
 f14:=⟨Tryz.f107.name,by decide,Tryz.func107.trans (congrArg some (by kernel_rfl))⟩,
 f15:=Tryz.func108.trans (congrArg some (by kernel_rfl)),
 f20:=⟨Tryz.f120.name,by decide,Tryz.func120.trans (congrArg some (by kernel_rfl))⟩,
 f21:=⟨Tryz.f121.name,by decide,Tryz.func121.trans (congrArg some (by kernel_rfl))⟩,
 f22:=⟨Tryz.f122.name,by decide,Tryz.func122.trans (congrArg some (by kernel_rfl))⟩,
 f23:=⟨Tryz.f123.name,by decide,Tryz.func123.trans (congrArg some (by kernel_rfl))⟩,
 f24:=⟨Tryz.f124.name,by decide,Tryz.func124.trans (congrArg some (by kernel_rfl))⟩,
 f25:=⟨Tryz.f125.name,by decide,Tryz.func125.trans (congrArg some (by kernel_rfl))⟩,
 f26:=⟨Tryz.f126.name,by decide,Tryz.func126.trans (congrArg some (by kernel_rfl))⟩,
 f27:=⟨Tryz.f127.name,by decide,Tryz.func127.trans (congrArg some (by kernel_rfl))⟩,
 f28:=Tryz.func128.trans (congrArg some (by kernel_rfl)),
 f29:=Tryz.func129.trans (congrArg some (by kernel_rfl)),
 f46:=⟨Tryz.f134.name,by decide,Tryz.func134.trans (congrArg some (by kernel_rfl))⟩,
 f47:=Tryz.func135.trans (congrArg some (by kernel_rfl)),
 f48:=Tryz.func136.trans (congrArg some (by kernel_rfl)),
 f49:=⟨Tryz.f137.name,by decide,Tryz.func137.trans (congrArg some (by kernel_rfl))⟩,
 f50:=⟨Tryz.f138.name,by decide,Tryz.func138.trans (congrArg some (by kernel_rfl))⟩,
 f57:=⟨Tryz.f148.name,by decide,Tryz.func148.trans (congrArg some (by kernel_rfl))⟩,
 t0:=Tryz.underlying0,
 a0:=Tryz.isAgg0,
 z0:=Tryz.sizeOf0,
 v0:=Tryz.zeroValue0,
 t3:=Tryz.underlying3,
 a3:=Tryz.isAgg3,
 z3:=Tryz.sizeOf3,
 v3:=Tryz.zeroValue3,
 t4:=Tryz.underlying4,
 a4:=Tryz.isAgg4,
 z4:=Tryz.sizeOf4,
 v4:=Tryz.zeroValue4,
 t5:=Tryz.underlying5,
 a5:=Tryz.isAgg5,
 z5:=Tryz.sizeOf5,
 v5:=Tryz.zeroValue5,
 t9:=Tryz.underlying9,
 a9:=Tryz.isAgg9,
 z9:=Tryz.sizeOf9,
 v9:=Tryz.zeroValue9,
 t22:=Tryz.underlying54,
 a22:=Tryz.isAgg54,
 z22:=Tryz.sizeOf54,
 v22:=Tryz.zeroValue54,
 t25:=Tryz.underlying119,
 a25:=Tryz.isAgg119,
 z25:=Tryz.sizeOf119,
 v25:=Tryz.zeroValue119,
 t39:=Tryz.underlying141,
 a39:=Tryz.isAgg141,
 z39:=Tryz.sizeOf141,
 v39:=Tryz.zeroValue141,
 t45:=Tryz.underlying155,
 a45:=Tryz.isAgg155,
 z45:=Tryz.sizeOf155,
 v45:=Tryz.zeroValue155,
 t46:=Tryz.underlying156,
 a46:=Tryz.isAgg156,
 z46:=Tryz.sizeOf156,
 v46:=Tryz.zeroValue156,
 t50:=Tryz.underlying160,
 a50:=Tryz.isAgg160,
 z50:=Tryz.sizeOf160,
 v50:=Tryz.zeroValue160,
 t53:=Tryz.underlying163,
 a53:=Tryz.isAgg163,
 z53:=Tryz.sizeOf163,
 v53:=Tryz.zeroValue163,
 t55:=Tryz.underlying165,
 a55:=Tryz.isAgg165,
 z55:=Tryz.sizeOf165,
 v55:=Tryz.zeroValue165,
 t66:=Tryz.underlying172,
 a66:=Tryz.isAgg172,
 z66:=Tryz.sizeOf172,
 v66:=Tryz.zeroValue172,
 t70:=Tryz.underlying176,
 a70:=Tryz.isAgg176,
 z70:=Tryz.sizeOf176,
 v70:=Tryz.zeroValue176,
 t76:=Tryz.underlying184,
 a76:=Tryz.isAgg184,
 z76:=Tryz.sizeOf184,
 v76:=Tryz.zeroValue184,
 t77:=Tryz.underlying76,
 a77:=Tryz.isAgg76,
 z77:=Tryz.sizeOf76,
 v77:=Tryz.zeroValue76}
def cfZ(a b c d:Int):Int:=if a≠c then a-c else b-d
set_option maxHeartbeats 2000000 in
theorem lesser_z(a b c d:Int)(j:0<=a/\a<1000000000)(l:0<=b/\b<1000000000)(m:0<=c/\c<1000000000)(hd:0<=d/\d<1000000000)(f:World):
  Calls Tryz.prog 85 #[.agg #[.int .i64 a,.int .i64 b],.agg #[.int .i64 c,.int .i64 d]] f λe w'=>e=.returned (.int .i64 (cfZ a b c d))/\∃q g,w'=grow (f.drewN q) g:=by
 have r:IntKind.i64.wrap (a-c)=a-c:=by simp[IntKind.wrap,IntKind.bits,IntKind.signed];omega
 have s:IntKind.i64.wrap (b-d)=b-d:=by simp[IntKind.wrap,IntKind.bits,IntKind.signed];omega
 go_enter Tryz.func85,Tryz.ntmps85
 go_wp2
 all_goals go_ret
 ·rename_i h;have h:a≠c:=by simpa using h
  refine⟨?_,0,_,by rw[alloc_eq_grow,alloc_eq_grow,grow_grow];rfl⟩;unfold cfZ;rw[if_pos h];rfl
 ·rename_i h;have h:¬(a≠c):=by simpa using h
  refine⟨?_,0,_,by rw[alloc_eq_grow,alloc_eq_grow,grow_grow];rfl⟩;unfold cfZ;rw[if_neg h];rfl
def Fp(x:SP):List Value:=[.int .i64 x.1.val,.int .i64 x.2.val]
def cfS(x c:SP):Int:=cfZ x.1.val x.2.val c.1.val c.2.val
theorem Mw(x c:SP):Go.Proofs.ltOf cfS x c=tN x c:=by rw[Bool.eq_iff_iff,IE];unfold Go.Proofs.ltOf cfS cfZ;rw[decide_eq_true_eq];split<;>omega
theorem E2(d off size:Nat)(w:World):CmpLays Tryz.prog 85 #[] Fp 2 cfS d off size w:=λ_ _ _ _ x c=>
 lesser_z x.1.val x.2.val c.1.val c.2.val (by omega) (by omega) (by omega) (by omega) _
theorem aHR:SWO (Go.Proofs.ltOf cfS) where
 irrefl x:=by rw[Mw];exact EV x
 trans x y z h1 h2:=by rw[Mw]at*;exact KW h1 h2
 ntrans x y z h1 h2:=by
  rw[Mw]at*;rcases OT.1 h1 with e |e
  ·subst e;exact h2
  ·rcases OT.1 h2 with c |c
   ·subst c;exact h1
   ·exact OT.2 (.inr (KW c e))
theorem aHS(x c:SP)(f:Go.Proofs.ltOf cfS x c=false)(d:Go.Proofs.ltOf cfS c x=false):x=c:=by
 rw[Mw]at*;rcases OT.1 f with e |e
 ·exact e.symm
 ·rw[e]at d;cases d
theorem T7(c off h:Nat)(l:List SP)(w:World)(m:HoldsK Fp 2 w c off l.toArray)(r:c<w.heap.size)(s:l.length<4611686018427387904):
  Calls Tryz.prog 84 #[.slice (some ⟨c,off,none⟩) l.length h,.func (.func 85) #[] #[]] w λe w'=>e=.returned (.tuple #[])/\∃n os,w'=sortWorldK Fp 2 w c off n (l.mergeSort λx d=>!tN d x).toArray os:=by
 have j:∀g w,(callFunc 85 g).run Tryz.prog w=.ok (.enter 85 g) w:=enters_of Tryz.func85 (by kernel_rfl) rfl;have f:=AnyQ.slices_SortFunc_total Tryz.sortL 2 Tryz.isAgg53 Tryz.sizeOf53 Fp (λ_=>rfl) (λx v hv=>by simp[Fp]at hv;rcases hv with rfl |rfl<;>rfl) cfS aHR 85 #[] c off h l.toArray w j (E2 c off _ w) m r (by simpa using s) aHS;have e:(λx d:SP=>!(Go.Proofs.ltOf cfS) d x)=λx d=>!tN d x:=by funext x d;rw[Mw]
 rw[e]at f;change Calls Tryz.prog 84 _ _ _ at f;simpa using f
theorem aA5(p:Option Addr)(c:Nat)(w:World):Calls Tryz.prog 84 #[.slice p 0 c,.func (.func 85) #[] #[]] w λe w'=>e=.returned (.tuple #[])/\w'=w:=
 AnyF.slices_SortFunc_none Tryz.sortL p c _ w
end Go.Eng.Q

namespace Go.Eng.Q
open Go.Eng Go.Proofs
open Go.RowKit Go.Lib Go.Sort
theorem aDg{x:D}{p:SP}(h:q7 x=some p):x=eS p:=by
 unfold q7 at h;split at h
 ·rename_i a b;obtain⟨u,c,f⟩:=Option.bind_eq_some_iff.1 h;obtain⟨v,d,e⟩:=Option.bind_eq_some_iff.1 f;injection e with e;subst e;unfold VL at c d;split at c
  ·rename_i e1;split at d
   ·rename_i l;injection c with c;injection d with d;subst c;subst d;unfold eS;have g:((a.toNat:Nat):Int)=a:=by omega
    have j:((b.toNat:Nat):Int)=b:=by omega
    show D.l [.i a,.i b]=D.l [.i ((a.toNat:Nat):Int),.i ((b.toNat:Nat):Int)];rw[g,j]
   ·simp at d
  ·simp at c
 ·simp at h
theorem Qv:∀{data:LD}{l:List SP},Cm data=some l->data=l.map eS
 |[],l,h=>by have h:some []=some l:=h;injection h with h;subst h;rfl
 |x::data,l,h=>by have h:((q7 x).bind λx=>(Cm data).bind λl=>some (x::l))=some l:=h;obtain⟨p,d,e⟩:=Option.bind_eq_some_iff.1 h;obtain⟨g,f,c⟩:=Option.bind_eq_some_iff.1 e;injection c with c;subst c;rw[aDg d,Qv f];rfl
theorem aED(s:List SP):s.mergeSort (λx c=>!tN c x)=qO s:=by
 unfold qO;split
 ·simp
 ·simp
 ·rfl
theorem aEE:TD Tryz.prog E:=λs e el f a0 F ctx d2 data q x C f9 w G st sl r a c6 c7 e7 c9 e0 c8=>by
 have e6:E.sg.look E.srt=some ⟨84,[(54,.sio [.sl true 53 y1]),(119,.fnv 85)],[]⟩:=by kernel_rfl
 rw[e6]at a0;injection a0 with a0;subst a0;have e5:mF [(54,PM.sio [.sl true 53 y1]),(119,.fnv 85)]=some (53,y1,85):=by kernel_rfl
 have F:mF [(54,PM.sio [.sl true 53 y1]),(119,.fnv 85)]=some (e,el,f):=F;rw[e5]at F;injection F with F;injection F with f4 b0;injection b0 with b0 f5;subst f4;subst b0;subst f5;rw[d2]at C;have C:(bif Nat.ble data.length 1000000000 then(Cm data).bind λl=>some (D.l [],[D.l (Wn data l)])else none)=some (q,[x]):=C;cases K:Nat.ble data.length 1000000000 with
 |false=>rw[K]at C;simp at C
 |true=>
 rw[K,cond_true]at C;have K:=Nat.le_of_ble_eq_true K;obtain⟨l,c4,U⟩:=Option.bind_eq_some_iff.1 C;injection U with U;injection U with U V;injection V with V;have d3:=Qv c4;subst d3;rw[k9]at V;subst V;obtain⟨_,_,_,b6⟩:=c6.arrs r a c7;rw[e7,c9,e0,c8]at b6;obtain⟨ad,n,c,hv,a6,b4,b3,b5,b7⟩:=b6;rw[List.length_map]at a6;show Calls Tryz.prog 84 ⟨[G.H r [],.func (.func 85) #[] #[]]⟩ w _;rw[hv];by_cases c3:n=0
 ·subst c3;have e4:l=[]:=List.eq_nil_of_length_eq_zero a6;subst e4;refine(aA5 ad c w).mono λc2 w'⟨a4,g⟩=>?_;subst g;refine⟨a4,rfl,rfl,rfl,Nat.le_refl _,λ_ _ _=>rfl,ad,0,c,rfl,rfl,b4,b3,b5,λb1 J=>?_⟩;obtain⟨Q,H,cs,P,y,T,a1⟩:=b7 b1 J;exact⟨Q,H,cs,P,y,T,λi u=>absurd u (by omega)⟩
 ·cases ad with
  |none=>have:=b5 rfl;omega
  |some A=>
   obtain⟨Q,H,cs,P,y,T,a1⟩:=b7 A rfl;obtain⟨d,off,g0⟩:=A;simp only at Q H y T a1;subst Q;have a3:d<w.heap.size:=by
    rcases Nat.lt_or_ge d w.heap.size with h |h
    ·exact h
    ·rw[Array.getElem?_eq_none h]at y;cases y
   have e1:∀j,w.frozen? ⟨d,j,none⟩=false:=λj=>by unfold World.frozen?;simp only[y];simp
   have hg:∀i,i<l.length->l.toArray[i]! =gP l i:=λi u=>by simp[gP,u]
   have b2:HoldsK Fp 2 w d off l.toArray:=λj Y=>by
    rw[size_flatK]at Y;have Y:j<l.length*2:=by simpa using Y
    refine⟨?_,e1 _⟩;rw[get_flatK _ _ _ _ (by simpa using Y),hg _ (by omega)];have u:j/2<n:=by omega
    have W:∀t,t<2->w.cell? ⟨d,off+(j/2)*2+t,none⟩=some ((Fp (gP l (j/2)))[t]!):=λt ht=>by
     have f0:y1.length=2:=rfl;have a9:y1[t]?=some (.int .i64):=by rcases(show t=0\/t=1 by omega)with e |e<;>subst e<;>rfl
     obtain⟨v,c0,c1⟩:=BS (a1 (j/2) u) t (.int .i64) a9;have a5:(l.map eS).getD (j/2) (.i 0)=eS (gP l (j/2)):=by simp[List.getD,gP,show j/2<l.length by omega]
     rw[a5,Nat.zero_add]at c1;rw[Nat.zero_add,f0]at c0;rw[c0];have f3:v=.int .i64 (lf 2 (eS (gP l (j/2))) t).toI:=c1.1;rw[f3];rcases(show t=0\/t=1 by omega)with e |e<;>subst e<;>rfl
    have:=W (j%2) (by omega);rw[show off+j/2*2+j%2=off+j by omega]at this;exact this
   have f6:n<=maxLen:=by omega
   have d1:l.length<4611686018427387904:=by rw[List.length_map]at K;omega
   subst a6;refine(T7 d off c l w b2 a3 d1).mono λc2 w'⟨a4,m,os,g⟩=>?_;rw[aED]at g;have e8:(qO l).toArray.size=l.toArray.size:=by simp[BE]
   have c5:HoldsK Fp 2 w' d off (qO l).toArray:=by rw[g];exact holdsK_sortWorldK_c Fp 2 w d off l.toArray (qO l).toArray m os b2 a3 e8
   have e3:∀b,b<w.heap.size->b≠d->w'.heap[b]?=w.heap[b]?:=λb a2 a7=>by rw[g];unfold sortWorldK putRowK putRow mapBlock;rw[heap_grow_old _ _ (by simpa[Sort.ahead]using a2)];simp[Array.getElem?_modify,Sort.ahead,Ne.symm a7]
   have d0:∃L,L.size=cs.size/\w'.heap[d]?=some (.cells L P (0,0)):=by rw[g];unfold sortWorldK putRowK putRow mapBlock;rw[heap_grow_old _ _ (by simpa[Sort.ahead]using a3)];refine⟨putCells id off (flatK Fp 2 (qO l).toArray) cs,by simp[putCells],?_⟩;simp[Array.getElem?_modify,Sort.ahead,y,onCells]
   obtain⟨L,f1,f2⟩:=d0;refine⟨a4,by rw[g];rfl,by rw[g];rfl,by rw[g];rfl,?_,λb a2 a7=>e3 b a2 (λe=>a7 (by rw[e];exact H)),some ⟨d,off,none⟩,l.length,c,rfl,by show((qO l).map eS).length=_;rw[List.length_map,BE],b4,b3,(λh=>by cases h),λb1 J=>?_⟩
   ·rw[g];exact size_sortWorldK_c Fp 2 w d off m _ os
   ·injection J with J;subst J;refine⟨rfl,H,L,P,f2,by rw[f1];exact T,λi u=>?_⟩;refine JA y1 0 λt ty ht=>?_;have a9:t<2:=(List.getElem?_eq_some_iff.1 ht).1;have e9:ty=.int .i64:=by
     rcases(show t=0\/t=1 by omega)with e |e<;>subst e<;>(injection ht with ht;exact ht.symm)
    subst e9;have W:=(HoldsK.cell c5 (i:=i) (c:=t) (by simpa[BE]using u) a9).1;have e2:(qO l).toArray[i]! =gP (qO l) i:=by simp[gP,BE,u]
    rw[e2]at W;have a5:((qO l).map eS).getD i (.i 0)=eS (gP (qO l) i):=by simp[List.getD,gP,BE,u]
    refine⟨(Fp (gP (qO l) i))[t]!,?_,?_⟩
    ·rw[Nat.zero_add];exact W
    ·show Wo w' G [] r (.int .i64) _ _ (lf 2 (((qO l).map eS).getD i (.i 0)) (0+t));rw[a5,Nat.zero_add];have f7:(gP (qO l) i).1.val <1000000000:=(gP (qO l) i).1.isLt;have f8:(gP (qO l) i).2.val <1000000000:=(gP (qO l) i).2.isLt;rcases(show t=0\/t=1 by omega)with e |e<;>subst e
     ·refine⟨rfl,?_,?_⟩
      ·show(-9223372036854775808:Int)<=((gP (qO l) i).1.val :Int);omega
      ·show((gP (qO l) i).1.val :Int)<=9223372036854775807;omega
     ·refine⟨rfl,?_,?_⟩
      ·show(-9223372036854775808:Int)<=((gP (qO l) i).2.val :Int);omega
      ·show((gP (qO l) i).2.val :Int)<=9223372036854775807;omega
end Go.Eng.Q

namespace Go.Eng.Q
open Go.Eng Go.Proofs Go.Proofs.YtkigimoffeibkabGreat
mutual
def SzL(n:Nat):LT->D->Prop
 |.sl _ _ el,x=>x.els.length<=n/\∀i,i<x.els.length->SzC n el el.length (x.els.getD i (.i 0)) 0
 |.int _,_=>True
 |.bool,_=>True
 |.str,_=>True
def SzC(n:Nat):List LT->Nat->D->Nat->Prop
 |[],_,_,_=>True
 |t::ts,k,x,j=>SzL n t (lf k x j)/\SzC n ts k x (j+1)
end
theorem aDi{n k:Nat}{x:D}:∀(ts:List LT)(c:Nat),(∀(j:Nat)(t:LT),ts[j]?=some t->SzL n t (lf k x (c+j)))->SzC n ts k x c
 |[],_,_=>trivial
 |t::ts,c,h=>⟨h 0 t rfl,aDi ts (c+1) λj u d=>by have:=h (j+1) u (by simpa using d);rwa [show c+(j+1)=c+1+j by omega]at this⟩
mutual
def shT(P:Program):Nat->TypeId->Option (List LT)
 |0,_=>none
 |n+1,t=>match P.underlying t with
  |some .bool=>some [.bool]
  |some (.int .i64)=>some [.int .i64]
  |some .string=>some [.str]
  |some (.slice e)=>(shT P n e).bind λel=>bif Nat.beq (P.cellsOf e) el.length&&Nat.ble 1 el.length then some [.sl false e el]else none
  |some (.struct fs)=>(aA6 P n fs.toList 0).bind λlv=>bif Nat.beq (P.cellsOf t) lv.length then some lv else none
  |_=>none
def aA6(P:Program):Nat->List Field->Nat->Option (List LT)
 |0,_,_=>none
 |n+1,[],_=>some []
 |n+1,f::fs,o=>bif Nat.beq f.offset o then(shT P n f.type).bind λl=>bif Nat.beq (P.cellsOf f.type) l.length then(aA6 P n fs (o+l.length)).map (l++·)else none else none
end
theorem aHT{n:Int}(h:(Lit.int .i64 n).wf=true):UU .i64<=n/\n<=UV .i64:=by simp only[Lit.wf,Bool.and_eq_true,decide_eq_true_eq]at h;exact h
theorem aFV{H:Type}(d:DataW H):1<=Rows.uptoBulk d:=by
 cases d with
 |lit l=>cases l<;>simp[Rows.uptoBulk]
 |nil=>simp[Rows.uptoBulk]
 |ptr d=>simp[Rows.uptoBulk]
 |slice c f=>simp[Rows.uptoBulk]
 |agg parts=>simp[Rows.uptoBulk]
 |iface t d=>simp[Rows.uptoBulk]
 |map e=>simp[Rows.uptoBulk]
 |held h=>simp[Rows.uptoBulk]
theorem o9{H:Type}{d:DataW H}{l:List (DataW H)}(h:d∈l):Rows.uptoBulk d<=Rows.uptoBulkAll l:=by
 induction l with
 |nil=>cases h
 |cons x r c=>
  simp only[Rows.uptoBulkAll];cases List.mem_cons.1 h with
  |inl e=>subst e;omega
  |inr e=>have:=c e;omega
theorem length_le{H:Type}(l:List (DataW H)):l.length<=Rows.uptoBulkAll l:=by
 induction l with
 |nil=>simp[Rows.uptoBulkAll]
 |cons x r c=>have:=aFV x;simp only[Rows.uptoBulkAll,List.length_cons];omega
section
variable{H:Type}{enc:TypeId×Value->H}{P:Program}{w:World}
def MJ(w:World)(n:Nat)(lv:List LT)(cs:List Value)(o:Nat)(ys:LD):Prop:=
 ys.length=lv.length/\∀(j:Nat)(t:LT),lv[j]?=some t->∃u,cs[o+j]?=some u/\vD w (vG (Gh.top w) []) t u (ys.getD j (.i 0))/\SzL n t (ys.getD j (.i 0))
theorem aFW{b:Nat}(h:b<w.heap.size):vG (Gh.top w) [] b:=.inl (by simp[Gh.top,h])
theorem E3{n:Nat}{t:LT}{u:Value}{d:D}(e:vD w (vG (Gh.top w) []) t u d)(f:SzL n t d):MJ w n [t] [u] 0 [d]:=
 ⟨rfl,λj g c=>by
  cases j with
  |zero=>injection c with c;subst c;exact⟨u,rfl,e,f⟩
  |succ j=>simp at c⟩
variable{N:Nat}
theorem p7:∀(a0 n:Nat)(t:TypeId)(cs:List Value)(x:DataW H×List MemPlace)(lv:List LT),DataW.trod enc P w 0 (λ_=>true) true a0 t cs=some x->shT P n t=some lv->Rows.uptoBulk x.1<=N->cs.length=lv.length/\∃ys,MJ w N lv cs 0 ys
 |0,_,_,_,_,_,h,_,_=>by simp[DataW.trod]at h
 |a0+1,0,_,_,_,_,_,h,_=>by simp[shT]at h
 |a0+1,n+1,t,cs,x,lv,h,y,a4=>by
  have c7:=p7 a0;have e5:∀(m:Nat)(fs:List Field)(o:Nat)(xs:List (DataW H×List MemPlace))(lv:List LT),(fs.mapM λf=>DataW.trod enc P w 0 (λ_=>true) true a0 f.type ((cs.drop f.offset).take (P.cellsOf f.type)))=some xs->aA6 P m fs o=some lv->(∀K∈xs,Rows.uptoBulk K.1<=N)->∃ys,MJ w N lv cs o ys:=by
   intro m;induction m with
   |zero=>intro fs o xs lv _ c _;simp[aA6]at c
   |succ m f2=>
    intro fs o xs lv Q c W;cases fs with
    |nil=>simp only[aA6,Option.some.injEq]at c;subst c;exact⟨[],rfl,λj t v=>by simp at v⟩
    |cons f fs=>
     simp only[aA6]at c;cases e1:Nat.beq f.offset o with
     |false=>rw[e1]at c;simp at c
     |true=>
      rw[e1]at c;simp only[cond_true]at c;obtain⟨l,e3,a1⟩:=Option.bind_eq_some_iff.1 c;cases a3:Nat.beq (P.cellsOf f.type) l.length with
      |false=>rw[a3]at a1;simp at a1
      |true=>
       rw[a3]at a1;simp only[cond_true,Option.map_eq_some_iff]at a1;obtain⟨r,e4,rfl⟩:=a1;have e1:=Nat.eq_of_beq_eq_true e1;have a3:=Nat.eq_of_beq_eq_true a3;rw[List.mapM_cons]at Q;simp only[Option.bind_eq_bind,Option.bind_eq_some_iff,Option.pure_def,Option.some.injEq]at Q;obtain⟨K,L,rs,V,rfl⟩:=Q;obtain⟨d2,ys,a6,c4⟩:=c7 m f.type _ K l L e3 (W K (by simp));obtain⟨a9,a7,c5⟩:=f2 fs (o+l.length) rs r V e4 λK c3=>W K (by simp[c3]);refine⟨ys++a9,by simp[a6,a7],λj t v=>?_⟩;by_cases T:j<l.length
       ·rw[List.getElem?_append_left T]at v;obtain⟨u,U,Y⟩:=c4 j t v;refine⟨u,?_,?_⟩
        ·rw[List.getElem?_take]at U;split at U
         ·rw[List.getElem?_drop]at U;rw[<-U,e1];congr 1;omega
         ·simp at U
        ·have:(ys++a9).getD j (.i 0)=ys.getD j (.i 0):=by simp[List.getD,List.getElem?_append_left (show j<ys.length by omega)]
         rw[this];exact Y
       ·rw[List.getElem?_append_right (by omega)]at v;obtain⟨u,U,Y⟩:=c5 (j-l.length) t v;refine⟨u,?_,?_⟩
        ·rw[<-U];congr 1;omega
        ·have:(ys++a9).getD j (.i 0)=a9.getD (j-l.length) (.i 0):=by simp[List.getD,List.getElem?_append_right (show ys.length<=j by omega),a6]
         rw[this];exact Y
  simp only[shT]at y;split at y
  ·rename_i J;injection y with y;subst y;unfold DataW.trod at h;rw[J]at h;split at h<;>simp_all;exact⟨[.b _],E3 rfl trivial⟩
  ·rename_i J;injection y with y;subst y;unfold DataW.trod at h;rw[J]at h;split at h<;>simp_all;cases‹IntKind.i64=_›;obtain⟨⟨rfl,c2⟩,rfl⟩:=h;exact⟨[.i _],E3 ⟨rfl,aHT c2⟩ trivial⟩
  ·rename_i J;injection y with y;subst y;unfold DataW.trod at h;rw[J]at h;split at h<;>simp_all;obtain⟨c2,rfl⟩:=h;rename_i e0;exact⟨[.s e0.data.toList],E3 ⟨rfl,by show e0.data.toList.length<=_;rw[Array.length_toList];exact c2⟩ trivial⟩
  ·rename_i e J;obtain⟨el,Q,c⟩:=Option.bind_eq_some_iff.1 y;cases G:(Nat.beq (P.cellsOf e) el.length&&Nat.ble 1 el.length)with
   |false=>rw[G]at c;simp at c
   |true=>
    rw[G]at c;injection c with c;subst c;rw[Bool.and_eq_true]at G;have c8:=Nat.eq_of_beq_eq_true G.1;have f3:=Nat.le_of_ble_eq_true G.2;rcases DataW.trod_slice J h with⟨rfl,rfl⟩ |⟨a,s,e2,C,f9,f4,b7,rfl,hx,f5,d2,e8,c0,d1,f8,f7⟩
    ·refine⟨rfl,[.l []],E3 Hp ⟨Nat.zero_le _,λi g=>absurd g (Nat.not_lt_zero _)⟩⟩
    ·injection b7 with b7;subst b7;have f6:Rows.uptoBulkAll (C.map (·.1))+1<=N:=by
      rw[hx]at a4;simp only[Rows.uptoBulk]at a4;omega
     have e7:s<=N:=by have:=length_le (C.map (·.1));rw[List.length_map,c0]at this;omega
     have f1:0<s->a.spot=none:=λc9=>by
      have hg:=d1 0 c9;have b4:C[0]?=some C[0]:=by simp[c0,c9]
      rw[b4]at hg;obtain⟨a2,L,V⟩:=Option.bind_eq_some_iff.1 hg;obtain⟨_,Y,c6⟩:=World.cells?_some L;have F:=c6 0 (by omega);have b3:a2[0]?=some a2[0]:=by simp[Y]
      rw[b3]at F;have:=World.cell?_spot F;simpa[Addr.add]using this
     have b5:∀i,i<s->∃ys:LD,ys.length=el.length/\∀(j:Nat)(t:LT),el[j]?=some t->a.spot=none/\∃u,w.cell? ⟨a.block,a.off+i*el.length+j,none⟩=some u/\vD w (vG (Gh.top w) []) t u (ys.getD j (.i 0))/\SzL N t (ys.getD j (.i 0)):=λi g=>by
      have hg:=d1 i g;have b4:C[i]?=some C[i]:=by simp[c0,g]
      rw[b4]at hg;obtain⟨a2,L,V⟩:=Option.bind_eq_some_iff.1 hg;have e9:Rows.uptoBulk (C[i]).1 <=N:=by have:=o9 (d:=(C[i]).1) (l:=C.map (·.1)) (List.mem_map.2 ⟨C[i],List.getElem_mem _,rfl⟩);omega
      obtain⟨b3,ys,a6,c4⟩:=c7 n e a2 C[i] el V Q e9;obtain⟨_,Y,c6⟩:=World.cells?_some L;refine⟨ys,a6,λj t v=>?_⟩;obtain⟨u,a7,c5⟩:=c4 j t v;have T:j<P.cellsOf e:=by have:=(List.getElem?_eq_some_iff.1 v).1;omega
      have F:=c6 j T;rw[Nat.zero_add]at a7;rw[a7]at F;have c1:a.spot=none:=f1 (by omega);refine⟨c1,u,?_,c5⟩;obtain⟨b,off,g0⟩:=a;simp only at c1;subst c1;rw[Go.WideShapes.add_plain,Go.WideShapes.add_plain,c8]at F;exact F
     let f:Nat->LD:=λi=>if g:i<s then Classical.choose (b5 i g)else[]
     have hf:∀i,i<s->(f i).length=el.length/\∀(j:Nat)(t:LT),el[j]?=some t->a.spot=none/\∃u,w.cell? ⟨a.block,a.off+i*el.length+j,none⟩=some u/\vD w (vG (Gh.top w) []) t u ((f i).getD j (.i 0))/\SzL N t ((f i).getD j (.i 0)):=λi g=>by have:f i=Classical.choose (b5 i g):=dif_pos g;rw[this];exact Classical.choose_spec (b5 i g)
     have d0:∀i,i<s->((List.range s).map λi=>zG (f i)).getD i (.i 0)=zG (f i):=λi g=>by simp[List.getD,g]
     have b1:(D.l ((List.range s).map λi=>zG (f i))).els.length=s:=by show((List.range s).map _).length=s;simp
     refine⟨rfl,[.l ((List.range s).map λi=>zG (f i))],E3 ⟨some a,s,e2,rfl,b1,d2,e8,(λh=>by cases h),λad b2 f0=>?_⟩ ⟨by rw[b1];exact e7,λi g=>?_⟩⟩
     ·injection b2 with b2;subst b2;obtain⟨t0,d3⟩:∃t0,el[0]?=some t0:=⟨el[0],by simp⟩;refine⟨((hf 0 f0).2 0 t0 d3).1,λi g=>?_⟩;obtain⟨b6,a5⟩:=hf i g;have e6:a.block<w.heap.size:=by
       obtain⟨_,u,F,_⟩:=a5 0 t0 d3;rcases Nat.lt_or_ge a.block w.heap.size with b0 |b0
       ·exact b0
       ·simp[World.cell?,Array.getElem?_eq_none b0]at F
      refine Rx (aFW e6) el 0 λj t v=>?_;have T:j<el.length:=(List.getElem?_eq_some_iff.1 v).1;obtain⟨_,u,F,W,_⟩:=a5 j t v;refine⟨u,?_,?_⟩
      ·rw[Nat.zero_add];exact F
      ·show vD w _ t u (lf el.length (((List.range s).map λi=>zG (f i)).getD i (.i 0)) (0+j));rw[d0 i g,Nat.zero_add,IW b6 j T];exact W
     ·have g:i<s:=by rw[b1]at g;exact g
      obtain⟨b6,a5⟩:=hf i g;refine aDi el 0 λj t v=>?_;have T:j<el.length:=(List.getElem?_eq_some_iff.1 v).1;show SzL N t (lf el.length (((List.range s).map λi=>zG (f i)).getD i (.i 0)) (0+j));rw[d0 i g,Nat.zero_add,IW b6 j T];obtain⟨_,u,_,_,W⟩:=a5 j t v;exact W
  ·rename_i fs J;obtain⟨l,Q,c⟩:=Option.bind_eq_some_iff.1 y;cases G:Nat.beq (P.cellsOf t) l.length with
   |false=>rw[G]at c;simp at c
   |true=>
    rw[G]at c;injection c with c;subst c;have c8:=Nat.eq_of_beq_eq_true G;unfold DataW.trod at h;rw[J]at h;simp only at h;split at h
    ·rename_i b3;obtain⟨xs,L,V⟩:=Option.map_eq_some_iff.1 h;refine⟨by omega,e5 n fs.toList 0 xs l L Q λK c3=>?_⟩;rw[<-V]at a4;simp only[Rows.uptoBulk]at a4;have:=o9 (d:=K.1) (l:=xs.map (·.1)) (List.mem_map.2 ⟨K,c3,rfl⟩);omega
    ·simp at h
  ·simp at y
end
end Go.Eng.Q

namespace Go.Eng.Q
open Go.Eng Go.Proofs
theorem Vr{w:World}{ok:Nat->Prop}{o:Bool}{e:TypeId}{el:List LT}{v:Value}{x:D}(h:vD w ok (.sl o e el) v x){i:Nat}(r:i<x.els.length):∃b off,F9 w ok el b off el.length (gD x.els i) 0:=by
 obtain⟨a,n,c,g,j,l,m,d,f⟩:=h;cases a with
 |none=>have:=d rfl;omega
 |some ad=>exact⟨_,_,(f ad rfl (by omega)).2 i (by omega)⟩
theorem Vs{w:World}{ok:Nat->Prop}{k:Nat}{x:D}:∀{ts:List LT}{b o d:Nat},F9 w ok ts b o k x d->∀{j:Nat}{t:LT},ts[j]?=some t->∃v,vD w ok t v (lf k x (d+j))
 |[],_,_,_,_,j,t,c=>by simp at c
 |t0::ts,b,o,d,⟨_,⟨v,_,f⟩,e⟩,0,t,c=>by injection c with c;subst c;exact⟨v,f⟩
 |t0::ts,b,o,d,⟨_,_,e⟩,j+1,t,c=>by obtain⟨v,hv⟩:=Vs e (j:=j) (t:=t) (by simpa using c);rw[show d+1+j=d+(j+1)by omega]at hv;exact⟨v,hv⟩
theorem T8{n k:Nat}{x:D}:∀{ts:List LT}{d:Nat},SzC n ts k x d->∀{j:Nat}{t:LT},ts[j]?=some t->SzL n t (lf k x (d+j))
 |[],_,_,j,t,c=>by simp at c
 |t0::ts,d,⟨e,f⟩,0,t,c=>by injection c with c;subst c;exact e
 |t0::ts,d,⟨e,f⟩,j+1,t,c=>by have hv:=T8 f (j:=j) (t:=t) (by simpa using c);rwa [show d+1+j=d+(j+1)by omega]at hv
theorem aFX{x:D}(h:SzL 1048576 (.sl false 33 y5) x):SzM x.els:=λj f b e=>by have c:SzL 1048576 (.sl false 40 [.sl false 42 y0]) (lf 5 (gD x.els j) (0+4)):=T8 (h.2 j f) (j:=4) rfl;have d:SzL 1048576 (.sl false 42 y0) (lf 1 (gD (eX (gD x.els j) 4) b) (0+0)):=T8 (c.2 b e) (j:=0) rfl;exact d.1
theorem aDj{w:World}{ok:Nat->Prop}{v:Value}{x:D}(h:vD w ok (.sl false 33 y5) v x):aDf x.els:=λj r b m k s=>by obtain⟨_,_,c⟩:=Vr h r;obtain⟨u,d⟩:=Vs c (j:=4) (t:=.sl false 40 [.sl false 42 y0]) rfl;obtain⟨_,_,e⟩:=Vr d (i:=b) m;obtain⟨v4,f⟩:=Vs e (j:=0) (t:=.sl false 42 y0) rfl;obtain⟨_,_,g⟩:=Vr f (i:=k) s;obtain⟨y,l⟩:=Vs g (j:=4) (t:=.int .i64) rfl;exact l.2
noncomputable def st3(xs gs ts fs:LD):St:=Ip.put 0 (.agg [.fz [] 69 y9 xs,.fz [] 72 y12 gs,.fz [] 66 y11 ts,.fz [] 33 y5 fs])
theorem aFY(xs gs ts fs:LD):eY E 0 (Tu Jn 3).ps [.l [.l xs,.l gs,.l ts,.l fs]] Ip=some (st3 xs gs ts fs):=by kernel_rfl
theorem aHU(xs gs ts fs:LD):(st3 xs gs ts fs).sl.get 0=.agg [.fz [] 69 y9 xs,.fz [] 72 y12 gs,.fz [] 66 y11 ts,.fz [] 33 y5 fs]:=by kernel_rfl
theorem bx3(xs gs ts fs:LD):(st3 xs gs ts fs).bx=[]:=by kernel_rfl
theorem ar3(xs gs ts fs:LD):(st3 xs gs ts fs).ar=[]:=by kernel_rfl
theorem rs3:(Tu Jn 3).rs=[.val false [.bool]]:=by kernel_rfl
theorem fn3:(Tu Jn 3).fn=3:=by kernel_rfl
theorem aGV:(Tu Jn 3).ps.length=1:=by kernel_rfl
theorem sh3:shT Tryz.prog 40 27=some [.sl false 69 y9,.sl false 72 y12,.sl false 66 y11,.sl false 33 y5]:=by kernel_rfl
theorem aGW(G:TD Tryz.prog E){w:World}{cs:List Value}{ys:LD}(F:cs.length=4)(h:MJ w 1048576 [.sl false 69 y9,.sl false 72 y12,.sl false 66 y11,.sl false 33 y5] cs 0 ys):
  Calls Tryz.prog 3 ⟨[.agg ⟨cs⟩]⟩ w λe w'=>e=.returned (.bool true)/\Go.RowKit.Below w.heap.size w w':=by
 obtain⟨H,c⟩:=h;obtain⟨f,a0,b0,_⟩:=c 0 _ rfl;obtain⟨g,a1,b1,_⟩:=c 1 _ rfl;obtain⟨j,a2,b2,_⟩:=c 2 _ rfl;obtain⟨l,a3,m,u⟩:=c 3 _ rfl;have C:cs=[f,g,j,l]:=by
  match cs,F with
  |[p,q,r,s],_=>simp at a0 a1 a2 a3;rw[a0,a1,a2,a3]
 subst C;have y:∀k N n,NA Tryz.prog (tJ E k sites N) (qN (tJ E k sites N) aW (Dq E) k n) 3 (Tu Jn 3):=λk N n=>aFw G k N n 3 (Tu Jn 3) (by kernel_rfl) (by kernel_rfl);have key:=Tz (vs:=[.agg ⟨[f,g,j,l]⟩]) y rs3 (aFU (ys.getD 0 (.i 0)).els (ys.getD 1 (.i 0)).els (ys.getD 2 (.i 0)).els (ys.getD 3 (.i 0)).els (aFX u) (aDj m)) (aGV.symm▸rfl) (w:=w) ⟨st3 _ _ _ _,aFY _ _ _ _,bx3 _ _ _ _,ar3 _ _ _ _,λt v hv=>?_⟩
 ·rw[fn3]at key;exact key
 ·match t with
  |0=>rw[aHU];simp at hv;subst hv;exact⟨[f,g,j,l],rfl,f,_,rfl,⟨λd hd=>(by cases hd),λ_=>b0⟩,g,_,rfl,⟨λd hd=>(by cases hd),λ_=>b1⟩,j,_,rfl,⟨λd hd=>(by cases hd),λ_=>b2⟩,l,_,rfl,⟨λd hd=>(by cases hd),λ_=>m⟩,rfl⟩
  |t+1=>simp at hv
end Go.Eng.Q

namespace Go.Proofs.YtkigimoffeibkabGreat
open Go.ChangeShapes Go.WideShapes Go.ChangeAt Go.RowKit
theorem Tryz.own:ownKnob Tryz.prog.godebug=none:=by kernel_rfl
theorem Tryz.laidOut:laidOutB Tryz.prog=true:=by kernel_rfl
theorem Nx{w w':World}(h:Below w.heap.size w w')(d:MemPlace->Prop):w.keptBut w' d:=by
 refine⟨h.os,h.output,λi c=>?_⟩;rw[h.block i c];cases w.heap[i]?with
 |none=>rfl
 |some o=>cases o<;>first|exact⟨rfl,rfl,rfl,λ_ _=>rfl⟩ |exact .inr ⟨rfl,rfl⟩ |rfl
set_option maxRecDepth 100000 in
theorem contract(a0:Go.Eng.TD Tryz.prog Go.Eng.Q.E)(H:Type)(enc:TypeId×Value->H)(c:World)(base:Nat)(d:Array Value)(ds gs:List (DataW H))(L:List MemPlace)
  (K:∀(j:Nat)t v,Tryz.f3.params[j]?=some t->d[j]?=some v->Value.okWide Tryz.prog c .any base t v)
  (y:DataW.Whole enc Tryz.prog Tryz.f3.params.toList Rows.calmAllSpec.vars false c d.toList ds gs L)(F:Rows.uptoSmall H (ds++gs)=true):
  Calls Tryz.prog 3 d c λe m=>∃v,e=.returned v/\Rows.calmAllSpec.post enc Tryz.prog Tryz.f3 false true false false c d v m:=by
 have J:∀(j:Nat)t v,Tryz.f3.params[j]?=some t->d[j]?=some v->Value.okWide Tryz.prog c .any base t v:=K;have f:=y;obtain⟨p,q,u,T,rfl,a4,a5⟩:=y;have s:DataW.TrodAll enc Tryz.prog c 0 (λ_=>true) true Tryz.f3.params.toList d.toList ds p:=u;rw[Tryz.params3]at s J;obtain⟨v0,d0,rfl,rfl,r⟩:=trodAll_one s;obtain⟨rfl,rfl⟩:=trodVars_none T;have G:Rows.uptoBulkAll ([d0]++[])<=1048576:=of_decide_eq_true F;have U:Rows.uptoBulk d0<=1048576:=by simp only[List.append_nil,Rows.uptoBulkAll]at G;omega
 have g:=J 0 27 v0 rfl rfl;have Q:=r;obtain⟨P,hf⟩:=r;clear u K F G;simp only[List.append_nil]at f;have Y:∀l∈p,l.block<c.heap.size:=λl a2=>by simpa using f.lt l (by simp[a2])
 obtain⟨V,ys,a3⟩:=Go.Eng.Q.p7 P 40 27 _ _ _ hf Go.Eng.Q.sh3 U;obtain⟨cs,rfl⟩:∃cs,v0=.agg ⟨cs⟩:=by have a1:=Tryz.underlying27;unfold Value.okWide at g;rw[a1]at g;obtain⟨cs,rfl,_⟩:=g;exact⟨cs.toList,rfl⟩
 refine(Go.Eng.Q.aGW a0 V a3).mono λe m⟨W,C⟩=>?_;subst W;exact⟨_,rfl,_,_,_,[],_,[],f,trodAll_mk1 (shut_bool Tryz.underlying4 true),
  trodAll_mk1 (Below.trod Tryz.laidOut (by kernel_rfl) (of_decide_eq_true (by kernel_rfl)) Q C Y),rfl,Nx C _,λh=>by cases h⟩
set_option maxRecDepth 100000 in
theorem lifted(h:Go.Eng.TD Tryz.prog Go.Eng.Q.E)(os:Os)(l:os.Started)(H:Type)(enc:TypeId×Value->H)(F:Stop.Interp):
  ReturnsInHanded {} Tryz.checked os 3 .any ((Rows.OpenSpec.upto Rows.calmAllSpec).pre6 enc Tryz.prog Tryz.f3 Rows.calmAllUptoRow.domain false) (((Rows.OpenSpec.upto Rows.calmAllSpec).at F).post enc Tryz.prog Tryz.f3 false true false false):=by
 refine returnsInHanded_of_cond (C:=Tryz.checked) (s:=Rows.OpenSpec.upto Rows.calmAllSpec) (k:=Rows.uptoSmall) rfl Tryz.own l (by kernel_rfl) Tryz.func3
  (OpenSpec.witness (enc:=enc) (C:=Tryz.checked) (s:=Rows.OpenSpec.upto Rows.calmAllSpec) (k:=Rows.uptoSmall) rfl false ⟨#[],#[.agg #[.slice none 0 0,.slice none 0 0,.slice none 0 0,.slice none 0 0]],[]⟩ 8 (by kernel_rfl) (by kernel_rfl) (by kernel_rfl)
   (x:=([.agg [.nil,.nil,.nil,.nil]],[],[])) (by kernel_rfl) rfl (by kernel_rfl)) ?_
 intro c base d ds gs e j f _ g _;exact contract h H enc c base d ds gs e j f g
theorem aHV(c:Go.Eng.TD Tryz.prog Go.Eng.Q.E):Rows.CalmAllUptoSaid:=
 OpenClaim.holds_of_cond 3 Tryz.f3 rfl rfl rfl rfl rfl rfl rfl ⟨rfl,rfl,rfl,rfl,rfl⟩ rfl rfl rfl rfl rfl (by kernel_rfl) Tryz.func3 (by kernel_rfl)
  (of_decide_eq_true (by kernel_rfl)) (by unfold Func.isWrapper;first|(rw[if_pos (by decide+kernel)];kernel_rfl) |(rw[if_neg (by decide+kernel)];exact⟨rfl,rfl⟩))
  (λos d H enc _ F=>lifted c os d H enc F)
theorem calmAll_holds:Rows.CalmAllUptoSaid:=aHV Go.Eng.Q.aEE
end Go.Proofs.YtkigimoffeibkabGreat
