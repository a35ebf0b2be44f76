/- The law BaseTells answers true for every module, function, block and instruction that may be handed in: BaseTellsUptoSaid. Conditions: none beside the statement's own. -/
import Derived.Test.YtglojhiigapkbabGreatLawB
import Derived.Shelf.SlSortCmp.NoneTotal
import Derived.WalkKit
import Derived.Test.YtglojhiigapkbabGreatRows
import Derived.ProofKit
import Derived.JoinedCond
set_option linter.unusedSimpArgs false
set_option linter.unusedVariables false
namespace Go.Eng.Q
open Go.Eng
def aEP(s:Int):Option Int->LD
 |some a=>[.i 1,.i (bJ .i64 s a)]
 |none=>[.i 2,.i 0]
theorem aFt:I64 0:=⟨by decide,by decide⟩
theorem E5{n:Nat}{df:Nat->D}{rk:Nat->Nat}(h:Rk n df rk)(e:∀v m,RN df v=some m->I64 m){v:Nat}(hv:v<n){a:Int}(c:iZ df rk v=some a):I64 a:=by
 rw[LL h hv]at c;split at c
 ·injection c with c;rw[<-c];exact aFt
 ·split at c
  ·cases e1:iZ df rk (fP (df v) 0)with
   |none=>rw[e1]at c;cases c
   |some x=>
    rw[e1]at c;cases d:RN df (fP (df v) 1)with
    |none=>rw[d]at c;cases c
    |some m=>rw[d]at c;injection c with c;rw[<-c];exact aDq (e _ _ d)
  ·cases c
def aGo(U:LD):Prop:=∀b,b<U.length->∀k,k<(gD U b).els.length->I64 (vI (gD (gD U b).els k) 4)
section
variable{n1 n2 nf:Nat}{J Y V U:LD}{r:Int}(h:Nd n1 n2 nf J Y V U r)(hI:aGo U)(nm:List UInt8)(o:Bool)
include hI in
theorem U0:∀v m,RN (dD V.length U) v=some m->I64 m:=λv m c=>by
 unfold RN at c;split at c
 ·rename_i e;injection c with c;by_cases d:∃q,MC V.length U v q
  ·obtain⟨q,d⟩:=d;rw[<-c,BZ d];exact hI q.1 d.b q.2 d.k
  ·have:dD V.length U v=SL:=by unfold dD;rw[dif_neg d]
   rw[this]at e;cases e
 ·cases c
include h hI
theorem Re:∀(c v:Nat),rJ V.length U v<c->v<nv V U->∀s:Int,I64 s->
  fS Br 0 [.i (v:Int),.i s,.s nm,.b o,.l V,.i r,.l U,.i 0,.i 0] (0,aEP s (iZ (dD V.length U) (rJ V.length U) v))
 |0,v,a0,_,_,_=>absurd a0 (by omega)
 |c+1,v,a0,hv,s,b4=>by
  have P:=Cu h;have d:=LL P.rk hv;have g:=T9 h nm o v;by_cases f:∃q,MC V.length U v q
  ·obtain⟨⟨b,k⟩,f⟩:=f;have L:Gp V.length U v=.l [.i (b:Int),.i (k:Int)]:=by unfold Gp;rw[GW f]
   have a7:=f.b;have a9:=f.k;have G:aA (b:Int) U.length=true:=aF a7;have H:aA (k:Int) (gD U b).els.length=true:=aF a9;have lb:aT (b:Int) 0=false:=Ch (by omega);have T:=P.rk.fall v hv;rw[L]at g;rw[BZ f]at d T;simp only at d T;have b2:vI (D.l (Gi (gD (gD U b).els k))) 0=vI (gD (gD U b).els k) 0:=rfl;have b6:eX (D.l (Gi (gD (gD U b).els k))) 5=eX (gD (gD U b).els k) 5:=rfl;have Y:∀j,fP (D.l (Gi (gD (gD U b).els k))) j=fP (gD (gD U b).els k) j:=λj=>rfl;rw[b2,Y,Y]at d;by_cases e1:vI (gD (gD U b).els k) 0=18\/vI (gD (gD U b).els k) 0=3
   ·rw[if_pos e1]at d;refine zF zK ?_;rw[d];show Ev _ _ (kF _) (.out (0,[.i 1,.i (bJ .i64 s 0)]));rw[aHi b4];unfold kF;refine bW g rfl (aM lb (aC G (aC H ?_)));rcases e1 with e1 |e1
    ·exact aC ((bT _ _).2 e1) (aC ((bT _ _).2 e1) (bG rfl))
    ·exact aM (nW (a:=vI (gD (gD U b).els k) 0) (by omega)) (aC ((bT _ _).2 e1) (bG rfl))
   ·rw[if_neg e1]at d;have J:aD (vI (gD (gD U b).els k) 0) 18=false:=nW λe=>e1 (.inl e);have K:aD (vI (gD (gD U b).els k) 0) 3=false:=nW λe=>e1 (.inr e);by_cases l:vI (gD (gD U b).els k) 0=19
    ·rw[if_pos l]at d;obtain⟨Q,u,w,y,C,W,c0,c1⟩:=T l;rw[b6]at Q;have y:oG (gD (gD U b).els k) 0=(u:Int):=y;have C:oG (gD (gD U b).els k) 1=(w:Int):=C;have a5:fP (gD (gD U b).els k) 0=u:=by unfold fP;rw[y];rfl
     have a6:fP (gD (gD U b).els k) 1=w:=by unfold fP;rw[C];rfl
     rw[a5,a6]at d;have t:=aDr h nm o w;rw[<-C]at t;have b5:aA 0 (eX (gD (gD U b).els k) 5).length=true:=by rw[Q];rfl
     have a2:aA 1 (eX (gD (gD U b).els k) 5).length=true:=by rw[Q];rfl
     cases F:RN (dD V.length U) w with
     |none=>
      have b0:iZ (dD V.length U) (rJ V.length U) v=none:=by rw[d,F];cases iZ (dD V.length U) (rJ V.length U) u<;>rfl
      rw[F]at t;refine zF zK ?_;rw[b0];refine bW g rfl (aM lb (aC G (aC H (aM J (aM K ?_)))));unfold AN;exact aC ((bT _ _).2 l) (aC a2 (bW t rfl (aC rfl (bG rfl))))
     |some m=>
      have a1:=U0 hI w m F;have b7:=Re c u (by omega) W (bJ .i64 s m) (aDq a1);rw[F]at t d;have b3:aEP (bJ .i64 s m) (iZ (dD V.length U) (rJ V.length U) u)=aEP s (iZ (dD V.length U) (rJ V.length U) v):=by
       rw[d];cases b1:iZ (dD V.length U) (rJ V.length U) u with
       |none=>rfl
       |some a=>have a4:=E5 P.rk (U0 hI) W b1;show[D.i 1,.i (bJ .i64 (bJ .i64 s m) a)]=[D.i 1,.i (bJ .i64 s (bJ .i64 a m))];rw[T8 a1 a4]
      rw[<-b3];refine sX zK ?_ b7;refine bW g rfl (aM lb (aC G (aC H (aM J (aM K ?_)))));unfold AN;refine aC ((bT _ _).2 l) (aC a2 (bW t rfl (aM rfl (aC b5 (aP ?_)))));show _=[D.i (oG (gD (gD U b).els k) 0),_,_,_,_,_,_,_,_];rw[y];rfl
    ·rw[if_neg l]at d;refine zF zK ?_;rw[d];refine bW g rfl (aM lb (aC G (aC H (aM J (aM K ?_)))));unfold AN;exact aM (nW l) (bG rfl)
  ·have L:Gp V.length U v=.l [.i (-1),.i (-1)]:=by unfold Gp Oh;rw[dif_neg f]
   have a3:dD V.length U v=SL:=by unfold dD;rw[dif_neg f]
   rw[L]at g;rw[a3]at d;have d:iZ (dD V.length U) (rJ V.length U) v=none:=d;refine zF zK ?_;rw[d];exact bW g rfl (aC rfl (bG rfl))
theorem U1(v:Nat)(hv:v<nv V U):jZ E aZ sites Um [qH nm o V r U,.i (v:Int)] (CA (iZ (dD V.length U) (rJ V.length U) v)) []:=by
 have d:=Re h hI nm o _ v (Nat.lt_succ_self _) hv 0 aFt;have e:D.l (aEP 0 (iZ (dD V.length U) (rJ V.length U) v))=CA (iZ (dD V.length U) (rJ V.length U) v):=by
  cases f:iZ (dD V.length U) (rJ V.length U) v with
  |none=>rfl
  |some a=>have c:=E5 (Cu h).rk (U0 hI) hv f;show D.l [D.i 1,.i (bJ .i64 0 a)]=D.l [D.i 1,.i a];rw[Nh c,Int.zero_add,wA c.1 c.2]
 refine bE zK (by rfl) rfl ?_;refine aO d (bB (bM ?_ rfl));rw[<-e];cases iZ (dD V.length U) (rJ V.length U) v<;>rfl
noncomputable abbrev PL(V U:LD)(j v:Nat):D:=if v<j then(if(gD (bI V U) v).toI=3 then CA (iZ (dD V.length U) (rJ V.length U) v)else z2)else z2
theorem aFu(y:(gD (bI V U) 0).toI≠3):jZ E aZ sites Kj [qH nm o V r U] (.l (DE (nv V U) (bI V U) (dD V.length U) (rJ V.length U))) []:=by
 have F:=h.n;have f:(bI V U).length=nv V U:=zP V U;have G:nv V U<=400:=by unfold nv;omega
 refine bE US (by rfl) rfl ?_;show Ev _ _ (TZ _) _;unfold TZ;have s:fS UR 0 [.i 1,.s nm,.b o,.l V,.i r,.l U,.l (aK (nv V U) (PL V U 1)),.l (bI V U)] (0,[.l (aK (nv V U) (PL V U (nv V U)))]):=by
  refine dF US (λj=>[.i ((j+1:Nat):Int),.s nm,.b o,.l V,.i r,.l U,.l (aK (nv V U) (PL V U (j+1))),.l (bI V U)]) (nv V U-1) (λj C=>?_) ?_
  ·have c:j+1<nv V U:=by omega
   have w:aA ((j+1:Nat):Int) (bI V U).length=true:=by rw[f];exact aF c
   refine aC ?_ (aC w ?_)
   ·show aT ((j+1:Nat):Int) ((bI V U).length:Int)=true;rw[f];exact aU c
   by_cases g:(gD (bI V U) (j+1)).toI=3
   ·refine aC ((bT _ _).2 g) (bW (U1 h hI nm o (j+1) c) rfl (aC ?_ (aP ((nx c (by omega) [] _).trans ?_))))
    ·show aA ((j+1:Nat):Int) (aK (nv V U) (PL V U (j+1))).length=true;rw[cO];exact aF c
    have u:PL V U (j+1) (j+1)=z2:=if_neg (by omega);have e:∀x:D,CA (iZ (dD V.length U) (rJ V.length U) (j+1))=x->aK (nv V U) (fV (PL V U (j+1)) (j+1) x)=aK (nv V U) (PL V U (j+2)):=λx hx=>dU λi _=>by
     by_cases e:i=j+1
     ·subst e;rw[fK,<-hx];unfold PL;rw[if_pos (by omega),if_pos g]
     ·rw[oB _ _ e];unfold PL;by_cases d:i<j+1
      ·rw[if_pos d,if_pos (show i<j+2 by omega)]
      ·rw[if_neg d,if_neg (show¬i<j+2 by omega)]
    show[D.i (bJ .i64 ((j+1:Nat):Int) 1),.s nm,.b o,.l V,.i r,.l U,.l (aK (nv V U) (PL V U (j+2))),.l (bI V U)]=_;cases t:iZ (dD V.length U) (rJ V.length U) (j+1)with
    |none=>rw[t]at e;rw[<-e _ rfl];rw[<-Hj (n:=nv V U) _ c u none 2 0 rfl z2];rfl
    |some a=>rw[t]at e;rw[<-e _ rfl];rw[<-Hj (n:=nv V U) _ c u (some a) 1 a rfl z2];rfl
   ·refine aM (nW g) (aP ((nx c (by omega) [] _).trans ?_));have e:aK (nv V U) (PL V U (j+1))=aK (nv V U) (PL V U (j+2)):=dU λi _=>by
     unfold PL;by_cases d:i<j+1
     ·rw[if_pos d,if_pos (show i<j+2 by omega)]
     ·rw[if_neg d];by_cases l:i<j+2
      ·have:i=j+1:=by omega
       subst this;rw[if_pos l,if_neg g]
      ·rw[if_neg l]
    show[D.i (bJ .i64 ((j+1:Nat):Int) 1),.s nm,.b o,.l V,.i r,.l U,.l (aK (nv V U) (PL V U (j+2))),.l (bI V U)]=_;rw[<-e];rfl
  ·have e:nv V U-1+1=nv V U:=by unfold nv;omega
   show Ev _ _ (wO _) _;unfold wO;rw[e];refine aM ?_ (bG rfl);show aT (nv V U:Int) ((bI V U).length:Int)=false;rw[f];exact aX _
 have e1:aK (nv V U) (PL V U (nv V U))=DE (nv V U) (bI V U) (dD V.length U) (rJ V.length U):=dU λi m=>if_pos m;have v:aK (nv V U) (PL V U 1)=List.replicate (bI V U).length (D.l [.i 0,.i 0]):=by
  rw[f,<-rX];refine dU λi m=>?_;unfold PL;by_cases e:i<1
  ·have:i=0:=by omega
   subst this;rw[if_pos e,if_neg y]
  ·rw[if_neg e]
 rw[e1,v]at s;refine bW (PB nm o V r U h.tp h.tb) rfl (aC ?_ (aO s (bB (bM rfl rfl))));show(cX 0 ((bI V U).length:Int)&&(aD ((bI V U).length:Int) ((bI V U).length:Int)&&jN (Int.toNat ((bI V U).length:Int)) 16))=true;rw[jS (by omega),pX];exact fA (by show(bI V U).length<=_;omega) (by omega)
end
def qP(x:SP):List SP->Nat
 |[]=>0
 |y::l=>if tY y x=true then qP x l+1 else 0
theorem ZE(x:SP):∀l,qP x l<=l.length
 |[]=>Nat.le_refl _
 |y::l=>by
  have:=ZE x l;unfold qP;split
  ·simp;omega
  ·omega
theorem o9(x:SP):∀(l:List SP)(k:Nat),k<qP x l->tY (gP l k) x=true
 |[],k,h=>absurd h (by unfold qP;omega)
 |y::l,k,h=>by
  unfold qP at h;split at h
  ·rename_i e;cases k with
   |zero=>exact e
   |succ k=>exact o9 x l k (by omega)
  ·omega
theorem E6(x:SP):∀(l:List SP),qP x l<l.length->tY (gP l (qP x l)) x=false
 |[],h=>absurd h (by simp)
 |y::l,h=>by
  unfold qP at h⊢;split at h
  ·rename_i e;rw[if_pos e];exact E6 x l (by simp at h;omega)
  ·rename_i e;rw[if_neg e];cases c:tY y x with
   |true=>exact absurd c e
   |false=>exact c
def VG(a:List SP)(x:SP):List SP:=a.take (qP x a)++([x]++a.drop (qP x a))
theorem E7{a:List SP}{x c:SP}:c∈VG a x<->c∈a\/c=x:=by
 unfold VG;have e:c∈a<->c∈a.take (qP x a)\/c∈a.drop (qP x a):=by rw[<-List.mem_append,List.take_append_drop]
 rw[e,List.mem_append,List.mem_append,List.mem_singleton];constructor
 ·rintro(h |h |h)
  ·exact .inl (.inl h)
  ·exact .inr h
  ·exact .inl (.inr h)
 ·rintro((h |h) |h)
  ·exact .inl h
  ·exact .inr (.inr h)
  ·exact .inr (.inl h)
theorem aDs(a:List SP)(x:SP):(VG a x).length=a.length+1:=by have:=ZE x a;unfold VG;simp;omega
theorem Rf:∀(a:List SP)(x:SP),IU a->x∉a->IU (VG a x)
 |[],x,_,_=>List.pairwise_singleton _ _
 |y::l,x,h,hx=>by
  obtain⟨m,r⟩:=List.pairwise_cons.1 h;have s:x∉l:=λf=>hx (List.mem_cons_of_mem _ f);by_cases e:tY y x=true
  ·have d:VG (y::l) x=y::VG l x:=by unfold VG;rw[show qP x (y::l)=qP x l+1 from if_pos e];rfl
   rw[d];refine List.pairwise_cons.2 ⟨λz c=>?_,Rf l x r s⟩;rcases E7.1 c with c |rfl
   ·exact m z c
   ·exact e
  ·have d:VG (y::l) x=x::y::l:=by unfold VG;rw[show qP x (y::l)=0 from if_neg e];rfl
   rw[d];have j:tY x y=true:=by
    have:tY y x=false:=by cases f:tY y x with|true=>exact absurd f e |false=>rfl
    rcases PG.1 this with g |g
    ·exact absurd (List.mem_cons.2 (.inl g)) hx
    ·exact g
   refine List.pairwise_cons.2 ⟨λz c=>?_,h⟩;rcases List.mem_cons.1 c with rfl |c
   ·exact j
   ·exact LH j (m z c)
def yK(a:List SP)(x:SP):List SP:=if x∈a then a else VG a x
def CJ(a b:List SP):List SP:=b.foldl yK a
theorem aA5{a:List SP}{x c:SP}:c∈yK a x<->c∈a\/c=x:=by
 unfold yK;split
 ·rename_i h;constructor
  ·exact .inl
  ·rintro(d |rfl)
   ·exact d
   ·exact h
 ·exact E7
theorem U2{a:List SP}{x:SP}(h:IU a):IU (yK a x):=by
 unfold yK;split
 ·exact h
 ·rename_i c;exact Rf a x h c
theorem aA6(a:List SP)(x:SP):(yK a x).length<=a.length+1:=by
 unfold yK;split
 ·omega
 ·rw[aDs];omega
theorem IY:∀{b a:List SP}{c:SP},c∈CJ a b<->c∈a\/c∈b
 |[],a,c=>by unfold CJ;simp
 |x::b,a,c=>by show c∈CJ (yK a x) b<->_;rw[IY,aA5,List.mem_cons,or_assoc]
theorem FQ:∀{b a:List SP},IU a->IU (CJ a b)
 |[],_,h=>h
 |x::b,a,h=>by show IU (CJ (yK a x) b);exact FQ (U2 h)
theorem Cv:∀(b a:List SP),(b.foldl yK a).length<=a.length+b.length
 |[],a=>Nat.le_refl _
 |x::b,a=>by have c:=Cv b (yK a x);have d:=aA6 a x;simp only[List.foldl_cons,List.length_cons];omega
theorem U3(l:List SP)(x:SP)(J:l.length<=1000000):jZ E aZ sites NW [fB l,eK x] (.b (decide (x∈l))) []:=by
 refine bE zZ (by rfl) rfl ?_;show Ev _ _ (HG _) _;unfold HG;have H:((l.map eK).length:Int)<=9223372036854775807:=by rw[List.length_map];omega
 have s:∀g:SP,(aD (vI (eK g) 0) (x.1.val:Int)&&(aD (vI (eK g) 1) (x.2.val:Int)&&true))=decide (g=x):=λg=>eqS g x;have t:∀j,j<(l.map eK).length->gP l j≠x->sW E aZ sites qC (qC.F.lp 0 [.l (l.map eK),.i (j:Int),.i (x.1.val:Int),.i (x.2.val:Int)]) (.again [.l (l.map eK),.i ((j+1:Nat):Int),.i (x.1.val:Int),.i (x.2.val:Int)]):=λj d G=>by
  have h:j<l.length:=by rw[List.length_map]at d;exact d
  have hg:=PH h;have m:(aD (vI (gD (l.map eK) j) 0) (x.1.val:Int)&&(aD (vI (gD (l.map eK) j) 1) (x.2.val:Int)&&true))=false:=by rw[hg,s,decide_eq_false G]
  exact aC (aU d) (aC (aF d) (aM m (aP (nx d H [_] _))))
 by_cases hx:x∈l
 ·obtain⟨j,d,C,F⟩:∃j,j<l.length/\gP l j=x/\∀i,i<j->gP l i≠x:=by
   have u:dW l.length (λj=>decide (gP l j=x))=true:=by
    cases e:dW l.length (λj=>decide (gP l j=x))with
    |true=>rfl
    |false=>
     obtain⟨i,c,rfl⟩:=List.mem_iff_getElem.1 hx;have:=bU.1 e i c;have f:gP l i=l[i]:=by simp[gP,c]
     rw[f,decide_eq_true rfl]at this;cases this
   obtain⟨j,v,y,f⟩:=rP u;exact⟨j,v,of_decide_eq_true y,λi c=>of_decide_eq_false (f i c)⟩
  have h:j<(l.map eK).length:=by rw[List.length_map];exact d
  have r:fS qC 0 [.l (l.map eK),.i 0,.i (x.1.val:Int),.i (x.2.val:Int)] (0,[.b true]):=by
   refine dF zZ (λj=>[.l (l.map eK),.i (j:Int),.i (x.1.val:Int),.i (x.2.val:Int)]) j (λi c=>t i (by omega) (F i c)) ?_;have m:(aD (vI (gD (l.map eK) j) 0) (x.1.val:Int)&&(aD (vI (gD (l.map eK) j) 1) (x.2.val:Int)&&true))=true:=by rw[PH d,s,decide_eq_true C]
   exact aC (aU h) (aC (aF h) (aC m (bG rfl)))
  rw[decide_eq_true hx];exact aO r (bB (bM rfl rfl))
 ·have r:fS qC 0 [.l (l.map eK),.i 0,.i (x.1.val:Int),.i (x.2.val:Int)] (1,[]):=by
   refine dF zZ (λj=>[.l (l.map eK),.i (j:Int),.i (x.1.val:Int),.i (x.2.val:Int)]) (l.map eK).length (λi c=>t i c λe=>hx ?_) ?_
   ·rw[List.length_map]at c;have f:gP l i=l[i]:=by simp[gP,c]
    rw[<-e,f];exact List.getElem_mem c
   ·exact aM (aX _) (bG rfl)
  rw[decide_eq_false hx];exact aO r (fD (bB (bM rfl rfl)))
theorem aHj(c x:SP):(aT (vI (eK c) 0) (vI (eK x) 0)||(aD (vI (eK c) 0) (vI (eK x) 0)&&aT (vI (eK c) 1) (vI (eK x) 1)))=tY c x:=by
 rw[Bool.eq_iff_iff,IT,Bool.or_eq_true,Bool.and_eq_true,bT];show(aT (c.1.val:Int) (x.1.val:Int)=true\/((c.1.val:Int)=(x.1.val:Int))/\aT (c.2.val:Int) (x.2.val:Int)=true)<->_;have h:∀a b:Nat,aT (a:Int) (b:Int)=true<->a<b:=λa b=>by
  constructor
  ·intro h;by_cases e:a<b
   ·exact e
   ·rw[Ch (by omega)]at h;cases h
  ·exact aU
 rw[h,h];omega
theorem nb1{q c:Bool}(h:q=false):((!(q&&true))||c)=true:=by rw[h];rfl
theorem nb2{q c z:Bool}(h:q=false):((!((q&&true)&&z))||c)=true:=by rw[h];rfl
theorem nb3{q c z w:Bool}(h:q=false):((!(((q&&true)&&z)&&w))||c)=true:=by rw[h];rfl
theorem aHk{q z:Bool}(h:q=false):(q&&z)=false:=by rw[h];rfl
theorem aGp(b a:List SP){j:Nat}(m:j<b.length)(t:a.length<=1000000):
  fS KU 2 [fB b,.i 0,.i (j:Int),fB a] (0,[fB b,.i (qP (gP b j) a:Int),.i (j:Int),fB a]):=by
 have c:aA (j:Int) (b.map eK).length=true:=by rw[List.length_map];exact aF m
 have l:=PH m;refine dF KV (λk=>[fB b,.i (k:Int),.i (j:Int),fB a]) (qP (gP b j) a) (λk s=>?_) ?_
 ·have r:k<a.length:=by have:=ZE (gP b j) a;omega
  have f:k<(a.map eK).length:=by rw[List.length_map];exact r
  have h:(aT (k:Int) ((a.map eK).length:Int)&&(aT (vI (gD (a.map eK) k) 0) (vI (gD (b.map eK) j) 0)||(aD (vI (gD (a.map eK) k) 0) (vI (gD (b.map eK) j) 0)&&aT (vI (gD (a.map eK) k) 1) (vI (gD (b.map eK) j) 1))))=true:=by rw[PH r,l,aHj,aU f,o9 _ _ _ s];rfl
  have d:=aF f;exact aC (aH d) (aC (aH c) (aC (aH d) (aC (aH c) (aC (aH d) (aC (aH c) (aC h (aP (nx f (by rw[List.length_map];omega) [_] _))))))))
 ·show Ev _ _ (xD _) _;unfold xD;by_cases e:qP (gP b j) a<a.length
  ·have f:qP (gP b j) a<(a.map eK).length:=by rw[List.length_map];exact e
   have d:=aF f;have h:(aT (qP (gP b j) a:Int) ((a.map eK).length:Int)&&(aT (vI (gD (a.map eK) (qP (gP b j) a)) 0) (vI (gD (b.map eK) j) 0)||(aD (vI (gD (a.map eK) (qP (gP b j) a)) 0) (vI (gD (b.map eK) j) 0)&&aT (vI (gD (a.map eK) (qP (gP b j) a)) 1) (vI (gD (b.map eK) j) 1))))=false:=by rw[PH e,l,aHj,E6 _ _ e,Bool.and_false]
   exact aC (aH d) (aC (aH c) (aC (aH d) (aC (aH c) (aC (aH d) (aC (aH c) (aM h (bG rfl)))))))
  ·have g:aT (qP (gP b j) a:Int) ((a.map eK).length:Int)=false:=by
    have:=ZE (gP b j) a;rw[List.length_map];exact Ch (by omega)
   exact aC (nb1 g) (aC (aH c) (aC (nb2 g) (aC (aH c) (aC (nb3 g) (aC (aH c) (aM (aHk g) (bG rfl)))))))
theorem Hl(a b:List SP)(J:a.length<=100000)(K:b.length<=100000):jZ E aZ sites EO [fB a,fB b] (fB (CJ a b)) []:=by
 refine bE KV (by rfl) rfl ?_;show Ev _ _ (UF _) _;unfold UF;have y:fS KU 0 [fB b,.i 0,fB a] (0,[fB (CJ a b)]):=by
  have t:CJ a b=(b.take b.length).foldl yK a:=by rw[List.take_length];rfl
  rw[t];refine dF KV (λj=>[fB b,.i (j:Int),fB ((b.take j).foldl yK a)]) b.length (λj f=>?_) ?_
  ·have g:j<(b.map eK).length:=by rw[List.length_map];exact f
   have u:gP b j=b[j]:=by simp[gP,f]
   have F:(b.take (j+1)).foldl yK a=yK ((b.take j).foldl yK a) (gP b j):=by rw[List.take_succ_eq_append_getElem f,List.foldl_append,u];rfl
   have C:=Cv (b.take j) a;rw[List.length_take]at C;generalize P:(b.take j).foldl yK a=c at*;have L:c.length<=200000:=by omega
   have m:=U3 c (gP b j) (by omega);have v:=PH f;have l:D.l [.i (vI (gD (b.map eK) j) 0),.i (vI (gD (b.map eK) j) 1)]=eK (gP b j):=by rw[v];rfl
   rw[<-l]at m;refine aC (aU g) (aC (aF g) (bW m rfl ?_));rw[F];by_cases hx:gP b j∈c
   ·have e:yK c (gP b j)=c:=if_pos hx;rw[e];exact aC (decide_eq_true hx) (aP (nx g (by rw[List.length_map];omega) [_] _))
   ·have e:yK c (gP b j)=VG c (gP b j):=if_neg hx;have H:=ZE (gP b j) c;have d:(c.map eK).length=c.length:=List.length_map _;rw[e];have r:cX (qP (gP b j) c:Int) (c.length:Int)=true:=jS (by omega);have h:List.take (c.map eK).length (c.map eK)=c.map eK:=List.take_length;have G:((b.map eK).length:Int)<=9223372036854775807:=by rw[List.length_map];omega
    refine aM (decide_eq_false hx) (aO (aGp b c f (by omega)) (bB (aC ?_ (aC (aF g) (aC ?_ (aC ?_ (aC ?_ (aC ?_ (aP ((nx g G [_] _).trans ?_))))))))))
    ·show(cX 0 (qP (gP b j) c:Int)&&cX (qP (gP b j) c:Int) ((c.map eK).length:Int))=true;rw[d,r,jS (by omega)];rfl
    ·show kT (qP (gP b j) c:Int) ((c.map eK).length:Int) ((c.map eK).length:Int)=true;rw[d];unfold kT;simp only[r,jS (show(0:Int)<=(qP (gP b j) c:Int)by omega),jS (Int.le_refl _)];rfl
    ·show jN (1+(List.drop (qP (gP b j) c) (List.take (c.map eK).length (c.map eK))).length) 16=true;rw[h,List.length_drop,d];exact fA (by omega) (by omega)
    ·show Nat.ble (qP (gP b j) c) (c.map eK).length=true;rw[d];exact Nat.ble_eq_true_of_le H
    ·show jN ((List.take (qP (gP b j) c) (c.map eK)).length+([D.l [.i (vI (gD (b.map eK) j) 0),.i (vI (gD (b.map eK) j) 1)]]++List.drop (qP (gP b j) c) (List.take (c.map eK).length (c.map eK))).length) 16=true;rw[h,List.length_append,List.length_take,List.length_drop,d];exact fA (by simp;omega) (by omega)
    ·have s:(VG c (gP b j)).map eK=List.take (qP (gP b j) c) (c.map eK)++([D.l [.i (vI (gD (b.map eK) j) 0),.i (vI (gD (b.map eK) j) 1)]]++List.drop (qP (gP b j) c) (List.take (c.map eK).length (c.map eK))):=by
      rw[h,l];unfold VG;rw[List.map_append,List.map_append,List.map_take,List.map_drop];rfl
     show[D.l (b.map eK),.i (bJ .i64 (j:Int) 1),.l ((VG c (gP b j)).map eK)]=_;rw[s];rfl
  ·refine aM ?_ (bG rfl);show aT (b.length:Int) ((b.map eK).length:Int)=false;rw[List.length_map];exact aX _
 refine aC ?_ (aO y (bB (bM rfl rfl)));show jN (0+(a.map eK).length) 16=true;rw[List.length_map];exact fA (by omega) (by omega)
theorem aDt{l:List SP}(h:IU l)(c:∀x,x∈l->x∈Gq):l.length<=1600:=by rw[<-Na];exact h.nodup.length_le_of_subset λx hx=>c x hx
theorem IZ{l m:List SP}(h:IU l)(c:∀x,x∈l<->x∈m):l=yR m:=ZB h (My m) λx=>by rw[c,DD]
theorem Ni(b:Nat->List SP)(v:Nat):iJ b v (b v)=b:=funext λu=>by
 unfold iJ;split
 ·rename_i e;rw[e]
 ·rfl
section
variable{n1 n2 nf:Nat}{J Y V U:LD}{r:Int}(h:Nd n1 n2 nf J Y V U r)(hng:n2<=12)(nm:List UInt8)(o:Bool)
abbrev st6(nm:List UInt8)(o:Bool)(V:LD)(r:Int)(U:LD)(B:Nat)(k:Nat)(q:Bool×(Nat->List SP)):LD:=[.i (k:Int),.b q.1,.i (B:Int),.s nm,.b o,.l V,.i r,.l U,.l (bH (nv V U) q.2)]
noncomputable def ZF(df:Nat->D)(v:Nat)(q:Bool×(Nat->List SP)):Bool×(Nat->List SP):=if(yR (bF df q.2 v)).length=(q.2 v).length then q else(true,iJ q.2 v (yR (bF df q.2 v)))
abbrev dQ(U:LD)(B k:Nat):D:=gE (gD U B) k
theorem p7{v:Nat}(hv:v<nv V U)(f:uW (dD V.length U) v=true){t:Bool}{b:Nat->List SP}(c:FO (nv V U) V (dD V.length U) b):
  iJ b v (yR (bF (dD V.length U) b v))=(ZF (dD V.length U) v (t,b)).2 /\(t||!(aD (((yR (bF (dD V.length U) b v)).length:Nat):Int) (((b v).length:Nat):Int)))=(ZF (dD V.length U) v (t,b)).1 :=by
 unfold ZF;by_cases e:(yR (bF (dD V.length U) b v)).length=(b v).length
 ·have hd:=Cr c hv f e;have d:b v=yR (bF (dD V.length U) b v):=IZ (c.rise v hv) hd;rw[if_pos e];refine⟨?_,?_⟩
  ·rw[<-d];exact Ni b v
  ·rw[e,pX];cases t<;>rfl
 ·rw[if_neg e];refine⟨rfl,?_⟩;rw[nW (by omega)];cases t<;>rfl
include h hng
omit hng in
theorem E8{B k v:Nat}(c:MC V.length U v (B,k))(hv:v<nv V U)(s:uW (dD V.length U) v=true){t:Bool}{b:Nat->List SP}(l:FO (nv V U) V (dD V.length U) b){row:D}(u:D.l (D.els row)=fB (yR (bF (dD V.length U) b v))):
  sW E aZ sites lU (.ask ((!(!t))||(aA (vI (dQ U B k) 2) (List.length (List.set (bH (nv V U) b) (Int.toNat (vI (dQ U B k) 2)) (D.l (D.els row))))))
   (.again (let z0:=Int.toNat (vI (dQ U B k) 2);let e:=List.set (bH (nv V U) b) z0 (D.l (D.els row));[.i (bJ .i64 (k:Int) 1),.b (t||(!(aD (iE (gD e z0)) (iE (gD (bH (nv V U) b) z0))))),.i (B:Int),.s nm,.b o,.l V,.i r,.l U,.l e])) .bad)
   (.again (st6 nm o V r U B (k+1) (ZF (dD V.length U) v (t,b)))):=by
 have d:vI (dQ U B k) 2=(v:Int):=Nf h c;obtain⟨g,j⟩:=p7 hv s (t:=t) l;have y:=(h.tb.2 B c.b).ins.sane;refine aC (aH ?_) (aP ((nx c.k y [] _).trans ?_))
 ·rw[d,List.length_set,cO];exact aF hv
 ·show[D.i (bJ .i64 (k:Int) 1),.b (ZF (dD V.length U) v (t,b)).1,.i (B:Int),.s nm,.b o,.l V,.i r,.l U,.l (bH (nv V U) (ZF (dD V.length U) v (t,b)).2)]=_;rw[<-g,<-j,u,d];show _=[D.i (bJ .i64 (k:Int) 1),.b (t||(!(aD (iE (gD ((bH (nv V U) b).set v (fB (yR (bF (dD V.length U) b v)))) v)) (iE (gD (bH (nv V U) b) v))))),.i (B:Int),.s nm,.b o,.l V,.i r,.l U,.l ((bH (nv V U) b).set v (fB (yR (bF (dD V.length U) b v))))];have hg:gD (bH (nv V U) b) v=fB (b v):=dX _ hv;have m:gD (bH (nv V U) (iJ b v (yR (bF (dD V.length U) b v)))) v=fB (yR (bF (dD V.length U) b v)):=by
   refine(dX _ hv).trans ?_;unfold iJ;rw[if_pos rfl]
  rw[PJ,hg,m];have e1:iE (fB (yR (bF (dD V.length U) b v)))=(((yR (bF (dD V.length U) b v)).length:Nat):Int):=by show(((List.map eK _).length:Nat):Int)=_;rw[List.length_map]
  have f:iE (fB (b v))=(((b v).length:Nat):Int):=by show(((List.map eK _).length:Nat):Int)=_;rw[List.length_map]
  rw[e1,f]
omit h hng in
def BV(b:Nat->List SP)(v:Nat)(as1:LD):Nat->List SP
 |0=>b v
 |j+1=>CJ (BV b v as1 j) (iJ b v (BV b v as1 j) (gD as1 j).toI.toNat)
omit h hng in
theorem ZG{b:Nat->List SP}{v:Nat}{as1:LD}{x:SP}:∀j,x∈BV b v as1 j<->x∈b v\/∃i,i<j/\x∈b (gD as1 i).toI.toNat
 |0=>by
  show x∈b v<->_;constructor
  ·exact .inl
  ·rintro(h |⟨i,h,_⟩)
   ·exact h
   ·omega
 |j+1=>by
  show x∈CJ _ _<->_;rw[IY,ZG j];constructor
  ·rintro(h |h)
   ·rcases h with h |⟨i,f,c⟩
    ·exact .inl h
    ·exact .inr ⟨i,by omega,c⟩
   ·unfold iJ at h;split at h
    ·rcases(ZG j).1 h with h |⟨i,f,c⟩
     ·exact .inl h
     ·exact .inr ⟨i,by omega,c⟩
    ·exact .inr ⟨j,by omega,h⟩
  ·rintro(h |⟨i,f,c⟩)
   ·exact .inl (.inl h)
   ·by_cases e:i=j
    ·subst e;by_cases d:(gD as1 i).toI.toNat=v
     ·exact .inl (.inl (d▸c))
     ·right;unfold iJ;rw[if_neg d];exact c
    ·exact .inl (.inr ⟨i,by omega,c⟩)
omit h hng in
theorem Cw{b:Nat->List SP}{v:Nat}{as1:LD}(c:IU (b v)):∀j,IU (BV b v as1 j)
 |0=>c
 |j+1=>FQ (Cw c j)
omit h hng in
theorem aDu{b:Nat->List SP}{v:Nat}{as1:LD}(d:∀i,i<as1.length->∀x,x∈b (gD as1 i).toI.toNat->x∈Gq)(hv:∀x,x∈b v->x∈Gq){j:Nat}(f:j<=as1.length):∀x,x∈BV b v as1 j->x∈Gq:=λx hx=>by
 rcases(ZG j).1 hx with h |⟨i,e,c⟩
 ·exact hv x h
 ·exact d i (by omega) x c
omit h hng in
theorem aEQ{B k v:Nat}(hv:v<nv V U)(t:Bool){b:Nat->List SP}(d:FO (nv V U) V (dD V.length U) b)(as1 is1:LD)(l:∀j,j<as1.length->∃u:Nat,(gD as1 j).toI=u/\u<nv V U)(Y:as1.length<=40)(l0 op ty sym num to:Int)(P:to=(v:Int)):
  fS lU 9 [.i (k:Int),.b t,.i l0,.i (B:Int),.i 0,.s nm,.b o,.l V,.i r,.l U,.i op,.i ty,.i to,.i sym,.i num,.l as1,.l is1,.l (bH (nv V U) b)]
   (0,[.i (k:Int),.b t,.i l0,.i (B:Int),.s nm,.b o,.l V,.i r,.l U,.i op,.i ty,.i to,.i sym,.i num,.l as1,.l is1,.l (bH (nv V U) (iJ b v (BV b v as1 as1.length)))]):=by
 subst P;have F:bH (nv V U) b=bH (nv V U) (iJ b v (BV b v as1 0)):=by rw[show BV b v as1 0=b v from rfl,Ni]
 rw[F];refine dF rB (λj=>[.i (k:Int),.b t,.i l0,.i (B:Int),.i (j:Int),.s nm,.b o,.l V,.i r,.l U,.i op,.i ty,.i (v:Int),.i sym,.i num,.l as1,.l is1,.l (bH (nv V U) (iJ b v (BV b v as1 j)))]) as1.length (λj c=>?_) ?_
 ·obtain⟨u,f,g⟩:=l j c;have Q:∀i,i<as1.length->∀x,x∈b (gD as1 i).toI.toNat->x∈Gq:=λi L x hx=>by
   obtain⟨w,H,J⟩:=l i L;rw[H]at hx;exact d.uni w J x hx
  have C:=aDt (Cw (as1:=as1) (d.rise v hv) j) (aDu Q (d.uni v hv) (Nat.le_of_lt c));have m:gD (bH (nv V U) (iJ b v (BV b v as1 j))) v=fB (BV b v as1 j):=by refine(dX _ hv).trans ?_;unfold iJ;rw[if_pos rfl]
  have s:gD (bH (nv V U) (iJ b v (BV b v as1 j))) (Int.toNat (gD as1 j).toI)=fB (iJ b v (BV b v as1 j) (gD as1 j).toI.toNat):=by rw[f];exact dX _ g
  have W:(iJ b v (BV b v as1 j) (gD as1 j).toI.toNat).length<=1600:=by
   unfold iJ;split
   ·exact C
   ·rw[f];exact d.len g
  have h:=Hl (BV b v as1 j) (iJ b v (BV b v as1 j) (gD as1 j).toI.toNat) (by omega) (by omega);rw[<-m,<-s]at h;have y:aA (v:Int) (bH (nv V U) (iJ b v (BV b v as1 j))).length=true:=by rw[cO];exact aF hv
  have T:aA (gD as1 j).toI (bH (nv V U) (iJ b v (BV b v as1 j))).length=true:=by rw[f,cO];exact aF g
  have K:jZ E aZ sites EO [.l (D.els (gD (bH (nv V U) (iJ b v (BV b v as1 j))) v)),.l (D.els (gD (bH (nv V U) (iJ b v (BV b v as1 j))) (Int.toNat (gD as1 j).toI)))] (fB (BV b v as1 (j+1))) []:=by rw[m,s]at h⊢;exact h
  refine aC (aU c) (aC y (aC (aF c) (aC T (bW K rfl (aC y (aP ((nx c (by omega) [_,_,_,_] _).trans ?_)))))));have G:bH (nv V U) (iJ b v (BV b v as1 (j+1)))=(bH (nv V U) (iJ b v (BV b v as1 j))).set v (fB (BV b v as1 (j+1))):=by
   rw[PJ];refine dU λi _=>?_;unfold iJ;by_cases e:i=v
   ·rw[if_pos e,if_pos e]
   ·rw[if_neg e,if_neg e,if_neg e]
  show[D.i (k:Int),.b t,.i l0,.i (B:Int),.i (bJ .i64 (j:Int) 1),.s nm,.b o,.l V,.i r,.l U,.i op,.i ty,.i (v:Int),.i sym,.i num,.l as1,.l is1,.l (bH (nv V U) (iJ b v (BV b v as1 (j+1))))]=_;rw[G];rfl
 ·exact aM (aX _) (bG rfl)
theorem Wd{B k v:Nat}(Y:MC V.length U v (B,k))(hv:v<nv V U)(W:uW (dD V.length U) v=true)(t:Bool)(b:Nat->List SP)(d:FO (nv V U) V (dD V.length U) b):
  sW E aZ sites lU (lU.F.lp 6 (st6 nm o V r U B k (t,b))) (.again (st6 nm o V r U B (k+1) (ZF (dD V.length U) v (t,b)))):=by
 have b5:=Ct h hng;have hd:=b5.d v hv W;have f5:=b5.n400;have a5:∀{row:D},D.l (D.els row)=fB (yR (bF (dD V.length U) b v))->_:=λ{row}e2=>E8 h nm o Y hv W (t:=t) d e2;have H:vI (dQ U B k) 2=(v:Int):=Nf h Y;have K:dD V.length U v=.l (Gi (dQ U B k)):=BZ Y;have a3:=Y.b;have P:=Y.k;simp only at a3 P;have c3:aA (B:Int) U.length=true:=aF a3;have wk:aA (k:Int) (nE (gD U B))=true:=aF P;have e4:aT (k:Int) (iE (gD U B))=true:=aU P;have Q:∀j:Int,vI (dD V.length U v) 0=j->vI (dQ U B k) 0=j:=λj e=>by rw[K]at e;exact e
 have T:∀j:Int,¬vI (dD V.length U v) 0=j->aD (vI (dQ U B k) 0) j=false:=λj e=>by rw[K]at e;exact nW e
 have a0:eX (dQ U B k) 5=eX (dD V.length U v) 5:=by rw[K];rfl
 have e0:(!(aD (vI (dQ U B k) 1) 3))=false:=by have:aD (vI (dD V.length U v) 1) 3=true:=W;rw[K]at this;have:aD (vI (dQ U B k) 1) 3=true:=this;rw[this];rfl
 have wv:aA (vI (dQ U B k) 2) (bH (nv V U) b).length=true:=by rw[H,cO];exact aF hv
 have c1:D.l (D.els (gD (bH (nv V U) b) (Int.toNat (vI (dQ U B k) 2))))=fB (b v):=by rw[H];have:gD (bH (nv V U) b) v=fB (b v):=dX _ hv;show D.l (D.els (gD (bH (nv V U) b) v))=_;rw[this];rfl
 have a7:∀j,j<(eX (dD V.length U v) 5).length->fP (dD V.length U v) j<nv V U/\aA (gD (eX (dQ U B k) 5) j).toI (bH (nv V U) b).length=true/\D.l (D.els (gD (bH (nv V U) b) (Int.toNat (gD (eX (dQ U B k) 5) j).toI)))=fB (b (fP (dD V.length U v) j)):=λj c9=>by
  obtain⟨u,a2,C⟩:=hd.a j c9;have c6:(gD (eX (dD V.length U v) 5) j).toI=u:=a2;have e:fP (dD V.length U v) j=u:=by unfold fP;rw[a2];rfl
  rw[a0,c6,cO,e];refine⟨C,aF C,?_⟩;show D.l (D.els (gD (bH (nv V U) b) u))=_;rw[dX _ C];rfl
 have a9:=d.rise v hv;have F:=d.sub v hv W;have f4:=d.len hv;have c2:∀x:SP,IU [x]:=λx=>List.pairwise_singleton _ _;refine aC c3 (aC e4 (aC c3 (aC wk (aM e0 (aC wv ?_)))));by_cases f:vI (dD V.length U v) 0=18
 ·have c:bF (dD V.length U) b v=[RB 2 v]:=by unfold bF;rw[if_pos f]
  refine aC ((bT _ _).2 (Q 18 f)) (aC wv (a5 (row:=.l [.l [.i 2,.i (vI (dQ U B k) 2)]]) ?_));rw[c,<-IZ (c2 (RB 2 v)) (λx=>Iff.rfl),H];exact congrArg (λa1=>D.l [a1]) (Rc (k:=2) (n:=v) (by omega) (by omega)).symm
 refine aM (T 18 f) ?_;by_cases s:vI (dD V.length U v) 0=3
 ·have c:bF (dD V.length U) b v=[RB 3 (vI (dD V.length U v) 3).toNat]:=by unfold bF;rw[if_neg f,if_pos s]
  obtain⟨g,a6,f1⟩:=hd.glo s;have c5:vI (dQ U B k) 3=(g:Int):=by rw[K]at a6;exact a6
  refine aC ((bT _ _).2 (Q 3 s)) (aC wv (a5 (row:=.l [.l [.i 3,.i (vI (dQ U B k) 3)]]) ?_));rw[c,<-IZ (c2 (RB 3 (vI (dD V.length U v) 3).toNat)) (λx=>Iff.rfl),a6,c5];exact congrArg (λa1=>D.l [a1]) (Rc (k:=3) (n:=g) (by omega) (by omega)).symm
 refine aM (T 3 s) ?_;by_cases y:vI (dD V.length U v) 0=19
 ·have c:bF (dD V.length U) b v=b (fP (dD V.length U v) 0):=by unfold bF;rw[if_neg f,if_neg s,if_pos y]
  have a4:=hd.at' y;obtain⟨b1,b2,b3⟩:=a7 0 (by omega);have d0:=d.len b1;have c0:=Hl (b v) (b (fP (dD V.length U v) 0)) (by omega) (by omega);rw[<-c1,<-b3]at c0;refine aC ((bT _ _).2 (Q 19 y)) (aC wv (aC ?_ (aC b2 (bW c0 rfl (aC wv (a5 (row:=fB (CJ (b v) (b (fP (dD V.length U v) 0)))) ?_))))))
  ·show aA 0 (eX (dQ U B k) 5).length=true;rw[a0,a4];rfl
  ·show fB _=_;rw[c]at F⊢;rw[IZ (FQ a9) (m:=b (fP (dD V.length U v) 0)) λx=>by rw[IY];exact⟨λh=>h.elim (F x) id,.inr⟩]
 refine aM (T 19 y) ?_;by_cases G:vI (dD V.length U v) 0=17
 ·have c:bF (dD V.length U) b v=b (fP (dD V.length U v) 1)++b (fP (dD V.length U v) 2):=by unfold bF;rw[if_neg f,if_neg s,if_neg y,if_pos G]
  have a4:=hd.sel G;obtain⟨b1,b2,b3⟩:=a7 1 (by omega);obtain⟨e5,e6,e7⟩:=a7 2 (by omega);have d0:=d.len b1;have f2:=d.len e5;have b6:=Hl (b v) (b (fP (dD V.length U v) 1)) (by omega) (by omega);have f3:(CJ (b v) (b (fP (dD V.length U v) 1))).length<=3200:=by have:=Cv (b (fP (dD V.length U v) 1)) (b v);unfold CJ;omega
  have b7:=Hl (CJ (b v) (b (fP (dD V.length U v) 1))) (b (fP (dD V.length U v) 2)) (by omega) (by omega);rw[<-c1,<-b3]at b6;rw[<-e7]at b7;refine aC ((bT _ _).2 (Q 17 G)) (aC wv (aC ?_ (aC b2 (aC ?_ (aC e6 (bW b6 rfl (bW b7 rfl (aC wv (a5 (row:=fB (CJ (CJ (b v) (b (fP (dD V.length U v) 1))) (b (fP (dD V.length U v) 2)))) ?_)))))))))
  ·show aA 1 (eX (dQ U B k) 5).length=true;rw[a0,a4];rfl
  ·show aA 2 (eX (dQ U B k) 5).length=true;rw[a0,a4];rfl
  ·show fB _=_;rw[c]at F⊢;rw[IZ (FQ (FQ a9)) (m:=b (fP (dD V.length U v) 1)++b (fP (dD V.length U v) 2)) λx=>by
    have:=F x;rw[IY,IY,List.mem_append];rw[List.mem_append]at this;constructor
    ·rintro((h |h) |h)
     ·exact this h
     ·exact .inl h
     ·exact .inr h
    ·rintro(h |h)
     ·exact .inl (.inr h)
     ·exact .inr h]
 refine aM (T 17 G) ?_;by_cases J:vI (dD V.length U v) 0=26
 ·have c:bF (dD V.length U) b v=FN b (eX (dD V.length U v) 5):=by unfold bF;rw[if_neg f,if_neg s,if_neg y,if_neg G,if_pos J]
  have b4:=aEQ (r:=r) nm o (B:=B) (k:=k) hv t d (eX (dD V.length U v) 5) (eX (dQ U B k) 6) hd.a (hd.phi J) (iE (gD (bH (nv V U) b) (Int.toNat (vI (dQ U B k) 2)))) (vI (dQ U B k) 0) (vI (dQ U B k) 1) (vI (dQ U B k) 3) (vI (dQ U B k) 4) (vI (dQ U B k) 2) H;have d1:∀x,x∈BV b v (eX (dD V.length U v) 5) (eX (dD V.length U v) 5).length<->x∈bF (dD V.length U) b v:=λx=>by
   rw[ZG];have hx:x∈FN b (eX (dD V.length U v) 5)<->∃i,i<(eX (dD V.length U v) 5).length/\x∈b (gD (eX (dD V.length U v) 5) i).toI.toNat:=by
    unfold FN;rw[List.mem_flatMap];constructor
    ·rintro⟨a,a2,C⟩;obtain⟨i,L,rfl⟩:=List.mem_iff_getElem.1 a2;refine⟨i,L,?_⟩;rw[show gD (eX (dD V.length U v) 5) i=(eX (dD V.length U v) 5)[i]by simp[gD,List.getD,L]];exact C
    ·rintro⟨i,L,C⟩;refine⟨gD (eX (dD V.length U v) 5) i,?_,C⟩;rw[show gD (eX (dD V.length U v) 5) i=(eX (dD V.length U v) 5)[i]by simp[gD,List.getD,L]];exact List.getElem_mem L
   rw[c]at F⊢;rw[hx];constructor
   ·rintro(h |h)
    ·exact hx.1 (F x h)
    ·exact h
   ·exact .inr
  have d3:=IZ (Cw (as1:=eX (dD V.length U v) 5) a9 _) d1;rw[d3,<-a0]at b4;obtain⟨e9,f0⟩:=p7 hv W (t:=t) d;have b0:=(h.tb.2 B a3).ins.sane;refine aC ((bT _ _).2 (Q 26 J)) (aO b4 (bB (aC (aH ?_) (aP ((nx P b0 [] _).trans ?_)))))
  ·show aA (vI (dQ U B k) 2) (bH (nv V U) (iJ b v (yR (bF (dD V.length U) b v)))).length=true;rw[H,cO];exact aF hv
  ·show[D.i (bJ .i64 (k:Int) 1),.b (ZF (dD V.length U) v (t,b)).1,.i (B:Int),.s nm,.b o,.l V,.i r,.l U,.l (bH (nv V U) (ZF (dD V.length U) v (t,b)).2)]=[D.i (bJ .i64 (k:Int) 1),.b (t||!(aD (iE (gD (bH (nv V U) (iJ b v (yR (bF (dD V.length U) b v)))) (Int.toNat (vI (dQ U B k) 2)))) (iE (gD (bH (nv V U) b) (Int.toNat (vI (dQ U B k) 2)))))),.i (B:Int),.s nm,.b o,.l V,.i r,.l U,.l (bH (nv V U) (iJ b v (yR (bF (dD V.length U) b v))))];rw[<-e9,<-f0,H];have hg:gD (bH (nv V U) b) v=fB (b v):=dX _ hv;have c8:gD (bH (nv V U) (iJ b v (yR (bF (dD V.length U) b v)))) v=fB (yR (bF (dD V.length U) b v)):=by
    refine(dX _ hv).trans ?_;unfold iJ;rw[if_pos rfl]
   have e1:iE (fB (yR (bF (dD V.length U) b v)))=(((yR (bF (dD V.length U) b v)).length:Nat):Int):=by show(((List.map eK _).length:Nat):Int)=_;rw[List.length_map]
   have c4:iE (fB (b v))=(((b v).length:Nat):Int):=by show(((List.map eK _).length:Nat):Int)=_;rw[List.length_map]
   rw[show Int.toNat (v:Int)=v from rfl,hg,c8,e1,c4]
 refine aM (T 26 J) ?_;have c:bF (dD V.length U) b v=[]:=by unfold bF;rw[if_neg f,if_neg s,if_neg y,if_neg G,if_neg J]
 have d2:b v=[]:=by
  cases c7:b v with
  |nil=>rfl
  |cons a1 l=>have:=F a1 (by rw[c7];exact List.mem_cons_self);rw[c]at this;cases this
 have e3:ZF (dD V.length U) v (t,b)=(t,b):=by unfold ZF;refine if_pos ?_;show(yR (bF (dD V.length U) b v)).length=(b v).length;rw[c,d2];rfl
 have b0:=(h.tb.2 B a3).ins.sane;rw[e3];refine aC (aH wv) (aP ((nx P b0 [] _).trans ?_));show[D.i (bJ .i64 (k:Int) 1),.b t,.i (B:Int),.s nm,.b o,.l V,.i r,.l U,.l (bH (nv V U) b)]=[D.i (bJ .i64 (k:Int) 1),.b (t||!(aD (iE (gD (bH (nv V U) b) (Int.toNat (vI (dQ U B k) 2)))) (iE (gD (bH (nv V U) b) (Int.toNat (vI (dQ U B k) 2)))))),.i (B:Int),.s nm,.b o,.l V,.i r,.l U,.l (bH (nv V U) b)];rw[pX];cases t<;>rfl
end
theorem VB.rnd{n:Nat}{V:LD}{df:Nat->D}{b0:Nat->List SP}{j:Nat}{q:Bool×(Nat->List SP)}(f:D8 n V df)(h:VB n V df b0 j q)(d:j<n)(g:uW df j=true):VB n V df b0 (j+1) (ZF df j q):=by
 obtain⟨t,b⟩:=q;unfold ZF;by_cases c:(yR (bF df b j)).length=(b j).length
 ·rw[if_pos c];refine⟨h.g,h.t,λe=>⟨(h.f e).1,λv hv s=>?_⟩,h.le⟩;by_cases l:v=j
  ·subst l;have:=(h.f e).1;simp only at this;subst this;exact c
  ·exact(h.f e).2 v (by omega) s
 ·rw[if_neg c];obtain⟨m,r⟩:=Rd f h.g d g c;have u:nJ (iJ b j (yR (bF df b j))) n<nJ b n:=Nc m r n d;have y:nJ b n<=nJ b0 n:=h.le;refine⟨D9 f h.g d g,λ_=>?_,λe=>(by cases e),?_⟩
  ·show nJ (iJ b j (yR (bF df b j))) n<_;omega
  ·show nJ (iJ b j (yR (bF df b j))) n<=_;omega
theorem VB.skip{n:Nat}{V:LD}{df:Nat->D}{b0:Nat->List SP}{j:Nat}{q:Bool×(Nat->List SP)}(h:VB n V df b0 j q)(f:uW df j=false):VB n V df b0 (j+1) q:=
 ⟨h.g,h.t,λe=>⟨(h.f e).1,λv hv c=>by
  by_cases d:v=j
  ·subst d;rw[f]at c;cases c
  ·exact(h.f e).2 v (by omega) c⟩,h.le⟩
section
variable{n1 n2 nf:Nat}{J Y V U:LD}{r:Int}(h:Nd n1 n2 nf J Y V U r)(hng:n2<=12)(nm:List UInt8)(o:Bool)
include h hng
theorem aA7{B:Nat}(l:B<U.length){b0:Nat->List SP}{q:Bool×(Nat->List SP)}(c:VB (nv V U) V (dD V.length U) b0 (aJ V.length U B+1) q):
  ∃s,VB (nv V U) V (dD V.length U) b0 (aJ V.length U (B+1)+1) s/\fS lU 6 (st6 nm o V r U B 0 q) (0,[.b s.1,.i (B:Int),.s nm,.b o,.l V,.i r,.l U,.l (bH (nv V U) s.2)]):=by
 have C:=Ct h hng;have v:=(h.tb.2 B l).ins.sane;have j:aA (B:Int) U.length=true:=aF l;refine FF rB (λk q=>st6 nm o V r U B k q) (gD U B).els.length (λq=>(0,[.b q.1,.i (B:Int),.s nm,.b o,.l V,.i r,.l U,.l (bH (nv V U) q.2)])) (λk q=>VB (nv V U) V (dD V.length U) b0 (aJ V.length U B+dV (gD U B).els k+1) q) (λk q f c=>?_) (λq c=>?_) (s0:=q) c
 ·obtain⟨t,b⟩:=q;have wk:aA (k:Int) (nE (gD U B))=true:=aF f;have y:aT (k:Int) (iE (gD U B))=true:=aU f;by_cases ht:eN (gD (gD U B).els k)=true
  ·have u:MC V.length U (lE V.length U B k) (B,k):=⟨l,f,ht,rfl⟩;have hv:lE V.length U B k<nv V U:=by have:=Vu l f ht (np:=V.length);unfold nv;omega
   have d:=Fm ht;cases g:uW (dD V.length U) (lE V.length U B k)with
   |true=>refine⟨ZF (dD V.length U) (lE V.length U B k) (t,b),?_,Wd h hng nm o u hv g t b c.g⟩;have:=VB.rnd C c hv g;rw[d];exact this
   |false=>
    refine⟨(t,b),?_,?_⟩
    ·have:=VB.skip c (show uW (dD V.length U) (aJ V.length U B+dV (gD U B).els k+1)=false from g);rw[d];exact this
    ·have d:(!(aD (vI (dQ U B k) 1) 3))=true:=by
      unfold uW at g;rw[BZ u]at g;have:aD (vI (dQ U B k) 1) 3=false:=g;rw[this];rfl
     exact aC j (aC y (aC j (aC wk (aC d (aP (nx f v [] _))))))
  ·have m:eN (gD (gD U B).els k)=false:=by cases e:eN (gD (gD U B).els k)with|true=>exact absurd e ht |false=>rfl
   refine⟨(t,b),?_,?_⟩
   ·rw[Mr m];exact c
   ·have d:(!(aD (vI (dQ U B k) 1) 3))=true:=by
     have:aD (vI (dQ U B k) 1) 0=true:=by
      unfold eN at m;cases e:aD (vI (gD (gD U B).els k) 1) 0 with
      |true=>rfl
      |false=>rw[e]at m;cases m
     rw[(bT _ _).1 this];rfl
    exact aC j (aC y (aC j (aC wk (aC d (aP (nx f v [] _))))))
 ·exact aC j (aM (aX _) (bG rfl))
theorem aA8{b0:Nat->List SP}(t:FO (nv V U) V (dD V.length U) b0):
  ∃c,VB (nv V U) V (dD V.length U) b0 (nv V U) c/\fS lU 4 [.b false,.i 0,.s nm,.b o,.l V,.i r,.l U,.l (bH (nv V U) b0)] (0,[.b c.1,.s nm,.b o,.l V,.i r,.l U,.l (bH (nv V U) c.2)]):=by
 have s:=Ct h hng;refine FF rB (λj q=>[.b q.1,.i (j:Int),.s nm,.b o,.l V,.i r,.l U,.l (bH (nv V U) q.2)]) U.length (λq=>(0,[.b q.1,.s nm,.b o,.l V,.i r,.l U,.l (bH (nv V U) q.2)])) (λj q=>VB (nv V U) V (dD V.length U) b0 (aJ V.length U j+1) q) (λj q d g=>?_) (λq g=>?_) (s0:=(false,b0)) ⟨t,λe=>(by cases e),λ_=>⟨rfl,λv hv f=>?_⟩,Nat.le_refl _⟩
 ·obtain⟨c,l,m⟩:=aA7 h hng nm o d g;refine⟨c,l,?_⟩;exact aC (aU d) (aO m (bB (aP (nx d h.tb.1.sane [_] _))))
 ·exact aM (aX _) (bG rfl)
 ·have hv:v<=V.length:=by have:v<V.length+1:=hv;omega
  rw[s.par v hv]at f;cases f
theorem aA9{b0:Nat->List SP}(C:FO (nv V U) V (dD V.length U) b0):
  ∃b,E0 (nv V U) V (dD V.length U) b/\fS lU 2 [.b true,.s nm,.b o,.l V,.i r,.l U,.l (bH (nv V U) b0)] (0,[.l (bH (nv V U) b)]):=by
 have F:=IG rB (b:=2) (λ(q:Bool×(Nat->List SP))=>[.b q.1,.s nm,.b o,.l V,.i r,.l U,.l (bH (nv V U) q.2)]) (λq=>FO (nv V U) V (dD V.length U) q.2/\(q.1=false->E0 (nv V U) V (dD V.length U) q.2)) (λq=>2*nJ q.2 (nv V U)+bif q.1 then 1 else 0) (λu=>∃b,E0 (nv V U) V (dD V.length U) b/\u=(0,[.l (bH (nv V U) b)])) (λq d=>?_) (s0:=(true,b0)) ⟨C,λe=>(by cases e)⟩
 ·obtain⟨u,⟨b,c,rfl⟩,f⟩:=F;exact⟨b,c,f⟩
 ·obtain⟨t,b⟩:=q;cases t with
  |false=>refine .inl ⟨_,⟨b,d.2 rfl,rfl⟩,?_⟩;exact aM rfl (bG rfl)
  |true=>
   obtain⟨l,c,f⟩:=aA8 h hng nm o d.1;refine .inr ⟨l,⟨c.g,λg=>?_⟩,?_,?_⟩
   ·obtain⟨s,y⟩:=c.f g;rw[s];exact⟨d.1,λv hv j=>Cr d.1 hv j (y v hv j)⟩
   ·cases g:l.1 with
    |true=>have:=c.t g;have m:nJ (true,b).2 (nv V U)=nJ b (nv V U):=rfl;simp only[cond_true];omega
    |false=>have:=c.le;have m:nJ (true,b).2 (nv V U)=nJ b (nv V U):=rfl;simp only[cond_false,cond_true];omega
   ·exact aC rfl (aO f (bB (aP rfl)))
omit hng in
theorem aBa:fS lU 0 [.i 1,.s nm,.b o,.l V,.i r,.l U,.l (List.replicate (nv V U) (D.l []))] (0,[.s nm,.b o,.l V,.i r,.l U,.l (bH (nv V U) (pY V))]):=by
 have H:=h.n;have K:=PA V.length U U.length;have J:nv V U=aJ V.length U U.length+1:=rfl;let g:Nat->Nat->List SP:=λj v=>if v<=j then pY V v else[]
 have t:List.replicate (nv V U) (D.l [])=bH (nv V U) (g 0):=by
  rw[<-rX];refine dU λi _=>?_;show D.l []=fB (if i<=0 then pY V i else[]);by_cases h:i<=0
  ·have:i=0:=by omega
   subst this;rfl
  ·rw[if_neg h];rfl
 have e1:bH (nv V U) (pY V)=bH (nv V U) (g V.length):=by
  refine dU λi _=>?_;show fB (pY V i)=fB (if i<=V.length then pY V i else[]);by_cases h:i<=V.length
  ·rw[if_pos h]
  ·rw[if_neg h];have:pY V i=[]:=by unfold pY;rw[if_neg (by omega)]
   rw[this]
 rw[t,e1];refine dF rB (λj=>[.i ((j+1:Nat):Int),.s nm,.b o,.l V,.i r,.l U,.l (bH (nv V U) (g j))]) V.length (λj y=>?_) ?_
 ·have f:bD .i64 (((j+1:Nat):Int)-1)=(j:Int):=by rw[wA (by omega) (by omega)];omega
  have d:j+1<nv V U:=by omega
  have F:aA (bD .i64 (((j+1:Nat):Int)-1)) V.length=true:=by rw[f];exact aF y
  have s:∀l:List SP,pY V (j+1)=l->bH (nv V U) (g (j+1))=bH (nv V U) (iJ (g j) (j+1) l):=λl C=>by
   refine dU λi _=>?_;show fB (if i<=j+1 then pY V i else[])=fB (iJ (g j) (j+1) l i);unfold iJ;by_cases h:i=j+1
   ·subst h;rw[if_pos (Nat.le_refl _),if_pos rfl,C]
   ·rw[if_neg h];show _=fB (if i<=j then pY V i else[]);by_cases m:i<=j
    ·rw[if_pos m,if_pos (by omega)]
    ·rw[if_neg m,if_neg (by omega)]
  have u:g j (j+1)=[]:=if_neg (by omega);have c:pY V (j+1)=if(gD V j).toI=3 then[RB 1 (j+1)]else[]:=by
   unfold pY;by_cases e:(gD V j).toI=3
   ·rw[if_pos e,if_pos ⟨by omega,by omega,e⟩]
   ·rw[if_neg e,if_neg λh=>e h.2.2]
  refine aC (jS (show((j+1:Nat):Int)<=(V.length:Int)by omega)) (aC F ?_);by_cases e:(gD V j).toI=3
  ·rw[if_pos e]at c;refine aC ?_ (aC ?_ (aP ((nx d (by omega) [] _).trans ?_)))
   ·show aD (gD V (Int.toNat (bD .i64 (((j+1:Nat):Int)-1)))).toI 3=true;rw[f];exact(bT _ _).2 e
   ·show aA ((j+1:Nat):Int) (bH (nv V U) (g j)).length=true;rw[cO];exact aF d
   ·show[D.i (bJ .i64 ((j+1:Nat):Int) 1),.s nm,.b o,.l V,.i r,.l U,.l (bH (nv V U) (g (j+1)))]=_;rw[s _ c,<-PJ];have:D.l [.l [.i 1,.i ((j+1:Nat):Int)]]=fB [RB 1 (j+1)]:=congrArg (λG=>D.l [G]) (Rc (k:=1) (n:=j+1) (by omega) (by omega)).symm;rw[<-this];rfl
  ·rw[if_neg e]at c;refine aM ?_ (aP ((nx d (by omega) [] _).trans ?_))
   ·show aD (gD V (Int.toNat (bD .i64 (((j+1:Nat):Int)-1)))).toI 3=false;rw[f];exact nW e
   ·show[D.i (bJ .i64 ((j+1:Nat):Int) 1),.s nm,.b o,.l V,.i r,.l U,.l (bH (nv V U) (g (j+1)))]=_;rw[s _ c,<-u,Ni];rfl
 ·exact aM (aAC (show(V.length:Int)<((V.length+1:Nat):Int)by omega)) (bG rfl)
theorem We:∃b,E0 (nv V U) V (dD V.length U) b/\jZ E aZ sites QI [qH nm o V r U] (.l (bH (nv V U) b)) []:=by
 have l:=h.n;have j:=Ct h hng;have m:nv V U=aJ V.length U U.length+1:=rfl;obtain⟨b,f,g⟩:=aA9 h hng nm o (E1 j);refine⟨b,f,bE rB (by rfl) rfl ?_⟩;show Ev _ _ (OA _) _;unfold OA;have c:=aBa h nm o;have d:bJ .i64 (aJ V.length U U.length:Int) 1=(nv V U:Int):=Oi (by omega);have e:List.replicate (nv V U) (D.l [])=List.replicate (Int.toNat (bJ .i64 (aJ V.length U U.length:Int) 1)) (D.l []):=by rw[d];rfl
 rw[e]at c;refine bW (YY nm o V r U h.tp h.tb) rfl (aC ?_ (aO c (bB (aO g (bB (bM rfl rfl))))));show(cX 0 (bJ .i64 (aJ V.length U U.length:Int) 1)&&(aD (bJ .i64 (aJ V.length U U.length:Int) 1) (bJ .i64 (aJ V.length U U.length:Int) 1)&&jN (Int.toNat (bJ .i64 (aJ V.length U U.length:Int) 1)) 24))=true;rw[d,jS (by omega),pX];exact fA (by show nv V U<=_;omega) (by omega)
end
section
variable{n1 nf:Nat}{J W y Y V U:LD}{r:Int}(h:Nd n1 W.length nf J Y V U r)(hng:W.length<=12)(nm:List UInt8)(o:Bool)
include h hng
theorem aFv{b:Nat->List SP}(b5:E0 (nv V U) V (dD V.length U) b){B k:Nat}(b4:B<U.length)(c3:k<(gD U B).els.length):
  jZ E aZ sites Kk [.l [.l J,.l W,.l y,.l Y],qH nm o V r U,.l (Gi (dQ U B k)),.l (bH (nv V U) b),.l (DE (nv V U) (bI V U) (dD V.length U) (rJ V.length U))] (.b (T7 W (dD V.length U) (rJ V.length U) (dQ U B k))) []:=by
 have c9:=h.n;have b6:=Cu h;have d0:nv V U=aJ V.length U U.length+1:=rfl;refine bE Lm (by rfl) rfl ?_;show Ev _ _ (UD _) _;unfold UD;have a4:=o7 h b4 c3;have hx:gD (gD U B).els k=dQ U B k:=rfl;rw[hx]at a4;generalize dQ U B k=x at*;by_cases s:vI x 0=20\/vI x 0=21
 ·have c1:(!(aD (vI x 0) 20)&&!(aD (vI x 0) 21))=false:=by
   rcases s with e |e
   ·rw[e];rfl
   ·rw[e];rfl
  have c5:(aD (vI x 0) 20||aD (vI x 0) 21)=true:=by
   rcases s with e |e
   ·rw[e];rfl
   ·rw[e];rfl
  obtain⟨b7,p,a6,f,a7⟩:=a4 s;have c7:fP x 0=p:=by unfold fP;rw[a6];rfl
  have F:(gD (eX x 5) 0).toI=(p:Int):=a6;have c2:T7 W (dD V.length U) (rJ V.length U) x=ZD W (dD V.length U) (rJ V.length U) p:=by unfold T7;rw[c5,c7];rfl
  have b0:aA 0 (eX x 5).length=true:=aF (j:=0) b7;have c4:(DE (nv V U) (bI V U) (dD V.length U) (rJ V.length U)).length=nv V U:=cO _ _;have m:gD (DE (nv V U) (bI V U) (dD V.length U) (rJ V.length U)) (Int.toNat (gD (eX x 5) 0).toI)=CA (iZ (dD V.length U) (rJ V.length U) p):=by rw[F];refine(dX _ f).trans ?_;rw[if_pos a7]
  have t:aA (gD (eX x 5) 0).toI (DE (nv V U) (bI V U) (dD V.length U) (rJ V.length U)).length=true:=by rw[F,c4];exact aF f
  have P:aA (gD (eX x 5) 0).toI (bH (nv V U) b).length=true:=by rw[F,cO];exact aF f
  rw[c2];refine aM c1 (aC b0 (aC t (aC (aH P) ?_)));cases l:iZ (dD V.length U) (rJ V.length U) p with
  |none=>
   rw[l]at m;refine aC ?_ (bM ?_ rfl)
   ·show((!(aD (vI (gD (DE (nv V U) (bI V U) (dD V.length U) (rJ V.length U)) (Int.toNat (gD (eX x 5) 0).toI)) 0) 1))||_)=true;rw[m];rfl
   ·unfold ZD;rw[l]
  |some a=>
   have a9:(iZ (dD V.length U) (rJ V.length U) p).isSome=true:=by rw[l];rfl
   have c0:=VF b6 b5 (λv hv c6=>aDp hv c6) _ p (Nat.lt_succ_self _) f a7 a9;have G:ZD W (dD V.length U) (rJ V.length U) p=(cX 0 a&&aT a (szR W (dD V.length U) (tT (dD V.length U) (rJ V.length U) p))):=by unfold ZD;rw[l]
   rw[l]at m;have C:gD (bH (nv V U) b) (Int.toNat (gD (eX x 5) 0).toI)=fB [tT (dD V.length U) (rJ V.length U) p]:=by rw[F];show gD (bH (nv V U) b) p=_;rw[dX _ f,c0]
   have w0:aA 0 (nE (gD (bH (nv V U) b) (Int.toNat (gD (eX x 5) 0).toI)))=true:=by rw[C];rfl
   have a1:vI (gD (DE (nv V U) (bI V U) (dD V.length U) (rJ V.length U)) (Int.toNat (gD (eX x 5) 0).toI)) 1=a:=by rw[m];rfl
   have d:vI (gE (gD (bH (nv V U) b) (Int.toNat (gD (eX x 5) 0).toI)) 0) 0=((tT (dD V.length U) (rJ V.length U) p).1.val :Int):=by rw[C];rfl
   have e1:vI (gE (gD (bH (nv V U) b) (Int.toNat (gD (eX x 5) 0).toI)) 0) 1=((tT (dD V.length U) (rJ V.length U) p).2.val :Int):=by rw[C];rfl
   have b1:((!(aD (vI (gD (DE (nv V U) (bI V U) (dD V.length U) (rJ V.length U)) (Int.toNat (gD (eX x 5) 0).toI)) 0) 1))||(!(aD (iE (gD (bH (nv V U) b) (Int.toNat (gD (eX x 5) 0).toI))) 1)))=false:=by rw[m,C];rfl
   refine aM b1 (aC P (aC w0 ?_));rcases o8 h f a9 hng with⟨u,Q,b3,T⟩ |⟨g,Q,T⟩
   ·rw[T]at d e1 G;rw[Fs (by omega)]at d;rw[Ft (by omega)]at e1;obtain⟨⟨K,L⟩,H⟩:=VE (V:=V) (U:=U) Q b3;have b2:Gp V.length U u=.l [.i (K:Int),.i (L:Int)]:=by unfold Gp;rw[GW H]
    have a0:szR W (dD V.length U) (RB 2 u)=vI (gD (gD U K).els L) 4:=by unfold szR;rw[Fs (by omega),if_neg (by omega),Ft (by omega),BZ H];rfl
    have a5:=T9 h nm o u;rw[b2,<-e1]at a5;refine aC ((congrArg (λc=>aD c 2) d).trans rfl) (aC P (aC w0 (bW a5 rfl (aC (aF H.b) (aC (aF H.k) (aC t (aC (aH t) (bM ?_ rfl))))))));rw[G,a0];show D.b (cX 0 a&&aT a (vI (gD (gD U K).els L) 4))=D.b (cX 0 (vI (gD (DE (nv V U) (bI V U) (dD V.length U) (rJ V.length U)) (Int.toNat (gD (eX x 5) 0).toI)) 1)&&aT (vI (gD (DE (nv V U) (bI V U) (dD V.length U) (rJ V.length U)) (Int.toNat (gD (eX x 5) 0).toI)) 1) (vI (gD (gD U K).els L) 4));rw[a1]
   ·rw[T]at d e1 G;rw[Fs (by omega)]at d;rw[Ft (by omega)]at e1;have a0:szR W (dD V.length U) (RB 3 g)=((eX (gD W g) 1).length:Int):=by
     unfold szR;rw[Fs (by omega),if_pos rfl,Ft (by omega)]
    have c8:aA (vI (gE (gD (bH (nv V U) b) (Int.toNat (gD (eX x 5) 0).toI)) 0) 1) W.length=true:=by rw[e1];exact aF Q
    refine aM ((congrArg (λc=>aD c 2) d).trans rfl) (aC ((congrArg (λc=>aD c 3) d).trans rfl) (aC P (aC w0 (aC c8 (aC t (aC (aH t) (bM ?_ rfl)))))));rw[G,a0];show D.b (cX 0 a&&aT a ((eX (gD W g) 1).length:Int))=D.b (cX 0 (vI (gD (DE (nv V U) (bI V U) (dD V.length U) (rJ V.length U)) (Int.toNat (gD (eX x 5) 0).toI)) 1)&&aT (vI (gD (DE (nv V U) (bI V U) (dD V.length U) (rJ V.length U)) (Int.toNat (gD (eX x 5) 0).toI)) 1) (iX (gD W (Int.toNat (vI (gE (gD (bH (nv V U) b) (Int.toNat (gD (eX x 5) 0).toI)) 0) 1))) 1));rw[a1,e1];rfl
 ·have a2:aD (vI x 0) 20=false:=nW λe=>s (.inl e);have a3:aD (vI x 0) 21=false:=nW λe=>s (.inr e);refine aC ?_ (bM ?_ rfl)
  ·show(!(aD (vI x 0) 20)&&!(aD (vI x 0) 21))=true;rw[a2,a3];rfl
  ·unfold T7;rw[a2,a3];rfl
end
def U4(s:Nat->Bool)(x:D):Nat->Bool:=bif aD (vI x 0) 2 then qI s (Int.toNat (vI x 1))else s
def lkA(B:LD)(s:Nat->Bool)(a:D):Nat->Bool:=(D.els (gD B (Int.toNat a.toI))).foldl U4 s
def lkI(B:LD)(s:Nat->Bool)(x:D):Nat->Bool:=bif (!(aD (vI x 0) 22))&&(!(aD (vI x 0) 25))then s else(eX x 5).foldl (lkA B) s
def lkK(B:LD)(s:Nat->Bool)(k:D):Nat->Bool:=k.els.foldl (lkI B) s
def aDx(B U:LD):Nat->Bool:=U.foldl (lkK B) λ_=>false
theorem aDy{k n:Nat}(c:k<1000000000):(RB k n).1.val =k:=Nat.mod_eq_of_lt c
theorem aGq{k n:Nat}(c:n<1000000000):(RB k n).2.val =n:=Nat.mod_eq_of_lt c
theorem aER{n:Nat}{V:LD}{df:Nat->D}(j:D8 n V df){b:Nat->List SP}(h:E0 n V df b){v:Nat}(hv:v<n){x:SP}(hx:x∈b v)(d:x.1.val=2):x.2.val<n:=by
 have m:=j.n400;have key:=h.g.low (λ_=>Gq.filter λx=>decide (x.1.val≠2\/x.2.val<n)) ⟨λv hv l x hx=>?_,λv hv l x hx=>?_⟩ v hv x hx
 ·have f:=of_decide_eq_true (List.mem_filter.1 key).2;rcases f with f |f
  ·exact absurd d f
  ·exact f
 ·unfold pY at hx;split at hx
  ·rw[List.mem_singleton.1 hx];exact List.mem_filter.2 ⟨IV (by omega) (by omega),decide_eq_true (.inl (by rw[aDy (by omega)];omega))⟩
  ·cases hx
 ·have hd:=j.d v hv l;unfold bF at hx;split at hx
  ·rw[List.mem_singleton.1 hx];exact List.mem_filter.2 ⟨IV (by omega) (by omega),decide_eq_true (.inr (by rw[aGq (by omega)];exact hv))⟩
  ·split at hx
   ·rename_i e;obtain⟨g,c,d⟩:=hd.glo e;rw[List.mem_singleton.1 hx,c];exact List.mem_filter.2 ⟨IV (by omega) (by simpa using d),decide_eq_true (.inl (by rw[aDy (by omega)];omega))⟩
   ·split at hx
    ·exact hx
    ·split at hx
     ·rcases List.mem_append.1 hx with c |c
      ·exact c
      ·exact c
     ·split at hx
      ·unfold FN at hx;rw[List.mem_flatMap]at hx;obtain⟨a,c,d⟩:=hx;exact d
      ·cases hx
section
variable{n1 n2 nf:Nat}{J Y V U:LD}{r:Int}(h:Nd n1 n2 nf J Y V U r)(hng:n2<=12){b:Nat->List SP}(hF:E0 (nv V U) V (dD V.length U) b)
include h hng hF
theorem p8{p:Nat}(f:p<nv V U){j:Nat}(d:j<((b p).map eK).length)(e:aD (vI (gD ((b p).map eK) j) 0) 2=true):
  ∃g:Nat,vI (gD ((b p).map eK) j) 1=(g:Int)/\g<nv V U:=by
 have c:j<(b p).length:=by simpa using d
 have hg:gD ((b p).map eK) j=eK (b p)[j]:=by simp[gD,List.getD,c]
 rw[hg]at e⊢;refine⟨((b p)[j]).2.val,rfl,aER (Ct h hng) hF f (List.getElem_mem c) ?_⟩;have l:((((b p)[j]).1.val :Nat):Int)=2:=(bT _ _).1 e;omega
theorem aBb{p:Nat}(C:p<nv V U)(O T d:LD)(r z2 z3 z4 z5 t:Int)(f l m:LD)(s0:Nat->Bool):
  fS jK 6002 [.i 0,.i r,.i z2,.i z3,.l f,.l l,.l ((b p).map eK),.i z4,.i z5,.l m,.i t,.i (((b p).map eK).length:Int),Hi T (bH (nv V U) b) O d,.l (aQ (nv V U) s0)]
   (0,[.i r,.i z2,.i z3,.l f,.l l,.i z4,.i z5,.l m,.i t,Hi T (bH (nv V U) b) O d,.l (aQ (nv V U) (((b p).map eK).foldl U4 s0))]):=by
 have J:((b p).map eK).length<=1600:=by rw[List.length_map];exact hF.g.len C
 have G:∀{j:Nat},j<((b p).map eK).length->aD (vI (gD ((b p).map eK) j) 0) 2=true->∃g:Nat,vI (gD ((b p).map eK) j) 1=(g:Int)/\g<nv V U:=λc e=>p8 h hng hF C c e;generalize(b p).map eK=z at*;have H:=sB lD (b:=6002) (λj(s:Nat->Bool)=>[.i (j:Int),.i r,.i z2,.i z3,.l f,.l l,.l z,.i z4,.i z5,.l m,.i t,.i (z.length:Int),Hi T (bH (nv V U) b) O d,.l (aQ (nv V U) s)]) z U4
  (λs=>(0,[.i r,.i z2,.i z3,.l f,.l l,.i z4,.i z5,.l m,.i t,Hi T (bH (nv V U) b) O d,.l (aQ (nv V U) s)])) (λ_ _=>True) (λj s c _=>⟨trivial,?_⟩) (λs _=>?_) (s0:=s0) trivial
 ·exact H
 ·refine aC (aU c) (aC (aF c) ?_);cases e:aD (vI (gD z j) 0) 2 with
  |true=>
   obtain⟨g,u,y⟩:=G c e;have v:U4 s (gD z j)=qI s g:=by unfold U4;rw[e,u];rfl
   have F:aA (vI (gD z j) 1) (aQ (nv V U) s).length=true:=by rw[u,eQ];exact aF y
   have cs:(aQ (nv V U) s).set (Int.toNat (vI (gD z j) 1)) (.b true)=aQ (nv V U) (qI s g):=by rw[u];exact rV s y
   rw[v,<-cs];exact aC e (aC F (aP (nx c (by omega) [] _)))
  |false=>
   have v:U4 s (gD z j)=s:=by unfold U4;rw[e];rfl
   rw[v];exact aM e (aP (nx c (by omega) [] _))
 ·exact aM (aX _) (bG rfl)
theorem aBc{B k:Nat}(v:B<U.length)(y:k<(gD U B).els.length)(O T c:LD)(z2 z3 z4 f:Int)(d e:LD)(s0:Nat->Bool):
  fS jK 6000 [.i 0,.i z2,.i z3,.l (eX (gD (gD U B).els k) 5),.l d,.i z4,.i ((eX (gD (gD U B).els k) 5).length:Int),.l e,.i f,Hi T (bH (nv V U) b) O c,.l (aQ (nv V U) s0)]
   (0,[.i z2,.i z3,.l d,.i z4,.l e,.i f,Hi T (bH (nv V U) b) O c,.l (aQ (nv V U) ((eX (gD (gD U B).els k) 5).foldl (lkA (bH (nv V U) b)) s0))]):=by
 have K:=((h.tb.2 B v).i k y).as1.sane;have G:=λ(q:Nat)(t:q<(eX (gD (gD U B).els k) 5).length)=>Cs h v y t;have H:∀q,q<(eX (gD (gD U B).els k) 5).length->∃p:Nat,(gD (eX (gD (gD U B).els k) 5) q).toI=(p:Int)/\p<nv V U:=λq t=>by obtain⟨p,g,m,F⟩:=G q t;exact⟨p,g,F⟩
 generalize eX (gD (gD U B).els k) 5=l at*;have J:=sB lD (b:=6000) (λj(s:Nat->Bool)=>[.i (j:Int),.i z2,.i z3,.l l,.l d,.i z4,.i (l.length:Int),.l e,.i f,Hi T (bH (nv V U) b) O c,.l (aQ (nv V U) s)]) l (lkA (bH (nv V U) b))
  (λs=>(0,[.i z2,.i z3,.l d,.i z4,.l e,.i f,Hi T (bH (nv V U) b) O c,.l (aQ (nv V U) s)])) (λ_ _=>True) (λj s r _=>⟨trivial,?_⟩) (λs _=>?_) (s0:=s0) trivial
 ·exact J
 ·obtain⟨p,g,m⟩:=H j r;have u:D.els (gD (bH (nv V U) b) (Int.toNat (gD l j).toI))=(b p).map eK:=by
   rw[g];show D.els (gD (bH (nv V U) b) p)=_;rw[dX _ m];rfl
  have L:lkA (bH (nv V U) b) s (gD l j)=((b p).map eK).foldl U4 s:=by unfold lkA;rw[u]
  have w:aA (gD l j).toI (bH (nv V U) b).length=true:=by rw[g,cO];exact aF m
  have C:=aBb h hng hF m O T c (j:Int) z2 z3 z4 (l.length:Int) f l d e s;rw[<-u]at C;rw[L,<-u];exact aC (aU r) (aC (aF r) (aC w (aO C (bB (aP (nx r K [] _))))))
 ·exact aM (aX _) (bG rfl)
theorem aBd{B:Nat}(j:B<U.length)(O T c:LD)(z2 z4:Int)(f:LD)(s0:Nat->Bool):
  fS jK 5002 [.i z2,.i 0,.l (gD U B).els,.i z4,.l f,.i ((gD U B).els.length:Int),Hi T (bH (nv V U) b) O c,.l (aQ (nv V U) s0)]
   (0,[.i z2,.i z4,.l f,Hi T (bH (nv V U) b) O c,.l (aQ (nv V U) (lkK (bH (nv V U) b) s0 (gD U B)))]):=by
 have l:=(h.tb.2 B j).ins.sane;have m:=sB lD (b:=5002) (λk(s:Nat->Bool)=>[.i z2,.i (k:Int),.l (gD U B).els,.i z4,.l f,.i ((gD U B).els.length:Int),Hi T (bH (nv V U) b) O c,.l (aQ (nv V U) s)]) (gD U B).els (lkI (bH (nv V U) b))
  (λs=>(0,[.i z2,.i z4,.l f,Hi T (bH (nv V U) b) O c,.l (aQ (nv V U) s)])) (λ_ _=>True) (λk s d _=>⟨trivial,?_⟩) (λs _=>?_) (s0:=s0) trivial
 ·exact m
 ·refine aC (aU d) (aC (aF d) ?_);cases e:((!(aD (vI (gD (gD U B).els k) 0) 22))&&(!(aD (vI (gD (gD U B).els k) 0) 25)))with
  |true=>
   have g:lkI (bH (nv V U) b) s (gD (gD U B).els k)=s:=by unfold lkI;rw[e];rfl
   rw[g];exact aC e (aP (nx d l [_] _))
  |false=>
   have g:lkI (bH (nv V U) b) s (gD (gD U B).els k)=(eX (gD (gD U B).els k) 5).foldl (lkA (bH (nv V U) b)) s:=by unfold lkI;rw[e];rfl
   rw[g];exact aM e (aO (aBc h hng hF j d O T c z2 (k:Int) z4 _ _ f s) (bB (aP (nx d l [_] _))))
 ·exact aM (aX _) (bG rfl)
theorem aGA(O T d:LD):fS jK 5000 [.i (U.length:Int),.i 0,.l U,Hi T (bH (nv V U) b) O d,.l (aQ (nv V U) λ_=>false)] (0,[.l (aQ (nv V U) (aDx (bH (nv V U) b) U))]):=by
 have e:=sB lD (b:=5000) (λk(s:Nat->Bool)=>[.i (U.length:Int),.i (k:Int),.l U,Hi T (bH (nv V U) b) O d,.l (aQ (nv V U) s)]) U (lkK (bH (nv V U) b)) (λs=>(0,[.l (aQ (nv V U) s)])) (λ_ _=>True) (λk s c _=>⟨trivial,?_⟩) (λs _=>?_) (s0:=λ_=>false) trivial
 ·exact e
 ·exact aC (aU c) (aC (aF c) (aO (aBd h hng hF c O T d _ _ U s) (bB (aP (nx c h.tb.1.sane [_] _)))))
 ·exact aM (aX _) (bG rfl)
end
section
variable{n1 n2 nf:Nat}{J Y V U:LD}{r:Int}(h:Nd n1 n2 nf J Y V U r)(hng:n2<=12){b:Nat->List SP}(hF:E0 (nv V U) V (dD V.length U) b)(nm:List UInt8)(o:Bool)
include h hng hF
theorem aES{p:Nat}(F:p<nv V U)(u v y o1 o2 l m t:Int)(d f:LD)(s0:Nat->Bool):
  fS vG 6 [.i u,.i (p:Int),.i v,.i y,.i 0,.s nm,.b o,.l V,.i r,.l U,.i o1,.i o2,.i l,.i m,.i t,.l d,.l f,.l (aQ (nv V U) s0),.l (bH (nv V U) b)]
   (0,[.i u,.i v,.i y,.s nm,.b o,.l V,.i r,.l U,.i o1,.i o2,.i l,.i m,.i t,.l d,.l f,.l (aQ (nv V U) ((D.els (gD (bH (nv V U) b) p)).foldl U4 s0)),.l (bH (nv V U) b)]):=by
 have J:D.els (gD (bH (nv V U) b) p)=(b p).map eK:=by rw[dX _ F];rfl
 have W:(D.els (gD (bH (nv V U) b) p)).length<=1600:=by rw[J,List.length_map];exact hF.g.len F
 have P:∀{j:Nat},j<(D.els (gD (bH (nv V U) b) p)).length->aD (vI (gD (D.els (gD (bH (nv V U) b) p)) j) 0) 2=true->∃g:Nat,vI (gD (D.els (gD (bH (nv V U) b) p)) j) 1=(g:Int)/\g<nv V U:=by rw[J];exactλc e=>p8 h hng hF F c e
 have Q:=sB vH (b:=6) (λj(s:Nat->Bool)=>[.i u,.i (p:Int),.i v,.i y,.i (j:Int),.s nm,.b o,.l V,.i r,.l U,.i o1,.i o2,.i l,.i m,.i t,.l d,.l f,.l (aQ (nv V U) s),.l (bH (nv V U) b)]) (D.els (gD (bH (nv V U) b) p)) U4
  (λs=>(0,[.i u,.i v,.i y,.s nm,.b o,.l V,.i r,.l U,.i o1,.i o2,.i l,.i m,.i t,.l d,.l f,.l (aQ (nv V U) s),.l (bH (nv V U) b)])) (λ_ _=>True) (λj s c _=>⟨trivial,?_⟩) (λs _=>?_) (s0:=s0) trivial
 ·exact Q
 ·have T:aT (j:Int) (iE (gD (bH (nv V U) b) p))=true:=aU c;have K:aA (j:Int) (nE (gD (bH (nv V U) b) p))=true:=aF c;refine aC T (aC K ?_);cases e:aD (vI (gD (D.els (gD (bH (nv V U) b) p)) j) 0) 2 with
  |true=>
   obtain⟨g,C,H⟩:=P c e;have G:U4 s (gD (D.els (gD (bH (nv V U) b) p)) j)=qI s g:=by unfold U4;rw[e,C];rfl
   have L:aA (vI (gD (D.els (gD (bH (nv V U) b) p)) j) 1) (aQ (nv V U) s).length=true:=by rw[C,eQ];exact aF H
   have cs:(aQ (nv V U) s).set (Int.toNat (vI (gD (D.els (gD (bH (nv V U) b) p)) j) 1)) (.b true)=aQ (nv V U) (qI s g):=by rw[C];exact rV s H
   rw[G,<-cs];exact aC e (aC K (aC L (aP (nx c (by omega) [_,_,_,_] _))))
  |false=>
   have G:U4 s (gD (D.els (gD (bH (nv V U) b) p)) j)=s:=by unfold U4;rw[e];rfl
   rw[G];exact aM e (aP (nx c (by omega) [_,_,_,_] _))
 ·exact aM (aX _) (bG rfl)
theorem aET{B k:Nat}(y:B<U.length)(C:k<(gD U B).els.length)(d e o1 o2 t u v:Int)(m:LD)(s0:Nat->Bool):
  fS vG 4 [.i d,.i 0,.i e,.s nm,.b o,.l V,.i r,.l U,.i o1,.i o2,.i t,.i u,.i v,.l (eX (gD (gD U B).els k) 5),.l m,.l (aQ (nv V U) s0),.l (bH (nv V U) b)]
   (0,[.i d,.i e,.s nm,.b o,.l V,.i r,.l U,.l (aQ (nv V U) ((eX (gD (gD U B).els k) 5).foldl (lkA (bH (nv V U) b)) s0)),.l (bH (nv V U) b)]):=by
 have P:=((h.tb.2 B y).i k C).as1.sane;have J:∀q,q<(eX (gD (gD U B).els k) 5).length->∃p:Nat,(gD (eX (gD (gD U B).els k) 5) q).toI=(p:Int)/\p<nv V U:=λq K=>by obtain⟨p,c,g,H⟩:=Cs h y C K;exact⟨p,c,H⟩
 generalize eX (gD (gD U B).els k) 5=l at*;have L:=sB vH (b:=4) (λj(s:Nat->Bool)=>[.i d,.i (j:Int),.i e,.s nm,.b o,.l V,.i r,.l U,.i o1,.i o2,.i t,.i u,.i v,.l l,.l m,.l (aQ (nv V U) s),.l (bH (nv V U) b)]) l (lkA (bH (nv V U) b))
  (λs=>(0,[.i d,.i e,.s nm,.b o,.l V,.i r,.l U,.l (aQ (nv V U) s),.l (bH (nv V U) b)])) (λ_ _=>True) (λj s f _=>⟨trivial,?_⟩) (λs _=>?_) (s0:=s0) trivial
 ·exact L
 ·obtain⟨p,c,g⟩:=J j f;have Q:lkA (bH (nv V U) b) s (gD l j)=(D.els (gD (bH (nv V U) b) p)).foldl U4 s:=by unfold lkA;rw[c];rfl
  have w:aA (gD l j).toI (bH (nv V U) b).length=true:=by rw[c,cO];exact aF g
  have F:=aES h hng hF nm o g d (j:Int) e o1 o2 t u v l m s;have G:((p:Nat):Int)=Int.ofNat (Int.toNat (gD l j).toI):=by rw[c];rfl
  rw[G]at F;rw[Q];exact aC (aU f) (aC (aF f) (aC w (aO F (bB (aP (nx f P [_] _))))))
 ·exact aM (aX _) (bG rfl)
theorem aEU{B:Nat}(c:B<U.length)(s0:Nat->Bool):
  fS vG 2 [.i (B:Int),.i 0,.s nm,.b o,.l V,.i r,.l U,.l (aQ (nv V U) s0),.l (bH (nv V U) b)]
   (0,[.i (B:Int),.s nm,.b o,.l V,.i r,.l U,.l (aQ (nv V U) (lkK (bH (nv V U) b) s0 (gD U B))),.l (bH (nv V U) b)]):=by
 have g:=(h.tb.2 B c).ins.sane;have j:=sB vH (b:=2) (λk(s:Nat->Bool)=>[.i (B:Int),.i (k:Int),.s nm,.b o,.l V,.i r,.l U,.l (aQ (nv V U) s),.l (bH (nv V U) b)]) (gD U B).els (lkI (bH (nv V U) b))
  (λs=>(0,[.i (B:Int),.s nm,.b o,.l V,.i r,.l U,.l (aQ (nv V U) s),.l (bH (nv V U) b)])) (λ_ _=>True) (λk s d _=>⟨trivial,?_⟩) (λs _=>?_) (s0:=s0) trivial
 ·exact j
 ·have l:aT (k:Int) (iE (gD U B))=true:=aU d;have wk:aA (k:Int) (nE (gD U B))=true:=aF d;refine aC (aF c) (aC l (aC (aF c) (aC wk ?_)));cases e:((!(aD (vI (gD (gD U B).els k) 0) 22))&&(!(aD (vI (gD (gD U B).els k) 0) 25)))with
  |true=>
   have f:lkI (bH (nv V U) b) s (gD (gD U B).els k)=s:=by unfold lkI;rw[e];rfl
   rw[f];exact aC e (aP (nx d g [_] _))
  |false=>
   have f:lkI (bH (nv V U) b) s (gD (gD U B).els k)=(eX (gD (gD U B).els k) 5).foldl (lkA (bH (nv V U) b)) s:=by unfold lkI;rw[e];rfl
   rw[f];exact aM e (aO (aET h hng hF nm o c d (B:Int) (k:Int) _ _ _ _ _ _ s) (bB (aP (nx d g [_] _))))
 ·exact aC (aF c) (aM (aX _) (bG rfl))
theorem aEV:jZ E aZ sites gX [qH nm o V r U] (.l (aQ (nv V U) (aDx (bH (nv V U) b) U))) []:=by
 have l:=h.n;obtain⟨b2,g,d⟩:=We h hng nm o;have e:bH (nv V U) b2=bH (nv V U) b:=dU λv hv=>by rw[aGl g hF hv]
 rw[e]at d;have j:=sB vH (b:=0) (λk(s:Nat->Bool)=>[.i (k:Int),.s nm,.b o,.l V,.i r,.l U,.l (aQ (nv V U) s),.l (bH (nv V U) b)]) U (lkK (bH (nv V U) b)) (λs=>(0,[.l (aQ (nv V U) s)])) (λ_ _=>True) (λk s c _=>⟨trivial,?_⟩) (λs _=>?_) (s0:=λ_=>false) trivial
 ·have f:fS vG 0 [.i 0,.s nm,.b o,.l V,.i r,.l U,.l (aQ (nv V U) λ_=>false),.l (bH (nv V U) b)] (0,[.l (aQ (nv V U) (aDx (bH (nv V U) b) U))]):=j;have el:aQ (nv V U) (λ_=>false)=List.replicate (bH (nv V U) b).length (D.b false):=by rw[cO,lV]
  rw[el]at f;refine bE vH (by rfl) rfl ?_;refine bW d rfl (aC ?_ (aO f (bB (bM rfl rfl))));show(cX 0 ((bH (nv V U) b).length:Int)&&(aD ((bH (nv V U) b).length:Int) ((bH (nv V U) b).length:Int)&&jN (Int.toNat ((bH (nv V U) b).length:Int)) 1))=true;rw[cO,jS (by omega),pX];exact fA (by show nv V U<=_;unfold nv;omega) (by omega)
 ·exact aC (aU c) (aO (aEU h hng hF nm o c s) (bB (aP (nx c h.tb.1.sane [] _))))
 ·exact aM (aX _) (bG rfl)
end
theorem Cx{m:Nat}{d:FD}(F:CR E aZ sites m d){b:Nat}{l:Type}(f:Nat->l->LD)(n:Nat)(c:Nat->l->Prop)(Q:Nat×LD->Prop)
  (y:∀j s,j<n->c j s->(∃t,Q t/\sW E aZ sites d (d.F.lp b (f j s)) (.out t))\/∃g,c (j+1) g/\sW E aZ sites d (d.F.lp b (f j s)) (.again (f (j+1) g)))
  (C:∀s,c n s->∃t,Q t/\sW E aZ sites d (d.F.lp b (f n s)) (.out t)){s0:l}(G:c 0 s0):∃t,Q t/\RG E aZ sites d b (f 0 s0) t.1 t.2:=by
 refine IG F (λq:Nat×l=>f q.1 q.2) (λq=>q.1<=n/\c q.1 q.2) (λq=>n-q.1) Q (λq J=>?_) (s0:=(0,s0)) ⟨Nat.zero_le _,G⟩;obtain⟨j,s⟩:=q;obtain⟨H,r⟩:=J;simp only at H r;by_cases e:j<n
 ·rcases y j s e r with h |⟨g,u,v⟩
  ·exact .inl h
  ·exact .inr ⟨(j+1,g),⟨e,u⟩,by show n-(j+1)<n-j;omega,v⟩
 ·have:j=n:=by omega
  subst this;exact .inl (C s r)
theorem CB{a b:Int}(h:aT a b=false):b<=a:=by have:=pP h;omega
theorem Wf{a b:Bool}(h:(a||b)=false):a=false/\b=false:=by cases a<;>cases b<;>simp_all
def aHn(U:LD):Prop:=∀b,b<U.length->(gD U b).els.length<=1048576
section
variable(nm:List UInt8)(o:Bool)(V:LD)(r:Int)(U:LD)
theorem aEW(a:Int){B:Nat}(l:B<U.length)(u:(gD U B).els.length<=1048576):
  ∃t,((t=(0,[.i a,.b false,.i (B:Int),.s nm,.b o,.l V,.i r,.l U]))\/(t=(1,[.i a,.i (B:Int),.s nm,.b o,.l V,.i r,.l U])/\∀i,i<(gD U B).els.length->A2 (gD (gD U B).els i)))/\
   fS CV 2 [.i a,.i 0,.i (B:Int),.s nm,.b o,.l V,.i r,.l U] t:=by
 have c:aA (B:Int) U.length=true:=aF l;refine Cx rQ (λk(_:Unit)=>[.i a,.i (k:Int),.i (B:Int),.s nm,.b o,.l V,.i r,.l U]) (gD U B).els.length (λk _=>∀i,i<k->A2 (gD (gD U B).els i)) _ (λk _ f d=>?_) (λ_ d=>?_) (s0:=()) (λi d=>absurd d (by omega))
 ·have g:aT (k:Int) (iE (gD U B))=true:=aU f;have wk:aA (k:Int) (nE (gD U B))=true:=aF f;cases e:(aT 20 (iX (dQ U B k) 5)||aT 20 (iX (dQ U B k) 6))with
  |true=>refine .inl ⟨_,.inl rfl,?_⟩;exact aC c (aC g (aC c (aC wk (aC (aH c) (aC (aH wk) (aC e (bG rfl)))))))
  |false=>
   obtain⟨e1,h⟩:=Wf e;have m:((eX (dQ U B k) 5).length:Int)<=20:=CB e1;have s:((eX (dQ U B k) 6).length:Int)<=20:=CB h;refine .inr ⟨(),λi v=>?_,?_⟩
   ·by_cases j:i=k
    ·subst j;exact⟨by unfold fH;show(eX (dQ U B i) 5).length<=_;omega,by unfold fH;show(eX (dQ U B i) 6).length<=_;omega⟩
    ·exact d i (by omega)
   ·exact aC c (aC g (aC c (aC wk (aC (aH c) (aC (aH wk) (aM e (aP (nx f (by omega) [_] _))))))))
 ·refine⟨_,.inr ⟨rfl,d⟩,?_⟩;exact aC c (aM (aX _) (bG rfl))
theorem Ok(y:aHn U):∃t,jZ E aZ sites TU [qH nm o V r U] (.b t) []/\(t=true->fH V/\gA U):=by
 cases e:((aT 40 (nm.length:Int)||aT 8 (V.length:Int))||aT 16 (U.length:Int))with
 |true=>refine⟨false,bE rQ (by rfl) rfl ?_,λh=>(by cases h)⟩;exact aC e (bM rfl rfl)
 |false=>
  obtain⟨e1,l⟩:=Wf e;have e1:=CB (Wf e1).2;have l:=CB l;have g:∃t,((t=(0,[.b false]))\/(t=(1,[])/\∀i,i<U.length->A3 (gD U i)))/\fS CV 0 [.i 0,.i 0,.s nm,.b o,.l V,.i r,.l U] t:=by
   refine Cx rQ (λj(a:Nat)=>[.i (a:Int),.i (j:Int),.s nm,.b o,.l V,.i r,.l U]) U.length (λj a=>a<=90/\∀i,i<j->A3 (gD U i)) _ (λj a c d=>?_) (λa d=>?_) (s0:=0) ⟨by omega,λi d=>absurd d (by omega)⟩
   ·have C:=y j c;have m:bJ .i64 (a:Int) (iE (gD U j))=((a+(gD U j).els.length:Nat):Int):=by
     show bJ .i64 (a:Int) ((gD U j).els.length:Int)=_;rw[CN _ _ _ (by simp[VH,VI];omega),wA (by omega) (by omega)];omega
    cases f:aT 90 (bJ .i64 (a:Int) (iE (gD U j)))with
    |true=>refine .inl ⟨_,.inl rfl,?_⟩;exact aC (aU c) (aC (aF c) (aC f (bG rfl)))
    |false=>
     have v:=CB f;rw[m]at v;obtain⟨t,ht,s⟩:=aEW nm o V r U (bJ .i64 (a:Int) (iE (gD U j))) c C;rcases ht with rfl |⟨rfl,ht⟩
     ·refine .inl ⟨_,.inl rfl,?_⟩;exact aC (aU c) (aC (aF c) (aM f (aO s (bB (bG rfl)))))
     ·refine .inr ⟨a+(gD U j).els.length,⟨by omega,λi F=>?_⟩,?_⟩
      ·by_cases u:i=j
       ·subst u;exact⟨by unfold fH;omega,ht⟩
       ·exact d.2 i (by omega)
      ·refine aC (aU c) (aC (aF c) (aM f (aO s (fD (bB (aP ((nx c (by omega) [_] _).trans ?_)))))));show[D.i ((a+(gD U j).els.length:Nat):Int),.i (bJ .i64 (j:Int) 1),.s nm,.b o,.l V,.i r,.l U]=_;rw[<-m];rfl
   ·refine⟨_,.inr ⟨rfl,d.2⟩,?_⟩;exact aM (aX _) (bG rfl)
  obtain⟨t,ht,g⟩:=g;rcases ht with rfl |⟨rfl,ht⟩
  ·refine⟨false,bE rQ (by rfl) rfl ?_,λh=>(by cases h)⟩;exact aM e (aO g (bB (bM rfl rfl)))
  ·refine⟨true,bE rQ (by rfl) rfl ?_,λ_=>⟨by unfold fH;omega,by unfold fH;omega,ht⟩⟩;exact aM e (aO g (fD (bB (bM rfl rfl))))
end
section
variable(J W y Y:LD)
abbrev smQ(J W y Y l:LD)(t:Nat×LD):Prop:=t=(0,[.b false,.l J,.l W,.l y,.l Y])\/(t=(1,[.l J,.l W,.l y,.l Y])/\∀i,i<l.length->fH (eX (gD l i) 1))
theorem aEX(hx:J.length<=1000000):∃t,smQ J W y Y J t/\fS pM 0 [.i 0,.l J,.l W,.l y,.l Y] t:=by
 refine Cx pN (λj(_:Unit)=>[.i (j:Int),.l J,.l W,.l y,.l Y]) J.length (λj _=>∀i,i<j->fH (eX (gD J i) 1)) _ (λj _ c d=>?_) (λ_ d=>?_) (s0:=()) (λi d=>absurd d (by omega))
 ·cases e:(aT 40 (iL (D.toS (D.fld (gD J j) 0)))||aT 10 (iX (gD J j) 1))with
  |true=>refine .inl ⟨_,.inl rfl,?_⟩;exact aC (aU c) (aC (aF c) (aC (aH (aF c)) (aC e (bG rfl))))
  |false=>
   have e1:((eX (gD J j) 1).length:Int)<=10:=CB (Wf e).2;refine .inr ⟨(),λi g=>?_,?_⟩
   ·by_cases f:i=j
    ·subst f;unfold fH;omega
    ·exact d i (by omega)
   ·exact aC (aU c) (aC (aF c) (aC (aH (aF c)) (aM e (aP (nx c (by omega) [] _)))))
 ·refine⟨_,.inr ⟨rfl,d⟩,?_⟩;exact aM (aX _) (bG rfl)
theorem aEY(hx:W.length<=1000000):∃t,smQ J W y Y W t/\fS pM 2 [.i 0,.l J,.l W,.l y,.l Y] t:=by
 refine Cx pN (λj(_:Unit)=>[.i (j:Int),.l J,.l W,.l y,.l Y]) W.length (λj _=>∀i,i<j->fH (eX (gD W i) 1)) _ (λj _ c d=>?_) (λ_ d=>?_) (s0:=()) (λi d=>absurd d (by omega))
 ·cases e:(aT 40 (iL (D.toS (D.fld (gD W j) 0)))||aT 20 (iX (gD W j) 1))with
  |true=>refine .inl ⟨_,.inl rfl,?_⟩;exact aC (aU c) (aC (aF c) (aC (aH (aF c)) (aC e (bG rfl))))
  |false=>
   have e1:((eX (gD W j) 1).length:Int)<=20:=CB (Wf e).2;refine .inr ⟨(),λi g=>?_,?_⟩
   ·by_cases f:i=j
    ·subst f;unfold fH;omega
    ·exact d i (by omega)
   ·exact aC (aU c) (aC (aF c) (aC (aH (aF c)) (aM e (aP (nx c (by omega) [] _)))))
 ·refine⟨_,.inr ⟨rfl,d⟩,?_⟩;exact aM (aX _) (bG rfl)
theorem aEZ(hx:y.length<=1000000):∃t,smQ J W y Y y t/\fS pM 4 [.i 0,.l J,.l W,.l y,.l Y] t:=by
 refine Cx pN (λj(_:Unit)=>[.i (j:Int),.l J,.l W,.l y,.l Y]) y.length (λj _=>∀i,i<j->fH (eX (gD y i) 1)) _ (λj _ c d=>?_) (λ_ d=>?_) (s0:=()) (λi d=>absurd d (by omega))
 ·cases e:(aT 40 (iL (D.toS (D.fld (gD y j) 0)))||aT 16 (iX (gD y j) 1))with
  |true=>refine .inl ⟨_,.inl rfl,?_⟩;exact aC (aU c) (aC (aF c) (aC (aH (aF c)) (aC e (bG rfl))))
  |false=>
   have e1:((eX (gD y j) 1).length:Int)<=16:=CB (Wf e).2;refine .inr ⟨(),λi g=>?_,?_⟩
   ·by_cases f:i=j
    ·subst f;unfold fH;omega
    ·exact d i (by omega)
   ·exact aC (aU c) (aC (aF c) (aC (aH (aF c)) (aM e (aP (nx c (by omega) [] _)))))
 ·refine⟨_,.inr ⟨rfl,d⟩,?_⟩;exact aM (aX _) (bG rfl)
def SzM(Y:LD):Prop:=∀j,j<Y.length->aHn (eX (gD Y j) 4)
theorem aE0(hf:Y.length<=1000000)(r:SzM Y):∃t,((∃a:Int,t=(0,[.b false,.i a]))\/((∃a:Int,t=(1,[.i a]))/\∀i,i<Y.length->Mf (gD Y i)))/\fS pM 6 [.i 0,.i 0,.l J,.l W,.l y,.l Y] t:=by
 refine Cx pN (λj(a:Int)=>[.i (j:Int),.i a,.l J,.l W,.l y,.l Y]) Y.length (λj _=>∀i,i<j->Mf (gD Y i)) _ (λj a c d=>?_) (λa d=>?_) (s0:=0) (λi d=>absurd d (by omega))
 ·obtain⟨t,f,l⟩:=Ok (D.toS (D.fld (gD Y j) 0)) (vB (gD Y j) 1) (eX (gD Y j) 2) (vI (gD Y j) 3) (eX (gD Y j) 4) (r j c);cases t with
  |false=>refine .inl ⟨_,.inl ⟨a,rfl⟩,?_⟩;exact aC (aU c) (aC (aF c) (bW f rfl (aC rfl (bG rfl))))
  |true=>
   obtain⟨h,e⟩:=l rfl;have m:=UU (D.toS (D.fld (gD Y j) 0)) (vB (gD Y j) 1) (eX (gD Y j) 2) (vI (gD Y j) 3) (eX (gD Y j) 4) (by have:=e.1;unfold fH at this;omega);refine .inr ⟨bJ .i64 a (uQ (eX (gD Y j) 4)),λi s=>?_,?_⟩
   ·by_cases g:i=j
    ·subst g;exact⟨h,e.1,e.2⟩
    ·exact d i (by omega)
   ·exact aC (aU c) (aC (aF c) (bW f rfl (aM rfl (aC (aF c) (bW m rfl (aP (nx c (by omega) [] _)))))))
 ·refine⟨_,.inr ⟨⟨a,rfl⟩,d⟩,?_⟩;exact aM (aX _) (bG rfl)
theorem aDG(C:SzM Y):∃t,jZ E aZ sites KG [.l [.l J,.l W,.l y,.l Y]] (.b t) []/\(t=true->Mv J W y Y):=by
 cases c:(((aT 14 (J.length:Int)||aT 14 (W.length:Int))||aT 8 (y.length:Int))||aT 26 (Y.length:Int))with
 |true=>refine⟨false,bE pN (by rfl) rfl ?_,λh=>(by cases h)⟩;exact aC c (bM rfl rfl)
 |false=>
  obtain⟨e1,r⟩:=Wf c;obtain⟨e1,s⟩:=Wf e1;obtain⟨e1,u⟩:=Wf e1;have e1:=CB e1;have r:=CB r;have s:=CB s;have u:=CB u;obtain⟨t0,g,d⟩:=aEX J W y Y (by omega);obtain⟨t2,j,e⟩:=aEY J W y Y (by omega);obtain⟨t4,l,f⟩:=aEZ J W y Y (by omega);obtain⟨F,m,v⟩:=aE0 J W y Y (by omega) C;have key:∀{t:Bool},Ev (jZ E aZ sites) (RG E aZ sites pM) (lK [.l [.l J,.l W,.l y,.l Y]]) (.ret (.b t) [])->jZ E aZ sites KG [.l [.l J,.l W,.l y,.l Y]] (.b t) []:=λ{t}h=>bE pN (by rfl) rfl h;rcases g with rfl |⟨rfl,g⟩
  ·refine⟨false,key ?_,λh=>(by cases h)⟩;unfold lK;exact aM c (aO d (bB (bM rfl rfl)))
  rcases j with rfl |⟨rfl,j⟩
  ·refine⟨false,key ?_,λh=>(by cases h)⟩;unfold lK;exact aM c (aO d (fD (bB (aO e (bB (bM rfl rfl))))))
  rcases l with rfl |⟨rfl,l⟩
  ·refine⟨false,key ?_,λh=>(by cases h)⟩;unfold lK;exact aM c (aO d (fD (bB (aO e (fD (bB (aO f (bB (bM rfl rfl)))))))))
  rcases m with⟨a,rfl⟩ |⟨⟨a,rfl⟩,m⟩
  ·refine⟨false,key ?_,λh=>(by cases h)⟩;unfold lK;exact aM c (aO d (fD (bB (aO e (fD (bB (aO f (fD (bB (aO v (bB (bM rfl rfl))))))))))))
  ·refine⟨cX a 160,key ?_,λ_=>⟨by omega,g,j,l,m⟩⟩;unfold lK;exact aM c (aO d (fD (bB (aO e (fD (bB (aO f (fD (bB (aO v (fD (bB (bM rfl rfl)))))))))))))
end
def U5:Cl:=λm J=>bif Nat.beq m bC then Di J else T4 m J
theorem aBe:∀m J r,U5 m J=some r->jZ E aZ sites m J r.1 r.2:=λm J r h=>by
 unfold U5 at h;cases e:Nat.beq m bC with
 |true=>rw[e]at h;have d:Di J=some (r.1,r.2):=h;have c:m=bC:=Nat.eq_of_beq_eq_true e;subst c;refine⟨0,λk n L _ _ _=>?_⟩;have f:(Hb E) bC=some Di:=rfl;cases n<;>simp only[rN,f,d]
 |false=>rw[e]at h;exact aAZ m J r h
theorem aBf:aAl aFj U5 400 60 vD []=some (.b true,[]):=by kernel_rfl
theorem aHo:jZ E aZ sites vD [] (.b true) []:=aCJ (TS aAt) aBe 400 60 vD [] _ aBf
section
variable{J W y Y:LD}(hM:Mv J W y Y)
include hM
noncomputable def aBj(J W y Y:LD)(k:Int):Bool:=((!(aD (PF J W y Y) 0))||aT k 0)||cX (Y.length:Int) k
theorem aBi{k:Int}(h:aBj J W y Y k=true):jZ E aZ sites EN [.l [.l J,.l W,.l y,.l Y],.i k] (.l []) []:=by refine bE Vc (by rfl) rfl ?_;exact bW (Wb J W y Y hM) rfl (aC h (bM rfl rfl))
theorem aIC{k:Int}(h:aBj J W y Y k=true):jZ E aZ sites XW [.l [.l J,.l W,.l y,.l Y],.i k] (.l []) []:=by refine bE aAs (by rfl) rfl ?_;exact bW (aBi hM h) rfl (aC rfl (aC rfl (bM rfl rfl)))
theorem aHy{k:Int}(h:aBj J W y Y k=true):jZ E aZ sites NU [.l [.l J,.l W,.l y,.l Y],.i k] (.l []) []:=by refine bE N8 (by rfl) rfl ?_;exact bW (aBi hM h) rfl (aC rfl (aC rfl (bM rfl rfl)))
theorem aFi{k:Int}(h:aBj J W y Y k=true):jZ E aZ sites mD [.l [.l J,.l W,.l y,.l Y],.i k] (.l []) []:=by refine bE Vg (by rfl) rfl ?_;exact bW (aBi hM h) rfl (aC rfl (aC rfl (bM rfl rfl)))
theorem aGC{k:Int}(h:aBj J W y Y k=true)(b i:Int):jZ E aZ sites bR [.l [.l J,.l W,.l y,.l Y],.i k,.i b,.i i] (.b false) []:=by refine bE Zr (by rfl) rfl ?_;exact bW (aBi hM h) rfl (aC rfl (aC rfl (aC rfl (aC rfl (aC rfl (bM rfl rfl))))))
end
section
variable{J W y Y:LD}(hM:Mv J W y Y)(hO:OkM J W y Y){k:Nat}(hk:k<Y.length){b:Nat->List SP}(hb:E0 (nv (eX (gD Y k) 2) (sO (gD Y k))) (eX (gD Y k) 2) (dD (eX (gD Y k) 2).length (sO (gD Y k))) b)
include hM hO hk
theorem A5:∃(tk:Nat->Bool)(F:Nat->D),(∀i,i<Y.length->E3 Y i (F i))/\jZ E aZ sites EN [.l [.l J,.l W,.l y,.l Y],.i (k:Int)] (.l [aDn J W y Y tk F]) []:=by obtain⟨tk,F,c,d⟩:=aFr J W y Y hM hO;refine⟨tk,F,c,bE Vc (by rfl) rfl ?_⟩;refine bW (aFq J W y Y hM hO) rfl (aM ?_ (bW d rfl (aM rfl (bM rfl rfl))));show(((!(aD (0:Int) 0))||aT (k:Int) 0)||cX (Y.length:Int) (k:Int))=false;rw[Ch (by omega),aAC (by omega)];rfl
include hb
omit hM hO in
theorem aDo{tk:Nat->Bool}{F:Nat->D}(f:∀i,i<Y.length->E3 Y i (F i)):gD (aK Y.length F) k=Hi (bI (eX (gD Y k) 2) (sO (gD Y k))) (bH (nv (eX (gD Y k) 2) (sO (gD Y k))) b) (DE (nv (eX (gD Y k) 2) (sO (gD Y k))) (bI (eX (gD Y k) 2) (sO (gD Y k))) (dD (eX (gD Y k) 2).length (sO (gD Y k))) (rJ (eX (gD Y k) 2).length (sO (gD Y k)))) (aK (nv (eX (gD Y k) 2) (sO (gD Y k))) (dD (eX (gD Y k) 2).length (sO (gD Y k)))):=by obtain⟨c,d,e⟩:=f k hk;rw[dX _ hk,e,show bH (nv (eX (gD Y k) 2) (sO (gD Y k))) c=bH (nv (eX (gD Y k) 2) (sO (gD Y k))) b from dU λv hv=>by rw[aGl d hb hv]]
theorem aGF:jZ E aZ sites NU [.l [.l J,.l W,.l y,.l Y],.i (k:Int)] (.l (DE (nv (eX (gD Y k) 2) (sO (gD Y k))) (bI (eX (gD Y k) 2) (sO (gD Y k))) (dD (eX (gD Y k) 2).length (sO (gD Y k))) (rJ (eX (gD Y k) 2).length (sO (gD Y k))))) []:=by
 obtain⟨tk,F,c,d⟩:=A5 hM hO hk;have e:=aDo hk hb (tk:=tk) c;refine bE N8 (by rfl) rfl ?_;refine bW d rfl (aM rfl (aM rfl (aC ?_ (bM ?_ rfl))))
 ·show aA (k:Int) (aK Y.length F).length=true;rw[cO];exact aF hk
 ·show _=D.l (eX (gD (aK Y.length F) k) 2);rw[e];rfl
theorem aDC:jZ E aZ sites mD [.l [.l J,.l W,.l y,.l Y],.i (k:Int)] (.l (aQ (nv (eX (gD Y k) 2) (sO (gD Y k))) (aDx (bH (nv (eX (gD Y k) 2) (sO (gD Y k))) b) (sO (gD Y k))))) []:=by
 obtain⟨tk,F,f,g⟩:=A5 hM hO hk;have e:=aDo hk hb (tk:=tk) f;have hf:=n5 hM hO hk;have j:=VD hO.sm;have m:=hf.n;have c:=aGA hf j.2.1 hb (DE (nv (eX (gD Y k) 2) (sO (gD Y k))) (bI (eX (gD Y k) 2) (sO (gD Y k))) (dD (eX (gD Y k) 2).length (sO (gD Y k))) (rJ (eX (gD Y k) 2).length (sO (gD Y k)))) (bI (eX (gD Y k) 2) (sO (gD Y k))) (aK (nv (eX (gD Y k) 2) (sO (gD Y k))) (dD (eX (gD Y k) 2).length (sO (gD Y k))));have d:nX (gD (aK Y.length F) k) 0=nv (eX (gD Y k) 2) (sO (gD Y k)):=by rw[e];exact zP _ _
 have el:aQ (nv (eX (gD Y k) 2) (sO (gD Y k))) (λ_=>false)=List.replicate (nX (gD (aK Y.length F) k) 0) (D.b false):=by rw[d,lV]
 rw[<-e,el]at c;have l:aA (k:Int) (aK Y.length F).length=true:=by rw[cO];exact aF hk
 have h:jZ E aZ sites GL [aDn J W y Y tk F,.i (k:Int)] (.l (aQ (nv (eX (gD Y k) 2) (sO (gD Y k))) (aDx (bH (nv (eX (gD Y k) 2) (sO (gD Y k))) b) (sO (gD Y k))))) []:=by refine bE lD (by rfl) rfl ?_;refine aC l (aC ?_ (aC (aF hk) (aO c (bB (bM rfl rfl)))));show(cX 0 (nX (gD (aK Y.length F) k) 0:Int)&&(aD (nX (gD (aK Y.length F) k) 0:Int) (nX (gD (aK Y.length F) k) 0:Int)&&jN (Int.toNat (nX (gD (aK Y.length F) k) 0:Int)) 1))=true;rw[d,jS (by omega),pX];exact fA (by show nv (eX (gD Y k) 2) (sO (gD Y k))<=_;unfold nv;omega) (by omega)
 refine bE Vg (by rfl) rfl ?_;exact bW g rfl (aM rfl (aM rfl (bW h rfl (bM rfl rfl))))
def aBn(b:Nat->List SP)(v i:Nat):D:=if i<v then fB (b i)else .l []
theorem aHE:jZ E aZ sites XW [.l [.l J,.l W,.l y,.l Y],.i (k:Int)] (.l (bH (nv (eX (gD Y k) 2) (sO (gD Y k))) b)) []:=by
 obtain⟨tk,F,r,s⟩:=A5 hM hO hk;have G:=aDo hk hb (tk:=tk) r;have hf:=n5 hM hO hk;have K:=hf.n;have L:nv (eX (gD Y k) 2) (sO (gD Y k))<=400:=by unfold nv;omega
 have hg:=hb.g;have g:eX (gD (aK Y.length F) k) 1=bH (nv (eX (gD Y k) 2) (sO (gD Y k))) b:=by rw[G];rfl
 have c:nX (gD (aK Y.length F) k) 1=nv (eX (gD Y k) 2) (sO (gD Y k)):=by show(eX (gD (aK Y.length F) k) 1).length=_;rw[g,cO]
 have j:aA (k:Int) (aK Y.length F).length=true:=by rw[cO];exact aF hk
 generalize nv (eX (gD Y k) 2) (sO (gD Y k))=n at*;have h:fS Pz 0 [.i (k:Int),.i 0,.i (n:Int),.l (aK n (aBn b 0)),.l (aK Y.length F)] (0,[.l (aK n (aBn b n))]):=by
  refine dF aAs (λv=>[.i (k:Int),.i (v:Int),.i (n:Int),.l (aK n (aBn b v)),.l (aK Y.length F)]) n (λv hv=>?_) ?_
  ·have wv:aA (v:Int) (nX (gD (aK Y.length F) k) 1)=true:=by rw[c];exact aF hv
   have H:aA (v:Int) (aK n (aBn b v)).length=true:=by rw[cO];exact aF hv
   have u:D.els (gD (eX (gD (aK Y.length F) k) 1) v)=(b v).map eK:=by rw[g,dX _ hv];rfl
   have t:jZ E aZ sites bK [.l (D.els (gD (eX (gD (aK Y.length F) k) 1) v))] (.l ((b v).map eK)) []:=by rw[u];have:=hg.len hv;exact mN _ (by rw[List.length_map];exact fA (by omega) (by omega))
   have C:aK n (aBn b (v+1))=(aK n (aBn b v)).set v (.l ((b v).map eK)):=by
    rw[oD];refine dU λi d=>?_;unfold aBn;by_cases e:i=v
    ·subst e;rw[fK,if_pos (by omega)]
    ·rw[oB _ _ e];by_cases f:i<v
     ·rw[if_pos f,if_pos (by omega)]
     ·rw[if_neg f,if_neg (by omega)]
   refine aC (aU hv) (aC wv (bW t rfl (aC H (aP ?_))));rw[C];exact nx hv (by omega) [_] _
  ·exact aM (aX _) (bG rfl)
 have l:aK n (aBn b 0)=List.replicate (nX (gD (aK Y.length F) k) 1) (D.l []):=by rw[c,<-rX];exact dU λi d=>by unfold aBn;rw[if_neg (by omega)]
 have e1:aK n (aBn b n)=bH n b:=dU λi d=>by unfold aBn;rw[if_pos d]
 have m:(n:Int)=Int.ofNat (nX (gD (aK Y.length F) k) 1):=by rw[c];rfl
 rw[l,e1,m]at h;refine bE aAs (by rfl) rfl ?_;refine bW s rfl (aM rfl (aM rfl (aC j (aC ?_ (aC j (aO h (bB (bM rfl rfl))))))));show(cX 0 (nX (gD (aK Y.length F) k) 1:Int)&&(aD (nX (gD (aK Y.length F) k) 1:Int) (nX (gD (aK Y.length F) k) 1:Int)&&jN (Int.toNat (nX (gD (aK Y.length F) k) 1:Int)) 24))=true;rw[c,jS (by omega),pX];exact fA (by show n<=_;omega) (by omega)
def inB(U:LD)(b i:Int):Bool:=(((cX 0 b)&&(aT b (U.length:Int)))&&(cX 0 i))&&(aT i (iE (gD U (Int.toNat b))))
omit hM hO hk hb in
theorem aIE{U:LD}{b i:Int}(h:inB U b i=true):∃B I:Nat,b=B/\i=I/\B<U.length/\I<(gD U B).els.length:=by
 unfold inB at h;rw[Bool.and_eq_true,Bool.and_eq_true,Bool.and_eq_true]at h;obtain⟨⟨⟨e,c⟩,f⟩,d⟩:=h;have g:=(fN _ _).1 e;have l:=(fN _ _).1 f;rw[eU]at c d;have j:b<U.length:=by simpa using c
 obtain⟨B,rfl⟩:∃B:Nat,b=B:=⟨b.toNat,by omega⟩;obtain⟨I,rfl⟩:∃I:Nat,i=I:=⟨i.toNat,by omega⟩;have m:((I:Nat):Int)<(((gD U B).els.length:Nat):Int):=by simpa using d
 exact⟨B,I,rfl,rfl,by omega,by omega⟩
omit hb in
theorem aGG{B I:Nat}(d:B<(sO (gD Y k)).length)(e:I<(gD (sO (gD Y k)) B).els.length):
  jZ E aZ sites bR [.l [.l J,.l W,.l y,.l Y],.i (k:Int),.i (B:Int),.i (I:Int)] (.b (T7 W (dD (eX (gD Y k) 2).length (sO (gD Y k))) (rJ (eX (gD Y k) 2).length (sO (gD Y k))) (gD (gD (sO (gD Y k)) B).els I))) []:=by
 obtain⟨tk,F,g,h⟩:=A5 hM hO hk;have j:=aDF hM hO tk F g k hk B I d e;refine bE Zr (by rfl) rfl ?_;show Ev _ _ (Zp _) _;unfold Zp;have c:aA (k:Int) Y.length=true:=aF hk;have f:aA (B:Int) (sO (gD Y k)).length=true:=aF d;have l:aA (I:Int) (gD (sO (gD Y k)) B).els.length=true:=aF e;refine bW h rfl (aM rfl (aC (aH c) (aC (aH c) (aC (aH f) (aM ?_ (aC c (aC f (aC l (bW j rfl (bM rfl rfl))))))))));show(((aT (B:Int) 0||cX ((sO (gD Y k)).length:Int) (B:Int))||aT (I:Int) 0)||cX (((gD (sO (gD Y k)) B).els.length:Nat):Int) (I:Int))=false;rw[Ch (by omega),aAC (by omega),Ch (by omega),aAC (by omega)];rfl
omit hb in
theorem aFw{b i:Int}(h:inB (sO (gD Y k)) b i=false):jZ E aZ sites bR [.l [.l J,.l W,.l y,.l Y],.i (k:Int),.i b,.i i] (.b false) []:=by
 obtain⟨tk,F,m,e⟩:=A5 hM hO hk;have g:(((aT b 0||cX ((sO (gD Y k)).length:Int) b)||aT i 0)||cX (iE (gD (sO (gD Y k)) (Int.toNat b))) i)=true:=by have e1:∀a c:Int,aT a c=!(cX c a):=λa c=>rfl;unfold inB at h;rw[e1 b,e1 i (iE _)]at h;rw[e1 b 0,e1 i 0];revert h;cases cX 0 b<;>cases cX ((sO (gD Y k)).length:Int) b<;>cases cX 0 i<;>cases cX (iE (gD (sO (gD Y k)) (Int.toNat b))) i<;>simp
 have d:aA (k:Int) Y.length=true:=aF hk;have j:((!(!(((aT b 0)||(cX ((sO (gD Y k)).length:Int) b))||(aT i 0))))||aA b (sO (gD Y k)).length)=true:=by
  by_cases l:0<=b
  ·obtain⟨B,rfl⟩:∃B:Nat,b=B:=⟨b.toNat,by omega⟩;by_cases f:B<(sO (gD Y k)).length
   ·exact aH (aF f)
   ·rw[jS (show((sO (gD Y k)).length:Int)<=(B:Int)by omega),Bool.or_true];rfl
  ·rw[Vn (show b<0 by omega)];rfl
 refine bE Zr (by rfl) rfl ?_;exact bW e rfl (aM rfl (aC (aH d) (aC (aH d) (aC j (aC g (bM rfl rfl))))))
end
def aG6(Y:LD):Prop:=∀j,j<Y.length->aGo (sO (gD Y j))
theorem aCy(R:LD)(g:cG R)(h:∀j,j<R.length->cG (gD R j).els):jZ E aZ sites TT [.l R,.l R] (.b true) []:=by
 have e:fS YI 0 [.l R,.l R,.i 0] (1,[]):=by
  refine dF Vf (λj=>[.l R,.l R,.i (j:Int)]) R.length (λj c=>?_) ?_
  ·have f:fS YI 2 [.l R,.l R,.i (j:Int),.i 0] (1,[.l R,.l R,.i (j:Int)]):=by
    refine dF Vf (λk=>[.l R,.l R,.i (j:Int),.i (k:Int)]) (gD R j).els.length (λk d=>?_) ?_
    ·have l:aT (k:Int) (iE (gD R j))=true:=aU d;have wk:aA (k:Int) (nE (gD R j))=true:=aF d;refine aC (aF c) (aC l (aC (aF c) (aC wk (aC (aF c) (aC wk (aM ?_ (aP (nx d (h j c) [_,_,_] _))))))));show(!((aD (vI (gE (gD R j) k) 0) (vI (gE (gD R j) k) 0))&&((aD (vI (gE (gD R j) k) 1) (vI (gE (gD R j) k) 1))&&true)))=false;rw[pX,pX];rfl
    ·exact aC (aF c) (aM (aX _) (bG rfl))
   exact aC (aU c) (aC (aF c) (aC (aF c) (aM (by show(!(aD (iE (gD R j)) (iE (gD R j))))=false;rw[pX];rfl) (aO f (fD (bB (aP (nx c g [_,_] _))))))))
  ·exact aM (aX _) (bG rfl)
 refine bE Vf (by rfl) rfl ?_;exact aM (by show(!(aD (R.length:Int) (R.length:Int)))=false;rw[pX];rfl) (aO e (fD (bB (bM rfl rfl))))
theorem aDv(R:LD)(e:cG R):jZ E aZ sites HY [.l R,.l R] (.b true) []:=by
 have d:fS Eu 0 [.l R,.l R,.i 0] (1,[]):=by
  refine dF Zq (λj=>[.l R,.l R,.i (j:Int)]) R.length (λj c=>?_) ?_
  ·refine aC (aU c) (aC (aF c) (aC (aF c) (aM ?_ (aP (nx c e [_,_] _)))));show(!((aD (vI (gD R j) 0) (vI (gD R j) 0))&&((aD (vI (gD R j) 1) (vI (gD R j) 1))&&true)))=false;rw[pX,pX];rfl
  ·exact aM (aX _) (bG rfl)
 refine bE Zq (by rfl) rfl ?_;exact aM (by show(!(aD (R.length:Int) (R.length:Int)))=false;rw[pX];rfl) (aO d (fD (bB (bM rfl rfl))))
theorem aCI(n:Nat)(f:Nat->Bool)(l:n<=100000):jZ E aZ sites cK [.l (aQ n f),.l (aQ n f)] (.b true) []:=by
 have d:(aQ n f).length=n:=eQ _ _;have g:fS YE 0 [.l (aQ n f),.l (aQ n f),.i 0] (1,[]):=by
  refine dF Vb (λj=>[.l (aQ n f),.l (aQ n f),.i (j:Int)]) n (λj c=>?_) ?_
  ·have h:aT (j:Int) ((aQ n f).length:Int)=true:=by rw[d];exact aU c
   have e:aA (j:Int) (aQ n f).length=true:=by rw[d];exact aF c
   refine aC h (aC e (aC e (aM ?_ (aP (nx c (by omega) [_,_] _)))));show(!(bif D.toB (gD (aQ n f) j)then D.toB (gD (aQ n f) j)else !(D.toB (gD (aQ n f) j))))=false;cases D.toB (gD (aQ n f) j)<;>rfl
  ·exact aM (show aT (n:Int) ((aQ n f).length:Int)=false by rw[d];exact aX _) (bG rfl)
 refine bE Vb (by rfl) rfl ?_;exact aM (by show(!(aD ((aQ n f).length:Int) ((aQ n f).length:Int)))=false;rw[pX];rfl) (aO g (fD (bB (bM rfl rfl))))
theorem aI6{a:Int}{n:Nat}(e:(cX 0 a&&aT a (n:Int))=true):aA a n=true:=by
 rw[Bool.and_eq_true]at e;have c:=(fN _ _).1 e.1;have d:a<n:=by have h:=e.2;rw[eU]at h;simpa using h
 obtain⟨k,rfl⟩:∃k:Nat,a=k:=⟨a.toNat,by omega⟩;exact aF (by omega)
theorem aHH(J W y Y:LD)(b1:SzM Y)(a9:aG6 Y)(k b i:Int):jZ E aZ sites Gd [.l [.l J,.l W,.l y,.l Y],.i k,.i b,.i i] (.b true) []:=by
 obtain⟨t,a6,a7⟩:=aDG J W y Y b1;refine bE YK (by rfl) rfl ?_;refine bW aHo rfl (aM rfl (bW a6 rfl ?_));cases t with
 |false=>exact aC rfl (bW aHo rfl (bM rfl rfl))
 |true=>
  have c:=a7 rfl;refine aM rfl (bW (aFp J W y Y c) rfl ?_);cases e:aBj J W y Y k with
  |true=>exact aC e (bW (aIC c e) rfl (aC rfl (bW (aHy c e) rfl (aC rfl (bW (aFi c e) rfl (aC rfl (bW (aGC c e b i) rfl (bM rfl rfl))))))))
  |false=>
   have s:=e;unfold aBj at s;rw[Bool.or_eq_false_iff,Bool.or_eq_false_iff]at s;obtain⟨⟨e1,a1⟩,H⟩:=s;have r:PF J W y Y=0:=by
    by_cases r:PF J W y Y=0
    ·exact r
    ·rw[nW r]at e1;cases e1
   have f:=aHf r;have c0:=pP a1;have c1:¬((Y.length:Int)<=k):=λh=>by rw[jS h]at H;cases H
   obtain⟨K,rfl⟩:∃K:Nat,k=K:=⟨k.toNat,by omega⟩;have d:K<Y.length:=by omega
   have hf:=n5 c f d;have F:=VD f.sm;have b6:=hf.n;have b7:nv (eX (gD Y K) 2) (sO (gD Y K))<=400:=by unfold nv;omega
   obtain⟨l,g,a3⟩:=We hf F.2.1 (D.toS (D.fld (gD Y K) 0)) (vB (gD Y K) 1);have a5:(gD (bI (eX (gD Y K) 2) (sO (gD Y K))) 0).toI≠3:=by rw[aGz (Nat.zero_le _)];exact(by decide:(0:Int)≠3)
   have a4:=aFu hf (a9 K d) (D.toS (D.fld (gD Y K) 0)) (vB (gD Y K) 1) a5;have b0:∀j,j<(bH (nv (eX (gD Y K) 2) (sO (gD Y K))) l).length->cG (gD (bH (nv (eX (gD Y K) 2) (sO (gD Y K))) l) j).els:=λj C=>by rw[cO]at C;have:=g.g.len C;rw[dX _ C];unfold cG;show((((l j).map eK).length:Nat):Int)<=_;rw[List.length_map];omega
   have L:=aCy (bH (nv (eX (gD Y K) 2) (sO (gD Y K))) l) (by unfold cG;rw[cO];omega) b0;have P:=aDv (DE (nv (eX (gD Y K) 2) (sO (gD Y K))) (bI (eX (gD Y K) 2) (sO (gD Y K))) (dD (eX (gD Y K) 2).length (sO (gD Y K))) (rJ (eX (gD Y K) 2).length (sO (gD Y K)))) (by unfold cG DE;rw[cO];omega);have Q:=aCI (nv (eX (gD Y K) 2) (sO (gD Y K))) (aDx (bH (nv (eX (gD Y K) 2) (sO (gD Y K))) l) (sO (gD Y K))) (by omega);have T:=aEV hf F.2.1 g (D.toS (D.fld (gD Y K) 0)) (vB (gD Y K) 1);have U:=aHE c f d g;have V:=aGF c f d g;have a0:=aDC c f d g;have b5:((!((((cX 0 b)&&(aT b ((sO (gD Y K)).length:Int)))&&(cX 0 i))&&true))||aA b (sO (gD Y K)).length)=true:=by
    cases a2:(cX 0 b&&aT b ((sO (gD Y K)).length:Int))with
    |true=>exact aH (aI6 a2)
    |false=>rfl
   refine aM e (aC (aF d) (bW a3 rfl (bW a4 rfl (aC b5 ?_))));cases m:inB (sO (gD Y K)) b i with
   |true=>obtain⟨B,I,rfl,rfl,u,v⟩:=aIE m;have b2:=aFv (J:=J) (y:=y) (Y:=Y) hf F.2.1 (D.toS (D.fld (gD Y K) 0)) (vB (gD Y K) 1) g u v;have G:=aGG c f d u v;have b3:aA (B:Int) (sO (gD Y K)).length=true:=aF u;have b4:aA (I:Int) (gD (sO (gD Y K)) B).els.length=true:=aF v;refine aC m (aC b3 (aC b4 (bW b2 rfl (bW U rfl (bW L rfl (aC rfl (bW V rfl (aC rfl (bW P rfl (aC rfl (bW a0 rfl (aC rfl (bW T rfl (aC rfl (bW Q rfl (aC rfl (bW G rfl (bM ?_ rfl))))))))))))))))));show D.b true=D.b (((true&&true)&&true)&&(bif T7 W (dD (eX (gD Y K) 2).length (sO (gD Y K))) (rJ (eX (gD Y K) 2).length (sO (gD Y K))) (dQ (sO (gD Y K)) B I)then T7 W (dD (eX (gD Y K) 2).length (sO (gD Y K))) (rJ (eX (gD Y K) 2).length (sO (gD Y K))) (dQ (sO (gD Y K)) B I)else !(T7 W (dD (eX (gD Y K) 2).length (sO (gD Y K))) (rJ (eX (gD Y K) 2).length (sO (gD Y K))) (dQ (sO (gD Y K)) B I))));cases T7 W (dD (eX (gD Y K) 2).length (sO (gD Y K))) (rJ (eX (gD Y K) 2).length (sO (gD Y K))) (dQ (sO (gD Y K)) B I)<;>rfl
   |false=>have G:=aFw c f d m;exact aM m (bW U rfl (bW L rfl (aC rfl (bW V rfl (aC rfl (bW P rfl (aC rfl (bW a0 rfl (aC rfl (bW T rfl (aC rfl (bW Q rfl (aC rfl (bW G rfl (bM rfl rfl)))))))))))))))
end Go.Eng.Q

namespace Go.Eng.Q
open Go.Eng Go.Proofs
open Go.Shelf Go.RowKit Go.Lib Go.Sort
def Tryz.sortL_ren:Go.Shelf.Ren:=⟨λ|6=>81 |15=>95 |14=>94 |28=>108 |29=>109 |20=>100 |21=>101 |22=>102 |23=>103 |24=>104 |25=>105 |26=>106 |27=>107 |46=>111 |47=>112 |48=>113 |49=>114 |50=>115 |57=>116 |n=>n,λ|22=>58 |24=>60 |25=>121 |3=>3 |39=>134 |0=>0 |53=>147 |55=>149 |4=>4 |46=>140 |45=>139 |50=>144 |5=>5 |9=>9 |66=>151 |70=>155 |76=>157 |77=>84 |n=>n,λ|n=>n⟩
theorem Tryz.sortL:Go.Proofs.SlLaysF0.n6 Tryz.prog Tryz.sortL_ren:={
 mixed:=by kernel_rfl,
 f6:=⟨Tryz.f81.name,by decide,Tryz.func81.trans (congrArg some (by kernel_rfl))⟩,
 f14:=⟨Tryz.f94.name,by decide,Tryz.func94.trans (congrArg some (by kernel_rfl))⟩,
 f15:=Tryz.func95.trans (congrArg some (by kernel_rfl)),
 f20:=⟨Tryz.f100.name,by decide,Tryz.func100.trans (congrArg some (by kernel_rfl))⟩,
 f21:=⟨Tryz.f101.name,by decide,Tryz.func101.trans (congrArg some (by kernel_rfl))⟩,
 f22:=⟨Tryz.f102.name,by decide,Tryz.func102.trans (congrArg some (by kernel_rfl))⟩,
 f23:=⟨Tryz.f103.name,by decide,Tryz.func103.trans (congrArg some (by kernel_rfl))⟩,
 f24:=⟨Tryz.f104.name,by decide,Tryz.func104.trans (congrArg some (by kernel_rfl))⟩,
 f25:=⟨Tryz.f105.name,by decide,Tryz.func105.trans (congrArg some (by kernel_rfl))⟩,
 f26:=⟨Tryz.f106.name,by decide,Tryz.func106.trans (congrArg some (by kernel_rfl))⟩,
 f27:=⟨Tryz.f107.name,by decide,Tryz.func107.trans (congrArg some (by kernel_rfl))⟩,
 f28:=Tryz.func108.trans (congrArg some (by kernel_rfl)),
 f29:=Tryz.func109.trans (congrArg some (by kernel_rfl)),
 f46:=⟨Tryz.f111.name,by decide,Tryz.func111.trans (congrArg some (by kernel_rfl))⟩,
 f47:=Tryz.func112.trans (congrArg some (by kernel_rfl)),
 f48:=Tryz.func113.trans (congrArg some (by kernel_rfl)),
 f49:=⟨Tryz.f114.name,by decide,Tryz.func114.trans (congrArg some (by kernel_rfl))⟩,
 f50:=⟨Tryz.f115.name,by decide,Tryz.func115.trans (congrArg some (by kernel_rfl))⟩,
 f57:=⟨Tryz.f116.name,by decide,Tryz.func116.trans (congrArg some (by kernel_rfl))⟩,
 t0:=Tryz.underlying0,
 a0:=Tryz.isAgg0,
 z0:=Tryz.sizeOf0,
 v0:=Tryz.zeroValue0,
 t3:=Tryz.underlying3,
 a3:=Tryz.isAgg3,
 z3:=Tryz.sizeOf3,
 v3:=Tryz.zeroValue3,
 t4:=Tryz.underlying4,
 a4:=Tryz.isAgg4,
 z4:=Tryz.sizeOf4,
 v4:=Tryz.zeroValue4,
 t5:=Tryz.underlying5,
 a5:=Tryz.isAgg5,
 z5:=Tryz.sizeOf5,
 v5:=Tryz.zeroValue5,
 t9:=Tryz.underlying9,
 a9:=Tryz.isAgg9,
 z9:=Tryz.sizeOf9,
 v9:=Tryz.zeroValue9,
 t22:=Tryz.underlying58,
 a22:=Tryz.isAgg58,
 z22:=Tryz.sizeOf58,
 v22:=Tryz.zeroValue58,
 t25:=Tryz.underlying121,
 a25:=Tryz.isAgg121,
 z25:=Tryz.sizeOf121,
 v25:=Tryz.zeroValue121,
 t39:=Tryz.underlying134,
 a39:=Tryz.isAgg134,
 z39:=Tryz.sizeOf134,
 v39:=Tryz.zeroValue134,
 t45:=Tryz.underlying139,
 a45:=Tryz.isAgg139,
 z45:=Tryz.sizeOf139,
 v45:=Tryz.zeroValue139,
 t46:=Tryz.underlying140,
 a46:=Tryz.isAgg140,
 z46:=Tryz.sizeOf140,
 v46:=Tryz.zeroValue140,
 t50:=Tryz.underlying144,
 a50:=Tryz.isAgg144,
 z50:=Tryz.sizeOf144,
 v50:=Tryz.zeroValue144,
 t53:=Tryz.underlying147,
 a53:=Tryz.isAgg147,
 z53:=Tryz.sizeOf147,
 v53:=Tryz.zeroValue147,
 t55:=Tryz.underlying149,
 a55:=Tryz.isAgg149,
 z55:=Tryz.sizeOf149,
 v55:=Tryz.zeroValue149,
 t66:=Tryz.underlying151,
 a66:=Tryz.isAgg151,
 z66:=Tryz.sizeOf151,
 v66:=Tryz.zeroValue151,
 t70:=Tryz.underlying155,
 a70:=Tryz.isAgg155,
 z70:=Tryz.sizeOf155,
 v70:=Tryz.zeroValue155,
 t76:=Tryz.underlying157,
 a76:=Tryz.isAgg157,
 z76:=Tryz.sizeOf157,
 v76:=Tryz.zeroValue157,
 t77:=Tryz.underlying84,
 a77:=Tryz.isAgg84,
 z77:=Tryz.sizeOf84,
 v77:=Tryz.zeroValue84}
def cfZ(a b c d:Int):Int:=if a≠c then a-c else b-d
set_option maxHeartbeats 2000000 in
theorem lesser_z(a b c d:Int)(j:0<=a/\a<1000000000)(l:0<=b/\b<1000000000)(m:0<=c/\c<1000000000)(hd:0<=d/\d<1000000000)(f:World):
  Calls Tryz.prog 82 #[.agg #[.int .i64 a,.int .i64 b],.agg #[.int .i64 c,.int .i64 d]] f λe w'=>e=.returned (.int .i64 (cfZ a b c d))/\∃q g,w'=grow (f.drewN q) g:=by
 have r:IntKind.i64.wrap (a-c)=a-c:=by simp[IntKind.wrap,IntKind.bits,IntKind.signed];omega
 have s:IntKind.i64.wrap (b-d)=b-d:=by simp[IntKind.wrap,IntKind.bits,IntKind.signed];omega
 go_enter Tryz.func82,Tryz.ntmps82
 go_wp2
 all_goals go_ret
 ·rename_i h;have h:a≠c:=by simpa using h
  refine⟨?_,0,_,by rw[alloc_eq_grow,alloc_eq_grow,grow_grow];rfl⟩;unfold cfZ;rw[if_pos h];rfl
 ·rename_i h;have h:¬(a≠c):=by simpa using h
  refine⟨?_,0,_,by rw[alloc_eq_grow,alloc_eq_grow,grow_grow];rfl⟩;unfold cfZ;rw[if_neg h];rfl
def Gr(x:SP):List Value:=[.int .i64 x.1.val,.int .i64 x.2.val]
def cfS(x c:SP):Int:=cfZ x.1.val x.2.val c.1.val c.2.val
theorem Nj(x c:SP):Go.Proofs.ltOf cfS x c=tY x c:=by rw[Bool.eq_iff_iff,IT];unfold Go.Proofs.ltOf cfS cfZ;rw[decide_eq_true_eq];split<;>omega
theorem E9(d off size:Nat)(w:World):CmpLays Tryz.prog 82 #[] Gr 2 cfS d off size w:=λ_ _ _ _ x c=>
 lesser_z x.1.val x.2.val c.1.val c.2.val (by omega) (by omega) (by omega) (by omega) _
theorem aIo:SWO (Go.Proofs.ltOf cfS) where
 irrefl x:=by rw[Nj];exact FM x
 trans x y z h1 h2:=by rw[Nj]at*;exact LH h1 h2
 ntrans x y z h1 h2:=by
  rw[Nj]at*;rcases PG.1 h1 with e |e
  ·subst e;exact h2
  ·rcases PG.1 h2 with c |c
   ·subst c;exact h1
   ·exact PG.2 (.inr (LH c e))
theorem aIp(x c:SP)(f:Go.Proofs.ltOf cfS x c=false)(d:Go.Proofs.ltOf cfS c x=false):x=c:=by
 rw[Nj]at*;rcases PG.1 f with e |e
 ·exact e.symm
 ·rw[e]at d;cases d
theorem U6(c off h:Nat)(l:List SP)(w:World)(m:HoldsK Gr 2 w c off l.toArray)(r:c<w.heap.size)(s:l.length<4611686018427387904):
  Calls Tryz.prog 81 #[.slice (some ⟨c,off,none⟩) l.length h,.func (.func 82) #[] #[]] w λe w'=>e=.returned (.tuple #[])/\∃n os,w'=sortWorldK Gr 2 w c off n (l.mergeSort λx d=>!tY d x).toArray os:=by
 have j:∀g w,(callFunc 82 g).run Tryz.prog w=.ok (.enter 82 g) w:=enters_of Tryz.func82 (by kernel_rfl) rfl;have f:=AnyQ.slices_SortFunc_total Tryz.sortL 2 Tryz.isAgg60 Tryz.sizeOf60 Gr (λ_=>rfl) (λx v hv=>by simp[Gr]at hv;rcases hv with rfl |rfl<;>rfl) cfS aIo 82 #[] c off h l.toArray w j (E9 c off _ w) m r (by simpa using s) aIp;have e:(λx d:SP=>!(Go.Proofs.ltOf cfS) d x)=λx d=>!tY d x:=by funext x d;rw[Nj]
 rw[e]at f;change Calls Tryz.prog 81 _ _ _ at f;simpa using f
theorem aBg(p:Option Addr)(c:Nat)(w:World):Calls Tryz.prog 81 #[.slice p 0 c,.func (.func 82) #[] #[]] w λe w'=>e=.returned (.tuple #[])/\w'=w:=
 AnyF.slices_SortFunc_none Tryz.sortL p c _ w
end Go.Eng.Q

namespace Go.Eng.Q
open Go.Eng Go.Proofs
open Go.RowKit Go.Lib Go.Sort
theorem aDz{x:D}{p:SP}(h:s6 x=some p):x=eK p:=by
 unfold s6 at h;split at h
 ·rename_i a b;obtain⟨u,c,f⟩:=Option.bind_eq_some_iff.1 h;obtain⟨v,d,e⟩:=Option.bind_eq_some_iff.1 f;injection e with e;subst e;unfold VZ at c d;split at c
  ·rename_i e1;split at d
   ·rename_i l;injection c with c;injection d with d;subst c;subst d;unfold eK;have g:((a.toNat:Nat):Int)=a:=by omega
    have j:((b.toNat:Nat):Int)=b:=by omega
    show D.l [.i a,.i b]=D.l [.i ((a.toNat:Nat):Int),.i ((b.toNat:Nat):Int)];rw[g,j]
   ·simp at d
  ·simp at c
 ·simp at h
theorem Rg:∀{data:LD}{l:List SP},Dh data=some l->data=l.map eK
 |[],l,h=>by have h:some []=some l:=h;injection h with h;subst h;rfl
 |x::data,l,h=>by have h:((s6 x).bind λx=>(Dh data).bind λl=>some (x::l))=some l:=h;obtain⟨p,d,e⟩:=Option.bind_eq_some_iff.1 h;obtain⟨g,f,c⟩:=Option.bind_eq_some_iff.1 e;injection c with c;subst c;rw[aDz d,Rg f];rfl
theorem aE1(s:List SP):s.mergeSort (λx c=>!tY c x)=qO s:=by
 unfold qO;split
 ·simp
 ·simp
 ·rfl
theorem aE2:TR Tryz.prog E:=λs e el f a0 F ctx d2 data q x C g0 w G st sl r a c6 c7 e7 c9 e0 c8=>by
 have e6:E.sg.look E.srt=some ⟨81,[(58,.sio [.sl true 60 y1]),(121,.fnv 82)],[]⟩:=by kernel_rfl
 rw[e6]at a0;injection a0 with a0;subst a0;have e5:mP [(58,PM.sio [.sl true 60 y1]),(121,.fnv 82)]=some (60,y1,82):=by kernel_rfl
 have F:mP [(58,PM.sio [.sl true 60 y1]),(121,.fnv 82)]=some (e,el,f):=F;rw[e5]at F;injection F with F;injection F with f5 b0;injection b0 with b0 f6;subst f5;subst b0;subst f6;rw[d2]at C;have C:(bif Nat.ble data.length 1000000000 then(Dh data).bind λl=>some (D.l [],[D.l (Wz data l)])else none)=some (q,[x]):=C;cases K:Nat.ble data.length 1000000000 with
 |false=>rw[K]at C;simp at C
 |true=>
 rw[K,cond_true]at C;have K:=Nat.le_of_ble_eq_true K;obtain⟨l,c4,U⟩:=Option.bind_eq_some_iff.1 C;injection U with U;injection U with U V;injection V with V;have d3:=Rg c4;subst d3;rw[l7]at V;subst V;obtain⟨_,_,_,b6⟩:=c6.arrs r a c7;rw[e7,c9,e0,c8]at b6;obtain⟨ad,n,c,hv,a6,b4,b3,b5,b7⟩:=b6;rw[List.length_map]at a6;show Calls Tryz.prog 81 ⟨[G.H r [],.func (.func 82) #[] #[]]⟩ w _;rw[hv];by_cases c3:n=0
 ·subst c3;have e4:l=[]:=List.eq_nil_of_length_eq_zero a6;subst e4;refine(aBg ad c w).mono λc2 w'⟨a4,g⟩=>?_;subst g;refine⟨a4,rfl,rfl,rfl,Nat.le_refl _,λ_ _ _=>rfl,ad,0,c,rfl,rfl,b4,b3,b5,λb1 J=>?_⟩;obtain⟨Q,H,cs,P,y,T,a1⟩:=b7 b1 J;exact⟨Q,H,cs,P,y,T,λi u=>absurd u (by omega)⟩
 ·cases ad with
  |none=>have:=b5 rfl;omega
  |some A=>
   obtain⟨Q,H,cs,P,y,T,a1⟩:=b7 A rfl;obtain⟨d,off,g1⟩:=A;simp only at Q H y T a1;subst Q;have a3:d<w.heap.size:=by
    rcases Nat.lt_or_ge d w.heap.size with h |h
    ·exact h
    ·rw[Array.getElem?_eq_none h]at y;cases y
   have e1:∀j,w.frozen? ⟨d,j,none⟩=false:=λj=>by unfold World.frozen?;simp only[y];simp
   have hg:∀i,i<l.length->l.toArray[i]! =gP l i:=λi u=>by simp[gP,u]
   have b2:HoldsK Gr 2 w d off l.toArray:=λj Y=>by
    rw[size_flatK]at Y;have Y:j<l.length*2:=by simpa using Y
    refine⟨?_,e1 _⟩;rw[get_flatK _ _ _ _ (by simpa using Y),hg _ (by omega)];have u:j/2<n:=by omega
    have W:∀t,t<2->w.cell? ⟨d,off+(j/2)*2+t,none⟩=some ((Gr (gP l (j/2)))[t]!):=λt ht=>by
     have f1:y1.length=2:=rfl;have a9:y1[t]?=some (.int .i64):=by rcases(show t=0\/t=1 by omega)with e |e<;>subst e<;>rfl
     obtain⟨v,c0,c1⟩:=CM (a1 (j/2) u) t (.int .i64) a9;have a5:(l.map eK).getD (j/2) (.i 0)=eK (gP l (j/2)):=by simp[List.getD,gP,show j/2<l.length by omega]
     rw[a5,Nat.zero_add]at c1;rw[Nat.zero_add,f1]at c0;rw[c0];have f4:v=.int .i64 (lf 2 (eK (gP l (j/2))) t).toI:=c1.1;rw[f4];rcases(show t=0\/t=1 by omega)with e |e<;>subst e<;>rfl
    have:=W (j%2) (by omega);rw[show off+j/2*2+j%2=off+j by omega]at this;exact this
   have f7:n<=maxLen:=by omega
   have d1:l.length<4611686018427387904:=by rw[List.length_map]at K;omega
   subst a6;refine(U6 d off c l w b2 a3 d1).mono λc2 w'⟨a4,m,os,g⟩=>?_;rw[aE1]at g;have e9:(qO l).toArray.size=l.toArray.size:=by simp[BU]
   have c5:HoldsK Gr 2 w' d off (qO l).toArray:=by rw[g];exact holdsK_sortWorldK_c Gr 2 w d off l.toArray (qO l).toArray m os b2 a3 e9
   have e3:∀b,b<w.heap.size->b≠d->w'.heap[b]?=w.heap[b]?:=λb a2 a7=>by rw[g];unfold sortWorldK putRowK putRow mapBlock;rw[heap_grow_old _ _ (by simpa[Sort.ahead]using a2)];simp[Array.getElem?_modify,Sort.ahead,Ne.symm a7]
   have d0:∃L,L.size=cs.size/\w'.heap[d]?=some (.cells L P (0,0)):=by rw[g];unfold sortWorldK putRowK putRow mapBlock;rw[heap_grow_old _ _ (by simpa[Sort.ahead]using a3)];refine⟨putCells id off (flatK Gr 2 (qO l).toArray) cs,by simp[putCells],?_⟩;simp[Array.getElem?_modify,Sort.ahead,y,onCells]
   obtain⟨L,f2,f3⟩:=d0;refine⟨a4,by rw[g];rfl,by rw[g];rfl,by rw[g];rfl,?_,λb a2 a7=>e3 b a2 (λe=>a7 (by rw[e];exact H)),some ⟨d,off,none⟩,l.length,c,rfl,by show((qO l).map eK).length=_;rw[List.length_map,BU],b4,b3,(λh=>by cases h),λb1 J=>?_⟩
   ·rw[g];exact size_sortWorldK_c Gr 2 w d off m _ os
   ·injection J with J;subst J;refine⟨rfl,H,L,P,f3,by rw[f2];exact T,λi u=>?_⟩;refine JO y1 0 λt ty ht=>?_;have a9:t<2:=(List.getElem?_eq_some_iff.1 ht).1;have f0:ty=.int .i64:=by
     rcases(show t=0\/t=1 by omega)with e |e<;>subst e<;>(injection ht with ht;exact ht.symm)
    subst f0;have W:=(HoldsK.cell c5 (i:=i) (c:=t) (by simpa[BU]using u) a9).1;have e2:(qO l).toArray[i]! =gP (qO l) i:=by simp[gP,BU,u]
    rw[e2]at W;have a5:((qO l).map eK).getD i (.i 0)=eK (gP (qO l) i):=by simp[List.getD,gP,BU,u]
    refine⟨(Gr (gP (qO l) i))[t]!,?_,?_⟩
    ·rw[Nat.zero_add];exact W
    ·show Xa w' G [] r (.int .i64) _ _ (lf 2 (((qO l).map eK).getD i (.i 0)) (0+t));rw[a5,Nat.zero_add];have f8:(gP (qO l) i).1.val <1000000000:=(gP (qO l) i).1.isLt;have f9:(gP (qO l) i).2.val <1000000000:=(gP (qO l) i).2.isLt;rcases(show t=0\/t=1 by omega)with e |e<;>subst e
     ·refine⟨rfl,?_,?_⟩
      ·show(-9223372036854775808:Int)<=((gP (qO l) i).1.val :Int);omega
      ·show((gP (qO l) i).1.val :Int)<=9223372036854775807;omega
     ·refine⟨rfl,?_,?_⟩
      ·show(-9223372036854775808:Int)<=((gP (qO l) i).2.val :Int);omega
      ·show((gP (qO l) i).2.val :Int)<=9223372036854775807;omega
end Go.Eng.Q

namespace Go.Eng.Q
open Go.Eng Go.Proofs Go.Proofs.YtglojhiigapkbabGreat
mutual
def SzL(n:Nat):LT->D->Prop
 |.sl _ _ el,x=>x.els.length<=n/\∀i,i<x.els.length->SzC n el el.length (x.els.getD i (.i 0)) 0
 |.int _,_=>True
 |.bool,_=>True
 |.str,_=>True
def SzC(n:Nat):List LT->Nat->D->Nat->Prop
 |[],_,_,_=>True
 |t::ts,k,x,j=>SzL n t (lf k x j)/\SzC n ts k x (j+1)
end
theorem aDB{n k:Nat}{x:D}:∀(ts:List LT)(c:Nat),(∀(j:Nat)(t:LT),ts[j]?=some t->SzL n t (lf k x (c+j)))->SzC n ts k x c
 |[],_,_=>trivial
 |t::ts,c,h=>⟨h 0 t rfl,aDB ts (c+1) λj u d=>by have:=h (j+1) u (by simpa using d);rwa [show c+(j+1)=c+1+j by omega]at this⟩
mutual
def shT(P:Program):Nat->TypeId->Option (List LT)
 |0,_=>none
 |n+1,t=>match P.underlying t with
  |some .bool=>some [.bool]
  |some (.int .i64)=>some [.int .i64]
  |some .string=>some [.str]
  |some (.slice e)=>(shT P n e).bind λel=>bif Nat.beq (P.cellsOf e) el.length&&Nat.ble 1 el.length then some [.sl false e el]else none
  |some (.struct fs)=>(aBh P n fs.toList 0).bind λlv=>bif Nat.beq (P.cellsOf t) lv.length then some lv else none
  |_=>none
def aBh(P:Program):Nat->List Field->Nat->Option (List LT)
 |0,_,_=>none
 |n+1,[],_=>some []
 |n+1,f::fs,o=>bif Nat.beq f.offset o then(shT P n f.type).bind λl=>bif Nat.beq (P.cellsOf f.type) l.length then(aBh P n fs (o+l.length)).map (l++·)else none else none
end
theorem aIq{n:Int}(h:(Lit.int .i64 n).wf=true):VH .i64<=n/\n<=VI .i64:=by simp only[Lit.wf,Bool.and_eq_true,decide_eq_true_eq]at h;exact h
theorem aGr{H:Type}(d:DataW H):1<=Rows.uptoBulk d:=by
 cases d with
 |lit l=>cases l<;>simp[Rows.uptoBulk]
 |nil=>simp[Rows.uptoBulk]
 |ptr d=>simp[Rows.uptoBulk]
 |slice c f=>simp[Rows.uptoBulk]
 |agg parts=>simp[Rows.uptoBulk]
 |iface t d=>simp[Rows.uptoBulk]
 |map e=>simp[Rows.uptoBulk]
 |held h=>simp[Rows.uptoBulk]
theorem p9{H:Type}{d:DataW H}{l:List (DataW H)}(h:d∈l):Rows.uptoBulk d<=Rows.uptoBulkAll l:=by
 induction l with
 |nil=>cases h
 |cons x r c=>
  simp only[Rows.uptoBulkAll];cases List.mem_cons.1 h with
  |inl e=>subst e;omega
  |inr e=>have:=c e;omega
theorem length_le{H:Type}(l:List (DataW H)):l.length<=Rows.uptoBulkAll l:=by
 induction l with
 |nil=>simp[Rows.uptoBulkAll]
 |cons x r c=>have:=aGr x;simp only[Rows.uptoBulkAll,List.length_cons];omega
section
variable{H:Type}{enc:TypeId×Value->H}{P:Program}{w:World}
def MW(w:World)(n:Nat)(lv:List LT)(cs:List Value)(o:Nat)(ys:LD):Prop:=
 ys.length=lv.length/\∀(j:Nat)(t:LT),lv[j]?=some t->∃u,cs[o+j]?=some u/\yQ w (vU (Gh.top w) []) t u (ys.getD j (.i 0))/\SzL n t (ys.getD j (.i 0))
theorem aGs{b:Nat}(h:b<w.heap.size):vU (Gh.top w) [] b:=.inl (by simp[Gh.top,h])
theorem F0{n:Nat}{t:LT}{u:Value}{d:D}(e:yQ w (vU (Gh.top w) []) t u d)(f:SzL n t d):MW w n [t] [u] 0 [d]:=
 ⟨rfl,λj g c=>by
  cases j with
  |zero=>injection c with c;subst c;exact⟨u,rfl,e,f⟩
  |succ j=>simp at c⟩
variable{N:Nat}
theorem q7:∀(a0 n:Nat)(t:TypeId)(cs:List Value)(x:DataW H×List MemPlace)(lv:List LT),DataW.trod enc P w 0 (λ_=>true) true a0 t cs=some x->shT P n t=some lv->Rows.uptoBulk x.1<=N->cs.length=lv.length/\∃ys,MW w N lv cs 0 ys
 |0,_,_,_,_,_,h,_,_=>by simp[DataW.trod]at h
 |a0+1,0,_,_,_,_,_,h,_=>by simp[shT]at h
 |a0+1,n+1,t,cs,x,lv,h,y,a4=>by
  have c7:=q7 a0;have e5:∀(m:Nat)(fs:List Field)(o:Nat)(xs:List (DataW H×List MemPlace))(lv:List LT),(fs.mapM λf=>DataW.trod enc P w 0 (λ_=>true) true a0 f.type ((cs.drop f.offset).take (P.cellsOf f.type)))=some xs->aBh P m fs o=some lv->(∀K∈xs,Rows.uptoBulk K.1<=N)->∃ys,MW w N lv cs o ys:=by
   intro m;induction m with
   |zero=>intro fs o xs lv _ c _;simp[aBh]at c
   |succ m f3=>
    intro fs o xs lv Q c W;cases fs with
    |nil=>simp only[aBh,Option.some.injEq]at c;subst c;exact⟨[],rfl,λj t v=>by simp at v⟩
    |cons f fs=>
     simp only[aBh]at c;cases e1:Nat.beq f.offset o with
     |false=>rw[e1]at c;simp at c
     |true=>
      rw[e1]at c;simp only[cond_true]at c;obtain⟨l,e3,a1⟩:=Option.bind_eq_some_iff.1 c;cases a3:Nat.beq (P.cellsOf f.type) l.length with
      |false=>rw[a3]at a1;simp at a1
      |true=>
       rw[a3]at a1;simp only[cond_true,Option.map_eq_some_iff]at a1;obtain⟨r,e4,rfl⟩:=a1;have e1:=Nat.eq_of_beq_eq_true e1;have a3:=Nat.eq_of_beq_eq_true a3;rw[List.mapM_cons]at Q;simp only[Option.bind_eq_bind,Option.bind_eq_some_iff,Option.pure_def,Option.some.injEq]at Q;obtain⟨K,L,rs,V,rfl⟩:=Q;obtain⟨d2,ys,a6,c4⟩:=c7 m f.type _ K l L e3 (W K (by simp));obtain⟨a9,a7,c5⟩:=f3 fs (o+l.length) rs r V e4 λK c3=>W K (by simp[c3]);refine⟨ys++a9,by simp[a6,a7],λj t v=>?_⟩;by_cases T:j<l.length
       ·rw[List.getElem?_append_left T]at v;obtain⟨u,U,Y⟩:=c4 j t v;refine⟨u,?_,?_⟩
        ·rw[List.getElem?_take]at U;split at U
         ·rw[List.getElem?_drop]at U;rw[<-U,e1];congr 1;omega
         ·simp at U
        ·have:(ys++a9).getD j (.i 0)=ys.getD j (.i 0):=by simp[List.getD,List.getElem?_append_left (show j<ys.length by omega)]
         rw[this];exact Y
       ·rw[List.getElem?_append_right (by omega)]at v;obtain⟨u,U,Y⟩:=c5 (j-l.length) t v;refine⟨u,?_,?_⟩
        ·rw[<-U];congr 1;omega
        ·have:(ys++a9).getD j (.i 0)=a9.getD (j-l.length) (.i 0):=by simp[List.getD,List.getElem?_append_right (show ys.length<=j by omega),a6]
         rw[this];exact Y
  simp only[shT]at y;split at y
  ·rename_i J;injection y with y;subst y;unfold DataW.trod at h;rw[J]at h;split at h<;>simp_all;exact⟨[.b _],F0 rfl trivial⟩
  ·rename_i J;injection y with y;subst y;unfold DataW.trod at h;rw[J]at h;split at h<;>simp_all;cases‹IntKind.i64=_›;obtain⟨⟨rfl,c2⟩,rfl⟩:=h;exact⟨[.i _],F0 ⟨rfl,aIq c2⟩ trivial⟩
  ·rename_i J;injection y with y;subst y;unfold DataW.trod at h;rw[J]at h;split at h<;>simp_all;obtain⟨c2,rfl⟩:=h;rename_i e0;exact⟨[.s e0.data.toList],F0 ⟨rfl,by show e0.data.toList.length<=_;rw[Array.length_toList];exact c2⟩ trivial⟩
  ·rename_i e J;obtain⟨el,Q,c⟩:=Option.bind_eq_some_iff.1 y;cases G:(Nat.beq (P.cellsOf e) el.length&&Nat.ble 1 el.length)with
   |false=>rw[G]at c;simp at c
   |true=>
    rw[G]at c;injection c with c;subst c;rw[Bool.and_eq_true]at G;have c8:=Nat.eq_of_beq_eq_true G.1;have f4:=Nat.le_of_ble_eq_true G.2;rcases DataW.trod_slice J h with⟨rfl,rfl⟩ |⟨a,s,e2,C,g0,f5,b7,rfl,hx,f6,d2,e9,c0,d1,f9,f8⟩
    ·refine⟨rfl,[.l []],F0 Ii ⟨Nat.zero_le _,λi g=>absurd g (Nat.not_lt_zero _)⟩⟩
    ·injection b7 with b7;subst b7;have f7:Rows.uptoBulkAll (C.map (·.1))+1<=N:=by
      rw[hx]at a4;simp only[Rows.uptoBulk]at a4;omega
     have e7:s<=N:=by have:=length_le (C.map (·.1));rw[List.length_map,c0]at this;omega
     have f2:0<s->a.spot=none:=λc9=>by
      have hg:=d1 0 c9;have b4:C[0]?=some C[0]:=by simp[c0,c9]
      rw[b4]at hg;obtain⟨a2,L,V⟩:=Option.bind_eq_some_iff.1 hg;obtain⟨_,Y,c6⟩:=World.cells?_some L;have F:=c6 0 (by omega);have b3:a2[0]?=some a2[0]:=by simp[Y]
      rw[b3]at F;have:=World.cell?_spot F;simpa[Addr.add]using this
     have b5:∀i,i<s->∃ys:LD,ys.length=el.length/\∀(j:Nat)(t:LT),el[j]?=some t->a.spot=none/\∃u,w.cell? ⟨a.block,a.off+i*el.length+j,none⟩=some u/\yQ w (vU (Gh.top w) []) t u (ys.getD j (.i 0))/\SzL N t (ys.getD j (.i 0)):=λi g=>by
      have hg:=d1 i g;have b4:C[i]?=some C[i]:=by simp[c0,g]
      rw[b4]at hg;obtain⟨a2,L,V⟩:=Option.bind_eq_some_iff.1 hg;have f0:Rows.uptoBulk (C[i]).1 <=N:=by have:=p9 (d:=(C[i]).1) (l:=C.map (·.1)) (List.mem_map.2 ⟨C[i],List.getElem_mem _,rfl⟩);omega
      obtain⟨b3,ys,a6,c4⟩:=c7 n e a2 C[i] el V Q f0;obtain⟨_,Y,c6⟩:=World.cells?_some L;refine⟨ys,a6,λj t v=>?_⟩;obtain⟨u,a7,c5⟩:=c4 j t v;have T:j<P.cellsOf e:=by have:=(List.getElem?_eq_some_iff.1 v).1;omega
      have F:=c6 j T;rw[Nat.zero_add]at a7;rw[a7]at F;have c1:a.spot=none:=f2 (by omega);refine⟨c1,u,?_,c5⟩;obtain⟨b,off,g1⟩:=a;simp only at c1;subst c1;rw[Go.WideShapes.add_plain,Go.WideShapes.add_plain,c8]at F;exact F
     let f:Nat->LD:=λi=>if g:i<s then Classical.choose (b5 i g)else[]
     have hf:∀i,i<s->(f i).length=el.length/\∀(j:Nat)(t:LT),el[j]?=some t->a.spot=none/\∃u,w.cell? ⟨a.block,a.off+i*el.length+j,none⟩=some u/\yQ w (vU (Gh.top w) []) t u ((f i).getD j (.i 0))/\SzL N t ((f i).getD j (.i 0)):=λi g=>by have:f i=Classical.choose (b5 i g):=dif_pos g;rw[this];exact Classical.choose_spec (b5 i g)
     have d0:∀i,i<s->((List.range s).map λi=>zS (f i)).getD i (.i 0)=zS (f i):=λi g=>by simp[List.getD,g]
     have b1:(D.l ((List.range s).map λi=>zS (f i))).els.length=s:=by show((List.range s).map _).length=s;simp
     refine⟨rfl,[.l ((List.range s).map λi=>zS (f i))],F0 ⟨some a,s,e2,rfl,b1,d2,e9,(λh=>by cases h),λad b2 f1=>?_⟩ ⟨by rw[b1];exact e7,λi g=>?_⟩⟩
     ·injection b2 with b2;subst b2;obtain⟨t0,d3⟩:∃t0,el[0]?=some t0:=⟨el[0],by simp⟩;refine⟨((hf 0 f1).2 0 t0 d3).1,λi g=>?_⟩;obtain⟨b6,a5⟩:=hf i g;have e6:a.block<w.heap.size:=by
       obtain⟨_,u,F,_⟩:=a5 0 t0 d3;rcases Nat.lt_or_ge a.block w.heap.size with b0 |b0
       ·exact b0
       ·simp[World.cell?,Array.getElem?_eq_none b0]at F
      refine Sj (aGs e6) el 0 λj t v=>?_;have T:j<el.length:=(List.getElem?_eq_some_iff.1 v).1;obtain⟨_,u,F,W,_⟩:=a5 j t v;refine⟨u,?_,?_⟩
      ·rw[Nat.zero_add];exact F
      ·show yQ w _ t u (lf el.length (((List.range s).map λi=>zS (f i)).getD i (.i 0)) (0+j));rw[d0 i g,Nat.zero_add,JL b6 j T];exact W
     ·have g:i<s:=by rw[b1]at g;exact g
      obtain⟨b6,a5⟩:=hf i g;refine aDB el 0 λj t v=>?_;have T:j<el.length:=(List.getElem?_eq_some_iff.1 v).1;show SzL N t (lf el.length (((List.range s).map λi=>zS (f i)).getD i (.i 0)) (0+j));rw[d0 i g,Nat.zero_add,JL b6 j T];obtain⟨_,u,_,_,W⟩:=a5 j t v;exact W
  ·rename_i fs J;obtain⟨l,Q,c⟩:=Option.bind_eq_some_iff.1 y;cases G:Nat.beq (P.cellsOf t) l.length with
   |false=>rw[G]at c;simp at c
   |true=>
    rw[G]at c;injection c with c;subst c;have c8:=Nat.eq_of_beq_eq_true G;unfold DataW.trod at h;rw[J]at h;simp only at h;split at h
    ·rename_i b3;obtain⟨xs,L,V⟩:=Option.map_eq_some_iff.1 h;refine⟨by omega,e5 n fs.toList 0 xs l L Q λK c3=>?_⟩;rw[<-V]at a4;simp only[Rows.uptoBulk]at a4;have:=p9 (d:=K.1) (l:=xs.map (·.1)) (List.mem_map.2 ⟨K,c3,rfl⟩);omega
    ·simp at h
  ·simp at y
end
end Go.Eng.Q

namespace Go.Eng.Q
open Go.Eng Go.Proofs
theorem aDw{w:World}{ok:Nat->Prop}{o:Bool}{e:TypeId}{el:List LT}{v:Value}{x:D}(h:yQ w ok (.sl o e el) v x){i:Nat}(r:i<x.els.length):∃b off,s7 w ok el b off el.length (gD x.els i) 0:=by
 obtain⟨a,n,c,g,j,l,m,d,f⟩:=h;cases a with
 |none=>have:=d rfl;omega
 |some ad=>exact⟨_,_,(f ad rfl (by omega)).2 i (by omega)⟩
theorem aDA{w:World}{ok:Nat->Prop}{k:Nat}{x:D}:∀{ts:List LT}{b o d:Nat},s7 w ok ts b o k x d->∀{j:Nat}{t:LT},ts[j]?=some t->∃v,yQ w ok t v (lf k x (d+j))
 |[],_,_,_,_,j,t,c=>by simp at c
 |t0::ts,b,o,d,⟨_,⟨v,_,f⟩,e⟩,0,t,c=>by injection c with c;subst c;exact⟨v,f⟩
 |t0::ts,b,o,d,⟨_,_,e⟩,j+1,t,c=>by obtain⟨v,hv⟩:=aDA e (j:=j) (t:=t) (by simpa using c);rw[show d+1+j=d+(j+1)by omega]at hv;exact⟨v,hv⟩
theorem U7{n k:Nat}{x:D}:∀{ts:List LT}{d:Nat},SzC n ts k x d->∀{j:Nat}{t:LT},ts[j]?=some t->SzL n t (lf k x (d+j))
 |[],_,_,j,t,c=>by simp at c
 |t0::ts,d,⟨e,f⟩,0,t,c=>by injection c with c;subst c;exact e
 |t0::ts,d,⟨e,f⟩,j+1,t,c=>by have hv:=U7 f (j:=j) (t:=t) (by simpa using c);rwa [show d+1+j=d+(j+1)by omega]at hv
theorem aGt{x:D}(h:SzL 1048576 (.sl false 42 y3) x):SzM x.els:=λj f b e=>by have c:SzL 1048576 (.sl false 47 [.sl false 50 y0]) (lf 5 (gD x.els j) (0+4)):=U7 (h.2 j f) (j:=4) rfl;have d:SzL 1048576 (.sl false 50 y0) (lf 1 (gD (eX (gD x.els j) 4) b) (0+0)):=U7 (c.2 b e) (j:=0) rfl;exact d.1
theorem aFI{w:World}{ok:Nat->Prop}{v:Value}{x:D}(h:yQ w ok (.sl false 42 y3) v x):aG6 x.els:=λj r b m k s=>by obtain⟨_,_,c⟩:=aDw h r;obtain⟨u,d⟩:=aDA c (j:=4) (t:=.sl false 47 [.sl false 50 y0]) rfl;obtain⟨_,_,e⟩:=aDw d (i:=b) m;obtain⟨v4,f⟩:=aDA e (j:=0) (t:=.sl false 50 y0) rfl;obtain⟨_,_,g⟩:=aDw f (i:=k) s;obtain⟨y,l⟩:=aDA g (j:=4) (t:=.int .i64) rfl;exact l.2
noncomputable def st3(xs gs ts fs:LD)(k b i:Int):St:=(((Ji.put 0 (.agg [.fz [] 62 y4 xs,.fz [] 65 y9 gs,.fz [] 67 y10 ts,.fz [] 42 y3 fs])).put 1 (.int .i64 k)).put 2 (.int .i64 b)).put 3 (.int .i64 i)
theorem aGu(xs gs ts fs:LD)(k b i:Int):fE E 0 (Ug Kh 3).ps [.l [.l xs,.l gs,.l ts,.l fs],.i k,.i b,.i i] Ji=some (st3 xs gs ts fs k b i):=by kernel_rfl
theorem aIr(xs gs ts fs:LD)(k b i:Int):(st3 xs gs ts fs k b i).sl.get 0=.agg [.fz [] 62 y4 xs,.fz [] 65 y9 gs,.fz [] 67 y10 ts,.fz [] 42 y3 fs]:=by kernel_rfl
theorem aIG(xs gs ts fs:LD)(k b i:Int):(st3 xs gs ts fs k b i).sl.get 1=.int .i64 k:=by kernel_rfl
theorem aIH(xs gs ts fs:LD)(k b i:Int):(st3 xs gs ts fs k b i).sl.get 2=.int .i64 b:=by kernel_rfl
theorem aIL(xs gs ts fs:LD)(k b i:Int):(st3 xs gs ts fs k b i).sl.get 3=.int .i64 i:=by kernel_rfl
theorem bx3(xs gs ts fs:LD)(k b i:Int):(st3 xs gs ts fs k b i).bx=[]:=by kernel_rfl
theorem ar3(xs gs ts fs:LD)(k b i:Int):(st3 xs gs ts fs k b i).ar=[]:=by kernel_rfl
theorem rs3:(Ug Kh 3).rs=[.val false [.bool]]:=by kernel_rfl
theorem fn3:(Ug Kh 3).fn=3:=by kernel_rfl
theorem aHq:(Ug Kh 3).ps.length=4:=by kernel_rfl
theorem sh3:shT Tryz.prog 40 27=some [.sl false 62 y4,.sl false 65 y9,.sl false 67 y10,.sl false 42 y3]:=by kernel_rfl
theorem aHr(K:TR Tryz.prog E){w:World}{cs:List Value}{ys:LD}{k b i:Int}(C:VH .i64<=k/\k<=VI .i64)(u:VH .i64<=b/\b<=VI .i64)(y:VH .i64<=i/\i<=VI .i64)(J:cs.length=4)(h:MW w 1048576 [.sl false 62 y4,.sl false 65 y9,.sl false 67 y10,.sl false 42 y3] cs 0 ys):
  Calls Tryz.prog 3 ⟨[.agg ⟨cs⟩,.int .i64 k,.int .i64 b,.int .i64 i]⟩ w λe w'=>e=.returned (.bool true)/\Go.RowKit.Below w.heap.size w w':=by
 obtain⟨L,c⟩:=h;obtain⟨f,a0,b0,_⟩:=c 0 _ rfl;obtain⟨g,a1,b1,_⟩:=c 1 _ rfl;obtain⟨j,a2,b2,_⟩:=c 2 _ rfl;obtain⟨l,a3,m,F⟩:=c 3 _ rfl;have H:cs=[f,g,j,l]:=by
  match cs,J with
  |[p,q,r,s],_=>simp at a0 a1 a2 a3;rw[a0,a1,a2,a3]
 subst H;have G:∀k N n,NM Tryz.prog (yM E k sites N) (rN (yM E k sites N) aZ (Hb E) k n) 3 (Ug Kh 3):=λk N n=>aFY K k N n 3 (Ug Kh 3) (by kernel_rfl) (by kernel_rfl);have key:=Uj (vs:=[.agg ⟨[f,g,j,l]⟩,.int .i64 k,.int .i64 b,.int .i64 i]) G rs3 (aHH (ys.getD 0 (.i 0)).els (ys.getD 1 (.i 0)).els (ys.getD 2 (.i 0)).els (ys.getD 3 (.i 0)).els (aGt F) (aFI m) k b i) (aHq.symm▸rfl) (w:=w) ⟨st3 _ _ _ _ _ _ _,aGu _ _ _ _ _ _ _,bx3 _ _ _ _ _ _ _,ar3 _ _ _ _ _ _ _,λt v hv=>?_⟩
 ·rw[fn3]at key;exact key
 ·match t with
  |0=>rw[aIr];simp at hv;subst hv;exact⟨[f,g,j,l],rfl,f,_,rfl,⟨λd hd=>(by cases hd),λ_=>b0⟩,g,_,rfl,⟨λd hd=>(by cases hd),λ_=>b1⟩,j,_,rfl,⟨λd hd=>(by cases hd),λ_=>b2⟩,l,_,rfl,⟨λd hd=>(by cases hd),λ_=>m⟩,rfl⟩
  |1=>rw[aIG];simp at hv;subst hv;exact⟨rfl,C.1,C.2⟩
  |2=>rw[aIH];simp at hv;subst hv;exact⟨rfl,u.1,u.2⟩
  |3=>rw[aIL];simp at hv;subst hv;exact⟨rfl,y.1,y.2⟩
  |t+4=>simp at hv
end Go.Eng.Q

namespace Go.Proofs.YtglojhiigapkbabGreat
open Go.ChangeShapes Go.WideShapes Go.ChangeAt Go.RowKit
theorem Tryz.own:ownKnob Tryz.prog.godebug=none:=by kernel_rfl
theorem Tryz.laidOut:laidOutB Tryz.prog=true:=by kernel_rfl
theorem Ol{w w':World}(h:Below w.heap.size w w')(d:MemPlace->Prop):w.keptBut w' d:=by
 refine⟨h.os,h.output,λi c=>?_⟩;rw[h.block i c];cases w.heap[i]?with
 |none=>rfl
 |some o=>cases o<;>first|exact⟨rfl,rfl,rfl,λ_ _=>rfl⟩ |exact .inr ⟨rfl,rfl⟩ |rfl
theorem aBp{n:Int}(h:(Lit.int .i64 n).wf=true):Go.Eng.VH .i64<=n/\n<=Go.Eng.VI .i64:=by simp only[Lit.wf,Bool.and_eq_true,decide_eq_true_eq]at h;exact h
set_option maxRecDepth 100000 in
theorem contract(b2:Go.Eng.TR Tryz.prog Go.Eng.Q.E)(H:Type)(enc:TypeId×Value->H)(c:World)(base:Nat)(d:Array Value)(ds gs:List (DataW H))(T:List MemPlace)
  (K:∀(j:Nat)t v,Tryz.f3.params[j]?=some t->d[j]?=some v->Value.okWide Tryz.prog c .any base t v)
  (C:DataW.Whole enc Tryz.prog Tryz.f3.params.toList Rows.baseTellsSpec.vars false c d.toList ds gs T)(G:Rows.uptoSmall H (ds++gs)=true):
  Calls Tryz.prog 3 d c λe r=>∃v,e=.returned v/\Rows.baseTellsSpec.post enc Tryz.prog Tryz.f3 false true false false c d v r:=by
 have f:∀(j:Nat)t v,Tryz.f3.params[j]?=some t->d[j]?=some v->Value.okWide Tryz.prog c .any base t v:=K;have g:=C;obtain⟨p,q,y,a6,rfl,c1,c2⟩:=C;have u:DataW.TrodAll enc Tryz.prog c 0 (λ_=>true) true Tryz.f3.params.toList d.toList ds p:=y;rw[Tryz.params3]at u f;obtain⟨v0,b7,c0,v3,d0,d1,U,V,b6,c3,c4,c5,rfl,rfl,rfl,s,a0,a4,a5⟩:=trodAll_four u;obtain⟨rfl,rfl⟩:=trodVars_none a6;have J:Rows.uptoBulkAll ([d0,d1,U,V]++[])<=1048576:=of_decide_eq_true G;have a7:Rows.uptoBulk d0<=1048576:=by simp only[List.append_nil,Rows.uptoBulkAll]at J;omega
 have l:=f 0 27 v0 rfl rfl;obtain⟨a1,rfl,rfl,rfl,L⟩:=open_int Tryz.underlying3 (f 1 3 b7 rfl rfl) a0;obtain⟨a2,rfl,rfl,rfl,P⟩:=open_int Tryz.underlying3 (f 2 3 c0 rfl rfl) a4;obtain⟨a3,rfl,rfl,rfl,Q⟩:=open_int Tryz.underlying3 (f 3 3 v3 rfl rfl) a5;have Y:=s;obtain⟨W,hf⟩:=s;clear y K G J;simp only[List.append_nil]at g;have b1:∀m∈b6,m.block<c.heap.size:=λm b4=>by simpa using g.lt m (by simp[b4])
 obtain⟨a9,ys,b5⟩:=Go.Eng.Q.q7 W 40 27 _ _ _ hf Go.Eng.Q.sh3 a7;obtain⟨cs,rfl⟩:∃cs,v0=.agg ⟨cs⟩:=by have b3:=Tryz.underlying27;unfold Value.okWide at l;rw[b3]at l;obtain⟨cs,rfl,_⟩:=l;exact⟨cs.toList,rfl⟩
 refine(Go.Eng.Q.aHr b2 (aBp L) (aBp P) (aBp Q) a9 b5).mono λe r⟨b0,F⟩=>?_;subst b0;exact⟨_,rfl,_,_,_,[],_,[],g,trodAll_mk1 (shut_bool Tryz.underlying4 true),
  trodAll_mk4 (Below.trod Tryz.laidOut (by kernel_rfl) (of_decide_eq_true (by kernel_rfl)) Y F b1) (shut_int Tryz.underlying3 L) (shut_int Tryz.underlying3 P) (shut_int Tryz.underlying3 Q),rfl,Ol F _,λh=>by cases h⟩
set_option maxRecDepth 100000 in
theorem lifted(h:Go.Eng.TR Tryz.prog Go.Eng.Q.E)(os:Os)(l:os.Started)(H:Type)(enc:TypeId×Value->H)(F:Stop.Interp):
  ReturnsInHanded {} Tryz.checked os 3 .any ((Rows.OpenSpec.upto Rows.baseTellsSpec).pre6 enc Tryz.prog Tryz.f3 Rows.baseTellsUptoRow.domain false) (((Rows.OpenSpec.upto Rows.baseTellsSpec).at F).post enc Tryz.prog Tryz.f3 false true false false):=by
 refine returnsInHanded_of_cond (C:=Tryz.checked) (s:=Rows.OpenSpec.upto Rows.baseTellsSpec) (k:=Rows.uptoSmall) rfl Tryz.own l (by kernel_rfl) Tryz.func3
  (OpenSpec.witness (enc:=enc) (C:=Tryz.checked) (s:=Rows.OpenSpec.upto Rows.baseTellsSpec) (k:=Rows.uptoSmall) rfl false ⟨#[],#[.agg #[.slice none 0 0,.slice none 0 0,.slice none 0 0,.slice none 0 0],.int .i64 0,.int .i64 0,.int .i64 0],[]⟩ 8 (by kernel_rfl) (by kernel_rfl) (by kernel_rfl)
   (x:=([.agg [.nil,.nil,.nil,.nil],.lit (.int .i64 0),.lit (.int .i64 0),.lit (.int .i64 0)],[],[])) (by kernel_rfl) rfl (by kernel_rfl)) ?_
 intro c base d ds gs e j f _ g _;exact contract h H enc c base d ds gs e j f g
theorem aIs(c:Go.Eng.TR Tryz.prog Go.Eng.Q.E):Rows.BaseTellsUptoSaid:=
 OpenClaim.holds_of_cond 3 Tryz.f3 rfl rfl rfl rfl rfl rfl rfl ⟨rfl,rfl,rfl,rfl,rfl⟩ rfl rfl rfl rfl rfl (by kernel_rfl) Tryz.func3 (by kernel_rfl)
  (of_decide_eq_true (by kernel_rfl)) (by unfold Func.isWrapper;first|(rw[if_pos (by decide+kernel)];kernel_rfl) |(rw[if_neg (by decide+kernel)];exact⟨rfl,rfl⟩))
  (λos d H enc _ F=>lifted c os d H enc F)
theorem baseTells_holds:Rows.BaseTellsUptoSaid:=aIs Go.Eng.Q.aE2
end Go.Proofs.YtglojhiigapkbabGreat
