/- The law BaseAll answers true for every module that may be handed in: BaseAllUptoSaid. Conditions: none beside the statement's own. -/
import Derived.Test.YtglojhiigapkbaaGreatLawB
import Derived.Shelf.SlSortCmp.NoneTotal
import Derived.WalkKit
import Derived.Test.YtglojhiigapkbaaGreatRows
import Derived.ProofKit
import Derived.JoinedCond
set_option linter.unusedSimpArgs false
set_option linter.unusedVariables false
namespace Go.Eng.Q
open Go.Eng
def aDA(s:Int):Option Int->List D
 |some a=>[.i 1,.i (aG .i64 s a)]
 |none=>[.i 2,.i 0]
theorem aD6:I64 0:=⟨by decide,by decide⟩
theorem Zf{n:Nat}{df:Nat->D}{rk:Nat->Nat}(h:Rk n df rk)(e:∀v m,PF df v=some m->I64 m){v:Nat}(hv:v<n){a:Int}(c:gY df rk v=some a):I64 a:=by
 rw[JK h hv]at c;split at c
 ·injection c with c;rw[<-c];exact aD6
 ·split at c
  ·cases e1:gY df rk (eT (df v) 0)with
   |none=>rw[e1]at c;cases c
   |some x=>
    rw[e1]at c;cases d:PF df (eT (df v) 1)with
    |none=>rw[d]at c;cases c
    |some m=>rw[d]at c;injection c with c;rw[<-c];exact aCh (e _ _ d)
  ·cases c
def aCj(bs:List D):Prop:=∀b,b<bs.length->∀k,k<(gD bs b).els.length->I64 (vI (gD (gD bs b).els k) 4)
section
variable{n1 n2 nf:Nat}{xs fs ps bs:List D}{r:Int}(h:Tl n1 n2 nf xs fs ps bs r)(hI:aCj bs)(nm:List UInt8)(o:Bool)
include hI in
theorem N5:∀v m,PF (dD ps.length bs) v=some m->I64 m:=λv m c=>by
 unfold PF at c;split at c
 ·rename_i e;injection c with c;by_cases d:∃q,JZ ps.length bs v q
  ·obtain⟨q,d⟩:=d;rw[<-c,AH d];exact hI q.1 d.b q.2 d.k
  ·have:dD ps.length bs v=QF:=by unfold dD;rw[dif_neg d]
   rw[this]at e;cases e
 ·cases c
include h hI
theorem Pa:∀(c v:Nat),nP ps.length bs v<c->v<nv ps bs->∀s:Int,I64 s->
  fC ZU 0 [.i (v:Int),.i s,.s nm,.b o,.l ps,.i r,.l bs,.i 0,.i 0] (0,aDA s (gY (dD ps.length bs) (nP ps.length bs) v))
 |0,v,W,_,_,_=>absurd W (by omega)
 |c+1,v,W,hv,s,b2=>by
  have P:=Af h;have d:=JK P.rk hv;have g:=N4 h nm o v;by_cases f:∃q,JZ ps.length bs v q
  ·obtain⟨⟨b,k⟩,f⟩:=f;have L:Ej ps.length bs v=.l [.i (b:Int),.i (k:Int)]:=by unfold Ej;rw[EZ f]
   have a5:=f.b;have a6:=f.k;have G:aA (b:Int) bs.length=true:=aE a5;have H:aA (k:Int) (gD bs b).els.length=true:=aE a6;have lb:aT (b:Int) 0=false:=MT (by omega);have T:=P.rk.fall v hv;rw[L]at g;rw[AH f]at d T;simp only at d T;have b0:vI (D.l (Do (gD (gD bs b).els k))) 0=vI (gD (gD bs b).els k) 0:=rfl;have b4:eX (D.l (Do (gD (gD bs b).els k))) 5=eX (gD (gD bs b).els k) 5:=rfl;have V:∀j,eT (D.l (Do (gD (gD bs b).els k))) j=eT (gD (gD bs b).els k) j:=λj=>rfl;rw[b0,V,V]at d;by_cases e1:vI (gD (gD bs b).els k) 0=18\/vI (gD (gD bs b).els k) 0=3
   ·rw[if_pos e1]at d;refine xR yA ?_;rw[d];show Ev _ _ (jH _) (.out (0,[.i 1,.i (aG .i64 s 0)]));rw[aFR b2];unfold jH;refine bK g rfl (aJ lb (aC G (aC H ?_)));rcases e1 with e1 |e1
    ·exact aC ((bT _ _).2 e1) (aC ((bT _ _).2 e1) (bG rfl))
    ·exact aJ (lY (a:=vI (gD (gD bs b).els k) 0) (by omega)) (aC ((bT _ _).2 e1) (bG rfl))
   ·rw[if_neg e1]at d;have J:aD (vI (gD (gD bs b).els k) 0) 18=false:=lY λe=>e1 (.inl e);have K:aD (vI (gD (gD bs b).els k) 0) 3=false:=lY λe=>e1 (.inr e);by_cases l:vI (gD (gD bs b).els k) 0=19
    ·rw[if_pos l]at d;obtain⟨Q,u,w,y,C,U,b6,b7⟩:=T l;rw[b4]at Q;have y:oM (gD (gD bs b).els k) 0=(u:Int):=y;have C:oM (gD (gD bs b).els k) 1=(w:Int):=C;have a3:eT (gD (gD bs b).els k) 0=u:=by unfold eT;rw[y];rfl
     have a4:eT (gD (gD bs b).els k) 1=w:=by unfold eT;rw[C];rfl
     rw[a3,a4]at d;have t:=aCi h nm o w;rw[<-C]at t;have b3:aA 0 (eX (gD (gD bs b).els k) 5).length=true:=by rw[Q];rfl
     have a0:aA 1 (eX (gD (gD bs b).els k) 5).length=true:=by rw[Q];rfl
     cases F:PF (dD ps.length bs) w with
     |none=>
      have a7:gY (dD ps.length bs) (nP ps.length bs) v=none:=by rw[d,F];cases gY (dD ps.length bs) (nP ps.length bs) u<;>rfl
      rw[F]at t;refine xR yA ?_;rw[a7];show Ev _ _ (jH _) _;unfold jH;refine bK g rfl (aJ lb (aC G (aC H (aJ J (aJ K ?_)))));unfold zS;exact aC ((bT _ _).2 l) (aC a0 (bK t rfl (aC rfl (bG rfl))))
     |some m=>
      have Y:=N5 hI w m F;have b5:=Pa c u (by omega) U (aG .i64 s m) (aCh Y);rw[F]at t d;have b1:aDA (aG .i64 s m) (gY (dD ps.length bs) (nP ps.length bs) u)=aDA s (gY (dD ps.length bs) (nP ps.length bs) v):=by
       rw[d];cases a9:gY (dD ps.length bs) (nP ps.length bs) u with
       |none=>rfl
       |some a=>have a2:=Zf P.rk (N5 hI) U a9;show[D.i 1,.i (aG .i64 (aG .i64 s m) a)]=[D.i 1,.i (aG .i64 s (aG .i64 a m))];rw[N3 Y a2]
      rw[<-b1];refine rK yA ?_ b5;show Ev _ _ (jH _) _;unfold jH;refine bK g rfl (aJ lb (aC G (aC H (aJ J (aJ K ?_)))));unfold zS;refine aC ((bT _ _).2 l) (aC a0 (bK t rfl (aJ rfl (aC b3 (aO ?_)))));show _=[D.i (oM (gD (gD bs b).els k) 0),_,_,_,_,_,_,_,_];rw[y];rfl
    ·rw[if_neg l]at d;refine xR yA ?_;rw[d];show Ev _ _ (jH _) _;unfold jH;refine bK g rfl (aJ lb (aC G (aC H (aJ J (aJ K ?_)))));unfold zS;exact aJ (lY l) (bG rfl)
  ·have L:Ej ps.length bs v=.l [.i (-1),.i (-1)]:=by unfold Ej Tv;rw[dif_neg f]
   have a1:dD ps.length bs v=QF:=by unfold dD;rw[dif_neg f]
   rw[L]at g;rw[a1]at d;have d:gY (dD ps.length bs) (nP ps.length bs) v=none:=d;refine xR yA ?_;rw[d];show Ev _ _ (jH _) _;unfold jH;exact bK g rfl (aC rfl (bG rfl))
theorem N6(v:Nat)(hv:v<nv ps bs):iS E aY sites Sc [pM nm o ps r bs,.i (v:Int)] (AI (gY (dD ps.length bs) (nP ps.length bs) v)) []:=by
 have d:=Pa h hI nm o _ v (Nat.lt_succ_self _) hv 0 aD6;have e:D.l (aDA 0 (gY (dD ps.length bs) (nP ps.length bs) v))=AI (gY (dD ps.length bs) (nP ps.length bs) v):=by
  cases f:gY (dD ps.length bs) (nP ps.length bs) v with
  |none=>rfl
  |some a=>have c:=Zf (Af h).rk (N5 hI) hv f;show D.l [D.i 1,.i (aG .i64 0 a)]=D.l [D.i 1,.i a];rw[Kv c,Int.zero_add,uJ c.1 c.2]
 refine bA yA (by rfl) rfl ?_;show Ev _ _ (ZE _) _;unfold ZE;refine aP d (bD (bJ ?_ rfl));rw[<-e];cases gY (dD ps.length bs) (nP ps.length bs) v<;>rfl
noncomputable abbrev NJ(ps bs:List D)(j v:Nat):D:=if v<j then(if(gD (bE ps bs) v).toI=3 then AI (gY (dD ps.length bs) (nP ps.length bs) v)else z2)else z2
theorem Zg(y:(gD (bE ps bs) 0).toI≠3):iS E aY sites Hx [pM nm o ps r bs] (.l (wW (nv ps bs) (bE ps bs) (dD ps.length bs) (nP ps.length bs))) []:=by
 have F:=h.n;have f:(bE ps bs).length=nv ps bs:=yD ps bs;have G:nv ps bs<=400:=by unfold nv;omega
 refine bA SM (by rfl) rfl ?_;show Ev _ _ (RO _) _;unfold RO;have s:fC SL 0 [.i 1,.s nm,.b o,.l ps,.i r,.l bs,.l (aM (nv ps bs) (NJ ps bs 1)),.l (bE ps bs)] (0,[.l (aM (nv ps bs) (NJ ps bs (nv ps bs)))]):=by
  refine cI SM (λj=>[.i ((j+1:Nat):Int),.s nm,.b o,.l ps,.i r,.l bs,.l (aM (nv ps bs) (NJ ps bs (j+1))),.l (bE ps bs)]) (nv ps bs-1) (λj C=>?_) ?_
  ·have c:j+1<nv ps bs:=by omega
   have w:aA ((j+1:Nat):Int) (bE ps bs).length=true:=by rw[f];exact aE c
   show Ev _ _ (uM _) _;unfold uM;refine aC ?_ (aC w ?_)
   ·show aT ((j+1:Nat):Int) ((bE ps bs).length:Int)=true;rw[f];exact aW c
   by_cases g:(gD (bE ps bs) (j+1)).toI=3
   ·refine aC ((bT _ _).2 g) (bK (N6 h hI nm o (j+1) c) rfl (aC ?_ (aO ((nx c (by omega) [] _).trans ?_))))
    ·show aA ((j+1:Nat):Int) (aM (nv ps bs) (NJ ps bs (j+1))).length=true;rw[cQ];exact aE c
    have u:NJ ps bs (j+1) (j+1)=z2:=if_neg (by omega);have e:∀x:D,AI (gY (dD ps.length bs) (nP ps.length bs) (j+1))=x->aM (nv ps bs) (eZ (NJ ps bs (j+1)) (j+1) x)=aM (nv ps bs) (NJ ps bs (j+2)):=λx hx=>dL λi _=>by
     by_cases e:i=j+1
     ·subst e;rw[eP,<-hx];unfold NJ;rw[if_pos (by omega),if_pos g]
     ·rw[mV _ _ e];unfold NJ;by_cases d:i<j+1
      ·rw[if_pos d,if_pos (show i<j+2 by omega)]
      ·rw[if_neg d,if_neg (show¬i<j+2 by omega)]
    show[D.i (aG .i64 ((j+1:Nat):Int) 1),.s nm,.b o,.l ps,.i r,.l bs,.l (aM (nv ps bs) (NJ ps bs (j+2))),.l (bE ps bs)]=_;cases t:gY (dD ps.length bs) (nP ps.length bs) (j+1)with
    |none=>rw[t]at e;rw[<-e _ rfl];rw[<-Ek (n:=nv ps bs) _ c u none 2 0 rfl z2];rfl
    |some a=>rw[t]at e;rw[<-e _ rfl];rw[<-Ek (n:=nv ps bs) _ c u (some a) 1 a rfl z2];rfl
   ·refine aJ (lY g) (aO ((nx c (by omega) [] _).trans ?_));have e:aM (nv ps bs) (NJ ps bs (j+1))=aM (nv ps bs) (NJ ps bs (j+2)):=dL λi _=>by
     unfold NJ;by_cases d:i<j+1
     ·rw[if_pos d,if_pos (show i<j+2 by omega)]
     ·rw[if_neg d];by_cases l:i<j+2
      ·have:i=j+1:=by omega
       subst this;rw[if_pos l,if_neg g]
      ·rw[if_neg l]
    show[D.i (aG .i64 ((j+1:Nat):Int) 1),.s nm,.b o,.l ps,.i r,.l bs,.l (aM (nv ps bs) (NJ ps bs (j+2))),.l (bE ps bs)]=_;rw[<-e];rfl
  ·have e:nv ps bs-1+1=nv ps bs:=by unfold nv;omega
   show Ev _ _ (uM _) _;unfold uM;rw[e];refine aJ ?_ (bG rfl);show aT (nv ps bs:Int) ((bE ps bs).length:Int)=false;rw[f];exact aX _
 have e1:aM (nv ps bs) (NJ ps bs (nv ps bs))=wW (nv ps bs) (bE ps bs) (dD ps.length bs) (nP ps.length bs):=dL λi m=>if_pos m;have v:aM (nv ps bs) (NJ ps bs 1)=List.replicate (bE ps bs).length (D.l [.i 0,.i 0]):=by
  rw[f,<-qT];refine dL λi m=>?_;unfold NJ;by_cases e:i<1
  ·have:i=0:=by omega
   subst this;rw[if_pos e,if_neg y]
  ·rw[if_neg e]
 rw[e1,v]at s;refine bK (NA nm o ps r bs h.tp h.tb) rfl (aC ?_ (aP s (bD (bJ rfl rfl))));show(cP 0 ((bE ps bs).length:Int)&&(aD ((bE ps bs).length:Int) ((bE ps bs).length:Int)&&iP (Int.toNat ((bE ps bs).length:Int)) 16))=true;rw[jA (by omega),pF];exact eM (by show(bE ps bs).length<=_;omega) (by omega)
end
end Go.Eng.Q

namespace Go.Eng.Q
open Go.Eng
def pO(x:SP):List SP->Nat
 |[]=>0
 |y::l=>if sE y x=true then pO x l+1 else 0
theorem WU(x:SP):∀l,pO x l<=l.length
 |[]=>Nat.le_refl _
 |y::l=>by
  have:=WU x l;unfold pO;split
  ·simp;omega
  ·omega
theorem X5(x:SP):∀(l:List SP)(k:Nat),k<pO x l->sE (gP l k) x=true
 |[],k,h=>absurd h (by unfold pO;omega)
 |y::l,k,h=>by
  unfold pO at h;split at h
  ·rename_i e;cases k with
   |zero=>exact e
   |succ k=>exact X5 x l k (by omega)
  ·omega
theorem Zh(x:SP):∀(l:List SP),pO x l<l.length->sE (gP l (pO x l)) x=false
 |[],h=>absurd h (by simp)
 |y::l,h=>by
  unfold pO at h⊢;split at h
  ·rename_i e;rw[if_pos e];exact Zh x l (by simp at h;omega)
  ·rename_i e;rw[if_neg e];cases c:sE y x with
   |true=>exact absurd c e
   |false=>exact c
def TB(a:List SP)(x:SP):List SP:=a.take (pO x a)++([x]++a.drop (pO x a))
theorem Zi{a:List SP}{x c:SP}:c∈TB a x<->c∈a\/c=x:=by
 unfold TB;have e:c∈a<->c∈a.take (pO x a)\/c∈a.drop (pO x a):=by rw[<-List.mem_append,List.take_append_drop]
 rw[e,List.mem_append,List.mem_append,List.mem_singleton];constructor
 ·rintro(h |h |h)
  ·exact .inl (.inl h)
  ·exact .inr h
  ·exact .inl (.inr h)
 ·rintro((h |h) |h)
  ·exact .inl h
  ·exact .inr (.inr h)
  ·exact .inr (.inl h)
theorem aCk(a:List SP)(x:SP):(TB a x).length=a.length+1:=by have:=WU x a;unfold TB;simp;omega
theorem Pb:∀(a:List SP)(x:SP),GX a->x∉a->GX (TB a x)
 |[],x,_,_=>List.pairwise_singleton _ _
 |y::l,x,h,hx=>by
  obtain⟨m,r⟩:=List.pairwise_cons.1 h;have s:x∉l:=λf=>hx (List.mem_cons_of_mem _ f);by_cases e:sE y x=true
  ·have d:TB (y::l) x=y::TB l x:=by unfold TB;rw[show pO x (y::l)=pO x l+1 from if_pos e];rfl
   rw[d];refine List.pairwise_cons.2 ⟨λz c=>?_,Pb l x r s⟩;rcases Zi.1 c with c |rfl
   ·exact m z c
   ·exact e
  ·have d:TB (y::l) x=x::y::l:=by unfold TB;rw[show pO x (y::l)=0 from if_neg e];rfl
   rw[d];have j:sE x y=true:=by
    have:sE y x=false:=by cases f:sE y x with|true=>exact absurd f e |false=>rfl
    rcases NF.1 this with g |g
    ·exact absurd (List.mem_cons.2 (.inl g)) hx
    ·exact g
   refine List.pairwise_cons.2 ⟨λz c=>?_,h⟩;rcases List.mem_cons.1 c with rfl |c
   ·exact j
   ·exact JH j (m z c)
def wX(a:List SP)(x:SP):List SP:=if x∈a then a else TB a x
def AM(a b:List SP):List SP:=b.foldl wX a
theorem x7{a:List SP}{x c:SP}:c∈wX a x<->c∈a\/c=x:=by
 unfold wX;split
 ·rename_i h;constructor
  ·exact .inl
  ·rintro(d |rfl)
   ·exact d
   ·exact h
 ·exact Zi
theorem N7{a:List SP}{x:SP}(h:GX a):GX (wX a x):=by
 unfold wX;split
 ·exact h
 ·rename_i c;exact Pb a x h c
theorem x8(a:List SP)(x:SP):(wX a x).length<=a.length+1:=by
 unfold wX;split
 ·omega
 ·rw[aCk];omega
theorem GZ:∀{b a:List SP}{c:SP},c∈AM a b<->c∈a\/c∈b
 |[],a,c=>by unfold AM;simp
 |x::b,a,c=>by show c∈AM (wX a x) b<->_;rw[GZ,x7,List.mem_cons,or_assoc]
theorem DS:∀{b a:List SP},GX a->GX (AM a b)
 |[],_,h=>h
 |x::b,a,h=>by show GX (AM (wX a x) b);exact DS (N7 h)
theorem Ag:∀(b a:List SP),(b.foldl wX a).length<=a.length+b.length
 |[],a=>Nat.le_refl _
 |x::b,a=>by have c:=Ag b (wX a x);have d:=x8 a x;simp only[List.foldl_cons,List.length_cons];omega
theorem N8(l:List SP)(x:SP)(J:l.length<=1000000):iS E aY sites LU [eG l,eE x] (.b (decide (x∈l))) []:=by
 refine bA yM (by rfl) rfl ?_;show Ev _ _ (FM _) _;unfold FM;have H:((l.map eE).length:Int)<=9223372036854775807:=by rw[List.length_map];omega
 have s:∀g:SP,(aD (vI (eE g) 0) (x.1.val:Int)&&(aD (vI (eE g) 1) (x.2.val:Int)&&true))=decide (g=x):=λg=>eqS g x;have t:∀j,j<(l.map eE).length->gP l j≠x->sA E aY sites pA (pA.F.lp 0 [.l (l.map eE),.i (j:Int),.i (x.1.val:Int),.i (x.2.val:Int)]) (.again [.l (l.map eE),.i ((j+1:Nat):Int),.i (x.1.val:Int),.i (x.2.val:Int)]):=λj d G=>by
  have h:j<l.length:=by rw[List.length_map]at d;exact d
  have hg:=NG h;have m:(aD (vI (gD (l.map eE) j) 0) (x.1.val:Int)&&(aD (vI (gD (l.map eE) j) 1) (x.2.val:Int)&&true))=false:=by rw[hg,s,decide_eq_false G]
  show Ev _ _ (jV _) _;unfold jV;exact aC (aW d) (aC (aE d) (aJ m (aO (nx d H [_] _))))
 by_cases hx:x∈l
 ·obtain⟨j,d,C,F⟩:∃j,j<l.length/\gP l j=x/\∀i,i<j->gP l i≠x:=by
   have u:dS l.length (λj=>decide (gP l j=x))=true:=by
    cases e:dS l.length (λj=>decide (gP l j=x))with
    |true=>rfl
    |false=>
     obtain⟨i,c,rfl⟩:=List.mem_iff_getElem.1 hx;have:=bQ.1 e i c;have f:gP l i=l[i]:=by simp[gP,c]
     rw[f,decide_eq_true rfl]at this;cases this
   obtain⟨j,v,y,f⟩:=xS u;exact⟨j,v,of_decide_eq_true y,λi c=>of_decide_eq_false (f i c)⟩
  have h:j<(l.map eE).length:=by rw[List.length_map];exact d
  have r:fC pA 0 [.l (l.map eE),.i 0,.i (x.1.val:Int),.i (x.2.val:Int)] (0,[.b true]):=by
   refine cI yM (λj=>[.l (l.map eE),.i (j:Int),.i (x.1.val:Int),.i (x.2.val:Int)]) j (λi c=>t i (by omega) (F i c)) ?_;have m:(aD (vI (gD (l.map eE) j) 0) (x.1.val:Int)&&(aD (vI (gD (l.map eE) j) 1) (x.2.val:Int)&&true))=true:=by rw[NG d,s,decide_eq_true C]
   show Ev _ _ (jV _) _;unfold jV;exact aC (aW h) (aC (aE h) (aC m (bG rfl)))
  rw[decide_eq_true hx];exact aP r (bD (bJ rfl rfl))
 ·have r:fC pA 0 [.l (l.map eE),.i 0,.i (x.1.val:Int),.i (x.2.val:Int)] (1,[]):=by
   refine cI yM (λj=>[.l (l.map eE),.i (j:Int),.i (x.1.val:Int),.i (x.2.val:Int)]) (l.map eE).length (λi c=>t i c λe=>hx ?_) ?_
   ·rw[List.length_map]at c;have f:gP l i=l[i]:=by simp[gP,c]
    rw[<-e,f];exact List.getElem_mem c
   ·show Ev _ _ (jV _) _;unfold jV;exact aJ (aX _) (bG rfl)
  rw[decide_eq_false hx];exact aP r (eB (bD (bJ rfl rfl)))
theorem aFS(c x:SP):(aT (vI (eE c) 0) (vI (eE x) 0)||(aD (vI (eE c) 0) (vI (eE x) 0)&&aT (vI (eE c) 1) (vI (eE x) 1)))=sE c x:=by
 rw[Bool.eq_iff_iff,GW,Bool.or_eq_true,Bool.and_eq_true,bT];show(aT (c.1.val:Int) (x.1.val:Int)=true\/((c.1.val:Int)=(x.1.val:Int))/\aT (c.2.val:Int) (x.2.val:Int)=true)<->_;have h:∀a b:Nat,aT (a:Int) (b:Int)=true<->a<b:=λa b=>by
  constructor
  ·intro h;by_cases e:a<b
   ·exact e
   ·rw[MT (by omega)]at h;cases h
  ·exact aW
 rw[h,h];omega
theorem nb1{q c:Bool}(h:q=false):((!(q&&true))||c)=true:=by rw[h];rfl
theorem nb2{q c z:Bool}(h:q=false):((!((q&&true)&&z))||c)=true:=by rw[h];rfl
theorem nb3{q c z w:Bool}(h:q=false):((!(((q&&true)&&z)&&w))||c)=true:=by rw[h];rfl
theorem aFT{q z:Bool}(h:q=false):(q&&z)=false:=by rw[h];rfl
theorem aE0(b a:List SP){j:Nat}(m:j<b.length)(t:a.length<=1000000):
  fC IQ 2 [eG b,.i 0,.i (j:Int),eG a] (0,[eG b,.i (pO (gP b j) a:Int),.i (j:Int),eG a]):=by
 have c:aA (j:Int) (b.map eE).length=true:=by rw[List.length_map];exact aE m
 have l:=NG m;refine cI IR (λk=>[eG b,.i (k:Int),.i (j:Int),eG a]) (pO (gP b j) a) (λk s=>?_) ?_
 ·have r:k<a.length:=by have:=WU (gP b j) a;omega
  have f:k<(a.map eE).length:=by rw[List.length_map];exact r
  have h:(aT (k:Int) ((a.map eE).length:Int)&&(aT (vI (gD (a.map eE) k) 0) (vI (gD (b.map eE) j) 0)||(aD (vI (gD (a.map eE) k) 0) (vI (gD (b.map eE) j) 0)&&aT (vI (gD (a.map eE) k) 1) (vI (gD (b.map eE) j) 1))))=true:=by rw[NG r,l,aFS,aW f,X5 _ _ _ s];rfl
  have d:=aE f;show Ev _ _ (vG _) _;unfold vG;exact aC (aH d) (aC (aH c) (aC (aH d) (aC (aH c) (aC (aH d) (aC (aH c) (aC h (aO (nx f (by rw[List.length_map];omega) [_] _))))))))
 ·show Ev _ _ (vG _) _;unfold vG;by_cases e:pO (gP b j) a<a.length
  ·have f:pO (gP b j) a<(a.map eE).length:=by rw[List.length_map];exact e
   have d:=aE f;have h:(aT (pO (gP b j) a:Int) ((a.map eE).length:Int)&&(aT (vI (gD (a.map eE) (pO (gP b j) a)) 0) (vI (gD (b.map eE) j) 0)||(aD (vI (gD (a.map eE) (pO (gP b j) a)) 0) (vI (gD (b.map eE) j) 0)&&aT (vI (gD (a.map eE) (pO (gP b j) a)) 1) (vI (gD (b.map eE) j) 1))))=false:=by rw[NG e,l,aFS,Zh _ _ e,Bool.and_false]
   exact aC (aH d) (aC (aH c) (aC (aH d) (aC (aH c) (aC (aH d) (aC (aH c) (aJ h (bG rfl)))))))
  ·have g:aT (pO (gP b j) a:Int) ((a.map eE).length:Int)=false:=by
    have:=WU (gP b j) a;rw[List.length_map];exact MT (by omega)
   exact aC (nb1 g) (aC (aH c) (aC (nb2 g) (aC (aH c) (aC (nb3 g) (aC (aH c) (aJ (aFT g) (bG rfl)))))))
theorem Em(a b:List SP)(J:a.length<=100000)(K:b.length<=100000):iS E aY sites CQ [eG a,eG b] (eG (AM a b)) []:=by
 refine bA IR (by rfl) rfl ?_;show Ev _ _ (RW _) _;unfold RW;have y:fC IQ 0 [eG b,.i 0,eG a] (0,[eG (AM a b)]):=by
  have t:AM a b=(b.take b.length).foldl wX a:=by rw[List.take_length];rfl
  rw[t];refine cI IR (λj=>[eG b,.i (j:Int),eG ((b.take j).foldl wX a)]) b.length (λj f=>?_) ?_
  ·have g:j<(b.map eE).length:=by rw[List.length_map];exact f
   have u:gP b j=b[j]:=by simp[gP,f]
   have F:(b.take (j+1)).foldl wX a=wX ((b.take j).foldl wX a) (gP b j):=by rw[List.take_succ_eq_append_getElem f,List.foldl_append,u];rfl
   have C:=Ag (b.take j) a;rw[List.length_take]at C;generalize P:(b.take j).foldl wX a=c at*;have L:c.length<=200000:=by omega
   have m:=N8 c (gP b j) (by omega);have v:=NG f;have l:D.l [.i (vI (gD (b.map eE) j) 0),.i (vI (gD (b.map eE) j) 1)]=eE (gP b j):=by rw[v];rfl
   rw[<-l]at m;show Ev _ _ (vF _) _;unfold vF;refine aC (aW g) (aC (aE g) (bK m rfl ?_));rw[F];by_cases hx:gP b j∈c
   ·have e:wX c (gP b j)=c:=if_pos hx;rw[e];exact aC (decide_eq_true hx) (aO (nx g (by rw[List.length_map];omega) [_] _))
   ·have e:wX c (gP b j)=TB c (gP b j):=if_neg hx;have H:=WU (gP b j) c;have d:(c.map eE).length=c.length:=List.length_map _;rw[e];have r:cP (pO (gP b j) c:Int) (c.length:Int)=true:=jA (by omega);have h:List.take (c.map eE).length (c.map eE)=c.map eE:=List.take_length;have G:((b.map eE).length:Int)<=9223372036854775807:=by rw[List.length_map];omega
    refine aJ (decide_eq_false hx) (aP (aE0 b c f (by omega)) (bD (aC ?_ (aC (aE g) (aC ?_ (aC ?_ (aC ?_ (aC ?_ (aO ((nx g G [_] _).trans ?_))))))))))
    ·show(cP 0 (pO (gP b j) c:Int)&&cP (pO (gP b j) c:Int) ((c.map eE).length:Int))=true;rw[d,r,jA (by omega)];rfl
    ·show jT (pO (gP b j) c:Int) ((c.map eE).length:Int) ((c.map eE).length:Int)=true;rw[d];unfold jT;simp only[r,jA (show(0:Int)<=(pO (gP b j) c:Int)by omega),jA (Int.le_refl _)];rfl
    ·show iP (1+(List.drop (pO (gP b j) c) (List.take (c.map eE).length (c.map eE))).length) 16=true;rw[h,List.length_drop,d];exact eM (by omega) (by omega)
    ·show Nat.ble (pO (gP b j) c) (c.map eE).length=true;rw[d];exact Nat.ble_eq_true_of_le H
    ·show iP ((List.take (pO (gP b j) c) (c.map eE)).length+([D.l [.i (vI (gD (b.map eE) j) 0),.i (vI (gD (b.map eE) j) 1)]]++List.drop (pO (gP b j) c) (List.take (c.map eE).length (c.map eE))).length) 16=true;rw[h,List.length_append,List.length_take,List.length_drop,d];exact eM (by simp;omega) (by omega)
    ·have s:(TB c (gP b j)).map eE=List.take (pO (gP b j) c) (c.map eE)++([D.l [.i (vI (gD (b.map eE) j) 0),.i (vI (gD (b.map eE) j) 1)]]++List.drop (pO (gP b j) c) (List.take (c.map eE).length (c.map eE))):=by
      rw[h,l];unfold TB;rw[List.map_append,List.map_append,List.map_take,List.map_drop];rfl
     show[D.l (b.map eE),.i (aG .i64 (j:Int) 1),.l ((TB c (gP b j)).map eE)]=_;rw[s];rfl
  ·show Ev _ _ (vF _) _;unfold vF;refine aJ ?_ (bG rfl);show aT (b.length:Int) ((b.map eE).length:Int)=false;rw[List.length_map];exact aX _
 refine aC ?_ (aP y (bD (bJ rfl rfl)));show iP (0+(a.map eE).length) 16=true;rw[List.length_map];exact eM (by omega) (by omega)
end Go.Eng.Q

namespace Go.Eng.Q
open Go.Eng
theorem aCl{l:List SP}(h:GX l)(c:∀x,x∈l->x∈Kn):l.length<=1600:=by rw[<-Ko];exact h.nodup.length_le_of_subset λx hx=>c x hx
theorem HA{l m:List SP}(h:GX l)(c:∀x,x∈l<->x∈m):l=xE m:=Ki h (Kl m) λx=>by rw[c,FB]
theorem Kw(b:Nat->List SP)(v:Nat):gG b v (b v)=b:=funext λu=>by
 unfold gG;split
 ·rename_i e;rw[e]
 ·rfl
section
variable{n1 n2 nf:Nat}{xs fs ps bs:List D}{r:Int}(h:Tl n1 n2 nf xs fs ps bs r)(hng:n2<=12)(nm:List UInt8)(o:Bool)
abbrev st6(nm:List UInt8)(o:Bool)(ps:List D)(r:Int)(bs:List D)(B:Nat)(k:Nat)(q:Bool×(Nat->List SP)):List D:=[.i (k:Int),.b q.1,.i (B:Int),.s nm,.b o,.l ps,.i r,.l bs,.l (cF (nv ps bs) q.2)]
noncomputable def WV(df:Nat->D)(v:Nat)(q:Bool×(Nat->List SP)):Bool×(Nat->List SP):=if(xE (bF df q.2 v)).length=(q.2 v).length then q else(true,gG q.2 v (xE (bF df q.2 v)))
abbrev cW(bs:List D)(B k:Nat):D:=gE (gD bs B) k
theorem X6{v:Nat}(hv:v<nv ps bs)(f:wV (dD ps.length bs) v=true){t:Bool}{b:Nat->List SP}(c:DP (nv ps bs) ps (dD ps.length bs) b):
  gG b v (xE (bF (dD ps.length bs) b v))=(WV (dD ps.length bs) v (t,b)).2 /\(t||!(aD (((xE (bF (dD ps.length bs) b v)).length:Nat):Int) (((b v).length:Nat):Int)))=(WV (dD ps.length bs) v (t,b)).1 :=by
 unfold WV;by_cases e:(xE (bF (dD ps.length bs) b v)).length=(b v).length
 ·have hd:=Ae c hv f e;have d:b v=xE (bF (dD ps.length bs) b v):=HA (c.rise v hv) hd;rw[if_pos e];refine⟨?_,?_⟩
  ·rw[<-d];exact Kw b v
  ·rw[e,pF];cases t<;>rfl
 ·rw[if_neg e];refine⟨rfl,?_⟩;rw[lY (by omega)];cases t<;>rfl
include h hng
omit hng in
theorem Zj{B k v:Nat}(c:JZ ps.length bs v (B,k))(hv:v<nv ps bs)(s:wV (dD ps.length bs) v=true){t:Bool}{b:Nat->List SP}(l:DP (nv ps bs) ps (dD ps.length bs) b){row:D}(u:D.l (D.els row)=eG (xE (bF (dD ps.length bs) b v))):
  sA E aY sites kQ (.ask ((!(!t))||(aA (vI (cW bs B k) 2) (List.length (List.set (cF (nv ps bs) b) (Int.toNat (vI (cW bs B k) 2)) (D.l (D.els row))))))
   (.again (let z0:=Int.toNat (vI (cW bs B k) 2);let e:=List.set (cF (nv ps bs) b) z0 (D.l (D.els row));[.i (aG .i64 (k:Int) 1),.b (t||(!(aD (iE (gD e z0)) (iE (gD (cF (nv ps bs) b) z0))))),.i (B:Int),.s nm,.b o,.l ps,.i r,.l bs,.l e])) .bad)
   (.again (st6 nm o ps r bs B (k+1) (WV (dD ps.length bs) v (t,b)))):=by
 have d:vI (cW bs B k) 2=(v:Int):=Ks h c;obtain⟨g,j⟩:=X6 hv s (t:=t) l;have y:=(h.tb.2 B c.b).ins.sane;refine aC (aH ?_) (aO ((nx c.k y [] _).trans ?_))
 ·rw[d,List.length_set,cQ];exact aE hv
 ·show[D.i (aG .i64 (k:Int) 1),.b (WV (dD ps.length bs) v (t,b)).1,.i (B:Int),.s nm,.b o,.l ps,.i r,.l bs,.l (cF (nv ps bs) (WV (dD ps.length bs) v (t,b)).2)]=_;rw[<-g,<-j,u,d];show _=[D.i (aG .i64 (k:Int) 1),.b (t||(!(aD (iE (gD ((cF (nv ps bs) b).set v (eG (xE (bF (dD ps.length bs) b v)))) v)) (iE (gD (cF (nv ps bs) b) v))))),.i (B:Int),.s nm,.b o,.l ps,.i r,.l bs,.l ((cF (nv ps bs) b).set v (eG (xE (bF (dD ps.length bs) b v))))];have hg:gD (cF (nv ps bs) b) v=eG (b v):=dU _ hv;have m:gD (cF (nv ps bs) (gG b v (xE (bF (dD ps.length bs) b v)))) v=eG (xE (bF (dD ps.length bs) b v)):=by
   refine(dU _ hv).trans ?_;unfold gG;rw[if_pos rfl]
  rw[NH,hg,m];have e1:iE (eG (xE (bF (dD ps.length bs) b v)))=(((xE (bF (dD ps.length bs) b v)).length:Nat):Int):=by show(((List.map eE _).length:Nat):Int)=_;rw[List.length_map]
  have f:iE (eG (b v))=(((b v).length:Nat):Int):=by show(((List.map eE _).length:Nat):Int)=_;rw[List.length_map]
  rw[e1,f]
omit h hng in
def AD(b:Nat->List SP)(v:Nat)(as1:List D):Nat->List SP
 |0=>b v
 |j+1=>AM (AD b v as1 j) (gG b v (AD b v as1 j) (gD as1 j).toI.toNat)
omit h hng in
theorem WW{b:Nat->List SP}{v:Nat}{as1:List D}{x:SP}:∀j,x∈AD b v as1 j<->x∈b v\/∃i,i<j/\x∈b (gD as1 i).toI.toNat
 |0=>by
  show x∈b v<->_;constructor
  ·exact .inl
  ·rintro(h |⟨i,h,_⟩)
   ·exact h
   ·omega
 |j+1=>by
  show x∈AM _ _<->_;rw[GZ,WW j];constructor
  ·rintro(h |h)
   ·rcases h with h |⟨i,f,c⟩
    ·exact .inl h
    ·exact .inr ⟨i,by omega,c⟩
   ·unfold gG at h;split at h
    ·rcases(WW j).1 h with h |⟨i,f,c⟩
     ·exact .inl h
     ·exact .inr ⟨i,by omega,c⟩
    ·exact .inr ⟨j,by omega,h⟩
  ·rintro(h |⟨i,f,c⟩)
   ·exact .inl (.inl h)
   ·by_cases e:i=j
    ·subst e;by_cases d:(gD as1 i).toI.toNat=v
     ·exact .inl (.inl (d▸c))
     ·right;unfold gG;rw[if_neg d];exact c
    ·exact .inl (.inr ⟨i,by omega,c⟩)
omit h hng in
theorem Ah{b:Nat->List SP}{v:Nat}{as1:List D}(c:GX (b v)):∀j,GX (AD b v as1 j)
 |0=>c
 |j+1=>DS (Ah c j)
omit h hng in
theorem aCm{b:Nat->List SP}{v:Nat}{as1:List D}(d:∀i,i<as1.length->∀x,x∈b (gD as1 i).toI.toNat->x∈Kn)(hv:∀x,x∈b v->x∈Kn){j:Nat}(f:j<=as1.length):∀x,x∈AD b v as1 j->x∈Kn:=λx hx=>by
 rcases(WW j).1 hx with h |⟨i,e,c⟩
 ·exact hv x h
 ·exact d i (by omega) x c
omit h hng in
theorem aDB{B k v:Nat}(hv:v<nv ps bs)(t:Bool){b:Nat->List SP}(d:DP (nv ps bs) ps (dD ps.length bs) b)(as1 is1:List D)(l:∀j,j<as1.length->∃u:Nat,(gD as1 j).toI=u/\u<nv ps bs)(V:as1.length<=40)(l0 op ty sym num to:Int)(P:to=(v:Int)):
  fC kQ 9 [.i (k:Int),.b t,.i l0,.i (B:Int),.i 0,.s nm,.b o,.l ps,.i r,.l bs,.i op,.i ty,.i to,.i sym,.i num,.l as1,.l is1,.l (cF (nv ps bs) b)]
   (0,[.i (k:Int),.b t,.i l0,.i (B:Int),.s nm,.b o,.l ps,.i r,.l bs,.i op,.i ty,.i to,.i sym,.i num,.l as1,.l is1,.l (cF (nv ps bs) (gG b v (AD b v as1 as1.length)))]):=by
 subst P;have F:cF (nv ps bs) b=cF (nv ps bs) (gG b v (AD b v as1 0)):=by rw[show AD b v as1 0=b v from rfl,Kw]
 rw[F];refine cI pZ (λj=>[.i (k:Int),.b t,.i l0,.i (B:Int),.i (j:Int),.s nm,.b o,.l ps,.i r,.l bs,.i op,.i ty,.i (v:Int),.i sym,.i num,.l as1,.l is1,.l (cF (nv ps bs) (gG b v (AD b v as1 j)))]) as1.length (λj c=>?_) ?_
 ·obtain⟨u,f,g⟩:=l j c;have Q:∀i,i<as1.length->∀x,x∈b (gD as1 i).toI.toNat->x∈Kn:=λi L x hx=>by
   obtain⟨w,H,J⟩:=l i L;rw[H]at hx;exact d.uni w J x hx
  have C:=aCl (Ah (as1:=as1) (d.rise v hv) j) (aCm Q (d.uni v hv) (Nat.le_of_lt c));have m:gD (cF (nv ps bs) (gG b v (AD b v as1 j))) v=eG (AD b v as1 j):=by refine(dU _ hv).trans ?_;unfold gG;rw[if_pos rfl]
  have s:gD (cF (nv ps bs) (gG b v (AD b v as1 j))) (Int.toNat (gD as1 j).toI)=eG (gG b v (AD b v as1 j) (gD as1 j).toI.toNat):=by rw[f];exact dU _ g
  have U:(gG b v (AD b v as1 j) (gD as1 j).toI.toNat).length<=1600:=by
   unfold gG;split
   ·exact C
   ·rw[f];exact d.len g
  have h:=Em (AD b v as1 j) (gG b v (AD b v as1 j) (gD as1 j).toI.toNat) (by omega) (by omega);rw[<-m,<-s]at h;have y:aA (v:Int) (cF (nv ps bs) (gG b v (AD b v as1 j))).length=true:=by rw[cQ];exact aE hv
  have T:aA (gD as1 j).toI (cF (nv ps bs) (gG b v (AD b v as1 j))).length=true:=by rw[f,cQ];exact aE g
  have K:iS E aY sites CQ [.l (D.els (gD (cF (nv ps bs) (gG b v (AD b v as1 j))) v)),.l (D.els (gD (cF (nv ps bs) (gG b v (AD b v as1 j))) (Int.toNat (gD as1 j).toI)))] (eG (AD b v as1 (j+1))) []:=by rw[m,s]at h⊢;exact h
  show Ev _ _ (rR _) _;unfold rR;refine aC (aW c) (aC y (aC (aE c) (aC T (bK K rfl (aC y (aO ((nx c (by omega) [_,_,_,_] _).trans ?_)))))));have G:cF (nv ps bs) (gG b v (AD b v as1 (j+1)))=(cF (nv ps bs) (gG b v (AD b v as1 j))).set v (eG (AD b v as1 (j+1))):=by
   rw[NH];refine dL λi _=>?_;unfold gG;by_cases e:i=v
   ·rw[if_pos e,if_pos e]
   ·rw[if_neg e,if_neg e,if_neg e]
  show[D.i (k:Int),.b t,.i l0,.i (B:Int),.i (aG .i64 (j:Int) 1),.s nm,.b o,.l ps,.i r,.l bs,.i op,.i ty,.i (v:Int),.i sym,.i num,.l as1,.l is1,.l (cF (nv ps bs) (gG b v (AD b v as1 (j+1))))]=_;rw[G];rfl
 ·show Ev _ _ (rR _) _;unfold rR;exact aJ (aX _) (bG rfl)
theorem Tp{B k v:Nat}(V:JZ ps.length bs v (B,k))(hv:v<nv ps bs)(U:wV (dD ps.length bs) v=true)(t:Bool)(b:Nat->List SP)(d:DP (nv ps bs) ps (dD ps.length bs) b):
  sA E aY sites kQ (kQ.F.lp 6 (st6 nm o ps r bs B k (t,b))) (.again (st6 nm o ps r bs B (k+1) (WV (dD ps.length bs) v (t,b)))):=by
 have b3:=Kt h hng;have hd:=b3.d v hv U;have f4:=b3.n400;have a3:∀{row:D},D.l (D.els row)=eG (xE (bF (dD ps.length bs) b v))->_:=λ{row}d3=>Zj h nm o V hv U (t:=t) d d3;have H:vI (cW bs B k) 2=(v:Int):=Ks h V;have K:dD ps.length bs v=.l (Do (cW bs B k)):=AH V;have a1:=V.b;have P:=V.k;simp only at a1 P;have c1:aA (B:Int) bs.length=true:=aE a1;have wk:aA (k:Int) (nE (gD bs B))=true:=aE P;have e2:aT (k:Int) (iE (gD bs B))=true:=aW P;have Q:∀j:Int,vI (dD ps.length bs v) 0=j->vI (cW bs B k) 0=j:=λj e=>by rw[K]at e;exact e
 have T:∀j:Int,¬vI (dD ps.length bs v) 0=j->aD (vI (cW bs B k) 0) j=false:=λj e=>by rw[K]at e;exact lY e
 have W:eX (cW bs B k) 5=eX (dD ps.length bs v) 5:=by rw[K];rfl
 have d2:(!(aD (vI (cW bs B k) 1) 3))=false:=by have:aD (vI (dD ps.length bs v) 1) 3=true:=U;rw[K]at this;have:aD (vI (cW bs B k) 1) 3=true:=this;rw[this];rfl
 have wv:aA (vI (cW bs B k) 2) (cF (nv ps bs) b).length=true:=by rw[H,cQ];exact aE hv
 have b7:D.l (D.els (gD (cF (nv ps bs) b) (Int.toNat (vI (cW bs B k) 2))))=eG (b v):=by rw[H];have:gD (cF (nv ps bs) b) v=eG (b v):=dU _ hv;show D.l (D.els (gD (cF (nv ps bs) b) v))=_;rw[this];rfl
 have a5:∀j,j<(eX (dD ps.length bs v) 5).length->eT (dD ps.length bs v) j<nv ps bs/\aA (gD (eX (cW bs B k) 5) j).toI (cF (nv ps bs) b).length=true/\D.l (D.els (gD (cF (nv ps bs) b) (Int.toNat (gD (eX (cW bs B k) 5) j).toI)))=eG (b (eT (dD ps.length bs v) j)):=λj c7=>by
  obtain⟨u,a0,C⟩:=hd.a j c7;have c4:(gD (eX (dD ps.length bs v) 5) j).toI=u:=a0;have e:eT (dD ps.length bs v) j=u:=by unfold eT;rw[a0];rfl
  rw[W,c4,cQ,e];refine⟨C,aE C,?_⟩;show D.l (D.els (gD (cF (nv ps bs) b) u))=_;rw[dU _ C];rfl
 have a6:=d.rise v hv;have F:=d.sub v hv U;have f3:=d.len hv;have c0:∀x:SP,GX [x]:=λx=>List.pairwise_singleton _ _;show Ev _ _ (iY _) _;unfold iY;refine aC c1 (aC e2 (aC c1 (aC wk (aJ d2 (aC wv ?_)))));by_cases f:vI (dD ps.length bs v) 0=18
 ·have c:bF (dD ps.length bs) b v=[QH 2 v]:=by unfold bF;rw[if_pos f]
  refine aC ((bT _ _).2 (Q 18 f)) (aC wv (a3 (row:=.l [.l [.i 2,.i (vI (cW bs B k) 2)]]) ?_));rw[c,<-HA (c0 (QH 2 v)) (λx=>Iff.rfl),H];exact congrArg (λY=>D.l [Y]) (Ox (k:=2) (n:=v) (by omega) (by omega)).symm
 refine aJ (T 18 f) ?_;by_cases s:vI (dD ps.length bs v) 0=3
 ·have c:bF (dD ps.length bs) b v=[QH 3 (vI (dD ps.length bs v) 3).toNat]:=by unfold bF;rw[if_neg f,if_pos s]
  obtain⟨g,a4,f0⟩:=hd.glo s;have c3:vI (cW bs B k) 3=(g:Int):=by rw[K]at a4;exact a4
  refine aC ((bT _ _).2 (Q 3 s)) (aC wv (a3 (row:=.l [.l [.i 3,.i (vI (cW bs B k) 3)]]) ?_));rw[c,<-HA (c0 (QH 3 (vI (dD ps.length bs v) 3).toNat)) (λx=>Iff.rfl),a4,c3];exact congrArg (λY=>D.l [Y]) (Ox (k:=3) (n:=g) (by omega) (by omega)).symm
 refine aJ (T 3 s) ?_;by_cases y:vI (dD ps.length bs v) 0=19
 ·have c:bF (dD ps.length bs) b v=b (eT (dD ps.length bs v) 0):=by unfold bF;rw[if_neg f,if_neg s,if_pos y]
  have a2:=hd.at' y;obtain⟨a9,b0,b1⟩:=a5 0 (by omega);have c8:=d.len a9;have b6:=Em (b v) (b (eT (dD ps.length bs v) 0)) (by omega) (by omega);rw[<-b7,<-b1]at b6;refine aC ((bT _ _).2 (Q 19 y)) (aC wv (aC ?_ (aC b0 (bK b6 rfl (aC wv (a3 (row:=eG (AM (b v) (b (eT (dD ps.length bs v) 0)))) ?_))))))
  ·show aA 0 (eX (cW bs B k) 5).length=true;rw[W,a2];rfl
  ·show eG _=_;rw[c]at F⊢;rw[HA (DS a6) (m:=b (eT (dD ps.length bs v) 0)) λx=>by rw[GZ];exact⟨λh=>h.elim (F x) id,.inr⟩]
 refine aJ (T 19 y) ?_;by_cases G:vI (dD ps.length bs v) 0=17
 ·have c:bF (dD ps.length bs) b v=b (eT (dD ps.length bs v) 1)++b (eT (dD ps.length bs v) 2):=by unfold bF;rw[if_neg f,if_neg s,if_neg y,if_pos G]
  have a2:=hd.sel G;obtain⟨a9,b0,b1⟩:=a5 1 (by omega);obtain⟨e3,e4,e5⟩:=a5 2 (by omega);have c8:=d.len a9;have f1:=d.len e3;have b4:=Em (b v) (b (eT (dD ps.length bs v) 1)) (by omega) (by omega);have f2:(AM (b v) (b (eT (dD ps.length bs v) 1))).length<=3200:=by have:=Ag (b (eT (dD ps.length bs v) 1)) (b v);unfold AM;omega
  have b5:=Em (AM (b v) (b (eT (dD ps.length bs v) 1))) (b (eT (dD ps.length bs v) 2)) (by omega) (by omega);rw[<-b7,<-b1]at b4;rw[<-e5]at b5;refine aC ((bT _ _).2 (Q 17 G)) (aC wv (aC ?_ (aC b0 (aC ?_ (aC e4 (bK b4 rfl (bK b5 rfl (aC wv (a3 (row:=eG (AM (AM (b v) (b (eT (dD ps.length bs v) 1))) (b (eT (dD ps.length bs v) 2)))) ?_)))))))))
  ·show aA 1 (eX (cW bs B k) 5).length=true;rw[W,a2];rfl
  ·show aA 2 (eX (cW bs B k) 5).length=true;rw[W,a2];rfl
  ·show eG _=_;rw[c]at F⊢;rw[HA (DS (DS a6)) (m:=b (eT (dD ps.length bs v) 1)++b (eT (dD ps.length bs v) 2)) λx=>by
    have:=F x;rw[GZ,GZ,List.mem_append];rw[List.mem_append]at this;constructor
    ·rintro((h |h) |h)
     ·exact this h
     ·exact .inl h
     ·exact .inr h
    ·rintro(h |h)
     ·exact .inl (.inr h)
     ·exact .inr h]
 refine aJ (T 17 G) ?_;by_cases J:vI (dD ps.length bs v) 0=26
 ·have c:bF (dD ps.length bs) b v=EA b (eX (dD ps.length bs v) 5):=by unfold bF;rw[if_neg f,if_neg s,if_neg y,if_neg G,if_pos J]
  have b2:=aDB (r:=r) nm o (B:=B) (k:=k) hv t d (eX (dD ps.length bs v) 5) (eX (cW bs B k) 6) hd.a (hd.phi J) (iE (gD (cF (nv ps bs) b) (Int.toNat (vI (cW bs B k) 2)))) (vI (cW bs B k) 0) (vI (cW bs B k) 1) (vI (cW bs B k) 3) (vI (cW bs B k) 4) (vI (cW bs B k) 2) H;have c9:∀x,x∈AD b v (eX (dD ps.length bs v) 5) (eX (dD ps.length bs v) 5).length<->x∈bF (dD ps.length bs) b v:=λx=>by
   rw[WW];have hx:x∈EA b (eX (dD ps.length bs v) 5)<->∃i,i<(eX (dD ps.length bs v) 5).length/\x∈b (gD (eX (dD ps.length bs v) 5) i).toI.toNat:=by
    unfold EA;rw[List.mem_flatMap];constructor
    ·rintro⟨a,a0,C⟩;obtain⟨i,L,rfl⟩:=List.mem_iff_getElem.1 a0;refine⟨i,L,?_⟩;rw[show gD (eX (dD ps.length bs v) 5) i=(eX (dD ps.length bs v) 5)[i]by simp[gD,List.getD,L]];exact C
    ·rintro⟨i,L,C⟩;refine⟨gD (eX (dD ps.length bs v) 5) i,?_,C⟩;rw[show gD (eX (dD ps.length bs v) 5) i=(eX (dD ps.length bs v) 5)[i]by simp[gD,List.getD,L]];exact List.getElem_mem L
   rw[c]at F⊢;rw[hx];constructor
   ·rintro(h |h)
    ·exact hx.1 (F x h)
    ·exact h
   ·exact .inr
  have d1:=HA (Ah (as1:=eX (dD ps.length bs v) 5) a6 _) c9;rw[d1,<-W]at b2;obtain⟨e6,e9⟩:=X6 hv U (t:=t) d;have a7:=(h.tb.2 B a1).ins.sane;refine aC ((bT _ _).2 (Q 26 J)) (aP b2 (bD (aC (aH ?_) (aO ((nx P a7 [] _).trans ?_)))))
  ·show aA (vI (cW bs B k) 2) (cF (nv ps bs) (gG b v (xE (bF (dD ps.length bs) b v)))).length=true;rw[H,cQ];exact aE hv
  ·show[D.i (aG .i64 (k:Int) 1),.b (WV (dD ps.length bs) v (t,b)).1,.i (B:Int),.s nm,.b o,.l ps,.i r,.l bs,.l (cF (nv ps bs) (WV (dD ps.length bs) v (t,b)).2)]=[D.i (aG .i64 (k:Int) 1),.b (t||!(aD (iE (gD (cF (nv ps bs) (gG b v (xE (bF (dD ps.length bs) b v)))) (Int.toNat (vI (cW bs B k) 2)))) (iE (gD (cF (nv ps bs) b) (Int.toNat (vI (cW bs B k) 2)))))),.i (B:Int),.s nm,.b o,.l ps,.i r,.l bs,.l (cF (nv ps bs) (gG b v (xE (bF (dD ps.length bs) b v))))];rw[<-e6,<-e9,H];have hg:gD (cF (nv ps bs) b) v=eG (b v):=dU _ hv;have c6:gD (cF (nv ps bs) (gG b v (xE (bF (dD ps.length bs) b v)))) v=eG (xE (bF (dD ps.length bs) b v)):=by
    refine(dU _ hv).trans ?_;unfold gG;rw[if_pos rfl]
   have e1:iE (eG (xE (bF (dD ps.length bs) b v)))=(((xE (bF (dD ps.length bs) b v)).length:Nat):Int):=by show(((List.map eE _).length:Nat):Int)=_;rw[List.length_map]
   have c2:iE (eG (b v))=(((b v).length:Nat):Int):=by show(((List.map eE _).length:Nat):Int)=_;rw[List.length_map]
   rw[show Int.toNat (v:Int)=v from rfl,hg,c6,e1,c2]
 refine aJ (T 26 J) ?_;have c:bF (dD ps.length bs) b v=[]:=by unfold bF;rw[if_neg f,if_neg s,if_neg y,if_neg G,if_neg J]
 have d0:b v=[]:=by
  cases c5:b v with
  |nil=>rfl
  |cons Y l=>have:=F Y (by rw[c5];exact List.mem_cons_self);rw[c]at this;cases this
 have e0:WV (dD ps.length bs) v (t,b)=(t,b):=by unfold WV;refine if_pos ?_;show(xE (bF (dD ps.length bs) b v)).length=(b v).length;rw[c,d0];rfl
 have a7:=(h.tb.2 B a1).ins.sane;rw[e0];refine aC (aH wv) (aO ((nx P a7 [] _).trans ?_));show[D.i (aG .i64 (k:Int) 1),.b t,.i (B:Int),.s nm,.b o,.l ps,.i r,.l bs,.l (cF (nv ps bs) b)]=[D.i (aG .i64 (k:Int) 1),.b (t||!(aD (iE (gD (cF (nv ps bs) b) (Int.toNat (vI (cW bs B k) 2)))) (iE (gD (cF (nv ps bs) b) (Int.toNat (vI (cW bs B k) 2)))))),.i (B:Int),.s nm,.b o,.l ps,.i r,.l bs,.l (cF (nv ps bs) b)];rw[pF];cases t<;>rfl
end
end Go.Eng.Q

namespace Go.Eng.Q
open Go.Eng
theorem SX.rnd{n:Nat}{ps:List D}{df:Nat->D}{b0:Nat->List SP}{j:Nat}{q:Bool×(Nat->List SP)}(f:V9 n ps df)(h:SX n ps df b0 j q)(d:j<n)(g:wV df j=true):SX n ps df b0 (j+1) (WV df j q):=by
 obtain⟨t,b⟩:=q;unfold WV;by_cases c:(xE (bF df b j)).length=(b j).length
 ·rw[if_pos c];refine⟨h.g,h.t,λe=>⟨(h.f e).1,λv hv s=>?_⟩,h.le⟩;by_cases l:v=j
  ·subst l;have:=(h.f e).1;simp only at this;subst this;exact c
  ·exact(h.f e).2 v (by omega) s
 ·rw[if_neg c];obtain⟨m,r⟩:=Oy f h.g d g c;have u:mD (gG b j (xE (bF df b j))) n<mD b n:=Kr m r n d;have y:mD b n<=mD b0 n:=h.le;refine⟨Za f h.g d g,λ_=>?_,λe=>(by cases e),?_⟩
  ·show mD (gG b j (xE (bF df b j))) n<_;omega
  ·show mD (gG b j (xE (bF df b j))) n<=_;omega
theorem SX.skip{n:Nat}{ps:List D}{df:Nat->D}{b0:Nat->List SP}{j:Nat}{q:Bool×(Nat->List SP)}(h:SX n ps df b0 j q)(f:wV df j=false):SX n ps df b0 (j+1) q:=
 ⟨h.g,h.t,λe=>⟨(h.f e).1,λv hv c=>by
  by_cases d:v=j
  ·subst d;rw[f]at c;cases c
  ·exact(h.f e).2 v (by omega) c⟩,h.le⟩
section
variable{n1 n2 nf:Nat}{xs fs ps bs:List D}{r:Int}(h:Tl n1 n2 nf xs fs ps bs r)(hng:n2<=12)(nm:List UInt8)(o:Bool)
include h hng
theorem x9{B:Nat}(l:B<bs.length){b0:Nat->List SP}{q:Bool×(Nat->List SP)}(c:SX (nv ps bs) ps (dD ps.length bs) b0 (aK ps.length bs B+1) q):
  ∃s,SX (nv ps bs) ps (dD ps.length bs) b0 (aK ps.length bs (B+1)+1) s/\fC kQ 6 (st6 nm o ps r bs B 0 q) (0,[.b s.1,.i (B:Int),.s nm,.b o,.l ps,.i r,.l bs,.l (cF (nv ps bs) s.2)]):=by
 have C:=Kt h hng;have v:=(h.tb.2 B l).ins.sane;have j:aA (B:Int) bs.length=true:=aE l;refine DI pZ (λk q=>st6 nm o ps r bs B k q) (gD bs B).els.length (λq=>(0,[.b q.1,.i (B:Int),.s nm,.b o,.l ps,.i r,.l bs,.l (cF (nv ps bs) q.2)])) (λk q=>SX (nv ps bs) ps (dD ps.length bs) b0 (aK ps.length bs B+dV (gD bs B).els k+1) q) (λk q f c=>?_) (λq c=>?_) (s0:=q) c
 ·obtain⟨t,b⟩:=q;have wk:aA (k:Int) (nE (gD bs B))=true:=aE f;have y:aT (k:Int) (iE (gD bs B))=true:=aW f;by_cases ht:dY (gD (gD bs B).els k)=true
  ·have u:JZ ps.length bs (kU ps.length bs B k) (B,k):=⟨l,f,ht,rfl⟩;have hv:kU ps.length bs B k<nv ps bs:=by have:=Tf l f ht (np:=ps.length);unfold nv;omega
   have d:=Cx ht;cases g:wV (dD ps.length bs) (kU ps.length bs B k)with
   |true=>refine⟨WV (dD ps.length bs) (kU ps.length bs B k) (t,b),?_,Tp h hng nm o u hv g t b c.g⟩;have:=SX.rnd C c hv g;rw[d];exact this
   |false=>
    refine⟨(t,b),?_,?_⟩
    ·have:=SX.skip c (show wV (dD ps.length bs) (aK ps.length bs B+dV (gD bs B).els k+1)=false from g);rw[d];exact this
    ·have d:(!(aD (vI (cW bs B k) 1) 3))=true:=by
      unfold wV at g;rw[AH u]at g;have:aD (vI (cW bs B k) 1) 3=false:=g;rw[this];rfl
     show Ev _ _ (iY _) _;unfold iY;exact aC j (aC y (aC j (aC wk (aC d (aO (nx f v [] _))))))
  ·have m:dY (gD (gD bs B).els k)=false:=by cases e:dY (gD (gD bs B).els k)with|true=>exact absurd e ht |false=>rfl
   refine⟨(t,b),?_,?_⟩
   ·rw[Ka m];exact c
   ·have d:(!(aD (vI (cW bs B k) 1) 3))=true:=by
     have:aD (vI (cW bs B k) 1) 0=true:=by
      unfold dY at m;cases e:aD (vI (gD (gD bs B).els k) 1) 0 with
      |true=>rfl
      |false=>rw[e]at m;cases m
     rw[(bT _ _).1 this];rfl
    show Ev _ _ (iY _) _;unfold iY;exact aC j (aC y (aC j (aC wk (aC d (aO (nx f v [] _))))))
 ·show Ev _ _ (iY _) _;unfold iY;exact aC j (aJ (aX _) (bG rfl))
theorem z6{b0:Nat->List SP}(t:DP (nv ps bs) ps (dD ps.length bs) b0):
  ∃c,SX (nv ps bs) ps (dD ps.length bs) b0 (nv ps bs) c/\fC kQ 4 [.b false,.i 0,.s nm,.b o,.l ps,.i r,.l bs,.l (cF (nv ps bs) b0)] (0,[.b c.1,.s nm,.b o,.l ps,.i r,.l bs,.l (cF (nv ps bs) c.2)]):=by
 have s:=Kt h hng;refine DI pZ (λj q=>[.b q.1,.i (j:Int),.s nm,.b o,.l ps,.i r,.l bs,.l (cF (nv ps bs) q.2)]) bs.length (λq=>(0,[.b q.1,.s nm,.b o,.l ps,.i r,.l bs,.l (cF (nv ps bs) q.2)])) (λj q=>SX (nv ps bs) ps (dD ps.length bs) b0 (aK ps.length bs j+1) q) (λj q d g=>?_) (λq g=>?_) (s0:=(false,b0)) ⟨t,λe=>(by cases e),λ_=>⟨rfl,λv hv f=>?_⟩,Nat.le_refl _⟩
 ·obtain⟨c,l,m⟩:=x9 h hng nm o d g;refine⟨c,l,?_⟩;show Ev _ _ (rQ _) _;unfold rQ;exact aC (aW d) (aP m (bD (aO (nx d h.tb.1.sane [_] _))))
 ·show Ev _ _ (rQ _) _;unfold rQ;exact aJ (aX _) (bG rfl)
 ·have hv:v<=ps.length:=by have:v<ps.length+1:=hv;omega
  rw[s.par v hv]at f;cases f
theorem z7{b0:Nat->List SP}(C:DP (nv ps bs) ps (dD ps.length bs) b0):
  ∃b,x3 (nv ps bs) ps (dD ps.length bs) b/\fC kQ 2 [.b true,.s nm,.b o,.l ps,.i r,.l bs,.l (cF (nv ps bs) b0)] (0,[.l (cF (nv ps bs) b)]):=by
 have F:=GM pZ (b:=2) (λ(q:Bool×(Nat->List SP))=>[.b q.1,.s nm,.b o,.l ps,.i r,.l bs,.l (cF (nv ps bs) q.2)]) (λq=>DP (nv ps bs) ps (dD ps.length bs) q.2/\(q.1=false->x3 (nv ps bs) ps (dD ps.length bs) q.2)) (λq=>2*mD q.2 (nv ps bs)+bif q.1 then 1 else 0) (λu=>∃b,x3 (nv ps bs) ps (dD ps.length bs) b/\u=(0,[.l (cF (nv ps bs) b)])) (λq d=>?_) (s0:=(true,b0)) ⟨C,λe=>(by cases e)⟩
 ·obtain⟨u,⟨b,c,rfl⟩,f⟩:=F;exact⟨b,c,f⟩
 ·obtain⟨t,b⟩:=q;cases t with
  |false=>refine .inl ⟨_,⟨b,d.2 rfl,rfl⟩,?_⟩;show Ev _ _ (rP _) _;unfold rP;exact aJ rfl (bG rfl)
  |true=>
   obtain⟨l,c,f⟩:=z6 h hng nm o d.1;refine .inr ⟨l,⟨c.g,λg=>?_⟩,?_,?_⟩
   ·obtain⟨s,y⟩:=c.f g;rw[s];exact⟨d.1,λv hv j=>Ae d.1 hv j (y v hv j)⟩
   ·cases g:l.1 with
    |true=>have:=c.t g;have m:mD (true,b).2 (nv ps bs)=mD b (nv ps bs):=rfl;simp only[cond_true];omega
    |false=>have:=c.le;have m:mD (true,b).2 (nv ps bs)=mD b (nv ps bs):=rfl;simp only[cond_false,cond_true];omega
   ·show Ev _ _ (rP _) _;unfold rP;exact aC rfl (aP f (bD (aO rfl)))
omit hng in
theorem z8:fC kQ 0 [.i 1,.s nm,.b o,.l ps,.i r,.l bs,.l (List.replicate (nv ps bs) (D.l []))] (0,[.s nm,.b o,.l ps,.i r,.l bs,.l (cF (nv ps bs) (qF ps))]):=by
 have H:=h.n;have K:=MZ ps.length bs bs.length;have J:nv ps bs=aK ps.length bs bs.length+1:=rfl;let g:Nat->Nat->List SP:=λj v=>if v<=j then qF ps v else[]
 have t:List.replicate (nv ps bs) (D.l [])=cF (nv ps bs) (g 0):=by
  rw[<-qT];refine dL λi _=>?_;show D.l []=eG (if i<=0 then qF ps i else[]);by_cases h:i<=0
  ·have:i=0:=by omega
   subst this;rfl
  ·rw[if_neg h];rfl
 have e1:cF (nv ps bs) (qF ps)=cF (nv ps bs) (g ps.length):=by
  refine dL λi _=>?_;show eG (qF ps i)=eG (if i<=ps.length then qF ps i else[]);by_cases h:i<=ps.length
  ·rw[if_pos h]
  ·rw[if_neg h];have:qF ps i=[]:=by unfold qF;rw[if_neg (by omega)]
   rw[this]
 rw[t,e1];refine cI pZ (λj=>[.i ((j+1:Nat):Int),.s nm,.b o,.l ps,.i r,.l bs,.l (cF (nv ps bs) (g j))]) ps.length (λj y=>?_) ?_
 ·have f:bC .i64 (((j+1:Nat):Int)-1)=(j:Int):=by rw[uJ (by omega) (by omega)];omega
  have d:j+1<nv ps bs:=by omega
  have F:aA (bC .i64 (((j+1:Nat):Int)-1)) ps.length=true:=by rw[f];exact aE y
  have s:∀l:List SP,qF ps (j+1)=l->cF (nv ps bs) (g (j+1))=cF (nv ps bs) (gG (g j) (j+1) l):=λl C=>by
   refine dL λi _=>?_;show eG (if i<=j+1 then qF ps i else[])=eG (gG (g j) (j+1) l i);unfold gG;by_cases h:i=j+1
   ·subst h;rw[if_pos (Nat.le_refl _),if_pos rfl,C]
   ·rw[if_neg h];show _=eG (if i<=j then qF ps i else[]);by_cases m:i<=j
    ·rw[if_pos m,if_pos (by omega)]
    ·rw[if_neg m,if_neg (by omega)]
  have u:g j (j+1)=[]:=if_neg (by omega);have c:qF ps (j+1)=if(gD ps j).toI=3 then[QH 1 (j+1)]else[]:=by
   unfold qF;by_cases e:(gD ps j).toI=3
   ·rw[if_pos e,if_pos ⟨by omega,by omega,e⟩]
   ·rw[if_neg e,if_neg λh=>e h.2.2]
  show Ev _ _ (rO _) _;unfold rO;refine aC (jA (show((j+1:Nat):Int)<=(ps.length:Int)by omega)) (aC F ?_);by_cases e:(gD ps j).toI=3
  ·rw[if_pos e]at c;refine aC ?_ (aC ?_ (aO ((nx d (by omega) [] _).trans ?_)))
   ·show aD (gD ps (Int.toNat (bC .i64 (((j+1:Nat):Int)-1)))).toI 3=true;rw[f];exact(bT _ _).2 e
   ·show aA ((j+1:Nat):Int) (cF (nv ps bs) (g j)).length=true;rw[cQ];exact aE d
   ·show[D.i (aG .i64 ((j+1:Nat):Int) 1),.s nm,.b o,.l ps,.i r,.l bs,.l (cF (nv ps bs) (g (j+1)))]=_;rw[s _ c,<-NH];have:D.l [.l [.i 1,.i ((j+1:Nat):Int)]]=eG [QH 1 (j+1)]:=congrArg (λG=>D.l [G]) (Ox (k:=1) (n:=j+1) (by omega) (by omega)).symm;rw[<-this];rfl
  ·rw[if_neg e]at c;refine aJ ?_ (aO ((nx d (by omega) [] _).trans ?_))
   ·show aD (gD ps (Int.toNat (bC .i64 (((j+1:Nat):Int)-1)))).toI 3=false;rw[f];exact lY e
   ·show[D.i (aG .i64 ((j+1:Nat):Int) 1),.s nm,.b o,.l ps,.i r,.l bs,.l (cF (nv ps bs) (g (j+1)))]=_;rw[s _ c,<-u,Kw];rfl
 ·show Ev _ _ (rO _) _;unfold rO;exact aJ (J6 (show(ps.length:Int)<((ps.length+1:Nat):Int)by omega)) (bG rfl)
theorem Tq:∃b,x3 (nv ps bs) ps (dD ps.length bs) b/\iS E aY sites YM [pM nm o ps r bs] (.l (cF (nv ps bs) b)) []:=by
 have l:=h.n;have j:=Kt h hng;have m:nv ps bs=aK ps.length bs bs.length+1:=rfl;obtain⟨b,f,g⟩:=z7 h hng nm o (Zb j);refine⟨b,f,bA pZ (by rfl) rfl ?_⟩;show Ev _ _ (MO _) _;unfold MO;have c:=z8 h nm o;have d:aG .i64 (aK ps.length bs bs.length:Int) 1=(nv ps bs:Int):=Te (by omega);have e:List.replicate (nv ps bs) (D.l [])=List.replicate (Int.toNat (aG .i64 (aK ps.length bs bs.length:Int) 1)) (D.l []):=by rw[d];rfl
 rw[e]at c;refine bK (WN nm o ps r bs h.tp h.tb) rfl (aC ?_ (aP c (bD (aP g (bD (bJ rfl rfl))))));show(cP 0 (aG .i64 (aK ps.length bs bs.length:Int) 1)&&(aD (aG .i64 (aK ps.length bs bs.length:Int) 1) (aG .i64 (aK ps.length bs bs.length:Int) 1)&&iP (Int.toNat (aG .i64 (aK ps.length bs bs.length:Int) 1)) 24))=true;rw[d,jA (by omega),pF];exact eM (by show nv ps bs<=_;omega) (by omega)
end
end Go.Eng.Q

namespace Go.Eng.Q
open Go.Eng
section
variable{n1 nf:Nat}{xs gs ts fs ps bs:List D}{r:Int}(h:Tl n1 gs.length nf xs fs ps bs r)(hng:gs.length<=12)(nm:List UInt8)(o:Bool)
include h hng
theorem Zk{b:Nat->List SP}(a9:x3 (nv ps bs) ps (dD ps.length bs) b){B k:Nat}(a7:B<bs.length)(b5:k<(gD bs B).els.length):
  iS E aY sites Hy [.l [.l xs,.l gs,.l ts,.l fs],pM nm o ps r bs,.l (Do (cW bs B k)),.l (cF (nv ps bs) b),.l (wW (nv ps bs) (bE ps bs) (dD ps.length bs) (nP ps.length bs))] (.b (Dr gs (dD ps.length bs) (nP ps.length bs) (cW bs B k))) []:=by
 have c3:=h.n;have b0:=Af h;have c4:nv ps bs=aK ps.length bs bs.length+1:=rfl;refine bA Iu (by rfl) rfl ?_;show Ev _ _ (SB _) _;unfold SB;have W:=X3 h a7 b5;have hx:gD (gD bs B).els k=cW bs B k:=rfl;rw[hx]at W;generalize cW bs B k=x at*;by_cases s:vI x 0=20\/vI x 0=21
 ·have b3:(!(aD (vI x 0) 20)&&!(aD (vI x 0) 21))=false:=by
   rcases s with e |e
   ·rw[e];rfl
   ·rw[e];rfl
  have b7:(aD (vI x 0) 20||aD (vI x 0) 21)=true:=by
   rcases s with e |e
   ·rw[e];rfl
   ·rw[e];rfl
  obtain⟨b1,p,a0,f,a1⟩:=W s;have c1:eT x 0=p:=by unfold eT;rw[a0];rfl
  have C:(gD (eX x 5) 0).toI=(p:Int):=a0;have b4:Dr gs (dD ps.length bs) (nP ps.length bs) x=WT gs (dD ps.length bs) (nP ps.length bs) p:=by unfold Dr;rw[b7,c1];rfl
  have a3:aA 0 (eX x 5).length=true:=aE (j:=0) b1;have b6:(wW (nv ps bs) (bE ps bs) (dD ps.length bs) (nP ps.length bs)).length=nv ps bs:=cQ _ _;have m:gD (wW (nv ps bs) (bE ps bs) (dD ps.length bs) (nP ps.length bs)) (Int.toNat (gD (eX x 5) 0).toI)=AI (gY (dD ps.length bs) (nP ps.length bs) p):=by rw[C];refine(dU _ f).trans ?_;rw[if_pos a1]
  have t:aA (gD (eX x 5) 0).toI (wW (nv ps bs) (bE ps bs) (dD ps.length bs) (nP ps.length bs)).length=true:=by rw[C,b6];exact aE f
  have K:aA (gD (eX x 5) 0).toI (cF (nv ps bs) b).length=true:=by rw[C,cQ];exact aE f
  rw[b4];refine aJ b3 (aC a3 (aC t (aC (aH K) ?_)));cases l:gY (dD ps.length bs) (nP ps.length bs) p with
  |none=>
   rw[l]at m;refine aC ?_ (bJ ?_ rfl)
   ·show((!(aD (vI (gD (wW (nv ps bs) (bE ps bs) (dD ps.length bs) (nP ps.length bs)) (Int.toNat (gD (eX x 5) 0).toI)) 0) 1))||_)=true;rw[m];rfl
   ·unfold WT;rw[l]
  |some a=>
   have a2:(gY (dD ps.length bs) (nP ps.length bs) p).isSome=true:=by rw[l];rfl
   have b2:=TA b0 a9 (λv hv c0=>aCg hv c0) _ p (Nat.lt_succ_self _) f a1 a2;have F:WT gs (dD ps.length bs) (nP ps.length bs) p=(cP 0 a&&aT a (szR gs (dD ps.length bs) (rY (dD ps.length bs) (nP ps.length bs) p))):=by unfold WT;rw[l]
   rw[l]at m;have y:gD (cF (nv ps bs) b) (Int.toNat (gD (eX x 5) 0).toI)=eG [rY (dD ps.length bs) (nP ps.length bs) p]:=by rw[C];show gD (cF (nv ps bs) b) p=_;rw[dU _ f,b2]
   have w0:aA 0 (nE (gD (cF (nv ps bs) b) (Int.toNat (gD (eX x 5) 0).toI)))=true:=by rw[y];rfl
   have T:vI (gD (wW (nv ps bs) (bE ps bs) (dD ps.length bs) (nP ps.length bs)) (Int.toNat (gD (eX x 5) 0).toI)) 1=a:=by rw[m];rfl
   have d:vI (gE (gD (cF (nv ps bs) b) (Int.toNat (gD (eX x 5) 0).toI)) 0) 0=((rY (dD ps.length bs) (nP ps.length bs) p).1.val :Int):=by rw[y];rfl
   have e1:vI (gE (gD (cF (nv ps bs) b) (Int.toNat (gD (eX x 5) 0).toI)) 0) 1=((rY (dD ps.length bs) (nP ps.length bs) p).2.val :Int):=by rw[y];rfl
   have a4:((!(aD (vI (gD (wW (nv ps bs) (bE ps bs) (dD ps.length bs) (nP ps.length bs)) (Int.toNat (gD (eX x 5) 0).toI)) 0) 1))||(!(aD (iE (gD (cF (nv ps bs) b) (Int.toNat (gD (eX x 5) 0).toI))) 1)))=false:=by rw[m,y];rfl
   refine aJ a4 (aC K (aC w0 ?_));rcases X4 h f a2 hng with⟨u,L,a6,P⟩ |⟨g,L,P⟩
   ·rw[P]at d e1 F;rw[Dc (by omega)]at d;rw[Dd (by omega)]at e1;obtain⟨⟨H,J⟩,G⟩:=SZ (ps:=ps) (bs:=bs) L a6;have a5:Ej ps.length bs u=.l [.i (H:Int),.i (J:Int)]:=by unfold Ej;rw[EZ G]
    have Q:szR gs (dD ps.length bs) (QH 2 u)=vI (gD (gD bs H).els J) 4:=by unfold szR;rw[Dc (by omega),if_neg (by omega),Dd (by omega),AH G];rfl
    have Y:=N4 h nm o u;rw[a5,<-e1]at Y;refine aC ((congrArg (λc=>aD c 2) d).trans rfl) (aC K (aC w0 (bK Y rfl (aC (aE G.b) (aC (aE G.k) (aC t (aC (aH t) (bJ ?_ rfl))))))));rw[F,Q];show D.b (cP 0 a&&aT a (vI (gD (gD bs H).els J) 4))=D.b (cP 0 (vI (gD (wW (nv ps bs) (bE ps bs) (dD ps.length bs) (nP ps.length bs)) (Int.toNat (gD (eX x 5) 0).toI)) 1)&&aT (vI (gD (wW (nv ps bs) (bE ps bs) (dD ps.length bs) (nP ps.length bs)) (Int.toNat (gD (eX x 5) 0).toI)) 1) (vI (gD (gD bs H).els J) 4));rw[T]
   ·rw[P]at d e1 F;rw[Dc (by omega)]at d;rw[Dd (by omega)]at e1;have Q:szR gs (dD ps.length bs) (QH 3 g)=((eX (gD gs g) 1).length:Int):=by
     unfold szR;rw[Dc (by omega),if_pos rfl,Dd (by omega)]
    have c2:aA (vI (gE (gD (cF (nv ps bs) b) (Int.toNat (gD (eX x 5) 0).toI)) 0) 1) gs.length=true:=by rw[e1];exact aE L
    refine aJ ((congrArg (λc=>aD c 2) d).trans rfl) (aC ((congrArg (λc=>aD c 3) d).trans rfl) (aC K (aC w0 (aC c2 (aC t (aC (aH t) (bJ ?_ rfl)))))));rw[F,Q];show D.b (cP 0 a&&aT a ((eX (gD gs g) 1).length:Int))=D.b (cP 0 (vI (gD (wW (nv ps bs) (bE ps bs) (dD ps.length bs) (nP ps.length bs)) (Int.toNat (gD (eX x 5) 0).toI)) 1)&&aT (vI (gD (wW (nv ps bs) (bE ps bs) (dD ps.length bs) (nP ps.length bs)) (Int.toNat (gD (eX x 5) 0).toI)) 1) (iX (gD gs (Int.toNat (vI (gE (gD (cF (nv ps bs) b) (Int.toNat (gD (eX x 5) 0).toI)) 0) 1))) 1));rw[T,e1];rfl
 ·have U:aD (vI x 0) 20=false:=lY λe=>s (.inl e);have V:aD (vI x 0) 21=false:=lY λe=>s (.inr e);refine aC ?_ (bJ ?_ rfl)
  ·show(!(aD (vI x 0) 20)&&!(aD (vI x 0) 21))=true;rw[U,V];rfl
  ·unfold Dr;rw[U,V];rfl
end
end Go.Eng.Q

namespace Go.Eng.Q
open Go.Eng
theorem Ai{m:Nat}{d:FD}(F:AU E aY sites m d){b:Nat}{l:Type}(f:Nat->l->List D)(n:Nat)(c:Nat->l->Prop)(Q:Nat×List D->Prop)
  (y:∀j s,j<n->c j s->(∃t,Q t/\sA E aY sites d (d.F.lp b (f j s)) (.out t))\/∃g,c (j+1) g/\sA E aY sites d (d.F.lp b (f j s)) (.again (f (j+1) g)))
  (C:∀s,c n s->∃t,Q t/\sA E aY sites d (d.F.lp b (f n s)) (.out t)){s0:l}(G:c 0 s0):∃t,Q t/\PB E aY sites d b (f 0 s0) t.1 t.2:=by
 refine GM F (λq:Nat×l=>f q.1 q.2) (λq=>q.1<=n/\c q.1 q.2) (λq=>n-q.1) Q (λq J=>?_) (s0:=(0,s0)) ⟨Nat.zero_le _,G⟩;obtain⟨j,s⟩:=q;obtain⟨H,r⟩:=J;simp only at H r;by_cases e:j<n
 ·rcases y j s e r with h |⟨g,u,v⟩
  ·exact .inl h
  ·exact .inr ⟨(j+1,g),⟨e,u⟩,by show n-(j+1)<n-j;omega,v⟩
 ·have:j=n:=by omega
  subst this;exact .inl (C s r)
theorem AJ{a b:Int}(h:aT a b=false):b<=a:=by have:=qD h;omega
theorem Ts{a b:Bool}(h:(a||b)=false):a=false/\b=false:=by cases a<;>cases b<;>simp_all
def aFV(bs:List D):Prop:=∀b,b<bs.length->(gD bs b).els.length<=1048576
section
variable(nm:List UInt8)(o:Bool)(ps:List D)(r:Int)(bs:List D)
abbrev aGh(bs:List D)(B:Nat)(a:Int)(nm:List UInt8)(o:Bool)(ps:List D)(r:Int)(t:Nat×List D):Prop:=
 t=(0,[.i a,.b false,.i (B:Int),.s nm,.b o,.l ps,.i r,.l bs])\/(t=(1,[.i a,.i (B:Int),.s nm,.b o,.l ps,.i r,.l bs])/\Xr (gD bs B))
theorem aDC(a:Int){B:Nat}(l:B<bs.length)(u:(gD bs B).els.length<=1048576):
  ∃t,((t=(0,[.i a,.b false,.i (B:Int),.s nm,.b o,.l ps,.i r,.l bs]))\/(t=(1,[.i a,.i (B:Int),.s nm,.b o,.l ps,.i r,.l bs])/\∀i,i<(gD bs B).els.length->Xq (gD (gD bs B).els i)))/\
   fC AY 2 [.i a,.i 0,.i (B:Int),.s nm,.b o,.l ps,.i r,.l bs] t:=by
 have c:aA (B:Int) bs.length=true:=aE l;refine Ai qM (λk(_:Unit)=>[.i a,.i (k:Int),.i (B:Int),.s nm,.b o,.l ps,.i r,.l bs]) (gD bs B).els.length (λk _=>∀i,i<k->Xq (gD (gD bs B).els i)) _ (λk _ f d=>?_) (λ_ d=>?_) (s0:=()) (λi d=>absurd d (by omega))
 ·have g:aT (k:Int) (iE (gD bs B))=true:=aW f;have wk:aA (k:Int) (nE (gD bs B))=true:=aE f;cases e:(aT 20 (iX (cW bs B k) 5)||aT 20 (iX (cW bs B k) 6))with
  |true=>refine .inl ⟨_,.inl rfl,?_⟩;show Ev _ _ (kZ _) _;unfold kZ;exact aC c (aC g (aC c (aC wk (aC (aH c) (aC (aH wk) (aC e (bG rfl)))))))
  |false=>
   obtain⟨e1,h⟩:=Ts e;have m:((eX (cW bs B k) 5).length:Int)<=20:=AJ e1;have s:((eX (cW bs B k) 6).length:Int)<=20:=AJ h;refine .inr ⟨(),λi v=>?_,?_⟩
   ·by_cases j:i=k
    ·subst j;exact⟨by unfold eL;show(eX (cW bs B i) 5).length<=_;omega,by unfold eL;show(eX (cW bs B i) 6).length<=_;omega⟩
    ·exact d i (by omega)
   ·show Ev _ _ (kZ _) _;unfold kZ;exact aC c (aC g (aC c (aC wk (aC (aH c) (aC (aH wk) (aJ e (aO (nx f (by omega) [_] _))))))))
 ·refine⟨_,.inr ⟨rfl,d⟩,?_⟩;show Ev _ _ (kZ _) _;unfold kZ;exact aC c (aJ (aX _) (bG rfl))
theorem Ma(y:aFV bs):∃t,iS E aY sites RN [pM nm o ps r bs] (.b t) []/\(t=true->eL ps/\fF bs):=by
 cases e:((aT 40 (nm.length:Int)||aT 8 (ps.length:Int))||aT 16 (bs.length:Int))with
 |true=>refine⟨false,bA qM (by rfl) rfl ?_,λh=>(by cases h)⟩;show Ev _ _ (nS _) _;unfold nS;exact aC e (bJ rfl rfl)
 |false=>
  obtain⟨e1,l⟩:=Ts e;have e1:=AJ (Ts e1).2;have l:=AJ l;have g:∃t,((t=(0,[.b false]))\/(t=(1,[])/\∀i,i<bs.length->Xr (gD bs i)))/\fC AY 0 [.i 0,.i 0,.s nm,.b o,.l ps,.i r,.l bs] t:=by
   refine Ai qM (λj(a:Nat)=>[.i (a:Int),.i (j:Int),.s nm,.b o,.l ps,.i r,.l bs]) bs.length (λj a=>a<=90/\∀i,i<j->Xr (gD bs i)) _ (λj a c d=>?_) (λa d=>?_) (s0:=0) ⟨by omega,λi d=>absurd d (by omega)⟩
   ·have C:=y j c;have m:aG .i64 (a:Int) (iE (gD bs j))=((a+(gD bs j).els.length:Nat):Int):=by
     show aG .i64 (a:Int) ((gD bs j).els.length:Int)=_;rw[AQ _ _ _ (by simp[TC,TD];omega),uJ (by omega) (by omega)];omega
    cases f:aT 90 (aG .i64 (a:Int) (iE (gD bs j)))with
    |true=>refine .inl ⟨_,.inl rfl,?_⟩;show Ev _ _ (iC _) _;unfold iC;exact aC (aW c) (aC (aE c) (aC f (bG rfl)))
    |false=>
     have v:=AJ f;rw[m]at v;obtain⟨t,ht,s⟩:=aDC nm o ps r bs (aG .i64 (a:Int) (iE (gD bs j))) c C;rcases ht with rfl |⟨rfl,ht⟩
     ·refine .inl ⟨_,.inl rfl,?_⟩;show Ev _ _ (iC _) _;unfold iC;exact aC (aW c) (aC (aE c) (aJ f (aP s (bD (bG rfl)))))
     ·refine .inr ⟨a+(gD bs j).els.length,⟨by omega,λi F=>?_⟩,?_⟩
      ·by_cases u:i=j
       ·subst u;exact⟨by unfold eL;omega,ht⟩
       ·exact d.2 i (by omega)
      ·show Ev _ _ (iC _) _;unfold iC;refine aC (aW c) (aC (aE c) (aJ f (aP s (eB (bD (aO ((nx c (by omega) [_] _).trans ?_)))))));show[D.i ((a+(gD bs j).els.length:Nat):Int),.i (aG .i64 (j:Int) 1),.s nm,.b o,.l ps,.i r,.l bs]=_;rw[<-m];rfl
   ·refine⟨_,.inr ⟨rfl,d.2⟩,?_⟩;show Ev _ _ (iC _) _;unfold iC;exact aJ (aX _) (bG rfl)
  obtain⟨t,ht,g⟩:=g;rcases ht with rfl |⟨rfl,ht⟩
  ·refine⟨false,bA qM (by rfl) rfl ?_,λh=>(by cases h)⟩;show Ev _ _ (nS _) _;unfold nS;exact aJ e (aP g (bD (bJ rfl rfl)))
  ·refine⟨true,bA qM (by rfl) rfl ?_,λ_=>⟨by unfold eL;omega,by unfold eL;omega,ht⟩⟩;show Ev _ _ (nS _) _;unfold nS;exact aJ e (aP g (eB (bD (bJ rfl rfl))))
end
section
variable(xs gs ts fs:List D)
abbrev smQ(xs gs ts fs l:List D)(t:Nat×List D):Prop:=t=(0,[.b false,.l xs,.l gs,.l ts,.l fs])\/(t=(1,[.l xs,.l gs,.l ts,.l fs])/\∀i,i<l.length->eL (eX (gD l i) 1))
theorem aDD(hx:xs.length<=1000000):∃t,smQ xs gs ts fs xs t/\fC oJ 0 [.i 0,.l xs,.l gs,.l ts,.l fs] t:=by
 refine Ai oK (λj(_:Unit)=>[.i (j:Int),.l xs,.l gs,.l ts,.l fs]) xs.length (λj _=>∀i,i<j->eL (eX (gD xs i) 1)) _ (λj _ c d=>?_) (λ_ d=>?_) (s0:=()) (λi d=>absurd d (by omega))
 ·cases e:(aT 40 (iL (D.toS (D.fld (gD xs j) 0)))||aT 10 (iX (gD xs j) 1))with
  |true=>refine .inl ⟨_,.inl rfl,?_⟩;show Ev _ _ (lA _) _;unfold lA;exact aC (aW c) (aC (aE c) (aC (aH (aE c)) (aC e (bG rfl))))
  |false=>
   have e1:((eX (gD xs j) 1).length:Int)<=10:=AJ (Ts e).2;refine .inr ⟨(),λi g=>?_,?_⟩
   ·by_cases f:i=j
    ·subst f;unfold eL;omega
    ·exact d i (by omega)
   ·show Ev _ _ (lA _) _;unfold lA;exact aC (aW c) (aC (aE c) (aC (aH (aE c)) (aJ e (aO (nx c (by omega) [] _)))))
 ·refine⟨_,.inr ⟨rfl,d⟩,?_⟩;show Ev _ _ (lA _) _;unfold lA;exact aJ (aX _) (bG rfl)
theorem aDE(hx:gs.length<=1000000):∃t,smQ xs gs ts fs gs t/\fC oJ 2 [.i 0,.l xs,.l gs,.l ts,.l fs] t:=by
 refine Ai oK (λj(_:Unit)=>[.i (j:Int),.l xs,.l gs,.l ts,.l fs]) gs.length (λj _=>∀i,i<j->eL (eX (gD gs i) 1)) _ (λj _ c d=>?_) (λ_ d=>?_) (s0:=()) (λi d=>absurd d (by omega))
 ·cases e:(aT 40 (iL (D.toS (D.fld (gD gs j) 0)))||aT 20 (iX (gD gs j) 1))with
  |true=>refine .inl ⟨_,.inl rfl,?_⟩;show Ev _ _ (lB _) _;unfold lB;exact aC (aW c) (aC (aE c) (aC (aH (aE c)) (aC e (bG rfl))))
  |false=>
   have e1:((eX (gD gs j) 1).length:Int)<=20:=AJ (Ts e).2;refine .inr ⟨(),λi g=>?_,?_⟩
   ·by_cases f:i=j
    ·subst f;unfold eL;omega
    ·exact d i (by omega)
   ·show Ev _ _ (lB _) _;unfold lB;exact aC (aW c) (aC (aE c) (aC (aH (aE c)) (aJ e (aO (nx c (by omega) [] _)))))
 ·refine⟨_,.inr ⟨rfl,d⟩,?_⟩;show Ev _ _ (lB _) _;unfold lB;exact aJ (aX _) (bG rfl)
theorem aDF(hx:ts.length<=1000000):∃t,smQ xs gs ts fs ts t/\fC oJ 4 [.i 0,.l xs,.l gs,.l ts,.l fs] t:=by
 refine Ai oK (λj(_:Unit)=>[.i (j:Int),.l xs,.l gs,.l ts,.l fs]) ts.length (λj _=>∀i,i<j->eL (eX (gD ts i) 1)) _ (λj _ c d=>?_) (λ_ d=>?_) (s0:=()) (λi d=>absurd d (by omega))
 ·cases e:(aT 40 (iL (D.toS (D.fld (gD ts j) 0)))||aT 16 (iX (gD ts j) 1))with
  |true=>refine .inl ⟨_,.inl rfl,?_⟩;show Ev _ _ (lC _) _;unfold lC;exact aC (aW c) (aC (aE c) (aC (aH (aE c)) (aC e (bG rfl))))
  |false=>
   have e1:((eX (gD ts j) 1).length:Int)<=16:=AJ (Ts e).2;refine .inr ⟨(),λi g=>?_,?_⟩
   ·by_cases f:i=j
    ·subst f;unfold eL;omega
    ·exact d i (by omega)
   ·show Ev _ _ (lC _) _;unfold lC;exact aC (aW c) (aC (aE c) (aC (aH (aE c)) (aJ e (aO (nx c (by omega) [] _)))))
 ·refine⟨_,.inr ⟨rfl,d⟩,?_⟩;show Ev _ _ (lC _) _;unfold lC;exact aJ (aX _) (bG rfl)
def SzM(fs:List D):Prop:=∀j,j<fs.length->aFV (eX (gD fs j) 4)
theorem aDG(hf:fs.length<=1000000)(r:SzM fs):∃t,((∃a:Int,t=(0,[.b false,.i a]))\/((∃a:Int,t=(1,[.i a]))/\∀i,i<fs.length->Jq (gD fs i)))/\fC oJ 6 [.i 0,.i 0,.l xs,.l gs,.l ts,.l fs] t:=by
 refine Ai oK (λj(a:Int)=>[.i (j:Int),.i a,.l xs,.l gs,.l ts,.l fs]) fs.length (λj _=>∀i,i<j->Jq (gD fs i)) _ (λj a c d=>?_) (λa d=>?_) (s0:=0) (λi d=>absurd d (by omega))
 ·obtain⟨t,f,l⟩:=Ma (D.toS (D.fld (gD fs j) 0)) (vB (gD fs j) 1) (eX (gD fs j) 2) (vI (gD fs j) 3) (eX (gD fs j) 4) (r j c);cases t with
  |false=>refine .inl ⟨_,.inl ⟨a,rfl⟩,?_⟩;show Ev _ _ (lD _) _;unfold lD;exact aC (aW c) (aC (aE c) (bK f rfl (aC rfl (bG rfl))))
  |true=>
   obtain⟨h,e⟩:=l rfl;have m:=SQ (D.toS (D.fld (gD fs j) 0)) (vB (gD fs j) 1) (eX (gD fs j) 2) (vI (gD fs j) 3) (eX (gD fs j) 4) (by have:=e.1;unfold eL at this;omega);refine .inr ⟨aG .i64 a (sW (eX (gD fs j) 4)),λi s=>?_,?_⟩
   ·by_cases g:i=j
    ·subst g;exact⟨h,e.1,e.2⟩
    ·exact d i (by omega)
   ·show Ev _ _ (lD _) _;unfold lD;exact aC (aW c) (aC (aE c) (bK f rfl (aJ rfl (aC (aE c) (bK m rfl (aO (nx c (by omega) [] _)))))))
 ·refine⟨_,.inr ⟨⟨a,rfl⟩,d⟩,?_⟩;show Ev _ _ (lD _) _;unfold lD;exact aJ (aX _) (bG rfl)
theorem Mb(y:SzM fs):∃t,iS E aY sites II [.l [.l xs,.l gs,.l ts,.l fs]] (.b t) []/\(t=true->WP xs gs ts fs):=by
 cases c:(((aT 14 (xs.length:Int)||aT 14 (gs.length:Int))||aT 8 (ts.length:Int))||aT 26 (fs.length:Int))with
 |true=>refine⟨false,bA oK (by rfl) rfl ?_,λh=>(by cases h)⟩;show Ev _ _ (kI _) _;unfold kI;exact aC c (bJ rfl rfl)
 |false=>
  obtain⟨e1,r⟩:=Ts c;obtain⟨e1,s⟩:=Ts e1;obtain⟨e1,u⟩:=Ts e1;have e1:=AJ e1;have r:=AJ r;have s:=AJ s;have u:=AJ u;obtain⟨t0,g,d⟩:=aDD xs gs ts fs (by omega);obtain⟨t2,j,e⟩:=aDE xs gs ts fs (by omega);obtain⟨t4,l,f⟩:=aDF xs gs ts fs (by omega);obtain⟨C,m,v⟩:=aDG xs gs ts fs (by omega) y;have key:∀{t:Bool},Ev (iS E aY sites) (PB E aY sites oJ) (kI [.l [.l xs,.l gs,.l ts,.l fs]]) (.ret (.b t) [])->iS E aY sites II [.l [.l xs,.l gs,.l ts,.l fs]] (.b t) []:=λ{t}h=>bA oK (by rfl) rfl h;rcases g with rfl |⟨rfl,g⟩
  ·refine⟨false,key ?_,λh=>(by cases h)⟩;unfold kI;exact aJ c (aP d (bD (bJ rfl rfl)))
  rcases j with rfl |⟨rfl,j⟩
  ·refine⟨false,key ?_,λh=>(by cases h)⟩;unfold kI;exact aJ c (aP d (eB (bD (aP e (bD (bJ rfl rfl))))))
  rcases l with rfl |⟨rfl,l⟩
  ·refine⟨false,key ?_,λh=>(by cases h)⟩;unfold kI;exact aJ c (aP d (eB (bD (aP e (eB (bD (aP f (bD (bJ rfl rfl)))))))))
  rcases m with⟨a,rfl⟩ |⟨⟨a,rfl⟩,m⟩
  ·refine⟨false,key ?_,λh=>(by cases h)⟩;unfold kI;exact aJ c (aP d (eB (bD (aP e (eB (bD (aP f (eB (bD (aP v (bD (bJ rfl rfl))))))))))))
  ·refine⟨cP a 160,key ?_,λ_=>⟨by omega,g,j,l,m⟩⟩;unfold kI;exact aJ c (aP d (eB (bD (aP e (eB (bD (aP f (eB (bD (aP v (eB (bD (bJ rfl rfl)))))))))))))
theorem Zl(g:SzM fs):∃t,iS E aY sites Hw [.l [.l xs,.l gs,.l ts,.l fs]] (.b t) []/\(t=true->WP xs gs ts fs/\OkM xs gs ts fs):=by
 obtain⟨t,c,e⟩:=Mb xs gs ts fs g;cases t with
 |false=>refine⟨false,bA SN (by rfl) rfl ?_,λh=>(by cases h)⟩;show Ev _ _ (CV _) _;unfold CV;exact bK c rfl (aJ rfl (bJ rfl rfl))
 |true=>have d:=e rfl;have f:=Yu xs gs ts fs d;refine⟨aD (Kh xs gs ts fs) 0,bA SN (by rfl) rfl ?_,λh=>⟨d,aB4 ((bT _ _).1 h)⟩⟩;show Ev _ _ (CV _) _;unfold CV;exact bK c rfl (aC rfl (bK f rfl (bJ rfl rfl)))
end
end Go.Eng.Q

namespace Go.Eng.Q
open Go.Eng
def N9:Cl:=λm xs=>bif Nat.beq m bB then As xs else M8 m xs
theorem aAa:∀m xs r,N9 m xs=some r->iS E aY sites m xs r.1 r.2:=λm xs r h=>by
 unfold N9 at h;cases e:Nat.beq m bB with
 |true=>rw[e]at h;have d:As xs=some (r.1,r.2):=h;have c:m=bB:=Nat.eq_of_beq_eq_true e;subst c;refine⟨0,λk n L _ _ _=>?_⟩;have f:(Eb E) bB=some As:=rfl;cases n<;>simp only[qK,f,d]
 |false=>rw[e]at h;exact w7 m xs r h
theorem aAb:j5 aDZ N9 400 60 tK []=some (.b true,[]):=by kernel_rfl
theorem Zm:iS E aY sites tK [] (.b true) []:=aBF (RL l8) aAa 400 60 tK [] _ aAb
end Go.Eng.Q

namespace Go.Eng.Q
open Go.Eng
def aCn(fs:List D):Prop:=∀j,j<fs.length->aCj (gJ (gD fs j))
section
variable{xs gs ts fs:List D}(hM:WP xs gs ts fs)(hO:OkM xs gs ts fs)(hI:aCn fs)
include hM hO hI
omit hI in
theorem aFX{j B:Nat}(g:j<fs.length)(d:B<(gJ (gD fs j)).length)(nm:List UInt8)(o:Bool)(r:Int){b:Nat->List SP}(l:x3 (nv (eX (gD fs j) 2) (gJ (gD fs j))) (eX (gD fs j) 2) (dD (eX (gD fs j) 2).length (gJ (gD fs j))) b)(s:r=vI (gD fs j) 3):
  fC oS 4 [.i (j:Int),.i (B:Int),.i 0,.l xs,.l gs,.l ts,.l fs,.s nm,.b o,.l (eX (gD fs j) 2),.i r,.l (gJ (gD fs j)),.l (cF (nv (eX (gD fs j) 2) (gJ (gD fs j))) b),.l (wW (nv (eX (gD fs j) 2) (gJ (gD fs j))) (bE (eX (gD fs j) 2) (gJ (gD fs j))) (dD (eX (gD fs j) 2).length (gJ (gD fs j))) (nP (eX (gD fs j) 2).length (gJ (gD fs j))))]
   (1,[.i (j:Int),.i (B:Int),.l xs,.l gs,.l ts,.l fs,.s nm,.b o,.l (eX (gD fs j) 2),.i r,.l (gJ (gD fs j)),.l (cF (nv (eX (gD fs j) 2) (gJ (gD fs j))) b),.l (wW (nv (eX (gD fs j) 2) (gJ (gD fs j))) (bE (eX (gD fs j) 2) (gJ (gD fs j))) (dD (eX (gD fs j) 2).length (gJ (gD fs j))) (nP (eX (gD fs j) 2).length (gJ (gD fs j))))]):=by
 subst s;have hf:=WS hM hO g;have u:=DQ hO.sm;have h:=(hf.tb.2 B d).ins.sane;have m:=λi(c:i<(gD (gJ (gD fs j)) B).els.length)=>To hM hO j B i g d c;have t:=λi(c:i<(gD (gJ (gD fs j)) B).els.length)=>Zk (xs:=xs) (ts:=ts) (fs:=fs) hf u.2.1 nm o l d c;refine cI oU (λi=>[.i (j:Int),.i (B:Int),.i (i:Int),.l xs,.l gs,.l ts,.l fs,.s nm,.b o,.l (eX (gD fs j) 2),.i (vI (gD fs j) 3),.l (gJ (gD fs j)),.l (cF (nv (eX (gD fs j) 2) (gJ (gD fs j))) b),.l (wW (nv (eX (gD fs j) 2) (gJ (gD fs j))) (bE (eX (gD fs j) 2) (gJ (gD fs j))) (dD (eX (gD fs j) 2).length (gJ (gD fs j))) (nP (eX (gD fs j) 2).length (gJ (gD fs j))))]) (gD (gJ (gD fs j)) B).els.length (λi c=>?_) ?_
 ·have f:aA (B:Int) (gJ (gD fs j)).length=true:=aE d;have v:aT (i:Int) (iE (gD (gJ (gD fs j)) B))=true:=aW c;have wi:aA (i:Int) (nE (gD (gJ (gD fs j)) B))=true:=aE c;show Ev _ _ (lV _) _;unfold lV;refine aC f (aC v (aC f (aC wi ?_)));cases e:((aD (vI (cW (gJ (gD fs j)) B i) 0) 20||aD (vI (cW (gJ (gD fs j)) B i) 0) 21)||aD (vI (cW (gJ (gD fs j)) B i) 0) 18)with
  |false=>exact aJ e (aO (nx c h [_,_] _))
  |true=>refine aC e (aC f (aC wi (bK (m i c) rfl (bK (t i c) rfl (aJ ?_ (aO (nx c h [_,_] _)))))));show(!(bif Dr gs (dD (eX (gD fs j) 2).length (gJ (gD fs j))) (nP (eX (gD fs j) 2).length (gJ (gD fs j))) (cW (gJ (gD fs j)) B i)then Dr gs (dD (eX (gD fs j) 2).length (gJ (gD fs j))) (nP (eX (gD fs j) 2).length (gJ (gD fs j))) (cW (gJ (gD fs j)) B i)else !(Dr gs (dD (eX (gD fs j) 2).length (gJ (gD fs j))) (nP (eX (gD fs j) 2).length (gJ (gD fs j))) (cW (gJ (gD fs j)) B i))))=false;cases Dr gs (dD (eX (gD fs j) 2).length (gJ (gD fs j))) (nP (eX (gD fs j) 2).length (gJ (gD fs j))) (cW (gJ (gD fs j)) B i)<;>rfl
 ·have f:aA (B:Int) (gJ (gD fs j)).length=true:=aE d;show Ev _ _ (lV _) _;unfold lV;exact aC f (aJ (aX _) (bG rfl))
omit hI in
theorem aFY{j:Nat}(d:j<fs.length)(nm:List UInt8)(o:Bool)(r:Int){b:Nat->List SP}(e:x3 (nv (eX (gD fs j) 2) (gJ (gD fs j))) (eX (gD fs j) 2) (dD (eX (gD fs j) 2).length (gJ (gD fs j))) b)(f:r=vI (gD fs j) 3):
  fC oS 2 [.i (j:Int),.i 0,.l xs,.l gs,.l ts,.l fs,.s nm,.b o,.l (eX (gD fs j) 2),.i r,.l (gJ (gD fs j)),.l (cF (nv (eX (gD fs j) 2) (gJ (gD fs j))) b),.l (wW (nv (eX (gD fs j) 2) (gJ (gD fs j))) (bE (eX (gD fs j) 2) (gJ (gD fs j))) (dD (eX (gD fs j) 2).length (gJ (gD fs j))) (nP (eX (gD fs j) 2).length (gJ (gD fs j))))]
   (1,[.i (j:Int),.l xs,.l gs,.l ts,.l fs]):=by
 have hf:=WS hM hO d;refine cI oU (λB=>[.i (j:Int),.i (B:Int),.l xs,.l gs,.l ts,.l fs,.s nm,.b o,.l (eX (gD fs j) 2),.i r,.l (gJ (gD fs j)),.l (cF (nv (eX (gD fs j) 2) (gJ (gD fs j))) b),.l (wW (nv (eX (gD fs j) 2) (gJ (gD fs j))) (bE (eX (gD fs j) 2) (gJ (gD fs j))) (dD (eX (gD fs j) 2).length (gJ (gD fs j))) (nP (eX (gD fs j) 2).length (gJ (gD fs j))))]) (gJ (gD fs j)).length (λB c=>?_) ?_
 ·show Ev _ _ (lU _) _;unfold lU;exact aC (aW c) (aP (aFX hM hO d c nm o r e f) (eB (bD (aO (nx c hf.tb.1.sane [_] _)))))
 ·show Ev _ _ (lU _) _;unfold lU;exact aJ (aX _) (bG rfl)
theorem aFZ:fC oS 0 [.i 0,.l xs,.l gs,.l ts,.l fs] (1,[]):=by
 have l:=hM.n;refine cI oU (λj=>[.i (j:Int),.l xs,.l gs,.l ts,.l fs]) fs.length (λj c=>?_) ?_
 ·have hf:=WS hM hO c;have h:=DQ hO.sm;obtain⟨b,e,f⟩:=Tq hf h.2.1 (D.toS (D.fld (gD fs j) 0)) (vB (gD fs j) 1);have d:(gD (bE (eX (gD fs j) 2) (gJ (gD fs j))) 0).toI≠3:=by rw[x5 (Nat.zero_le _)];exact(by decide:(0:Int)≠3)
  have g:=Zg hf (hI j c) (D.toS (D.fld (gD fs j) 0)) (vB (gD fs j) 1) d;show Ev _ _ (lT _) _;unfold lT;exact aC (aW c) (aC (aE c) (bK f rfl (bK g rfl (aP (aFY hM hO c (D.toS (D.fld (gD fs j) 0)) (vB (gD fs j) 1) (vI (gD fs j) 3) e rfl) (eB (bD (aO (nx c (by omega) [] _))))))))
 ·show Ev _ _ (lT _) _;unfold lT;exact aJ (aX _) (bG rfl)
end
theorem aE1(xs gs ts fs:List D)(e:SzM fs)(hI:aCn fs):iS E aY sites PZ [.l [.l xs,.l gs,.l ts,.l fs]] (.b true) []:=by
 obtain⟨t,c,d⟩:=Zl xs gs ts fs e;refine bA oU (by rfl) rfl ?_;show Ev _ _ (AG _) _;unfold AG;refine bK Zm rfl (aJ rfl (bK c rfl ?_));cases t with
 |false=>exact aC rfl (bK Zm rfl (bJ rfl rfl))
 |true=>obtain⟨hM,hO⟩:=d rfl;exact aJ rfl (aP (aFZ hM hO hI) (eB (bD (bJ rfl rfl))))
end Go.Eng.Q

namespace Go.Eng.Q
open Go.Eng Go.Proofs
open Go.Shelf Go.RowKit Go.Lib Go.Sort
def Tryz.sortL_ren:Go.Shelf.Ren:=⟨λ|6=>72 |15=>88 |14=>87 |28=>101 |29=>102 |20=>93 |21=>94 |22=>95 |23=>96 |24=>97 |25=>98 |26=>99 |27=>100 |46=>104 |47=>105 |48=>106 |49=>107 |50=>108 |57=>109 |n=>n,λ|22=>50 |24=>52 |25=>111 |3=>3 |39=>127 |0=>0 |53=>140 |55=>142 |4=>4 |46=>133 |45=>132 |50=>137 |5=>5 |9=>9 |66=>144 |70=>148 |76=>150 |77=>62 |n=>n,λ|n=>n⟩
theorem Tryz.sortL:Go.Proofs.SlLaysF0.n6 Tryz.prog Tryz.sortL_ren:={
 mixed:=by kernel_rfl,
 f6:=⟨Tryz.f72.name,by decide,Tryz.func72.trans (congrArg some (by kernel_rfl))⟩,
 f14:=⟨Tryz.f87.name,by decide,Tryz.func87.trans (congrArg some (by kernel_rfl))⟩,
 f15:=Tryz.func88.trans (congrArg some (by kernel_rfl)),
 f20:=⟨Tryz.f93.name,by decide,Tryz.func93.trans (congrArg some (by kernel_rfl))⟩,
 f21:=⟨Tryz.f94.name,by decide,Tryz.func94.trans (congrArg some (by kernel_rfl))⟩,
 f22:=⟨Tryz.f95.name,by decide,Tryz.func95.trans (congrArg some (by kernel_rfl))⟩,
 f23:=⟨Tryz.f96.name,by decide,Tryz.func96.trans (congrArg some (by kernel_rfl))⟩,
 f24:=⟨Tryz.f97.name,by decide,Tryz.func97.trans (congrArg some (by kernel_rfl))⟩,
 f25:=⟨Tryz.f98.name,by decide,Tryz.func98.trans (congrArg some (by kernel_rfl))⟩,
 f26:=⟨Tryz.f99.name,by decide,Tryz.func99.trans (congrArg some (by kernel_rfl))⟩,
 f27:=⟨Tryz.f100.name,by decide,Tryz.func100.trans (congrArg some (by kernel_rfl))⟩,
 f28:=Tryz.func101.trans (congrArg some (by kernel_rfl)),
 f29:=Tryz.func102.trans (congrArg some (by kernel_rfl)),
 f46:=⟨Tryz.f104.name,by decide,Tryz.func104.trans (congrArg some (by kernel_rfl))⟩,
 f47:=Tryz.func105.trans (congrArg some (by kernel_rfl)),
 f48:=Tryz.func106.trans (congrArg some (by kernel_rfl)),
 f49:=⟨Tryz.f107.name,by decide,Tryz.func107.trans (congrArg some (by kernel_rfl))⟩,
 f50:=⟨Tryz.f108.name,by decide,Tryz.func108.trans (congrArg some (by kernel_rfl))⟩,
 f57:=⟨Tryz.f109.name,by decide,Tryz.func109.trans (congrArg some (by kernel_rfl))⟩,
 t0:=Tryz.underlying0,
 a0:=Tryz.isAgg0,
 z0:=Tryz.sizeOf0,
 v0:=Tryz.zeroValue0,
 t3:=Tryz.underlying3,
 a3:=Tryz.isAgg3,
 z3:=Tryz.sizeOf3,
 v3:=Tryz.zeroValue3,
 t4:=Tryz.underlying4,
 a4:=Tryz.isAgg4,
 z4:=Tryz.sizeOf4,
 v4:=Tryz.zeroValue4,
 t5:=Tryz.underlying5,
 a5:=Tryz.isAgg5,
 z5:=Tryz.sizeOf5,
 v5:=Tryz.zeroValue5,
 t9:=Tryz.underlying9,
 a9:=Tryz.isAgg9,
 z9:=Tryz.sizeOf9,
 v9:=Tryz.zeroValue9,
 t22:=Tryz.underlying50,
 a22:=Tryz.isAgg50,
 z22:=Tryz.sizeOf50,
 v22:=Tryz.zeroValue50,
 t25:=Tryz.underlying111,
 a25:=Tryz.isAgg111,
 z25:=Tryz.sizeOf111,
 v25:=Tryz.zeroValue111,
 t39:=Tryz.underlying127,
 a39:=Tryz.isAgg127,
 z39:=Tryz.sizeOf127,
 v39:=Tryz.zeroValue127,
 t45:=Tryz.underlying132,
 a45:=Tryz.isAgg132,
 z45:=Tryz.sizeOf132,
 v45:=Tryz.zeroValue132,
 t46:=Tryz.underlying133,
 a46:=Tryz.isAgg133,
 z46:=Tryz.sizeOf133,
 v46:=Tryz.zeroValue133,
 t50:=Tryz.underlying137,
 a50:=Tryz.isAgg137,
 z50:=Tryz.sizeOf137,
 v50:=Tryz.zeroValue137,
 t53:=Tryz.underlying140,
 a53:=Tryz.isAgg140,
 z53:=Tryz.sizeOf140,
 v53:=Tryz.zeroValue140,
 t55:=Tryz.underlying142,
 a55:=Tryz.isAgg142,
 z55:=Tryz.sizeOf142,
 v55:=Tryz.zeroValue142,
 t66:=Tryz.underlying144,
 a66:=Tryz.isAgg144,
 z66:=Tryz.sizeOf144,
 v66:=Tryz.zeroValue144,
 t70:=Tryz.underlying148,
 a70:=Tryz.isAgg148,
 z70:=Tryz.sizeOf148,
 v70:=Tryz.zeroValue148,
 t76:=Tryz.underlying150,
 a76:=Tryz.isAgg150,
 z76:=Tryz.sizeOf150,
 v76:=Tryz.zeroValue150,
 t77:=Tryz.underlying62,
 a77:=Tryz.isAgg62,
 z77:=Tryz.sizeOf62,
 v77:=Tryz.zeroValue62}
def cfZ(a b c d:Int):Int:=if a≠c then a-c else b-d
set_option maxHeartbeats 2000000 in
theorem lesser_z(a b c d:Int)(j:0<=a/\a<1000000000)(l:0<=b/\b<1000000000)(m:0<=c/\c<1000000000)(hd:0<=d/\d<1000000000)(f:World):
  Calls Tryz.prog 73 #[.agg #[.int .i64 a,.int .i64 b],.agg #[.int .i64 c,.int .i64 d]] f λe w'=>e=.returned (.int .i64 (cfZ a b c d))/\∃q g,w'=grow (f.drewN q) g:=by
 have r:IntKind.i64.wrap (a-c)=a-c:=by simp[IntKind.wrap,IntKind.bits,IntKind.signed];omega
 have s:IntKind.i64.wrap (b-d)=b-d:=by simp[IntKind.wrap,IntKind.bits,IntKind.signed];omega
 go_enter Tryz.func73,Tryz.ntmps73
 go_wp2
 all_goals go_ret
 ·rename_i h;have h:a≠c:=by simpa using h
  refine⟨?_,0,_,by rw[alloc_eq_grow,alloc_eq_grow,grow_grow];rfl⟩;unfold cfZ;rw[if_pos h];rfl
 ·rename_i h;have h:¬(a≠c):=by simpa using h
  refine⟨?_,0,_,by rw[alloc_eq_grow,alloc_eq_grow,grow_grow];rfl⟩;unfold cfZ;rw[if_neg h];rfl
def Ds(x:SP):List Value:=[.int .i64 x.1.val,.int .i64 x.2.val]
def cfS(x c:SP):Int:=cfZ x.1.val x.2.val c.1.val c.2.val
theorem Kx(x c:SP):Go.Proofs.ltOf cfS x c=sE x c:=by rw[Bool.eq_iff_iff,GW];unfold Go.Proofs.ltOf cfS cfZ;rw[decide_eq_true_eq];split<;>omega
theorem Zn(d off size:Nat)(w:World):CmpLays Tryz.prog 73 #[] Ds 2 cfS d off size w:=λ_ _ _ _ x c=>
 lesser_z x.1.val x.2.val c.1.val c.2.val (by omega) (by omega) (by omega) (by omega) _
theorem aGZ:SWO (Go.Proofs.ltOf cfS) where
 irrefl x:=by rw[Kx];exact DO x
 trans x y z h1 h2:=by rw[Kx]at*;exact JH h1 h2
 ntrans x y z h1 h2:=by
  rw[Kx]at*;rcases NF.1 h1 with e |e
  ·subst e;exact h2
  ·rcases NF.1 h2 with c |c
   ·subst c;exact h1
   ·exact NF.2 (.inr (JH c e))
theorem aG0(x c:SP)(f:Go.Proofs.ltOf cfS x c=false)(d:Go.Proofs.ltOf cfS c x=false):x=c:=by
 rw[Kx]at*;rcases NF.1 f with e |e
 ·exact e.symm
 ·rw[e]at d;cases d
theorem O3(c off h:Nat)(l:List SP)(w:World)(m:HoldsK Ds 2 w c off l.toArray)(r:c<w.heap.size)(s:l.length<4611686018427387904):
  Calls Tryz.prog 72 #[.slice (some ⟨c,off,none⟩) l.length h,.func (.func 73) #[] #[]] w λe w'=>e=.returned (.tuple #[])/\∃n os,w'=sortWorldK Ds 2 w c off n (l.mergeSort λx d=>!sE d x).toArray os:=by
 have j:∀g w,(callFunc 73 g).run Tryz.prog w=.ok (.enter 73 g) w:=enters_of Tryz.func73 (by kernel_rfl) rfl;have f:=AnyQ.slices_SortFunc_total Tryz.sortL 2 Tryz.isAgg52 Tryz.sizeOf52 Ds (λ_=>rfl) (λx v hv=>by simp[Ds]at hv;rcases hv with rfl |rfl<;>rfl) cfS aGZ 73 #[] c off h l.toArray w j (Zn c off _ w) m r (by simpa using s) aG0;have e:(λx d:SP=>!(Go.Proofs.ltOf cfS) d x)=λx d=>!sE d x:=by funext x d;rw[Kx]
 rw[e]at f;change Calls Tryz.prog 72 _ _ _ at f;simpa using f
theorem aAc(p:Option Addr)(c:Nat)(w:World):Calls Tryz.prog 72 #[.slice p 0 c,.func (.func 73) #[] #[]] w λe w'=>e=.returned (.tuple #[])/\w'=w:=
 AnyF.slices_SortFunc_none Tryz.sortL p c _ w
end Go.Eng.Q

namespace Go.Eng.Q
open Go.Eng Go.Proofs
open Go.RowKit Go.Lib Go.Sort
theorem aCo{x:D}{p:SP}(h:Y1 x=some p):x=eE p:=by
 unfold Y1 at h;split at h
 ·rename_i a b;obtain⟨u,c,f⟩:=Option.bind_eq_some_iff.1 h;obtain⟨v,d,e⟩:=Option.bind_eq_some_iff.1 f;injection e with e;subst e;unfold TV at c d;split at c
  ·rename_i e1;split at d
   ·rename_i l;injection c with c;injection d with d;subst c;subst d;unfold eE;have g:((a.toNat:Nat):Int)=a:=by omega
    have j:((b.toNat:Nat):Int)=b:=by omega
    show D.l [.i a,.i b]=D.l [.i ((a.toNat:Nat):Int),.i ((b.toNat:Nat):Int)];rw[g,j]
   ·simp at d
  ·simp at c
 ·simp at h
theorem Pc:∀{data:List D}{l:List SP},Ar data=some l->data=l.map eE
 |[],l,h=>by have h:some []=some l:=h;injection h with h;subst h;rfl
 |x::data,l,h=>by have h:((Y1 x).bind λx=>(Ar data).bind λl=>some (x::l))=some l:=h;obtain⟨p,d,e⟩:=Option.bind_eq_some_iff.1 h;obtain⟨g,f,c⟩:=Option.bind_eq_some_iff.1 e;injection c with c;subst c;rw[aCo d,Pc f];rfl
theorem aDH(s:List SP):s.mergeSort (λx c=>!sE c x)=pN s:=by
 unfold pN;split
 ·simp
 ·simp
 ·rfl
theorem aDI:RK Tryz.prog E:=λs e el f a0 F ctx d2 data q x C g1 w G st sl r a c6 c7 e9 c9 e0 c8=>by
 have e6:E.sg.look E.srt=some ⟨72,[(50,.sio [.sl true 52 y1]),(111,.fnv 73)],[]⟩:=by kernel_rfl
 rw[e6]at a0;injection a0 with a0;subst a0;have e5:lJ [(50,PM.sio [.sl true 52 y1]),(111,.fnv 73)]=some (52,y1,73):=by kernel_rfl
 have F:lJ [(50,PM.sio [.sl true 52 y1]),(111,.fnv 73)]=some (e,el,f):=F;rw[e5]at F;injection F with F;injection F with f6 b0;injection b0 with b0 f7;subst f6;subst b0;subst f7;rw[d2]at C;have C:(bif Nat.ble data.length 1000000000 then(Ar data).bind λl=>some (D.l [],[D.l (Uq data l)])else none)=some (q,[x]):=C;cases K:Nat.ble data.length 1000000000 with
 |false=>rw[K]at C;simp at C
 |true=>
 rw[K,cond_true]at C;have K:=Nat.le_of_ble_eq_true K;obtain⟨l,c4,U⟩:=Option.bind_eq_some_iff.1 C;injection U with U;injection U with U V;injection V with V;have d3:=Pc c4;subst d3;rw[V8]at V;subst V;obtain⟨_,_,_,b6⟩:=c6.arrs r a c7;rw[e9,c9,e0,c8]at b6;obtain⟨ad,n,c,hv,a6,b4,b3,b5,b7⟩:=b6;rw[List.length_map]at a6;show Calls Tryz.prog 72 ⟨[G.H r [],.func (.func 73) #[] #[]]⟩ w _;rw[hv];by_cases c3:n=0
 ·subst c3;have e4:l=[]:=List.eq_nil_of_length_eq_zero a6;subst e4;refine(aAc ad c w).mono λc2 w'⟨a4,g⟩=>?_;subst g;refine⟨a4,rfl,rfl,rfl,Nat.le_refl _,λ_ _ _=>rfl,ad,0,c,rfl,rfl,b4,b3,b5,λb1 J=>?_⟩;obtain⟨Q,H,cs,P,y,T,a1⟩:=b7 b1 J;exact⟨Q,H,cs,P,y,T,λi u=>absurd u (by omega)⟩
 ·cases ad with
  |none=>have:=b5 rfl;omega
  |some A=>
   obtain⟨Q,H,cs,P,y,T,a1⟩:=b7 A rfl;obtain⟨d,off,g2⟩:=A;simp only at Q H y T a1;subst Q;have a3:d<w.heap.size:=by
    rcases Nat.lt_or_ge d w.heap.size with h |h
    ·exact h
    ·rw[Array.getElem?_eq_none h]at y;cases y
   have e1:∀j,w.frozen? ⟨d,j,none⟩=false:=λj=>by unfold World.frozen?;simp only[y];simp
   have hg:∀i,i<l.length->l.toArray[i]! =gP l i:=λi u=>by simp[gP,u]
   have b2:HoldsK Ds 2 w d off l.toArray:=λj Y=>by
    rw[size_flatK]at Y;have Y:j<l.length*2:=by simpa using Y
    refine⟨?_,e1 _⟩;rw[get_flatK _ _ _ _ (by simpa using Y),hg _ (by omega)];have u:j/2<n:=by omega
    have W:∀t,t<2->w.cell? ⟨d,off+(j/2)*2+t,none⟩=some ((Ds (gP l (j/2)))[t]!):=λt ht=>by
     have f2:y1.length=2:=rfl;have a9:y1[t]?=some (.int .i64):=by rcases(show t=0\/t=1 by omega)with e |e<;>subst e<;>rfl
     obtain⟨v,c0,c1⟩:=AP (a1 (j/2) u) t (.int .i64) a9;have a5:(l.map eE).getD (j/2) (.i 0)=eE (gP l (j/2)):=by simp[List.getD,gP,show j/2<l.length by omega]
     rw[a5,Nat.zero_add]at c1;rw[Nat.zero_add,f2]at c0;rw[c0];have f5:v=.int .i64 (lf 2 (eE (gP l (j/2))) t).toI:=c1.1;rw[f5];rcases(show t=0\/t=1 by omega)with e |e<;>subst e<;>rfl
    have:=W (j%2) (by omega);rw[show off+j/2*2+j%2=off+j by omega]at this;exact this
   have f8:n<=maxLen:=by omega
   have d1:l.length<4611686018427387904:=by rw[List.length_map]at K;omega
   subst a6;refine(O3 d off c l w b2 a3 d1).mono λc2 w'⟨a4,m,os,g⟩=>?_;rw[aDH]at g;have f0:(pN l).toArray.size=l.toArray.size:=by simp[AC]
   have c5:HoldsK Ds 2 w' d off (pN l).toArray:=by rw[g];exact holdsK_sortWorldK_c Ds 2 w d off l.toArray (pN l).toArray m os b2 a3 f0
   have e3:∀b,b<w.heap.size->b≠d->w'.heap[b]?=w.heap[b]?:=λb a2 a7=>by rw[g];unfold sortWorldK putRowK putRow mapBlock;rw[heap_grow_old _ _ (by simpa[Sort.ahead]using a2)];simp[Array.getElem?_modify,Sort.ahead,Ne.symm a7]
   have d0:∃L,L.size=cs.size/\w'.heap[d]?=some (.cells L P (0,0)):=by rw[g];unfold sortWorldK putRowK putRow mapBlock;rw[heap_grow_old _ _ (by simpa[Sort.ahead]using a3)];refine⟨putCells id off (flatK Ds 2 (pN l).toArray) cs,by simp[putCells],?_⟩;simp[Array.getElem?_modify,Sort.ahead,y,onCells]
   obtain⟨L,f3,f4⟩:=d0;refine⟨a4,by rw[g];rfl,by rw[g];rfl,by rw[g];rfl,?_,λb a2 a7=>e3 b a2 (λe=>a7 (by rw[e];exact H)),some ⟨d,off,none⟩,l.length,c,rfl,by show((pN l).map eE).length=_;rw[List.length_map,AC],b4,b3,(λh=>by cases h),λb1 J=>?_⟩
   ·rw[g];exact size_sortWorldK_c Ds 2 w d off m _ os
   ·injection J with J;subst J;refine⟨rfl,H,L,P,f4,by rw[f3];exact T,λi u=>?_⟩;refine HP y1 0 λt ty ht=>?_;have a9:t<2:=(List.getElem?_eq_some_iff.1 ht).1;have f1:ty=.int .i64:=by
     rcases(show t=0\/t=1 by omega)with e |e<;>subst e<;>(injection ht with ht;exact ht.symm)
    subst f1;have W:=(HoldsK.cell c5 (i:=i) (c:=t) (by simpa[AC]using u) a9).1;have e2:(pN l).toArray[i]! =gP (pN l) i:=by simp[gP,AC,u]
    rw[e2]at W;have a5:((pN l).map eE).getD i (.i 0)=eE (gP (pN l) i):=by simp[List.getD,gP,AC,u]
    refine⟨(Ds (gP (pN l) i))[t]!,?_,?_⟩
    ·rw[Nat.zero_add];exact W
    ·show Ur w' G [] r (.int .i64) _ _ (lf 2 (((pN l).map eE).getD i (.i 0)) (0+t));rw[a5,Nat.zero_add];have f9:(gP (pN l) i).1.val <1000000000:=(gP (pN l) i).1.isLt;have g0:(gP (pN l) i).2.val <1000000000:=(gP (pN l) i).2.isLt;rcases(show t=0\/t=1 by omega)with e |e<;>subst e
     ·refine⟨rfl,?_,?_⟩
      ·show(-9223372036854775808:Int)<=((gP (pN l) i).1.val :Int);omega
      ·show((gP (pN l) i).1.val :Int)<=9223372036854775807;omega
     ·refine⟨rfl,?_,?_⟩
      ·show(-9223372036854775808:Int)<=((gP (pN l) i).2.val :Int);omega
      ·show((gP (pN l) i).2.val :Int)<=9223372036854775807;omega
end Go.Eng.Q

namespace Go.Eng.Q
open Go.Eng Go.Proofs Go.Proofs.YtglojhiigapkbaaGreat
mutual
def SzL(n:Nat):LT->D->Prop
 |.sl _ _ el,x=>x.els.length<=n/\∀i,i<x.els.length->SzC n el el.length (x.els.getD i (.i 0)) 0
 |.int _,_=>True
 |.bool,_=>True
 |.str,_=>True
def SzC(n:Nat):List LT->Nat->D->Nat->Prop
 |[],_,_,_=>True
 |t::ts,k,x,j=>SzL n t (lf k x j)/\SzC n ts k x (j+1)
end
theorem aCq{n k:Nat}{x:D}:∀(ts:List LT)(c:Nat),(∀(j:Nat)(t:LT),ts[j]?=some t->SzL n t (lf k x (c+j)))->SzC n ts k x c
 |[],_,_=>trivial
 |t::ts,c,h=>⟨h 0 t rfl,aCq ts (c+1) λj u d=>by have:=h (j+1) u (by simpa using d);rwa [show c+(j+1)=c+1+j by omega]at this⟩
mutual
def shT(P:Program):Nat->TypeId->Option (List LT)
 |0,_=>none
 |n+1,t=>match P.underlying t with
  |some .bool=>some [.bool]
  |some (.int .i64)=>some [.int .i64]
  |some .string=>some [.str]
  |some (.slice e)=>(shT P n e).bind λel=>bif Nat.beq (P.cellsOf e) el.length&&Nat.ble 1 el.length then some [.sl false e el]else none
  |some (.struct fs)=>(aAd P n fs.toList 0).bind λlv=>bif Nat.beq (P.cellsOf t) lv.length then some lv else none
  |_=>none
def aAd(P:Program):Nat->List Field->Nat->Option (List LT)
 |0,_,_=>none
 |n+1,[],_=>some []
 |n+1,f::fs,o=>bif Nat.beq f.offset o then(shT P n f.type).bind λl=>bif Nat.beq (P.cellsOf f.type) l.length then(aAd P n fs (o+l.length)).map (l++·)else none else none
end
theorem aG1{n:Int}(h:(Lit.int .i64 n).wf=true):TC .i64<=n/\n<=TD .i64:=by simp only[Lit.wf,Bool.and_eq_true,decide_eq_true_eq]at h;exact h
theorem aE2{H:Type}(d:DataW H):1<=Rows.uptoBulk d:=by
 cases d with
 |lit l=>cases l<;>simp[Rows.uptoBulk]
 |nil=>simp[Rows.uptoBulk]
 |ptr d=>simp[Rows.uptoBulk]
 |slice c f=>simp[Rows.uptoBulk]
 |agg parts=>simp[Rows.uptoBulk]
 |iface t d=>simp[Rows.uptoBulk]
 |map e=>simp[Rows.uptoBulk]
 |held h=>simp[Rows.uptoBulk]
theorem X7{H:Type}{d:DataW H}{l:List (DataW H)}(h:d∈l):Rows.uptoBulk d<=Rows.uptoBulkAll l:=by
 induction l with
 |nil=>cases h
 |cons x r c=>
  simp only[Rows.uptoBulkAll];cases List.mem_cons.1 h with
  |inl e=>subst e;omega
  |inr e=>have:=c e;omega
theorem length_le{H:Type}(l:List (DataW H)):l.length<=Rows.uptoBulkAll l:=by
 induction l with
 |nil=>simp[Rows.uptoBulkAll]
 |cons x r c=>have:=aE2 x;simp only[Rows.uptoBulkAll,List.length_cons];omega
section
variable{H:Type}{enc:TypeId×Value->H}{P:Program}{w:World}
def KT(w:World)(n:Nat)(lv:List LT)(cs:List Value)(o:Nat)(ys:List D):Prop:=
 ys.length=lv.length/\∀(j:Nat)(t:LT),lv[j]?=some t->∃u,cs[o+j]?=some u/\uA w (uD (Gh.top w) []) t u (ys.getD j (.i 0))/\SzL n t (ys.getD j (.i 0))
theorem aE3{b:Nat}(h:b<w.heap.size):uD (Gh.top w) [] b:=.inl (by simp[Gh.top,h])
theorem Zo{n:Nat}{t:LT}{u:Value}{d:D}(e:uA w (uD (Gh.top w) []) t u d)(f:SzL n t d):KT w n [t] [u] 0 [d]:=
 ⟨rfl,λj g c=>by
  cases j with
  |zero=>injection c with c;subst c;exact⟨u,rfl,e,f⟩
  |succ j=>simp at c⟩
variable{N:Nat}
theorem X8:∀(a0 n:Nat)(t:TypeId)(cs:List Value)(x:DataW H×List MemPlace)(lv:List LT),DataW.trod enc P w 0 (λ_=>true) true a0 t cs=some x->shT P n t=some lv->Rows.uptoBulk x.1<=N->cs.length=lv.length/\∃ys,KT w N lv cs 0 ys
 |0,_,_,_,_,_,h,_,_=>by simp[DataW.trod]at h
 |a0+1,0,_,_,_,_,_,h,_=>by simp[shT]at h
 |a0+1,n+1,t,cs,x,lv,h,y,a4=>by
  have c7:=X8 a0;have e5:∀(m:Nat)(fs:List Field)(o:Nat)(xs:List (DataW H×List MemPlace))(lv:List LT),(fs.mapM λf=>DataW.trod enc P w 0 (λ_=>true) true a0 f.type ((cs.drop f.offset).take (P.cellsOf f.type)))=some xs->aAd P m fs o=some lv->(∀K∈xs,Rows.uptoBulk K.1<=N)->∃ys,KT w N lv cs o ys:=by
   intro m;induction m with
   |zero=>intro fs o xs lv _ c _;simp[aAd]at c
   |succ m f4=>
    intro fs o xs lv Q c W;cases fs with
    |nil=>simp only[aAd,Option.some.injEq]at c;subst c;exact⟨[],rfl,λj t v=>by simp at v⟩
    |cons f fs=>
     simp only[aAd]at c;cases e1:Nat.beq f.offset o with
     |false=>rw[e1]at c;simp at c
     |true=>
      rw[e1]at c;simp only[cond_true]at c;obtain⟨l,e3,a1⟩:=Option.bind_eq_some_iff.1 c;cases a3:Nat.beq (P.cellsOf f.type) l.length with
      |false=>rw[a3]at a1;simp at a1
      |true=>
       rw[a3]at a1;simp only[cond_true,Option.map_eq_some_iff]at a1;obtain⟨r,e4,rfl⟩:=a1;have e1:=Nat.eq_of_beq_eq_true e1;have a3:=Nat.eq_of_beq_eq_true a3;rw[List.mapM_cons]at Q;simp only[Option.bind_eq_bind,Option.bind_eq_some_iff,Option.pure_def,Option.some.injEq]at Q;obtain⟨K,L,rs,V,rfl⟩:=Q;obtain⟨d2,ys,a6,c4⟩:=c7 m f.type _ K l L e3 (W K (by simp));obtain⟨a9,a7,c5⟩:=f4 fs (o+l.length) rs r V e4 λK c3=>W K (by simp[c3]);refine⟨ys++a9,by simp[a6,a7],λj t v=>?_⟩;by_cases T:j<l.length
       ·rw[List.getElem?_append_left T]at v;obtain⟨u,U,Y⟩:=c4 j t v;refine⟨u,?_,?_⟩
        ·rw[List.getElem?_take]at U;split at U
         ·rw[List.getElem?_drop]at U;rw[<-U,e1];congr 1;omega
         ·simp at U
        ·have:(ys++a9).getD j (.i 0)=ys.getD j (.i 0):=by simp[List.getD,List.getElem?_append_left (show j<ys.length by omega)]
         rw[this];exact Y
       ·rw[List.getElem?_append_right (by omega)]at v;obtain⟨u,U,Y⟩:=c5 (j-l.length) t v;refine⟨u,?_,?_⟩
        ·rw[<-U];congr 1;omega
        ·have:(ys++a9).getD j (.i 0)=a9.getD (j-l.length) (.i 0):=by simp[List.getD,List.getElem?_append_right (show ys.length<=j by omega),a6]
         rw[this];exact Y
  simp only[shT]at y;split at y
  ·rename_i J;injection y with y;subst y;unfold DataW.trod at h;rw[J]at h;split at h<;>simp_all;exact⟨[.b _],Zo rfl trivial⟩
  ·rename_i J;injection y with y;subst y;unfold DataW.trod at h;rw[J]at h;split at h<;>simp_all;cases‹IntKind.i64=_›;obtain⟨⟨rfl,c2⟩,rfl⟩:=h;exact⟨[.i _],Zo ⟨rfl,aG1 c2⟩ trivial⟩
  ·rename_i J;injection y with y;subst y;unfold DataW.trod at h;rw[J]at h;split at h<;>simp_all;obtain⟨c2,rfl⟩:=h;rename_i e0;exact⟨[.s e0.data.toList],Zo ⟨rfl,by show e0.data.toList.length<=_;rw[Array.length_toList];exact c2⟩ trivial⟩
  ·rename_i e J;obtain⟨el,Q,c⟩:=Option.bind_eq_some_iff.1 y;cases G:(Nat.beq (P.cellsOf e) el.length&&Nat.ble 1 el.length)with
   |false=>rw[G]at c;simp at c
   |true=>
    rw[G]at c;injection c with c;subst c;rw[Bool.and_eq_true]at G;have c8:=Nat.eq_of_beq_eq_true G.1;have f5:=Nat.le_of_ble_eq_true G.2;rcases DataW.trod_slice J h with⟨rfl,rfl⟩ |⟨a,s,e2,C,g1,f6,b7,rfl,hx,f7,d2,f0,c0,d1,g0,f9⟩
    ·refine⟨rfl,[.l []],Zo Fl ⟨Nat.zero_le _,λi g=>absurd g (Nat.not_lt_zero _)⟩⟩
    ·injection b7 with b7;subst b7;have f8:Rows.uptoBulkAll (C.map (·.1))+1<=N:=by
      rw[hx]at a4;simp only[Rows.uptoBulk]at a4;omega
     have e9:s<=N:=by have:=length_le (C.map (·.1));rw[List.length_map,c0]at this;omega
     have f3:0<s->a.spot=none:=λc9=>by
      have hg:=d1 0 c9;have b4:C[0]?=some C[0]:=by simp[c0,c9]
      rw[b4]at hg;obtain⟨a2,L,V⟩:=Option.bind_eq_some_iff.1 hg;obtain⟨_,Y,c6⟩:=World.cells?_some L;have F:=c6 0 (by omega);have b3:a2[0]?=some a2[0]:=by simp[Y]
      rw[b3]at F;have:=World.cell?_spot F;simpa[Addr.add]using this
     have b5:∀i,i<s->∃ys:List D,ys.length=el.length/\∀(j:Nat)(t:LT),el[j]?=some t->a.spot=none/\∃u,w.cell? ⟨a.block,a.off+i*el.length+j,none⟩=some u/\uA w (uD (Gh.top w) []) t u (ys.getD j (.i 0))/\SzL N t (ys.getD j (.i 0)):=λi g=>by
      have hg:=d1 i g;have b4:C[i]?=some C[i]:=by simp[c0,g]
      rw[b4]at hg;obtain⟨a2,L,V⟩:=Option.bind_eq_some_iff.1 hg;have f1:Rows.uptoBulk (C[i]).1 <=N:=by have:=X7 (d:=(C[i]).1) (l:=C.map (·.1)) (List.mem_map.2 ⟨C[i],List.getElem_mem _,rfl⟩);omega
      obtain⟨b3,ys,a6,c4⟩:=c7 n e a2 C[i] el V Q f1;obtain⟨_,Y,c6⟩:=World.cells?_some L;refine⟨ys,a6,λj t v=>?_⟩;obtain⟨u,a7,c5⟩:=c4 j t v;have T:j<P.cellsOf e:=by have:=(List.getElem?_eq_some_iff.1 v).1;omega
      have F:=c6 j T;rw[Nat.zero_add]at a7;rw[a7]at F;have c1:a.spot=none:=f3 (by omega);refine⟨c1,u,?_,c5⟩;obtain⟨b,off,g2⟩:=a;simp only at c1;subst c1;rw[Go.WideShapes.add_plain,Go.WideShapes.add_plain,c8]at F;exact F
     let f:Nat->List D:=λi=>if g:i<s then Classical.choose (b5 i g)else[]
     have hf:∀i,i<s->(f i).length=el.length/\∀(j:Nat)(t:LT),el[j]?=some t->a.spot=none/\∃u,w.cell? ⟨a.block,a.off+i*el.length+j,none⟩=some u/\uA w (uD (Gh.top w) []) t u ((f i).getD j (.i 0))/\SzL N t ((f i).getD j (.i 0)):=λi g=>by have:f i=Classical.choose (b5 i g):=dif_pos g;rw[this];exact Classical.choose_spec (b5 i g)
     have d0:∀i,i<s->((List.range s).map λi=>fM (f i)).getD i (.i 0)=fM (f i):=λi g=>by simp[List.getD,g]
     have b1:(D.l ((List.range s).map λi=>fM (f i))).els.length=s:=by show((List.range s).map _).length=s;simp
     refine⟨rfl,[.l ((List.range s).map λi=>fM (f i))],Zo ⟨some a,s,e2,rfl,b1,d2,f0,(λh=>by cases h),λad b2 f2=>?_⟩ ⟨by rw[b1];exact e9,λi g=>?_⟩⟩
     ·injection b2 with b2;subst b2;obtain⟨t0,d3⟩:∃t0,el[0]?=some t0:=⟨el[0],by simp⟩;refine⟨((hf 0 f2).2 0 t0 d3).1,λi g=>?_⟩;obtain⟨b6,a5⟩:=hf i g;have e6:a.block<w.heap.size:=by
       obtain⟨_,u,F,_⟩:=a5 0 t0 d3;rcases Nat.lt_or_ge a.block w.heap.size with b0 |b0
       ·exact b0
       ·simp[World.cell?,Array.getElem?_eq_none b0]at F
      refine Qc (aE3 e6) el 0 λj t v=>?_;have T:j<el.length:=(List.getElem?_eq_some_iff.1 v).1;obtain⟨_,u,F,W,_⟩:=a5 j t v;refine⟨u,?_,?_⟩
      ·rw[Nat.zero_add];exact F
      ·show uA w _ t u (lf el.length (((List.range s).map λi=>fM (f i)).getD i (.i 0)) (0+j));rw[d0 i g,Nat.zero_add,HM b6 j T];exact W
     ·have g:i<s:=by rw[b1]at g;exact g
      obtain⟨b6,a5⟩:=hf i g;refine aCq el 0 λj t v=>?_;have T:j<el.length:=(List.getElem?_eq_some_iff.1 v).1;show SzL N t (lf el.length (((List.range s).map λi=>fM (f i)).getD i (.i 0)) (0+j));rw[d0 i g,Nat.zero_add,HM b6 j T];obtain⟨_,u,_,_,W⟩:=a5 j t v;exact W
  ·rename_i fs J;obtain⟨l,Q,c⟩:=Option.bind_eq_some_iff.1 y;cases G:Nat.beq (P.cellsOf t) l.length with
   |false=>rw[G]at c;simp at c
   |true=>
    rw[G]at c;injection c with c;subst c;have c8:=Nat.eq_of_beq_eq_true G;unfold DataW.trod at h;rw[J]at h;simp only at h;split at h
    ·rename_i b3;obtain⟨xs,L,V⟩:=Option.map_eq_some_iff.1 h;refine⟨by omega,e5 n fs.toList 0 xs l L Q λK c3=>?_⟩;rw[<-V]at a4;simp only[Rows.uptoBulk]at a4;have:=X7 (d:=K.1) (l:=xs.map (·.1)) (List.mem_map.2 ⟨K,c3,rfl⟩);omega
    ·simp at h
  ·simp at y
end
end Go.Eng.Q

namespace Go.Eng.Q
open Go.Eng Go.Proofs
theorem Tt{w:World}{ok:Nat->Prop}{o:Bool}{e:TypeId}{el:List LT}{v:Value}{x:D}(h:uA w ok (.sl o e el) v x){i:Nat}(r:i<x.els.length):∃b off,A6 w ok el b off el.length (gD x.els i) 0:=by
 obtain⟨a,n,c,g,j,l,m,d,f⟩:=h;cases a with
 |none=>have:=d rfl;omega
 |some ad=>exact⟨_,_,(f ad rfl (by omega)).2 i (by omega)⟩
theorem Tu{w:World}{ok:Nat->Prop}{k:Nat}{x:D}:∀{ts:List LT}{b o d:Nat},A6 w ok ts b o k x d->∀{j:Nat}{t:LT},ts[j]?=some t->∃v,uA w ok t v (lf k x (d+j))
 |[],_,_,_,_,j,t,c=>by simp at c
 |t0::ts,b,o,d,⟨_,⟨v,_,f⟩,e⟩,0,t,c=>by injection c with c;subst c;exact⟨v,f⟩
 |t0::ts,b,o,d,⟨_,_,e⟩,j+1,t,c=>by obtain⟨v,hv⟩:=Tu e (j:=j) (t:=t) (by simpa using c);rw[show d+1+j=d+(j+1)by omega]at hv;exact⟨v,hv⟩
theorem O4{n k:Nat}{x:D}:∀{ts:List LT}{d:Nat},SzC n ts k x d->∀{j:Nat}{t:LT},ts[j]?=some t->SzL n t (lf k x (d+j))
 |[],_,_,j,t,c=>by simp at c
 |t0::ts,d,⟨e,f⟩,0,t,c=>by injection c with c;subst c;exact e
 |t0::ts,d,⟨e,f⟩,j+1,t,c=>by have hv:=O4 f (j:=j) (t:=t) (by simpa using c);rwa [show d+1+j=d+(j+1)by omega]at hv
theorem aE4{x:D}(h:SzL 1048576 (.sl false 33 y3) x):SzM x.els:=λj f b e=>by have c:SzL 1048576 (.sl false 40 [.sl false 42 y0]) (lf 5 (gD x.els j) (0+4)):=O4 (h.2 j f) (j:=4) rfl;have d:SzL 1048576 (.sl false 42 y0) (lf 1 (gD (eX (gD x.els j) 4) b) (0+0)):=O4 (c.2 b e) (j:=0) rfl;exact d.1
theorem aCr{w:World}{ok:Nat->Prop}{v:Value}{x:D}(h:uA w ok (.sl false 33 y3) v x):aCn x.els:=λj r b m k s=>by obtain⟨_,_,c⟩:=Tt h r;obtain⟨u,d⟩:=Tu c (j:=4) (t:=.sl false 40 [.sl false 42 y0]) rfl;obtain⟨_,_,e⟩:=Tt d (i:=b) m;obtain⟨v4,f⟩:=Tu e (j:=0) (t:=.sl false 42 y0) rfl;obtain⟨_,_,g⟩:=Tt f (i:=k) s;obtain⟨y,l⟩:=Tu g (j:=4) (t:=.int .i64) rfl;exact l.2
noncomputable def st3(xs gs ts fs:List D):St:=Gv.put 0 (.agg [.fz [] 75 y4 xs,.fz [] 66 y9 gs,.fz [] 77 y10 ts,.fz [] 33 y3 fs])
theorem aE5(xs gs ts fs:List D):eI E 0 (Ry Hv 3).ps [.l [.l xs,.l gs,.l ts,.l fs]] Gv=some (st3 xs gs ts fs):=by kernel_rfl
theorem aG2(xs gs ts fs:List D):(st3 xs gs ts fs).sl.get 0=.agg [.fz [] 75 y4 xs,.fz [] 66 y9 gs,.fz [] 77 y10 ts,.fz [] 33 y3 fs]:=by kernel_rfl
theorem bx3(xs gs ts fs:List D):(st3 xs gs ts fs).bx=[]:=by kernel_rfl
theorem ar3(xs gs ts fs:List D):(st3 xs gs ts fs).ar=[]:=by kernel_rfl
theorem rs3:(Ry Hv 3).rs=[.val false [.bool]]:=by kernel_rfl
theorem fn3:(Ry Hv 3).fn=3:=by kernel_rfl
theorem aF1:(Ry Hv 3).ps.length=1:=by kernel_rfl
theorem sh3:shT Tryz.prog 40 27=some [.sl false 75 y4,.sl false 66 y9,.sl false 77 y10,.sl false 33 y3]:=by kernel_rfl
theorem aF2(G:RK Tryz.prog E){w:World}{cs:List Value}{ys:List D}(F:cs.length=4)(h:KT w 1048576 [.sl false 75 y4,.sl false 66 y9,.sl false 77 y10,.sl false 33 y3] cs 0 ys):
  Calls Tryz.prog 3 ⟨[.agg ⟨cs⟩]⟩ w λe w'=>e=.returned (.bool true)/\Go.RowKit.Below w.heap.size w w':=by
 obtain⟨H,c⟩:=h;obtain⟨f,a0,b0,_⟩:=c 0 _ rfl;obtain⟨g,a1,b1,_⟩:=c 1 _ rfl;obtain⟨j,a2,b2,_⟩:=c 2 _ rfl;obtain⟨l,a3,m,u⟩:=c 3 _ rfl;have C:cs=[f,g,j,l]:=by
  match cs,F with
  |[p,q,r,s],_=>simp at a0 a1 a2 a3;rw[a0,a1,a2,a3]
 subst C;have y:∀k N n,LJ Tryz.prog (wZ E k sites N) (qK (wZ E k sites N) aY (Eb E) k n) 3 (Ry Hv 3):=λk N n=>aEz G k N n 3 (Ry Hv 3) (by kernel_rfl) (by kernel_rfl);have key:=Sb (vs:=[.agg ⟨[f,g,j,l]⟩]) y rs3 (aE1 (ys.getD 0 (.i 0)).els (ys.getD 1 (.i 0)).els (ys.getD 2 (.i 0)).els (ys.getD 3 (.i 0)).els (aE4 u) (aCr m)) (aF1.symm▸rfl) (w:=w) ⟨st3 _ _ _ _,aE5 _ _ _ _,bx3 _ _ _ _,ar3 _ _ _ _,λt v hv=>?_⟩
 ·rw[fn3]at key;exact key
 ·match t with
  |0=>rw[aG2];simp at hv;subst hv;exact⟨[f,g,j,l],rfl,f,_,rfl,⟨λd hd=>(by cases hd),λ_=>b0⟩,g,_,rfl,⟨λd hd=>(by cases hd),λ_=>b1⟩,j,_,rfl,⟨λd hd=>(by cases hd),λ_=>b2⟩,l,_,rfl,⟨λd hd=>(by cases hd),λ_=>m⟩,rfl⟩
  |t+1=>simp at hv
end Go.Eng.Q

namespace Go.Proofs.YtglojhiigapkbaaGreat
open Go.ChangeShapes Go.WideShapes Go.ChangeAt Go.RowKit
theorem Tryz.own:ownKnob Tryz.prog.godebug=none:=by kernel_rfl
theorem Tryz.laidOut:laidOutB Tryz.prog=true:=by kernel_rfl
theorem Mc{w w':World}(h:Below w.heap.size w w')(d:MemPlace->Prop):w.keptBut w' d:=by
 refine⟨h.os,h.output,λi c=>?_⟩;rw[h.block i c];cases w.heap[i]?with
 |none=>rfl
 |some o=>cases o<;>first|exact⟨rfl,rfl,rfl,λ_ _=>rfl⟩ |exact .inr ⟨rfl,rfl⟩ |rfl
set_option maxRecDepth 100000 in
theorem contract(a0:Go.Eng.RK Tryz.prog Go.Eng.Q.E)(H:Type)(enc:TypeId×Value->H)(c:World)(base:Nat)(d:Array Value)(ds gs:List (DataW H))(L:List MemPlace)
  (K:∀(j:Nat)t v,Tryz.f3.params[j]?=some t->d[j]?=some v->Value.okWide Tryz.prog c .any base t v)
  (y:DataW.Whole enc Tryz.prog Tryz.f3.params.toList Rows.baseAllSpec.vars false c d.toList ds gs L)(F:Rows.uptoSmall H (ds++gs)=true):
  Calls Tryz.prog 3 d c λe m=>∃v,e=.returned v/\Rows.baseAllSpec.post enc Tryz.prog Tryz.f3 false true false false c d v m:=by
 have J:∀(j:Nat)t v,Tryz.f3.params[j]?=some t->d[j]?=some v->Value.okWide Tryz.prog c .any base t v:=K;have f:=y;obtain⟨p,q,u,T,rfl,a4,a5⟩:=y;have s:DataW.TrodAll enc Tryz.prog c 0 (λ_=>true) true Tryz.f3.params.toList d.toList ds p:=u;rw[Tryz.params3]at s J;obtain⟨v0,d0,rfl,rfl,r⟩:=trodAll_one s;obtain⟨rfl,rfl⟩:=trodVars_none T;have G:Rows.uptoBulkAll ([d0]++[])<=1048576:=of_decide_eq_true F;have U:Rows.uptoBulk d0<=1048576:=by simp only[List.append_nil,Rows.uptoBulkAll]at G;omega
 have g:=J 0 27 v0 rfl rfl;have Q:=r;obtain⟨P,hf⟩:=r;clear u K F G;simp only[List.append_nil]at f;have Y:∀l∈p,l.block<c.heap.size:=λl a2=>by simpa using f.lt l (by simp[a2])
 obtain⟨V,ys,a3⟩:=Go.Eng.Q.X8 P 40 27 _ _ _ hf Go.Eng.Q.sh3 U;obtain⟨cs,rfl⟩:∃cs,v0=.agg ⟨cs⟩:=by have a1:=Tryz.underlying27;unfold Value.okWide at g;rw[a1]at g;obtain⟨cs,rfl,_⟩:=g;exact⟨cs.toList,rfl⟩
 refine(Go.Eng.Q.aF2 a0 V a3).mono λe m⟨W,C⟩=>?_;subst W;exact⟨_,rfl,_,_,_,[],_,[],f,trodAll_mk1 (shut_bool Tryz.underlying4 true),
  trodAll_mk1 (Below.trod Tryz.laidOut (by kernel_rfl) (of_decide_eq_true (by kernel_rfl)) Q C Y),rfl,Mc C _,λh=>by cases h⟩
set_option maxRecDepth 100000 in
theorem lifted(h:Go.Eng.RK Tryz.prog Go.Eng.Q.E)(os:Os)(l:os.Started)(H:Type)(enc:TypeId×Value->H)(F:Stop.Interp):
  ReturnsInHanded {} Tryz.checked os 3 .any ((Rows.OpenSpec.upto Rows.baseAllSpec).pre6 enc Tryz.prog Tryz.f3 Rows.baseAllUptoRow.domain false) (((Rows.OpenSpec.upto Rows.baseAllSpec).at F).post enc Tryz.prog Tryz.f3 false true false false):=by
 refine returnsInHanded_of_cond (C:=Tryz.checked) (s:=Rows.OpenSpec.upto Rows.baseAllSpec) (k:=Rows.uptoSmall) rfl Tryz.own l (by kernel_rfl) Tryz.func3
  (OpenSpec.witness (enc:=enc) (C:=Tryz.checked) (s:=Rows.OpenSpec.upto Rows.baseAllSpec) (k:=Rows.uptoSmall) rfl false ⟨#[],#[.agg #[.slice none 0 0,.slice none 0 0,.slice none 0 0,.slice none 0 0]],[]⟩ 8 (by kernel_rfl) (by kernel_rfl) (by kernel_rfl)
   (x:=([.agg [.nil,.nil,.nil,.nil]],[],[])) (by kernel_rfl) rfl (by kernel_rfl)) ?_
 intro c base d ds gs e j f _ g _;exact contract h H enc c base d ds gs e j f g
theorem aG3(c:Go.Eng.RK Tryz.prog Go.Eng.Q.E):Rows.BaseAllUptoSaid:=
 OpenClaim.holds_of_cond 3 Tryz.f3 rfl rfl rfl rfl rfl rfl rfl ⟨rfl,rfl,rfl,rfl,rfl⟩ rfl rfl rfl rfl rfl (by kernel_rfl) Tryz.func3 (by kernel_rfl)
  (of_decide_eq_true (by kernel_rfl)) (by unfold Func.isWrapper;first|(rw[if_pos (by decide+kernel)];kernel_rfl) |(rw[if_neg (by decide+kernel)];exact⟨rfl,rfl⟩))
  (λos d H enc _ F=>lifted c os d H enc F)
theorem baseAll_holds:Rows.BaseAllUptoSaid:=aG3 Go.Eng.Q.aDI
end Go.Proofs.YtglojhiigapkbaaGreat
