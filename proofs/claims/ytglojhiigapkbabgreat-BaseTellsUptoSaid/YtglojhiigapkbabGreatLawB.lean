/- Part 8 of the proof: what facts.Of reckons. -/
import Derived.Test.YtglojhiigapkbabGreatLawA
set_option linter.unusedSimpArgs false
set_option linter.unusedVariables false
namespace Go.Eng.Q
open Go.Eng
theorem DC{U:LD}{a b:Nat}:dM U a b=true<->RA U 0 (-1) a/\RA U 0 (-1) b/\¬RA U 0 (a:Int) b:=by
 unfold dM;rw[Bool.and_eq_true,Bool.and_eq_true,AD,AD,rW];constructor
 ·rintro⟨d,f,c⟩;exact⟨d,f,λh=>by rw[AD.2 h]at c;cases c⟩
 ·rintro⟨d,f,c⟩;refine⟨d,f,?_⟩;cases e:Gn U 0 (a:Int) b with
  |false=>rfl
  |true=>exact absurd (AD.1 e) c
theorem PC{U:LD}{a:Nat}(h:RA U 0 (-1) a):dM U a a=true:=DC.2 ⟨h,h,Vt⟩
theorem QX{U:LD}{a b c:Nat}(d:dM U a b=true)(e:dM U b c=true):dM U a c=true:=by rw[DC]at*;refine⟨d.1,e.2.1,λh=>?_⟩;exact d.2.2 (aF6 h e.2.2)
theorem C5{U:LD}{a b:Nat}(c:dM U a b=true)(d:dM U b a=true):a=b:=by
 rw[DC]at*;by_cases e:a=b
 ·exact e
 ·rcases aEr c.1 e with h |h
  ·exact absurd h d.2.2
  ·exact absurd h c.2.2
theorem aEs{U:LD}{a b c:Nat}(d:dM U a c=true)(f:dM U b c=true):dM U a b=true\/dM U b a=true:=by
 by_cases e:a=b
 ·subst e;left;rw[DC]at d;exact PC d.1
 rw[DC]at d f;by_cases g:RA U 0 (a:Int) b
 ·by_cases j:RA U 0 (b:Int) a
  ·rcases aC3 e g j d.2.1 with h |h
   ·exact absurd h d.2.2
   ·exact absurd h f.2.2
  ·right;rw[DC];exact⟨f.1,d.1,j⟩
 ·left;rw[DC];exact⟨d.1,f.1,g⟩
theorem S7{U:LD}{a b:Nat}(h:dM U a b=true):a<U.length/\b<U.length:=by rw[DC]at h;exact⟨A7 U 0 (-1) h.1,A7 U 0 (-1) h.2.1⟩
theorem VA{a b:Bool}(h:a=true):(a||b)=true:=by rw[h];rfl
theorem j8{c:Bool}(h:c=true):(!(!c))=true:=by rw[h];rfl
structure C6(U:LD)(c b:Nat)(x:Int):Prop where
 or:(x=-1/\∀i,i<c->i≠b->dM U i b=false)\/∃d:Nat,x=d/\d<c/\d≠b/\dM U d b=true/\∀i,i<c->i≠b->dM U i b=true->dM U i d=true
section
variable(nm:List UInt8)(o:Bool)(V:LD)(r:Int)(U:LD)(hT:gA U)(h0:0<U.length)
include hT
theorem aF9(a:Nat)(d:a<U.length)(l:Gn U 0 (-1) a=true)(g:Nat->D):
  fS FB 4 [.i (U.length:Int),.i (U.length:Int),.i 0,.i (a:Int),.i (a:Int),.i (U.length:Int),.l (oP U),.l (aK U.length (fV g a (.l (List.replicate U.length (.b false))))),.l (cZ U 0 (-1)),.l (cZ U 0 a)] (0,[.i (U.length:Int),.i (U.length:Int),.i (a:Int),.l (oP U),.l (aK U.length (fV g a (.l (aQ U.length (dM U a))))),.l (cZ U 0 (-1))]):=by
 rw[<-Qu U.length (dM U a),<-B8 U.length (dM U a)];have m:(cZ U 0 (-1)).length=U.length:=by unfold cZ;exact eQ _ _
 have r:(cZ U 0 a).length=U.length:=by unfold cZ;exact eQ _ _
 refine dF FC (λj=>[.i (U.length:Int),.i (U.length:Int),.i (j:Int),.i (a:Int),.i (a:Int),.i (U.length:Int),.l (oP U),.l (aK U.length (fV g a (.l (aQ U.length (λi=>decide (i<j)&&dM U a i))))),.l (cZ U 0 (-1)),.l (cZ U 0 a)]) U.length (λj c=>?_) ?_
 ·have hg:gD (aK U.length (fV g a (.l (aQ U.length (λi=>decide (i<j)&&dM U a i))))) a=.l (aQ U.length (λi=>decide (i<j)&&dM U a i)):=(dX _ d).trans (fK _ _ _);refine aC (aU c) (aC ?_ (aC ?_ (aC (aH ?_) (aC ?_ (aP ((nx c hT.1.sane [_,_] _).trans ?_))))))
  ·show aA (a:Int) (aK U.length _).length=true;rw[cO];exact aF d
  ·show aA (j:Int) (cZ U 0 (-1)).length=true;rw[m];exact aF c
  ·show aA (j:Int) (cZ U 0 a).length=true;rw[r];exact aF c
  ·show aA (j:Int) (D.els (gD (aK U.length (fV g a (.l (aQ U.length (λi=>decide (i<j)&&dM U a i))))) a)).length=true;rw[hg];show aA (j:Int) (aQ U.length _).length=true;rw[eQ];exact aF c
  ·have e1:(gD (cZ U 0 (-1)) j).toB=Gn U 0 (-1) j:=congrArg D.toB (jV _ c);have e:(gD (cZ U 0 a) j).toB=Gn U 0 a j:=congrArg D.toB (jV _ c);have f:((gD (cZ U 0 (-1)) j).toB&&!(gD (cZ U 0 a) j).toB)=dM U a j:=by
    rw[e1,e];unfold dM;rw[l,Bool.true_and]
   have h:(aK U.length (fV g a (.l (aQ U.length (λi=>decide (i<j)&&dM U a i))))).set a (.l ((D.els (gD (aK U.length (fV g a (.l (aQ U.length (λi=>decide (i<j)&&dM U a i))))) a)).set j (.b ((gD (cZ U 0 (-1)) j).toB&&!(gD (cZ U 0 a) j).toB))))=aK U.length (fV g a (.l (aQ U.length (λi=>decide (i<j+1)&&dM U a i)))):=by rw[hg,f,oD,IM];show aK U.length (fV g a (.l ((aQ U.length (λi=>decide (i<j)&&dM U a i)).set j (.b (dM U a j)))))=_;rw[B7 _ c]
   rw[<-h];rfl
 ·exact aM (aX _) (bG rfl)
include h0
theorem aGa:fS FB 2 [.i (U.length:Int),.i (U.length:Int),.i 0,.l (oP U),.l (List.replicate U.length (D.l [])),.l (cZ U 0 (-1))] (0,[.l (gC U)]):=by
 have l:=hT.1;unfold fH at l;have r:(cZ U 0 (-1)).length=U.length:=by unfold cZ;exact eQ _ _
 rw[Vx U.length (λa=>.l (aQ U.length (dM U a))) (.l [])];have m:gC U=aK U.length (gT (λa=>.l (aQ U.length (dM U a))) (.l []) U.length):=(S5 _ _ _).symm;rw[m];refine dF FC (λj=>[.i (U.length:Int),.i (U.length:Int),.i (j:Int),.l (oP U),.l (aK U.length (gT (λa=>.l (aQ U.length (dM U a))) (.l []) j)),.l (cZ U 0 (-1))]) U.length (λj c=>?_) ?_
 ·have e1:(gD (cZ U 0 (-1)) j).toB=Gn U 0 (-1) j:=congrArg D.toB (jV _ c);have d:(aK U.length (gT (λa=>.l (aQ U.length (dM U a))) (.l []) j)).set j (.l (List.replicate U.length (.b false)))=aK U.length (fV (gT (λa=>.l (aQ U.length (dM U a))) (.l []) j) j (.l (List.replicate U.length (.b false)))):=oD _ _;have f:aK U.length (fV (gT (λa=>.l (aQ U.length (dM U a))) (.l []) j) j (.l (aQ U.length (dM U j))))=aK U.length (gT (λa=>.l (aQ U.length (dM U a))) (.l []) (j+1)):=(oD _ _).symm.trans (Vw rfl);have hx:=nx c hT.1.sane [.i (U.length:Int),.i (U.length:Int)] [.l (oP U),.l (aK U.length (gT (λa=>.l (aQ U.length (dM U a))) (.l []) (j+1))),.l (cZ U 0 (-1))];refine aC (aU c) (aC ?_ (aC ?_ (aC ?_ ?_)))
  ·show(cX 0 (U.length:Int)&&(aD (U.length:Int) (U.length:Int)&&jN (Int.toNat (U.length:Int)) 1))=true;rw[jS (by omega),pX];exact fA (by show U.length<=_;omega) (by omega)
  ·show aA (j:Int) (aK U.length _).length=true;rw[cO];exact aF c
  ·show aA (j:Int) (cZ U 0 (-1)).length=true;rw[r];exact aF c
  ·cases e:Gn U 0 (-1) j with
   |false=>
    refine aC ((congrArg Bool.not e1).trans (congrArg Bool.not e)) (aP (hx.trans ?_));have h:aQ U.length (dM U j)=List.replicate U.length (.b false):=by rw[<-lV];refine nC λi _=>?_;unfold dM;rw[e];rfl
    rw[<-f,h,<-d];rfl
   |true=>have g:=aF9 U hT j c e (gT (λa=>.l (aQ U.length (dM U a))) (.l []) j);rw[f,<-d]at g;exact aM ((congrArg Bool.not e1).trans (congrArg Bool.not e)) (bW (S6 U hT h0 j) rfl (aO g (bB (aP hx))))
 ·exact aM (aX _) (bG rfl)
theorem C7:jZ E aZ sites Kx [qH nm o V r U] (.l (gC U)) []:=by
 have g:=hT.1;unfold fH at g;refine bE FC (by rfl) rfl ?_;show Ev _ _ (UQ _) _;unfold UQ;have l:fS FB 0 [.i (U.length:Int),.i 0,.i (U.length:Int),.s nm,.b o,.l V,.i r,.l U,.l (List.replicate U.length (D.l []))] (0,[.i (U.length:Int),.s nm,.b o,.l V,.i r,.l U,.l (oP U)]):=by
  rw[Vx U.length (λb=>.l ((aV U (b:Int)).map iD)) (.l [])];have m:oP U=aK U.length (gT (λb=>.l ((aV U (b:Int)).map iD)) (.l []) U.length):=(S5 _ _ _).symm;rw[m];refine dF FC (λj=>[.i (U.length:Int),.i (j:Int),.i (U.length:Int),.s nm,.b o,.l V,.i r,.l U,.l (aK U.length (gT (λb=>.l ((aV U (b:Int)).map iD)) (.l []) j))]) U.length (λj d=>?_) ?_
  ·have f:=Vw (n:=U.length) (c:=j) (h:=λb=>.l ((aV U (b:Int)).map iD)) (z:=.l []) (w:=.l ((aV U (j:Int)).map iD)) rfl;have hx:=nx d hT.1.sane [.i (U.length:Int)] [.i (U.length:Int),.s nm,.b o,.l V,.i r,.l U,.l (aK U.length (gT (λb=>.l ((aV U (b:Int)).map iD)) (.l []) (j+1)))];refine aC (aU d) (bW (LF nm o V r U hT (j:Int)) rfl (aC ?_ (aP (hx.trans ?_))))
   ·show aA (j:Int) (aK U.length _).length=true;rw[cO];exact aF d
   ·rw[<-f];rfl
  ·exact aM (aX _) (bG rfl)
 have e:(cX 0 (U.length:Int)&&(aD (U.length:Int) (U.length:Int)&&jN (Int.toNat (U.length:Int)) 24))=true:=by rw[jS (by omega),pX];exact fA (by show U.length<=_;omega) (by omega)
 exact aC e (aO l (bB (bW (SM nm o V r U hT h0) rfl (aC e (aO (aGa U hT h0) (bB (bM rfl rfl)))))))
omit h0 in
theorem aAW(b:Nat)(P:b<U.length)(a7:RA U 0 (-1) b)(g:Nat->Int):
  ∃x:Int,C6 U U.length b x/\fS tN 2 [.l (gC U),.i (b:Int),.i 0,.i (b:Int),.i (U.length:Int),.i ((gC U).length:Int),.l (aK U.length (fV (λi=>.i (g i)) b (.i (-1))))] (0,[.l (gC U),.i (b:Int),.i (U.length:Int),.l (aK U.length (fV (λi=>.i (g i)) b (.i x)))]):=by
 refine FF AC (λj(x:Int)=>[.l (gC U),.i (b:Int),.i (j:Int),.i (b:Int),.i (U.length:Int),.i ((gC U).length:Int),.l (aK U.length (fV (λi=>.i (g i)) b (.i x)))]) U.length (λx=>(0,[.l (gC U),.i (b:Int),.i (U.length:Int),.l (aK U.length (fV (λi=>.i (g i)) b (.i x)))])) (λc x=>C6 U c b x) (λj x v hx=>?_) (λx hx=>?_) (s0:=-1) ⟨.inl ⟨rfl,λi h=>absurd h (by omega)⟩⟩
 ·have hd:∀{a c:Nat},a<U.length->c<U.length->D.toB (gE (gD (gC U) a) c)=dM U a c:=λ{a c}f s=>by
   rw[OZ f];exact congrArg D.toB (jV _ s)
  have a4:∀{a:Nat},a<U.length->nE (gD (gC U) a)=U.length:=λ{a}f=>by rw[OZ f];exact eQ _ _
  have T:∀W:Int,[D.l (gC U),.i (b:Int),.i ((j+1:Nat):Int),.i (b:Int),.i (U.length:Int),.i ((gC U).length:Int),.l (aK U.length (fV (λi=>.i (g i)) b (.i W)))]=[D.l (gC U),.i (b:Int),.i (bJ .i64 (j:Int) 1),.i (b:Int),.i (U.length:Int),.i ((gC U).length:Int),.l (aK U.length (fV (λi=>.i (g i)) b (.i W)))]:=λW=>nx v hT.1.sane [_,_] _;have G:aT (j:Int) ((gC U).length:Int)=true:=by rw[BR];exact aU v
  have H:aA (j:Int) (gC U).length=true:=by rw[BR];exact aF v
  have J:aA (b:Int) (nE (gD (gC U) j))=true:=by rw[a4 v];exact aF P
  have Y:((aD (j:Int) (b:Int))||(!(D.toB (gE (gD (gC U) j) b))))=(decide (j=b)||!(dM U j b)):=by
   rw[hd v P];by_cases e:j=b
   ·subst e;rw[pX,decide_eq_true rfl]
   ·rw[nW (by omega),decide_eq_false e]
  cases e:(decide (j=b)||!(dM U j b))with
  |true=>
   refine⟨x,⟨?_⟩,?_⟩
   ·have key:∀i,i<j+1->i≠b->dM U i b=true->i<j:=λi f s F=>by
     by_cases m:i=j
     ·subst m;rw[decide_eq_false s,F]at e;cases e
     ·omega
    rcases hx.or with⟨f,s⟩ |⟨d,f,s,F,K,L⟩
    ·refine .inl ⟨f,λi C l=>?_⟩;cases r:dM U i b with
     |false=>rfl
     |true=>have:=s i (key i C l r) l;rw[this]at r;cases r
    ·exact .inr ⟨d,f,by omega,F,K,λi C l t=>L i (key i C l t) l t⟩
   ·exact aC G (aC (aH H) (aC (aH J) (aC (Y.trans e) (aP (T x)))))
  |false=>
   have a6:=e;rw[Bool.or_eq_false_iff,decide_eq_false_iff_not]at e;have Q:dM U j b=true:=by
    cases m:dM U j b with
    |true=>rfl
    |false=>rw[m]at e;cases e.2
   have a3:=(DC.1 Q).1;have hg:(gD (aK U.length (fV (λi=>.i (g i)) b (.i x))) b).toI=x:=congrArg D.toI ((dX _ P).trans (fK _ _ _));have u:aA (b:Int) (aK U.length (fV (λi=>.i (g i)) b (.i x))).length=true:=by rw[cO];exact aF P
   have a5:(aK U.length (fV (λi=>.i (g i)) b (.i x))).set b (.i (j:Int))=aK U.length (fV (λi=>.i (g i)) b (.i (j:Int))):=by rw[oD,IM]
   have V:((aD (j:Int) (b:Int))||(!(D.toB (gE (gD (gC U) j) b))))=false:=Y.trans a6;rcases hx.or with⟨f,s⟩ |⟨d,f,s,F,K,L⟩
   ·have y:aT (gD (aK U.length (fV (λi=>.i (g i)) b (.i x))) b).toI 0=true:=by rw[hg,f];rfl
    refine⟨(j:Int),⟨.inr ⟨j,rfl,by omega,e.1,Q,λi C l t=>?_⟩⟩,?_⟩
    ·by_cases m:i=j
     ·subst m;exact PC a3
     ·rw[s i (by omega) l]at t;cases t
    ·refine aC G (aC (aH H) (aC (aH J) (aM V (aC u (aC (aH u) (aC (VA (j8 y)) (aC (VA (j8 y)) (aC (VA y) (aC u (aP ((T _).trans ?_)))))))))));rw[<-a5];rfl
   ·have y:aA (gD (aK U.length (fV (λi=>.i (g i)) b (.i x))) b).toI (gC U).length=true:=by rw[hg,f,BR];exact aF (by omega)
    have a2:Int.toNat (gD (aK U.length (fV (λi=>.i (g i)) b (.i x))) b).toI=d:=by rw[hg,f];rfl
    have a0:aA (j:Int) (nE (gD (gC U) (Int.toNat (gD (aK U.length (fV (λi=>.i (g i)) b (.i x))) b).toI)))=true:=by rw[a2,a4 (by omega)];exact aF v
    have a1:((aT (gD (aK U.length (fV (λi=>.i (g i)) b (.i x))) b).toI 0)||(D.toB (gE (gD (gC U) (Int.toNat (gD (aK U.length (fV (λi=>.i (g i)) b (.i x))) b).toI)) j)))=dM U d j:=by rw[a2,hd (by omega) v,hg,f,Ch (by omega)];rfl
    cases r:dM U d j with
    |true=>
     refine⟨(j:Int),⟨.inr ⟨j,rfl,by omega,e.1,Q,λi C l t=>?_⟩⟩,?_⟩
     ·by_cases m:i=j
      ·subst m;exact PC a3
      ·exact QX (L i (by omega) l t) r
     ·refine aC G (aC (aH H) (aC (aH J) (aM V (aC u (aC (aH u) (aC (aH y) (aC (aH a0) (aC (a1.trans r) (aC u (aP ((T _).trans ?_)))))))))));rw[<-a5];rfl
    |false=>
     refine⟨x,⟨.inr ⟨d,f,by omega,F,K,λi C l t=>?_⟩⟩,?_⟩
     ·by_cases m:i=j
      ·subst m;rcases aEs K Q with h |h
       ·rw[h]at r;cases r
       ·exact h
      ·exact L i (by omega) l t
     ·exact aC G (aC (aH H) (aC (aH J) (aM V (aC u (aC (aH u) (aC (aH y) (aC (aH a0) (aM (a1.trans r) (aP (T x))))))))))
 ·refine aM ?_ (bG rfl);show aT (U.length:Int) ((gC U).length:Int)=false;rw[BR];exact aX _
omit h0 in
theorem S8(s:∀b,b<U.length->RA U 0 (-1) b):∃g:Nat->Int,(∀b,b<U.length->C6 U U.length b (g b))/\jZ E aZ sites NY [.l (gC U)] (.l (aK U.length λb=>.i (g b))) []:=by
 have t:=hT.1;unfold fH at t;have u:∃g:Nat->Int,(∀b,b<U.length->C6 U U.length b (g b))/\fS tN 0 [.l (gC U),.i 0,.i (U.length:Int),.l (aK U.length λ_=>.i 0)] (0,[.l (aK U.length λb=>.i (g b))]):=by
  refine FF AC (λj(g:Nat->Int)=>[.l (gC U),.i (j:Int),.i (U.length:Int),.l (aK U.length λb=>.i (g b))]) U.length (λg=>(0,[.l (aK U.length λb=>.i (g b))])) (λc g=>∀b,b<c->C6 U U.length b (g b)) (λj g d hg=>?_) (λg hg=>?_) (s0:=λ_=>0) (λb m=>absurd m (by omega))
  ·obtain⟨x,l,f⟩:=aAW U hT j d (s j d) g;have e1:aK U.length (fV (λi=>.i (g i)) j (.i x))=aK U.length λi=>.i ((λi=>if i=j then x else g i) i):=dU λi _=>by
    by_cases e:i=j
    ·subst e;rw[fK];simp
    ·rw[oB _ _ e];simp[e]
   have h:(aK U.length λb=>.i (g b)).set j (.i (-1))=aK U.length (fV (λi=>.i (g i)) j (.i (-1))):=oD _ _;have v:(List.replicate U.length (D.i 0)).length=U.length:=List.length_replicate;rw[<-h]at f;refine⟨λi=>if i=j then x else g i,λb m=>?_,?_⟩
   ·by_cases e:b=j
    ·subst e;simpa using l
    ·simpa[e]using hg b (by omega)
   ·refine aC (aU d) (aC ?_ (aO f (bB (aP ((nx d hT.1.sane [_] _).trans ?_)))))
    ·show aA (j:Int) (aK U.length _).length=true;rw[cO];exact aF d
    ·show[D.l (gC U),.i (bJ .i64 (j:Int) 1),.i (U.length:Int),.l (aK U.length λi=>.i ((λi=>if i=j then x else g i) i))]=_;rw[<-e1];rfl
  ·exact aM (aX _) (bG rfl)
 obtain⟨g,l,f⟩:=u;refine⟨g,l,bE AC (by rfl) rfl ?_⟩;show Ev _ _ (HJ _) _;unfold HJ;have e1:(aK U.length λ_=>D.i 0)=List.replicate (gC U).length (D.i 0):=by rw[BR,rX]
 have h:(List.replicate (gC U).length (D.i 0)).length=U.length:=by rw[List.length_replicate,BR]
 have r:fS tN 0 [.l (gC U),.i 0,.i ((List.replicate (gC U).length (D.i 0)).length:Int),.l (List.replicate (gC U).length (D.i 0))] (0,[.l (aK U.length λb=>.i (g b))]):=by rw[h,<-e1];exact f
 refine aC ?_ (aO r (bB (bM rfl rfl)));show(cX 0 ((gC U).length:Int)&&(aD ((gC U).length:Int) ((gC U).length:Int)&&jN (Int.toNat ((gC U).length:Int)) 8))=true;rw[BR,jS (by omega),pX];exact fA (by show U.length<=_;omega) (by omega)
theorem C8(e:∀b,b<U.length->RA U 0 (-1) b):∃g:Nat->Int,(∀b,b<U.length->C6 U U.length b (g b))/\jZ E aZ sites Kv [qH nm o V r U] (.l (aK U.length λb=>.i (g b))) []:=by obtain⟨g,c,d⟩:=S8 U hT e;refine⟨g,c,bE Lh (by rfl) rfl ?_⟩;exact bW (C7 nm o V r U hT h0) rfl (bW d rfl (bM rfl rfl))
end
theorem C9(n:Nat)(f:Nat->D):aK n f++[f n]=aK (n+1) f:=by simp[aK,List.range_succ]
theorem aC5{l:LD}{n k:Nat}(h:k<n):gD (l.take n) k=gD l k:=by simp[gD,List.getD,List.getElem?_take,h]
noncomputable def FL(np:Nat)(U:LD)(v:Nat):D:=.i (bif Nat.ble v np then 0 else(Oh np U v).1)
theorem aC6{np:Nat}{U:LD}{v:Nat}(h:v<=np):FL np U v=.i 0:=by unfold FL;rw[Nat.ble_eq_true_of_le h];rfl
theorem YZ{np:Nat}{U:LD}{v:Nat}(h:np<v):FL np U v=.i (Oh np U v).1 :=by
 unfold FL;have:Nat.ble v np=false:=by
  cases e:Nat.ble v np with
  |false=>rfl
  |true=>have:=Nat.le_of_ble_eq_true e;omega
 rw[this];rfl
theorem Vy(np:Nat)(U:LD)(b k:Nat):np<lE np U b k:=by have:=PA np U b;unfold lE;omega
section
variable(nm:List UInt8)(o:Bool)(V:LD)(r:Int)(U:LD)(hp:fH V)(hT:gA U)
include hp hT
theorem aEt(n b:Nat)(j:n<=U.length)(f:b<n):
  fS KS 2 [.l (gD (U.take n) b).els,.i (aJ V.length U b:Int),.i ((U.take n).length:Int),.i 0,.l (U.take n),.i ((gD (U.take n) b).els.length:Int),.i (b:Int)] (0,[.i (aJ V.length U (b+1):Int),.i ((U.take n).length:Int),.l (U.take n),.i (b:Int)]):=by
 have g:=hT.1;unfold fH at g;rw[aC5 f];have d:=(hT.2 b (by omega)).ins.sane;have h:=BS V U hp hT;refine dF KT (λk=>[.l (gD U b).els,.i ((aJ V.length U b+dV (gD U b).els k:Nat):Int),.i ((U.take n).length:Int),.i (k:Int),.l (U.take n),.i ((gD U b).els.length:Int),.i (b:Int)]) (gD U b).els.length (λk c=>?_) ?_
 ·have l:=Cn (np:=V.length) (show b<U.length by omega) (Nat.le_of_lt c);refine aC (aU c) (aC (aF c) ?_);cases e:eN (gD (gD U b).els k)with
  |true=>
   have e1:((aJ V.length U b+dV (gD U b).els (k+1):Nat):Int)=bJ .i64 ((aJ V.length U b+dV (gD U b).els k:Nat):Int) 1:=by rw[Oi (by omega),Fm e];rfl
   refine aC e (aP ((nx c d [_,_,_] _).trans ?_));show[D.l (gD U b).els,.i ((aJ V.length U b+dV (gD U b).els (k+1):Nat):Int),.i ((U.take n).length:Int),.i (bJ .i64 (k:Int) 1),.l (U.take n),.i ((gD U b).els.length:Int),.i (b:Int)]=_;rw[e1];rfl
  |false=>refine aM e (aP ((nx c d [_,_,_] _).trans ?_));show[D.l (gD U b).els,.i ((aJ V.length U b+dV (gD U b).els (k+1):Nat):Int),.i ((U.take n).length:Int),.i (bJ .i64 (k:Int) 1),.l (U.take n),.i ((gD U b).els.length:Int),.i (b:Int)]=_;rw[Mr e];rfl
 ·exact aM (aX _) (bG rfl)
theorem D0(n:Nat)(g:n<=U.length):jZ E aZ sites Kw [qH nm o V r U,.i (n:Int)] (.i (aJ V.length U n:Int)) []:=by
 refine bE KT (by rfl) rfl ?_;show Ev _ _ (UC _) _;unfold UC;have e:=hT.1;unfold fH at e;have d:(U.take n).length=n:=by rw[List.length_take];omega
 have f:fS KS 0 [.i (V.length:Int),.i ((U.take n).length:Int),.l (U.take n),.i 0] (0,[.i (aJ V.length U n:Int)]):=by
  refine dF KT (λj=>[.i (aJ V.length U j:Int),.i ((U.take n).length:Int),.l (U.take n),.i (j:Int)]) n (λj c=>?_) ?_
  ·refine aC ?_ (aC ?_ (aO (aEt V U hp hT n j g c) (bB (aP (nx c (by omega) [_,_,_] [])))))
   ·show aT (j:Int) ((U.take n).length:Int)=true;rw[d];exact aU c
   ·show aA (j:Int) (U.take n).length=true;rw[d];exact aF c
  ·refine aM ?_ (bG rfl);show aT (n:Int) ((U.take n).length:Int)=false;rw[d];exact aX _
 refine aC ?_ (aO f (bB (bM rfl rfl)));show kT 0 (n:Int) (U.length:Int)=true;unfold kT;rw[jS (by omega),jS (by omega),jS (by omega)];rfl
theorem j9(b k:Nat)(d:b<U.length)(c:k<(gD U b).els.length)(ht:SN V.length U b k=false):
  sW E aZ sites lY (lY.F.lp 2 [.i ((aJ V.length U b+dV (gD U b).els k:Nat):Int),.i (b:Int),.i ((gD U b).els.length:Int),.i (U.length:Int),.l (gD U b).els,.l U,.i (k:Int),.i (b:Int),.s nm,.b o,.l V,.i r,.l U,.l (aK (aJ V.length U b+dV (gD U b).els k+1) (FL V.length U))]) (.again [.i ((aJ V.length U b+dV (gD U b).els (k+1):Nat):Int),.i (b:Int),.i ((gD U b).els.length:Int),.i (U.length:Int),.l (gD U b).els,.l U,.i ((k+1:Nat):Int),.i (b:Int),.s nm,.b o,.l V,.i r,.l U,.l (aK (aJ V.length U b+dV (gD U b).els (k+1)+1) (FL V.length U))]):=by
 have m:=(hT.2 b d).ins.sane;have s:=BS V U hp hT;have t:=Cn (np:=V.length) d (Nat.le_of_lt c);have hx:∀n h,[D.i n,.i (b:Int),.i ((gD U b).els.length:Int),.i (U.length:Int),.l (gD U b).els,.l U,.i ((k+1:Nat):Int),.i (b:Int),.s nm,.b o,.l V,.i r,.l U,.l h]=[D.i n,.i (b:Int),.i ((gD U b).els.length:Int),.i (U.length:Int),.l (gD U b).els,.l U,.i (bJ .i64 (k:Int) 1),.i (b:Int),.s nm,.b o,.l V,.i r,.l U,.l h]:=λn h=>nx c m [_,_,_,_,_,_] _;refine aC (aU c) (aC (aF c) ?_);cases e:eN (gD (gD U b).els k)with
 |false=>
  have f:aD (vI (gD (gD U b).els k) 1) 0=true:=by
   unfold eN at e;cases g:aD (vI (gD (gD U b).els k) 1) 0 with
   |true=>rfl
   |false=>rw[g]at e;cases e
  refine aC f (aP ?_);show[D.i ((aJ V.length U b+dV (gD U b).els (k+1):Nat):Int),.i (b:Int),.i ((gD U b).els.length:Int),.i (U.length:Int),.l (gD U b).els,.l U,.i ((k+1:Nat):Int),.i (b:Int),.s nm,.b o,.l V,.i r,.l U,.l (aK (aJ V.length U b+dV (gD U b).els (k+1)+1) (FL V.length U))]=_;rw[Mr e];exact hx _ _
 |true=>
  have f:aD (vI (gD (gD U b).els k) 1) 0=false:=rW.1 e;unfold SN at ht;rw[e,Bool.true_and]at ht;have e1:bJ .i64 ((aJ V.length U b+dV (gD U b).els k:Nat):Int) 1=((lE V.length U b k:Nat):Int):=Oi (by omega);have j:aJ V.length U b+dV (gD U b).els (k+1)=lE V.length U b k:=by rw[Fm e];rfl
  have l:FL V.length U (lE V.length U b k)=.i (b:Int):=by rw[YZ (Vy _ _ _ _),GW (q:=(b,k)) ⟨d,c,e,rfl⟩]
  have hv:=Vu (np:=V.length) d c e;refine aM f (aM ((congrArg (λn=>!(aD (vI (gD (gD U b).els k) 2) n)) e1).trans ht) (aC ?_ (aP ?_)))
  ·show jN ((aK _ _).length+1) 8=true;rw[cO];exact fA (by omega) (by omega)
  ·show[D.i ((aJ V.length U b+dV (gD U b).els (k+1):Nat):Int),.i (b:Int),.i ((gD U b).els.length:Int),.i (U.length:Int),.l (gD U b).els,.l U,.i ((k+1:Nat):Int),.i (b:Int),.s nm,.b o,.l V,.i r,.l U,.l (aK (aJ V.length U b+dV (gD U b).els (k+1)+1) (FL V.length U))]=_;rw[j,<-C9,l,<-e1];exact hx _ _
theorem aC7(b:Nat)(c:b<U.length)(e:yJ V.length U b=false):
  fS lY 2 [.i (aJ V.length U b:Int),.i (b:Int),.i ((gD U b).els.length:Int),.i (U.length:Int),.l (gD U b).els,.l U,.i 0,.i (b:Int),.s nm,.b o,.l V,.i r,.l U,.l (aK (aJ V.length U b+1) (FL V.length U))]
   (1,[.i (aJ V.length U (b+1):Int),.i (U.length:Int),.l U,.i (b:Int),.s nm,.b o,.l V,.i r,.l U,.l (aK (aJ V.length U (b+1)+1) (FL V.length U))]):=by
 have g:=(hT.2 b c).ins.sane;have f:=BS V U hp hT;refine dF oK (λk=>[.i ((aJ V.length U b+dV (gD U b).els k:Nat):Int),.i (b:Int),.i ((gD U b).els.length:Int),.i (U.length:Int),.l (gD U b).els,.l U,.i (k:Int),.i (b:Int),.s nm,.b o,.l V,.i r,.l U,.l (aK (aJ V.length U b+dV (gD U b).els k+1) (FL V.length U))]) (gD U b).els.length (λk d=>j9 nm o V r U hp hT b k c d (bU.1 e k d)) ?_
 ·exact aM (aX _) (bG rfl)
theorem aEu(b:Nat)(e:b<U.length)(f:yJ V.length U b=true):
  ∃z L,fS lY 2 [.i (aJ V.length U b:Int),.i (b:Int),.i ((gD U b).els.length:Int),.i (U.length:Int),.l (gD U b).els,.l U,.i 0,.i (b:Int),.s nm,.b o,.l V,.i r,.l U,.l (aK (aJ V.length U b+1) (FL V.length U))] (0,[.i z,.i (U.length:Int),.b false,.l U,.i (b:Int),.s nm,.b o,.l V,.i r,.l U,.l L]):=by
 unfold yJ at f;obtain⟨k,d,c,g⟩:=rP f;have j:=BS V U hp hT;have l:=Cn (np:=V.length) e (Nat.le_of_lt d);refine⟨bJ .i64 ((aJ V.length U b+dV (gD U b).els k:Nat):Int) 1,aK (aJ V.length U b+dV (gD U b).els k+1) (FL V.length U),dF oK (λk=>[.i ((aJ V.length U b+dV (gD U b).els k:Nat):Int),.i (b:Int),.i ((gD U b).els.length:Int),.i (U.length:Int),.l (gD U b).els,.l U,.i (k:Int),.i (b:Int),.s nm,.b o,.l V,.i r,.l U,.l (aK (aJ V.length U b+dV (gD U b).els k+1) (FL V.length U))]) k (λi h=>j9 nm o V r U hp hT b i e (by omega) (g i h)) ?_⟩;show Ev _ _ (qU _) _;unfold qU;unfold SN at c;rw[Bool.and_eq_true]at c;have e1:bJ .i64 ((aJ V.length U b+dV (gD U b).els k:Nat):Int) 1=((lE V.length U b k:Nat):Int):=Oi (by omega);exact aC (aU d) (aC (aF d) (aM (rW.1 c.1) (aC ((congrArg (λn=>!(aD (vI (gD (gD U b).els k) 2) n)) e1).trans c.2) (bG rfl))))
theorem aGb(d:dW U.length (yJ V.length U)=false):
  fS lY 0 [.i (V.length:Int),.i (U.length:Int),.l U,.i 0,.s nm,.b o,.l V,.i r,.l U,.l (aK (V.length+1) (FL V.length U))]
   (1,[.i (aJ V.length U U.length:Int),.s nm,.b o,.l V,.i r,.l U,.l (aK (aJ V.length U U.length+1) (FL V.length U))]):=by
 refine dF oK (λj=>[.i (aJ V.length U j:Int),.i (U.length:Int),.l U,.i (j:Int),.s nm,.b o,.l V,.i r,.l U,.l (aK (aJ V.length U j+1) (FL V.length U))]) U.length (λj c=>?_) ?_
 ·exact aC (aU c) (aC (aF c) (aO (aC7 nm o V r U hp hT j c (bU.1 d j c)) (fD (bB (aP (nx c hT.1.sane [_,_,_] _))))))
 ·exact aM (aX _) (bG rfl)
theorem aEv(h:dW U.length (yJ V.length U)=true):
  ∃z L,fS lY 0 [.i (V.length:Int),.i (U.length:Int),.l U,.i 0,.s nm,.b o,.l V,.i r,.l U,.l (aK (V.length+1) (FL V.length U))] (0,[.i z,.b false,.s nm,.b o,.l V,.i r,.l U,.l L]):=by
 obtain⟨j,c,d,e⟩:=rP h;obtain⟨z,L,f⟩:=aEu nm o V r U hp hT j c d;refine⟨z,L,dF oK (λj=>[.i (aJ V.length U j:Int),.i (U.length:Int),.l U,.i (j:Int),.s nm,.b o,.l V,.i r,.l U,.l (aK (aJ V.length U j+1) (FL V.length U))]) j (λi g=>?_) ?_⟩
 ·exact aC (aU (show i<U.length by omega)) (aC (aF (show i<U.length by omega)) (aO (aC7 nm o V r U hp hT i (by omega) (e i g)) (fD (bB (aP (nx (show i<U.length by omega) hT.1.sane [_,_,_] _))))))
 ·exact aC (aU c) (aC (aF c) (aO f (bB (bG rfl))))
structure Up(U:LD)(b:Nat)(q:Int×(Nat->Bool)):Prop where
 or:(q.1=-1/\∀i,q.2 i=dM U i b)\/∃d:Nat,q.1=d/\dM U d b=true/\(∀i,q.2 i=true->dM U i b=true/\dM U d i=true/\i≠d)/\∀i,dM U i b=true->q.2 i=true\/dM U i d=true
omit hp hT in
theorem aGc(b:Nat)(Q:b<U.length)(a5:RA U 0 (-1) b)(g:Nat->Int)(hg:∀i,i<U.length->C6 U U.length i (g i))(t:Nat->D)(n:Int)(v:LD):
  fS lY 6 [.i n,.i (b:Int),.i (b:Int),.i (U.length:Int),.i (b:Int),.s nm,.b o,.l V,.i r,.l U,.l (aK U.length (fV t b (.l (List.replicate U.length (.b false))))),.l v,.l (aK U.length λi=>.i (g i))]
   (0,[.i n,.i (b:Int),.i (U.length:Int),.s nm,.b o,.l V,.i r,.l U,.l (aK U.length (fV t b (.l (aQ U.length λi=>dM U i b)))),.l v,.l (aK U.length λi=>.i (g i))]):=by
 rw[<-lV];have h:=IG oK (b:=6) (λ(q:Int×(Nat->Bool))=>[.i n,.i (b:Int),.i (b:Int),.i (U.length:Int),.i q.1,.s nm,.b o,.l V,.i r,.l U,.l (aK U.length (fV t b (.l (aQ U.length q.2)))),.l v,.l (aK U.length λi=>.i (g i))]) (Up U b) (λq=>tP U.length q.2)
  (λu=>u=(0,[.i n,.i (b:Int),.i (U.length:Int),.s nm,.b o,.l V,.i r,.l U,.l (aK U.length (fV t b (.l (aQ U.length λi=>dM U i b)))),.l v,.l (aK U.length λi=>.i (g i))])) (λq a4=>?_) (s0:=((b:Int),λ_=>false))
  ⟨.inr ⟨b,rfl,PC a5,λi h=>(by cases h),λi h=>.inr h⟩⟩
 ·obtain⟨u,m,j⟩:=h;subst m;exact j
 ·obtain⟨x,f⟩:=q;rcases a4.or with⟨m,j⟩ |⟨d,m,j,s,H⟩
  ·simp only at m j;subst m;refine .inl ⟨_,rfl,?_⟩;show Ev _ _ (AS _) _;unfold AS;have e:f=λi=>dM U i b:=funext j;rw[e];exact aM rfl (bG rfl)
  ·simp only at m s H;subst m;have hd:=(S7 j).1;have a2:f d=false:=by
    cases e:f d with
    |false=>rfl
    |true=>exact absurd rfl (s d e).2.2
   have T:=II f d;have a3:Up U b (g d,qI f d):=by
    rcases(hg d hd).or with⟨G,P⟩ |⟨e,G,P,a0,y,a1⟩
    ·refine⟨.inl ⟨G,λi=>?_⟩⟩;show qI f d i=dM U i b;by_cases c:i=d
     ·subst c;rw[kS,j]
     ·rw[CZ f c];cases F:f i with
      |true=>rw[(s i F).1]
      |false=>
       cases L:dM U i b with
       |false=>rfl
       |true=>
        rcases H i L with l |l
        ·rw[l]at F;cases F
        ·have:=P i (S7 L).1 c;rw[this]at l;cases l
    ·refine⟨.inr ⟨e,G,QX y j,λi C=>?_,λi C=>?_⟩⟩
     ·by_cases c:i=d
      ·subst c;exact⟨j,y,λh=>a0 h.symm⟩
      ·have J:f i=true:=by rw[<-CZ f c];exact C
       refine⟨(s i J).1,QX y (s i J).2.1,λh=>?_⟩;subst h;exact c (C5 y (s i J).2.1)
     ·by_cases c:i=d
      ·left;subst c;exact kS f i
      ·rcases H i C with l |l
       ·exact .inl (T i l)
       ·exact .inr (a1 i (S7 C).1 c l)
   refine .inr ⟨(g d,qI f d),a3,LE U.length T hd a2 (kS f d),?_⟩;have K:gD (aK U.length (fV t b (.l (aQ U.length f)))) b=.l (aQ U.length f):=(dX _ Q).trans (fK _ _ _);have W:(gD (aK U.length λi=>.i (g i)) d).toI=g d:=congrArg D.toI (dX (λi=>D.i (g i)) hd);have Y:(aK U.length (fV t b (.l (aQ U.length f)))).set b (.l ((D.els (gD (aK U.length (fV t b (.l (aQ U.length f)))) b)).set d (.b true)))=aK U.length (fV t b (.l (aQ U.length (qI f d)))):=by rw[K,oD,IM];show aK U.length (fV t b (.l ((aQ U.length f).set d (.b true))))=_;rw[rV f hd]
   refine aC (jS (by show(0:Int)<=(d:Int);omega)) (aC ?_ (aC ?_ (aC ?_ (aP ?_))))
   ·show aA (b:Int) (aK U.length _).length=true;rw[cO];exact aF Q
   ·show aA (d:Int) (D.els (gD (aK U.length (fV t b (.l (aQ U.length f)))) b)).length=true;rw[K];show aA (d:Int) (aQ U.length f).length=true;rw[eQ];exact aF hd
   ·show aA (d:Int) (aK U.length _).length=true;rw[cO];exact aF hd
   ·show[D.i n,.i (b:Int),.i (b:Int),.i (U.length:Int),.i (g d),.s nm,.b o,.l V,.i r,.l U,.l (aK U.length (fV t b (.l (aQ U.length (qI f d))))),.l v,.l (aK U.length λi=>.i (g i))]=_;rw[<-Y,<-W];rfl
noncomputable def nG(U:LD):LD:=aK U.length λb=>.l (aQ U.length λi=>dM U i b)
omit hp in
theorem aGd(l:∀b,b<U.length->RA U 0 (-1) b)(g:Nat->Int)(hg:∀i,i<U.length->C6 U U.length i (g i))(n:Int)(d:LD):
  fS lY 4 [.i n,.i 0,.i ((List.replicate U.length (D.l [])).length:Int),.s nm,.b o,.l V,.i r,.l U,.l (List.replicate U.length (D.l [])),.l d,.l (aK U.length λi=>.i (g i))]
   (0,[.i n,.s nm,.b o,.l V,.i r,.l U,.l (nG U),.l d]):=by
 have m:=hT.1;unfold fH at m;have t:(List.replicate U.length (D.l [])).length=U.length:=List.length_replicate;rw[t,Vx U.length (λb=>.l (aQ U.length λi=>dM U i b)) (.l [])];have s:nG U=aK U.length (gT (λb=>.l (aQ U.length λi=>dM U i b)) (.l []) U.length):=(S5 _ _ _).symm;rw[s];refine dF oK (λj=>[.i n,.i (j:Int),.i (U.length:Int),.s nm,.b o,.l V,.i r,.l U,.l (aK U.length (gT (λb=>.l (aQ U.length λi=>dM U i b)) (.l []) j)),.l d,.l (aK U.length λi=>.i (g i))]) U.length (λj c=>?_) ?_
 ·have e:=aGc nm o V r U j c (l j c) g hg (gT (λb=>.l (aQ U.length λi=>dM U i b)) (.l []) j) n d;have f:(aK U.length (gT (λb=>.l (aQ U.length λi=>dM U i b)) (.l []) j)).set j (.l (List.replicate U.length (.b false)))=aK U.length (fV (gT (λb=>.l (aQ U.length λi=>dM U i b)) (.l []) j) j (.l (List.replicate U.length (.b false)))):=oD _ _;have h:aK U.length (fV (gT (λb=>.l (aQ U.length λi=>dM U i b)) (.l []) j) j (.l (aQ U.length λi=>dM U i j)))=aK U.length (gT (λb=>.l (aQ U.length λi=>dM U i b)) (.l []) (j+1)):=(oD _ _).symm.trans (Vw rfl);rw[h,<-f]at e;refine aC (aU c) (aC ?_ (aC ?_ (aO e (bB (aP (nx c hT.1.sane [_] _))))))
  ·show(cX 0 (U.length:Int)&&(aD (U.length:Int) (U.length:Int)&&jN (Int.toNat (U.length:Int)) 1))=true;rw[jS (by omega),pX];exact fA (by show U.length<=_;omega) (by omega)
  ·show aA (j:Int) (aK U.length _).length=true;rw[cO];exact aF c
 ·exact aM (aX _) (bG rfl)
end
theorem Qy(U:LD):(nG U).length=U.length:=cO _ _
theorem Qz{U:LD}{b:Nat}(h:b<U.length):gD (nG U) b=.l (aQ U.length λi=>dM U i b):=dX _ h
section
variable(nm:List UInt8)(o:Bool)(V:LD)(r:Int)(U:LD)(hp:fH V)(hT:gA U)
noncomputable abbrev nH(np:Nat)(U:LD):LD:=aK (aJ np U U.length+1) (FL np U)
theorem aC8{np:Nat}{b k:Nat}{x:D}{j:Nat}(Y:U.length<=10000)(L:b<U.length)(a0:k<=(gD U b).els.length)(h:C3 (aJ np U U.length:Int) (BY np U) (gC U) b k x j=false)(P:vI x 0=26->∃p:Nat,LZ x j=p/\p<U.length):
  ∃v:Nat,oG x j=v/\1<=v/\v<=aJ np U U.length/\(v<=np\/np<v/\∃d:Nat,d<U.length/\gD (nH np U) v=.i (d:Int)/\(vI x 0=26->∃p:Nat,LZ x j=p/\dM U d p=true)/\(vI x 0≠26->d≠b/\dM U d b=true\/d=b/\v<=aJ np U b+dV (gD U b).els k)):=by
 unfold C3 at h;rw[Bool.or_eq_false_iff,Bool.or_eq_false_iff]at h;obtain⟨⟨H,J⟩,c⟩:=h;have T:=pP H;have V:=pP J;have hv:oG x j=((oG x j).toNat:Int):=by omega
 generalize(oG x j).toNat=v at hv;refine⟨v,hv,by omega,by omega,?_⟩;have C:v<=aJ np U U.length:=by omega
 have hg:gD (BY np U) (Int.toNat (oG x j))=Gp np U v:=by rw[hv];exact Vv C
 rcases Co C with⟨l,g⟩ |⟨l,q,g,r⟩
 ·exact .inl l
 ·right;refine⟨l,q.1,g.b,?_,?_⟩
  ·exact(dX _ (by omega)).trans ((YZ l).trans (by rw[r]))
  ·have F:wv (BY np U) (oG x j) 0=(q.1:Int):=by unfold wv;rw[hg];show(Oh np U v).1 =_;rw[r]
   have e1:wv (BY np U) (oG x j) 1=(q.2:Int):=by unfold wv;rw[hg];show(Oh np U v).2 =_;rw[r]
   have u:∀{p:Nat},p<U.length->dt (gC U) (q.1:Int) (p:Int)=dM U q.1 p:=λ{p}hp=>by show D.toB (gE (gD (gC U) q.1) p)=_;rw[OZ g.b];exact congrArg D.toB (jV _ hp)
   rw[F,e1,Ch (by omega)]at c;simp only[cond_false]at c;refine⟨λm=>?_,λm=>?_⟩
   ·obtain⟨p,y,Q⟩:=P m;rw[m,pX,cond_true,y,u Q]at c;exact⟨p,y,by cases e:dM U q.1 p with|true=>rfl |false=>rw[e]at c;cases c⟩
   ·rw[nW m,cond_false,Bool.or_eq_false_iff,u L]at c;by_cases e:q.1=b
    ·right;refine⟨e,?_⟩;have f:=c.1;rw[e,pX,Bool.true_and]at f;have K:q.2<k:=by
      have:¬((k:Int)<=(q.2:Int)):=λh=>by rw[jS h]at f;cases f
      omega
     have s:=g.t;rw[e]at s;have W:=YV K s;have t:=g.v;unfold lE at t;rw[e]at t;omega
    ·left;refine⟨e,?_⟩;have f:=c.2;rw[nW (by omega)]at f;cases G:dM U q.1 b with
     |true=>rfl
     |false=>rw[G]at f;cases f
include hT
theorem aEw(b2:lO U)(hf:mM U=true)(b k:Nat)(c:b<U.length)(C:k<(gD U b).els.length):
  fS lY 12 [.i (aJ V.length U U.length:Int),.i ((aJ V.length U b+dV (gD U b).els k:Nat):Int),.l (eX (gD (gD U b).els k) 5),.i (U.length:Int),.i (b:Int),.i 0,.i ((gD U b).els.length:Int),.i ((eX (gD (gD U b).els k) 5).length:Int),.l (gD U b).els,.i (b:Int),.l U,.i (k:Int),.s nm,.b o,.l V,.i r,.l U,.i (vI (gD (gD U b).els k) 0),.i (vI (gD (gD U b).els k) 1),.i (vI (gD (gD U b).els k) 2),.i (vI (gD (gD U b).els k) 3),.i (vI (gD (gD U b).els k) 4),.l (eX (gD (gD U b).els k) 5),.l (eX (gD (gD U b).els k) 6),.l (nG U),.l (nH V.length U)] (bif RL V.length U b k then(0,[.i (aJ V.length U U.length:Int),.i ((aJ V.length U b+dV (gD U b).els k:Nat):Int),.i (U.length:Int),.i (b:Int),.i ((gD U b).els.length:Int),.b false,.l (gD U b).els,.i (b:Int),.l U,.i (k:Int),.s nm,.b o,.l V,.i r,.l U,.i (vI (gD (gD U b).els k) 0),.i (vI (gD (gD U b).els k) 1),.i (vI (gD (gD U b).els k) 2),.i (vI (gD (gD U b).els k) 3),.i (vI (gD (gD U b).els k) 4),.l (eX (gD (gD U b).els k) 5),.l (eX (gD (gD U b).els k) 6),.l (nG U),.l (nH V.length U)])else(1,[.i (aJ V.length U U.length:Int),.i ((aJ V.length U b+dV (gD U b).els k:Nat):Int),.i (U.length:Int),.i (b:Int),.i ((gD U b).els.length:Int),.l (gD U b).els,.i (b:Int),.l U,.i (k:Int),.s nm,.b o,.l V,.i r,.l U,.i (vI (gD (gD U b).els k) 0),.i (vI (gD (gD U b).els k) 1),.i (vI (gD (gD U b).els k) 2),.i (vI (gD (gD U b).els k) 3),.i (vI (gD (gD U b).els k) 4),.l (eX (gD (gD U b).els k) 5),.l (eX (gD (gD U b).els k) 6),.l (nG U),.l (nH V.length U)])):=by
 have b4:=hT.1;unfold fH at b4;have b7:=b2 b c k C;have has:=((hT.2 b c).i k C).as1;have c0:=Ms hf c C;have b5:RL V.length U b k=dW (eX (gD (gD U b).els k) 5).length (C3 (aJ V.length U U.length:Int) (BY V.length U) (gC U) b k (gD (gD U b).els k)):=rfl;rw[b5];generalize gD (gD U b).els k=x at*;have b3:(nH V.length U).length=aJ V.length U U.length+1:=cO _ _;refine tO oK (λj=>[.i (aJ V.length U U.length:Int),.i ((aJ V.length U b+dV (gD U b).els k:Nat):Int),.l (eX x 5),.i (U.length:Int),.i (b:Int),.i (j:Int),.i ((gD U b).els.length:Int),.i ((eX x 5).length:Int),.l (gD U b).els,.i (b:Int),.l U,.i (k:Int),.s nm,.b o,.l V,.i r,.l U,.i (vI x 0),.i (vI x 1),.i (vI x 2),.i (vI x 3),.i (vI x 4),.l (eX x 5),.l (eX x 6),.l (nG U),.l (nH V.length U)]) (eX x 5).length (C3 (aJ V.length U U.length:Int) (BY V.length U) (gC U) b k x) (λj y=>?_) ?_
 ·have F:=nx y has.sane [.i (aJ V.length U U.length:Int),.i ((aJ V.length U b+dV (gD U b).els k:Nat):Int),.l (eX x 5),.i (U.length:Int),.i (b:Int)] [.i ((gD U b).els.length:Int),.i ((eX x 5).length:Int),.l (gD U b).els,.i (b:Int),.l U,.i (k:Int),.s nm,.b o,.l V,.i r,.l U,.i (vI x 0),.i (vI x 1),.i (vI x 2),.i (vI x 3),.i (vI x 4),.l (eX x 5),.l (eX x 6),.l (nG U),.l (nH V.length U)];refine oT (aU y) (oT (aF y) (oO rfl rfl (λb6=>?_)));have hv:∃n:Nat,oG x j=(n:Int)/\n<=aJ V.length U U.length:=by
   have u:((aT (oG x j) 1)||(aT (aJ V.length U U.length:Int) (oG x j)))=false:=b6;rw[Bool.or_eq_false_iff]at u;have c3:=pP u.1;have h:=pP u.2;exact⟨(oG x j).toNat,by omega,by omega⟩
  obtain⟨v,hv,a0⟩:=hv;have hg:gD (BY V.length U) (Int.toNat (oG x j))=Gp V.length U v:=by rw[hv];exact Vv a0
  rcases Co a0 with⟨J,d⟩ |⟨J,q,d,t⟩
  ·have s:wv (BY V.length U) (oG x j) 0=-1:=by unfold wv;rw[hg];show(Oh V.length U v).1 =_;rw[d]
   refine oT ?_ (aCN (by rw[s];rfl) F);show cX (oG x j) (V.length:Int)=true;rw[hv];exact jS (by omega)
  ·have s:wv (BY V.length U) (oG x j) 0=(q.1:Int):=by unfold wv;rw[hg];show(Oh V.length U v).1 =_;rw[t]
   have e1:wv (BY V.length U) (oG x j) 1=(q.2:Int):=by unfold wv;rw[hg];show(Oh V.length U v).2 =_;rw[t]
   have P:∀{p:Nat},p<U.length->dt (gC U) (q.1:Int) (p:Int)=dM U q.1 p:=λ{p}hp=>by show D.toB (gE (gD (gC U) q.1) p)=_;rw[OZ d.b];exact congrArg D.toB (jV _ hp)
   have a9:gD (nH V.length U) v=.i (q.1:Int):=(dX _ (by omega)).trans ((YZ J).trans (by rw[t]));have h:=d.b;have a1:cX (oG x j) (V.length:Int)=false:=by rw[hv];exact aAC (by omega)
   have f:aA (oG x j) (nH V.length U).length=true:=by rw[hv,b3];exact aF (by omega)
   have g:(gD (nH V.length U) (Int.toNat (oG x j))).toI=(q.1:Int):=by rw[hv];show(gD (nH V.length U) v).toI=_;rw[a9];rfl
   have a2:aA (b:Int) (nG U).length=true:=by rw[Qy];exact aF c
   have W:∀{p:Nat},p<U.length->nE (gD (nG U) p)=U.length:=λ{p}hp=>by show(D.els (gD (nG U) p)).length=_;rw[Qz hp];exact eQ _ _
   have Y:∀{p:Nat},p<U.length->D.toB (gE (gD (nG U) p) (Int.toNat (gD (nH V.length U) (Int.toNat (oG x j))).toI))=dM U q.1 p:=λ{p}hp=>by rw[g];show D.toB (gE (gD (nG U) p) q.1)=_;rw[Qz hp];exact congrArg D.toB (jV (λi=>dM U i p) h)
   have a3:aA (gD (nH V.length U) (Int.toNat (oG x j))).toI (nE (gD (nG U) b))=true:=by rw[W c,g];exact aF h
   rw[s,e1,Ch (show(0:Int)<=(q.1:Int)by omega),cond_false];refine oF a1 (oT f (oT (aH a2) (oT (aH f) (oT (aH a3) (oT (aH f) ?_)))));refine oX (λ(l:aD (vI x 0) 26=true)=>?_) (λ(l:aD (vI x 0) 26=false)=>?_)
   ·have T:vI x 0=26:=(bT _ _).1 l;obtain⟨c1,a6⟩:=c0 T;have c2:=(b7.ap T).2;have Q:j<(iT U b).length:=by omega
    have a7:j<(eX x 6).length:=by omega
    obtain⟨p,G,m⟩:∃p:Nat,LZ x j=p/\p<U.length:=⟨_,a6 j Q,j7 (List.getElem_mem Q)⟩;have a4:aA (LZ x j) (nG U).length=true:=by rw[G,Qy];exact aF m
    have H:Int.toNat (LZ x j)=p:=by rw[G];rfl
    have a5:aA (gD (nH V.length U) (Int.toNat (oG x j))).toI (nE (gD (nG U) (Int.toNat (LZ x j))))=true:=by rw[H,W m,g];exact aF h
    rw[l,cond_true];refine oT (aF a7) (oT a4 (oT f (oT a5 (oE ?_ rfl F))));show(!(D.toB (gE (gD (nG U) (Int.toNat (LZ x j))) (Int.toNat (gD (nH V.length U) (Int.toNat (oG x j))).toI))))=!(dt (gC U) (q.1:Int) (LZ x j));rw[H,Y m,G,P m]
   ·rw[l,cond_false];refine oE ?_ rfl F;show(!(((!(aD (gD (nH V.length U) (Int.toNat (oG x j))).toI (b:Int)))&&(D.toB (gE (gD (nG U) b) (Int.toNat (gD (nH V.length U) (Int.toNat (oG x j))).toI))))||((aD (gD (nH V.length U) (Int.toNat (oG x j))).toI (b:Int))&&(cX (oG x j) ((aJ V.length U b+dV (gD U b).els k:Nat):Int)))))=_;rw[Y c,g,hv,P c];by_cases e:q.1=b
    ·have K:=d.v;have L:=d.t;unfold lE at K;rw[e]at K L;rw[e,pX];by_cases b0:q.2<k
     ·have b1:=YV b0 L;rw[jS (show(v:Int)<=((aJ V.length U b+dV (gD U b).els k:Nat):Int)by omega),aAC (show(q.2:Int)<(k:Int)by omega)];rfl
     ·have b1:=IP (gD U b).els (show k<=q.2 by omega);rw[aAC (show((aJ V.length U b+dV (gD U b).els k:Nat):Int)<(v:Int)by omega),jS (show(k:Int)<=(q.2:Int)by omega)];rfl
    ·rw[nW (show(q.1:Int)≠(b:Int)by omega)];cases dM U q.1 b<;>rfl
 ·exact aM (aX _) (bG rfl)
theorem aEx(j:lO U)(hf:mM U=true)(b:Nat)(f:b<U.length)(l:yJ V.length U b=false):
  fS lY 10 [.i (aJ V.length U U.length:Int),.i (aJ V.length U b:Int),.i (U.length:Int),.i (b:Int),.i ((gD U b).els.length:Int),.l (gD U b).els,.i (b:Int),.l U,.i 0,.s nm,.b o,.l V,.i r,.l U,.l (nG U),.l (nH V.length U)]
   (bif dW (gD U b).els.length (RL V.length U b)then(0,[.i (aJ V.length U U.length:Int),.i (U.length:Int),.b false,.i (b:Int),.l U,.s nm,.b o,.l V,.i r,.l U,.l (nG U),.l (nH V.length U)])else(1,[.i (aJ V.length U U.length:Int),.i (U.length:Int),.i (b:Int),.l U,.s nm,.b o,.l V,.i r,.l U,.l (nG U),.l (nH V.length U)])):=by
 have s:=(hT.2 b f).ins.sane;refine tO oK (λk=>[.i (aJ V.length U U.length:Int),.i ((aJ V.length U b+dV (gD U b).els k:Nat):Int),.i (U.length:Int),.i (b:Int),.i ((gD U b).els.length:Int),.l (gD U b).els,.i (b:Int),.l U,.i (k:Int),.s nm,.b o,.l V,.i r,.l U,.l (nG U),.l (nH V.length U)]) (gD U b).els.length (RL V.length U b) (λk c=>?_) ?_
 ·have g:∀m,[D.i (aJ V.length U U.length:Int),.i m,.i (U.length:Int),.i (b:Int),.i ((gD U b).els.length:Int),.l (gD U b).els,.i (b:Int),.l U,.i ((k+1:Nat):Int),.s nm,.b o,.l V,.i r,.l U,.l (nG U),.l (nH V.length U)]=[D.i (aJ V.length U U.length:Int),.i m,.i (U.length:Int),.i (b:Int),.i ((gD U b).els.length:Int),.l (gD U b).els,.i (b:Int),.l U,.i (bJ .i64 (k:Int) 1),.s nm,.b o,.l V,.i r,.l U,.l (nG U),.l (nH V.length U)]:=λm=>nx c s [_,_,_,_,_,_,_,_] _;refine oT (aU c) (oT (aF c) (oLO (b2:=false) (Bool.or_false _).symm (aEw nm o V r U hT j hf b k f c) rfl (λ_=>?_)));cases e:eN (gD (gD U b).els k)with
  |true=>
   have ht:=bU.1 l k c;unfold SN at ht;rw[e,Bool.true_and]at ht;have t:vI (gD (gD U b).els k) 2=(lE V.length U b k:Int):=by
    cases d:aD (vI (gD (gD U b).els k) 2) (lE V.length U b k:Int)with
    |true=>exact(bT _ _).1 d
    |false=>rw[d]at ht;cases ht
   refine oT e (aCN rfl ?_);show[D.i (aJ V.length U U.length:Int),.i ((aJ V.length U b+dV (gD U b).els (k+1):Nat):Int),.i (U.length:Int),.i (b:Int),.i ((gD U b).els.length:Int),.l (gD U b).els,.i (b:Int),.l U,.i ((k+1:Nat):Int),.s nm,.b o,.l V,.i r,.l U,.l (nG U),.l (nH V.length U)]=_;have h:((aJ V.length U b+dV (gD U b).els (k+1):Nat):Int)=vI (gD (gD U b).els k) 2:=by rw[t,Fm e];rfl
   rw[h];exact g _
  |false=>refine oF e (aCN rfl ?_);show[D.i (aJ V.length U U.length:Int),.i ((aJ V.length U b+dV (gD U b).els (k+1):Nat):Int),.i (U.length:Int),.i (b:Int),.i ((gD U b).els.length:Int),.l (gD U b).els,.i (b:Int),.l U,.i ((k+1:Nat):Int),.s nm,.b o,.l V,.i r,.l U,.l (nG U),.l (nH V.length U)]=_;rw[Mr e];exact g _
 ·exact aM (aX _) (bG rfl)
include hp
theorem aGe(g:lO U)(hf:mM U=true)(h:dW U.length (yJ V.length U)=false):
  fS lY 8 [.i (aJ V.length U U.length:Int),.i (U.length:Int),.i 0,.l U,.s nm,.b o,.l V,.i r,.l U,.l (nG U),.l (nH V.length U)] (bif (dW U.length λb=>dW (gD U b).els.length (RL V.length U b))then(0,[.b false])else(1,[])):=by
 refine tO oK (λj=>[.i (aJ V.length U U.length:Int),.i (U.length:Int),.i (j:Int),.l U,.s nm,.b o,.l V,.i r,.l U,.l (nG U),.l (nH V.length U)]) U.length (λb=>dW (gD U b).els.length (RL V.length U b)) (λj c=>?_) ?_
 ·have l:0<(gD U j).els.length:=by
   unfold mM at hf;rw[Bool.and_eq_true,rW,rW]at hf;have d:=jH.1 hf.1 j c;unfold Q5 at d;rw[Bool.or_eq_false_iff]at d;rcases Nat.eq_zero_or_pos (gD U j).els.length with e |e
   ·rw[e]at d;cases d.1
   ·exact e
  have f:=aEx nm o V r U hT g hf j c (bU.1 h j c);exact oT (aU c) (oT (aF c) (oT (Vn (by show(0:Int)<((gD U j).els.length:Int);omega)) (oC (D0 nm o V r U hp hT j (by omega)) rfl (oL f rfl (congrArg _ (nx c hT.1.sane [_,_] _).symm)))))
 ·exact aM (aX _) (bG rfl)
omit hp hT in
theorem PD{U:LD}(hf:mM U=true):∀b,b<U.length->RA U 0 (-1) b:=λb d=>by
 unfold mM at hf;rw[Bool.and_eq_true,rW,rW]at hf;have c:=bU.1 hf.2 b d;unfold TG at c;rw[Bool.or_eq_false_iff]at c;cases e:Gn U 0 (-1) b with
 |true=>exact AD.1 e
 |false=>rw[e]at c;cases c.1
theorem S9(s:0<U.length)(t:lO U)(hf:mM U=true):jZ E aZ sites Ur [qH nm o V r U] (.b (IR V.length U)) []:=by
 refine bE oK (by rfl) rfl ?_;show Ev _ _ (Be _) _;unfold Be;have y:=hp;have u:=hT.1;unfold fH at y u;have e1:bJ .i64 (V.length:Int) 1=((V.length+1:Nat):Int):=Oi (by omega);have j:Int.toNat (bJ .i64 (V.length:Int) 1)=V.length+1:=by rw[e1];rfl
 have l:aK (V.length+1) (FL V.length U)=List.replicate (Int.toNat (bJ .i64 (V.length:Int) 1)) (D.i 0):=by rw[j,dU (n:=V.length+1) (f:=FL V.length U) (g:=λ_=>.i 0) λi C=>aC6 (by omega),rX]
 have h:(cX 0 (bJ .i64 (V.length:Int) 1)&&(aD (bJ .i64 (V.length:Int) 1) (bJ .i64 (V.length:Int) 1)&&jN (Int.toNat (bJ .i64 (V.length:Int) 1)) 8))=true:=by rw[j,e1,jS (by omega),pX,fA (by omega) (by omega)];rfl
 unfold IR;cases e:dW U.length (yJ V.length U)with
 |true=>obtain⟨z,L,c⟩:=aEv nm o V r U hp hT e;rw[l]at c;exact aC h (aO c (bB (bM rfl rfl)))
 |false=>
 have c:=aGb nm o V r U hp hT e;rw[l]at c;have d:=aGe nm o V r U hp hT t hf e;obtain⟨g,hg,v⟩:=C8 nm o V r U hT s (PD hf);have m:(cX 0 (U.length:Int)&&(aD (U.length:Int) (U.length:Int)&&jN (Int.toNat (U.length:Int)) 24))=true:=by rw[jS (by omega),pX];exact fA (by show U.length<=_;omega) (by omega)
 refine aC h (aO c (fD (bB (aC m (bW v rfl (aO (aGd nm o V r U hT (PD hf) g hg _ _) (bB ?_)))))));cases hx:(dW U.length λb=>dW (gD U b).els.length (RL V.length U b))with
 |true=>rw[hx]at d;exact aO d (bB (bM rfl rfl))
 |false=>rw[hx]at d;exact aO d (fD (bB (bM rfl rfl)))
end
def kK(T as1:LD):LD:=as1.map λa=>.i (gD T a.toI.toNat).toI
theorem IS(T as1:LD):(kK T as1).length=as1.length:=List.length_map ..
theorem PE{T as1:LD}{j:Nat}(h:j<as1.length):gD (kK T as1) j=.i (gD T (gD as1 j).toI.toNat).toI:=by simp[kK,gD,List.getD,h]
abbrev g'(c:LD)(j:Nat):Int:=(gD c j).toI
def Cp(c:LD)(t:Int):Bool:=!(c.any λd=>!(aD d.toI t))
def MA(J Y:LD)(d op ty sym num:Int)(c:LD):Bool:=
 bif aD op 1 then aD ty 1||(aD ty 2&&(aD num 0||aD num 1))else
 bif aD op 2 then aD ty 4 else
 bif aD op 3||aD op 18 then aD ty 3 else
 bif cX 4 op&&cX op 13 then(aD ty 1&&aD (g' c 0) 1)&&aD (g' c 1) 1 else
 bif aD op 14||aD op 15 then(aD ty 2&&aD (g' c 0) 1)&&aD (g' c 1) 1 else
 bif aD op 16 then aD ty 2&&aD (g' c 0) 2 else
 bif aD op 17 then(aD (g' c 0) 2&&aD (g' c 1) ty)&&aD (g' c 2) ty else
 bif aD op 19 then(aD ty 3&&aD (g' c 0) 3)&&aD (g' c 1) 1 else
 bif aD op 20 then aD ty 1&&aD (g' c 0) 3 else
 bif aD op 21 then aD (g' c 0) 3&&aD (g' c 1) 1 else
 bif aD op 22 then nZ c (eX (gD Y sym.toNat) 2)&&aD ty (vI (gD Y sym.toNat) 3)else
 bif aD op 23 then nZ c (eX (gD J sym.toNat) 1)&&aD ty (vI (gD J sym.toNat) 2)else
 bif aD op 24 then aD ty 4&&aD (g' c 0) 1 else
 bif aD op 25 then aD (g' c 0) 4&&!(aD ty 3)else
 bif aD op 26 then Cp c ty else
 bif aD op 28 then aD (g' c 0) 2 else
 bif aD op 29 then(bif aD d 0 then aD (c.length:Int) 0 else aD (c.length:Int) 1&&aD (g' c 0) d)else true
theorem ops{op:Int}(c:1<=op)(d:op<=30):op=1\/op=2\/op=3\/op=4\/op=5\/op=6\/op=7\/op=8\/op=9\/op=10\/op=11\/op=12\/op=13\/op=14\/op=15\/op=16\/op=17\/op=18\/op=19\/op=20\/op=21\/op=22\/op=23\/op=24\/op=25\/op=26\/op=27\/op=28\/op=29\/op=30:=by omega
section
variable(J W y Y:LD)(nm:List UInt8)(o:Bool)(V:LD)(r:Int)(U:LD)
theorem aGf(c:LD)(f:cG c)(op ty to sym num:Int)(as1 is1:LD):
  fS Bv 1 [.l c,.i 0,.i op,.i ty,.i to,.i sym,.i num,.l as1,.l is1] (bif c.any (λe=>!(aD e.toI ty))then(0,[.b false])else(1,[])):=by
 refine FE Bw (λj=>[.l c,.i (j:Int),.i op,.i ty,.i to,.i sym,.i num,.l as1,.l is1]) c (λe=>!(aD e.toI ty)) (λj d=>?_) ?_
 ·exact oT (aU d) (oT (aF d) (oE rfl rfl (nx d f [_] _)))
 ·exact aM (aX _) (bG rfl)
set_option maxHeartbeats 4000000 in
theorem r3_fits_ok(op ty to sym num:Int)(as1 is1 d:LD)(g:cG d)(hg:d.length=as1.length)(f:i4 op ty to sym num as1.length is1.length)
  (m:op=22->aA sym Y.length=true)(s:op=23->aA sym J.length=true):
  jZ E aZ sites He [.l [.l J,.l W,.l y,.l Y],qH nm o V r U,.l [.i op,.i ty,.i to,.i sym,.i num,.l as1,.l is1],.l d] (.b (MA J Y r op ty sym num d)) []:=by
 refine bE Bw (by rfl) rfl ?_;show Ev _ _ (Px _) _;have w:∀{j:Nat},j<d.length->aA (j:Int) d.length=true:=λh=>aF h;have u:=f.a1;have v:=f.a2;have C:=f.a3;have nv:=f.av;rcases ops f.o1 f.o2 with rfl |rfl |rfl |rfl |rfl |rfl |rfl |rfl |rfl |rfl |rfl |rfl |rfl |rfl |rfl |rfl |rfl |rfl |rfl |rfl |rfl |rfl |rfl |rfl |rfl |rfl |rfl |rfl |rfl |rfl;case inr.inr.inr.inr.inr.inr.inr.inr.inr.inr.inr.inr.inr.inr.inr.inr.inr.inr.inr.inr.inr.inl=>
  repeat(first|refine aM rfl ?_ |refine aC rfl ?_)
  exact aC (m rfl) (bW (UZ d _ g) rfl (aC (aH (m rfl)) (bM rfl rfl)))
 case inr.inr.inr.inr.inr.inr.inr.inr.inr.inr.inr.inr.inr.inr.inr.inr.inr.inr.inr.inr.inr.inr.inl=>
  repeat(first|refine aM rfl ?_ |refine aC rfl ?_)
  exact aC (s rfl) (bW (UZ d _ g) rfl (aC (aH (s rfl)) (bM rfl rfl)))
 case inr.inr.inr.inr.inr.inr.inr.inr.inr.inr.inr.inr.inr.inr.inr.inr.inr.inr.inr.inr.inr.inr.inr.inr.inr.inl=>
  repeat(first|refine aM rfl ?_ |refine aC rfl ?_)
  have h:=aGf d g 26 ty to sym num as1 is1;cases e:d.any (λt=>!(aD t.toI ty))with
  |true=>rw[e]at h;exact aO h (bB (bM (congrArg D.b (by show Cp d ty=false;unfold Cp;rw[e];rfl)) rfl))
  |false=>rw[e]at h;exact aO h (fD (bB (bM (congrArg D.b (by show Cp d ty=true;unfold Cp;rw[e];rfl)) rfl)))
 case inr.inr.inr.inr.inr.inr.inr.inr.inr.inr.inr.inr.inr.inr.inr.inr.inr.inr.inr.inr.inr.inr.inr.inr.inr.inr.inr.inr.inl=>
  repeat(first|refine aM rfl ?_ |refine aC rfl ?_)
  cases e:aD r 0 with
  |true=>exact aC e (bM (congrArg D.b (by show(bif aD r 0 then _ else _)=_;rw[e];rfl)) rfl)
  |false=>
   refine aM e (aC ?_ (bM (congrArg D.b (by show(bif aD r 0 then _ else _)=_;rw[e];rfl)) rfl));cases l:aD (d.length:Int) 1 with
   |false=>exact congrArg (λc=>(!(c&&true))||aA 0 d.length) l
   |true=>have:=(bT _ _).1 l;exact aH (w (j:=0) (by omega))
 all_goals(repeat(first|exact bM rfl rfl |refine aM rfl ?_ |refine aC rfl ?_ |refine aC (aH (w (j:=0) (by omega))) ?_ |refine aC (aH (w (j:=1) (by omega))) ?_ |refine aC (aH (w (j:=2) (by omega))) ?_ |refine aC (w (j:=0) (by omega)) ?_))
end
theorem oL0{d:FD}{b:Bool}{l:Nat}{s f:LD}{e:LD->Sh}{ks:Ts (LD) (Nat×LD)}{o:Nat×LD}{a:LD}(c:fS d l s (0,f))(h:O2 d b (e f) o a):O2 d b (.loop l s (.cons e ks)) o a:=
 h.elim (λh=>.inl ⟨h.1,aO c (bB h.2)⟩) (λh=>.inr ⟨h.1,aO c (bB h.2)⟩)
def rH(J Y:LD)(c:Int)(T:LD)(x:D):Bool:=MA J Y c (vI x 0) (vI x 1) (vI x 3) (vI x 4) (kK T (eX x 5))
def LG(J Y:LD)(c:Int)(V U:LD):Bool:=!(dW U.length λb=>dW (gD U b).els.length λk=>!rH J Y c (bI V U) (gD (gD U b).els k))
def Mt(n:Nat)(U:LD):Prop:=∀b,b<U.length->∀k,k<(gD U b).els.length->∀j,j<(eX (gD (gD U b).els k) 5).length->∃v:Nat,oG (gD (gD U b).els k) j=v/\1<=v/\v<=n
theorem Vz{np:Nat}{U:LD}(h:IR np U=true):Mt (aJ np U U.length) U:=λb e k g j f=>by unfold IR at h;rw[Bool.and_eq_true,rW,rW]at h;have d:=bU.1 (bU.1 h.2 b e) k g;have c:=bU.1 d j f;unfold C3 at c;rw[Bool.or_eq_false_iff,Bool.or_eq_false_iff]at c;have l:=pP c.1.1;have m:=pP c.1.2;exact⟨(oG (gD (gD U b).els k) j).toNat,by omega,by omega,by omega⟩
def Cq(nx nf:Nat)(U:LD):Prop:=∀b,b<U.length->∀k,k<(gD U b).els.length->(vI (gD (gD U b).els k) 0=22->aA (vI (gD (gD U b).els k) 3) nf=true)/\(vI (gD (gD U b).els k) 0=23->aA (vI (gD (gD U b).els k) 3) nx=true)
theorem Wa{J W y Y:LD}(h:CH J W y Y=true):∀j,j<Y.length->Cq J.length Y.length (eX (gD Y j) 4):=λj f b e k g=>by
 unfold CH at h;rw[Bool.and_eq_true,rW,rW]at h;have d:=jH.1 (jH.1 (jH.1 h.2 j f) b e) k g;unfold FH at d;rw[Bool.or_eq_false_iff]at d;have m:=pP d.1;have key:∀n:Nat,uV J.length W.length y.length Y.length (vI (gD (gD (eX (gD Y j) 4) b).els k) 0)=n->aA (vI (gD (gD (eX (gD Y j) 4) b).els k) 3) n=true:=λn l=>by have c:=d.2;rw[l]at c;unfold aA aT;rw[c,jS (by omega)];rfl
 exact⟨λc=>key _ (by rw[c];rfl),λc=>key _ (by rw[c];rfl)⟩
theorem aAX{T as1:LD}{j:Nat}(h:j<as1.length):kK T (as1.take (j+1))=kK T (as1.take j)++[.i (gD T (gD as1 j).toI.toNat).toI]:=by
 have hg:gD as1 j=as1[j]:=by simp[gD,List.getD,h]
 unfold kK;rw[List.take_succ_eq_append_getElem h,List.map_append,hg];rfl
section
variable(J W y Y:LD)(nm:List UInt8)(o:Bool)(V:LD)(r:Int)(U:LD)
theorem aEy(kk b:Int)(x:D)(T:LD)(has:fH (eX x 5))(e:∀j,j<(eX x 5).length->aA (oG x j) T.length=true):
  fS ES 4 [.i kk,.i b,.i 0,.l J,.l W,.l y,.l Y,.s nm,.b o,.l V,.i r,.l U,.i (vI x 0),.i (vI x 1),.i (vI x 2),.i (vI x 3),.i (vI x 4),.l (eX x 5),.l (eX x 6),.l [],.l T]
   (0,[.i kk,.i b,.l J,.l W,.l y,.l Y,.s nm,.b o,.l V,.i r,.l U,.i (vI x 0),.i (vI x 1),.i (vI x 2),.i (vI x 3),.i (vI x 4),.l (eX x 5),.l (eX x 6),.l (kK T (eX x 5)),.l T]):=by
 have ht:=has;unfold fH at ht;have d:kK T (eX x 5)=kK T ((eX x 5).take (eX x 5).length):=by rw[List.take_length]
 rw[d];refine dF ET (λj=>[.i kk,.i b,.i (j:Int),.l J,.l W,.l y,.l Y,.s nm,.b o,.l V,.i r,.l U,.i (vI x 0),.i (vI x 1),.i (vI x 2),.i (vI x 3),.i (vI x 4),.l (eX x 5),.l (eX x 6),.l (kK T ((eX x 5).take j)),.l T]) (eX x 5).length (λj c=>?_) ?_
 ·have f:=nx c has.sane [.i kk,.i b] [.l J,.l W,.l y,.l Y,.s nm,.b o,.l V,.i r,.l U,.i (vI x 0),.i (vI x 1),.i (vI x 2),.i (vI x 3),.i (vI x 4),.l (eX x 5),.l (eX x 6),.l (kK T ((eX x 5).take (j+1))),.l T];refine aC (aU c) (aC (aF c) (aC (e j c) (aC ?_ (aP (f.trans ?_)))))
  ·show jN ((kK T ((eX x 5).take j)).length+1) 8=true;rw[IS,List.length_take];exact fA (by omega) (by omega)
  ·rw[aAX c];rfl
 ·exact aM (aX _) (bG rfl)
theorem aEz(m:gA U)(l:lO U)(T:LD)(n:Nat)(s:T.length=n+1)(C:Mt n U)(f:Cq J.length Y.length U)(b:Nat)(c:b<U.length):
  fS ES 2 [.i 0,.i (b:Int),.l J,.l W,.l y,.l Y,.s nm,.b o,.l V,.i r,.l U,.l T]
   (bif dW (gD U b).els.length (λk=>!rH J Y r T (gD (gD U b).els k))then(0,[.b false,.i (b:Int),.l J,.l W,.l y,.l Y,.s nm,.b o,.l V,.i r,.l U,.l T])else(1,[.i (b:Int),.l J,.l W,.l y,.l Y,.s nm,.b o,.l V,.i r,.l U,.l T])):=by
 have e:=m.2 b c;refine tO ET (λk=>[.i (k:Int),.i (b:Int),.l J,.l W,.l y,.l Y,.s nm,.b o,.l V,.i r,.l U,.l T]) (gD U b).els.length (λk=>!rH J Y r T (gD (gD U b).els k)) (λk d=>?_) ?_
 ·have u:=l b c k d;have has:=(e.i k d).as1;have G:∀j,j<(eX (gD (gD U b).els k) 5).length->aA (oG (gD (gD U b).els k) j) T.length=true:=λj F=>by
   obtain⟨v,g,H,K⟩:=C b c k d j F;rw[g,s];exact aF (by omega)
  have h:=aEy J W y Y nm o V r U (k:Int) (b:Int) (gD (gD U b).els k) T has G;have t:jZ E aZ sites He [.l [.l J,.l W,.l y,.l Y],qH nm o V r U,.l [.i (vI (gD (gD U b).els k) 0),.i (vI (gD (gD U b).els k) 1),.i (vI (gD (gD U b).els k) 2),.i (vI (gD (gD U b).els k) 3),.i (vI (gD (gD U b).els k) 4),.l (eX (gD (gD U b).els k) 5),.l (eX (gD (gD U b).els k) 6)],.l (kK T (eX (gD (gD U b).els k) 5))] (.b (rH J Y r T (gD (gD U b).els k))) []:=
   r3_fits_ok J W y Y nm o V r U _ _ _ _ _ _ _ _ (by unfold cG;rw[IS];exact has.sane) (IS _ _) u (f b c k d).1 (f b c k d).2
  exact oT (aF c) (oT (aU d) (oT (aF c) (oT (aF d) (oL0 h (oC t rfl (oE rfl rfl (nx d e.ins.sane [] _)))))))
 ·exact aC (aF c) (aM (aX _) (bG rfl))
theorem D1(l:fH V)(c:gA U)(f:lO U)(g:Mt (aJ V.length U U.length) U)(m:Cq J.length Y.length U):jZ E aZ sites Ko [.l [.l J,.l W,.l y,.l Y],qH nm o V r U] (.b (LG J Y r V U)) []:=by
 refine bE ET (by rfl) rfl ?_;show Ev _ _ (TW _) _;unfold TW LG;have h:fS ES 0 [.i 0,.l J,.l W,.l y,.l Y,.s nm,.b o,.l V,.i r,.l U,.l (bI V U)] (bif dW U.length (λb=>dW (gD U b).els.length λk=>!rH J Y r (bI V U) (gD (gD U b).els k))then(0,[.b false])else(1,[])):=by
  refine tO ET (λj=>[.i (j:Int),.l J,.l W,.l y,.l Y,.s nm,.b o,.l V,.i r,.l U,.l (bI V U)]) U.length _ (λj d=>?_) ?_
  ·exact oT (aU d) (oL (aEz J W y Y nm o V r U c f (bI V U) _ (zP V U) g m j d) rfl (congrArg IX.again (nx d c.1.sane [] _).symm))
  ·exact aM (aX _) (bG rfl)
 refine bW (PB nm o V r U l c) rfl ?_;cases e:dW U.length (λb=>dW (gD U b).els.length λk=>!rH J Y r (bI V U) (gD (gD U b).els k))with
 |true=>rw[e]at h;exact aO h (bB (bM rfl rfl))
 |false=>rw[e]at h;exact aO h (fD (bB (bM rfl rfl)))
end
theorem Mu{n:Nat}{P Q:Nat->Bool}(h:∀j,j<n->P j=Q j):dW n P=dW n Q:=by rw[Bool.eq_iff_iff,<-Bool.not_eq_false,<-Bool.not_eq_false,bU,bU];exact not_congr ⟨λd j c=>(h j c)▸d j c,λd j c=>(h j c).symm▸d j c⟩
theorem aG9(l:LD)(p:D->Bool):l.any p=dW l.length λj=>p (gD l j):=by rw[Bool.eq_iff_iff,<-Bool.not_eq_false,<-Bool.not_eq_false,bU,jH]
theorem aHa(T as1:LD)(t:Int):Cp (kK T as1) t=!(dW as1.length λj=>!(aD (gD T (gD as1 j).toI.toNat).toI t)):=by unfold Cp;rw[aG9,IS];congr 1;exact Mu λj c=>by rw[PE c];rfl
theorem aGg(T as1 c:LD):nZ (kK T as1) c=(aD (as1.length:Int) c.length&&!(dW as1.length λj=>!(aD (gD T (gD as1 j).toI.toNat).toI (gD c j).toI))):=by unfold nZ;rw[IS];congr 2;exact Mu λj d=>by rw[PE d];rfl
theorem aAY(T as1:LD)(t:Int)(has:cG as1)(d:∀j,j<as1.length->aA (gD as1 j).toI T.length=true):jZ E aZ sites Ba [.l T,.l as1,.i t] (.b (Cp (kK T as1) t)) []:=by
 refine bE Lj (by rfl) rfl ?_;show Ev _ _ (Ky _) _;unfold Ky;have h:fS Li 0 [.l T,.i 0,.l as1,.i t,.i (as1.length:Int)] (bif dW as1.length (λj=>!(aD (gD T (gD as1 j).toI.toNat).toI t))then(0,[.b false])else(1,[])):=by
  refine tO Lj (λj=>[.l T,.i (j:Int),.l as1,.i t,.i (as1.length:Int)]) as1.length _ (λj c=>?_) ?_
  ·exact oT (aU c) (oT (aF c) (oT (d j c) (oE rfl rfl (nx c has [_] _))))
  ·exact aM (aX _) (bG rfl)
 rw[aHa];cases e:dW as1.length (λj=>!(aD (gD T (gD as1 j).toI.toNat).toI t))with
 |true=>rw[e]at h;exact aO h (bB (bM rfl rfl))
 |false=>rw[e]at h;exact aO h (fD (bB (bM rfl rfl)))
theorem T3(T as1 c:LD)(has:cG as1)(f:∀j,j<as1.length->aA (gD as1 j).toI T.length=true):jZ E aZ sites wD [.l T,.l as1,.l c] (.b (nZ (kK T as1) c)) []:=by
 refine bE Bz (by rfl) rfl ?_;show Ev _ _ (Bl _) _;unfold Bl;rw[aGg];cases el:aD (as1.length:Int) c.length with
 |false=>exact aC (congrArg Bool.not el) (bM rfl rfl)
 |true=>
  have l:as1.length=c.length:=by have:=(bT _ _).1 el;omega
  have h:fS By 0 [.l T,.i (as1.length:Int),.l c,.i 0,.l as1] (bif dW as1.length (λj=>!(aD (gD T (gD as1 j).toI.toNat).toI (gD c j).toI))then(0,[.b false])else(1,[])):=by
   refine tO Bz (λj=>[.l T,.i (as1.length:Int),.l c,.i (j:Int),.l as1]) as1.length _ (λj d=>?_) ?_
   ·have g:j<c.length:=by omega
    exact oT (aU d) (oT (aF d) (oT (f j d) (oT (aF g) (oE rfl rfl (nx d has [_,_,_] _)))))
   ·exact aM (aX _) (bG rfl)
  refine aM (congrArg Bool.not el) ?_;cases e:dW as1.length (λj=>!(aD (gD T (gD as1 j).toI.toNat).toI (gD c j).toI))with
  |true=>rw[e]at h;exact aO h (bB (bM rfl rfl))
  |false=>rw[e]at h;exact aO h (fD (bB (bM rfl rfl)))
theorem D2{d:FD}{c x:Bool}{m:Nat}{J:LD}(h:jZ E aZ sites m J (.b x) []):sW E aZ sites d (.ask (c&&true) (.call m J 0 λr _=>.ret (.b (c&&D.toB r)) []) (.ret (.b (c&&D.toB (.i 0))) [])) (.ret (.b (c&&x)) []):=by
 cases c with
 |true=>exact aC rfl (bW h rfl (bM rfl rfl))
 |false=>exact aM rfl (bM rfl rfl)
theorem aHb{l:LD}(h:l.length=1):∃a,l=[a]:=List.length_eq_one_iff.1 h
theorem aHc{l:LD}(h:l.length=2):∃a b,l=[a,b]:=by
 match l,h with
 |[a,b],_=>exact⟨a,b,rfl⟩
theorem aIc{l:LD}(h:l.length=3):∃a b c,l=[a,b,c]:=by
 match l,h with
 |[a,b,c],_=>exact⟨a,b,c,rfl⟩
theorem aId{c:LD}(h:c.length=1)(t:Int):Cp c t=aD (g' c 0) t:=by obtain⟨a,rfl⟩:=aHb h;show(!((!(aD a.toI t))||false))=aD a.toI t;cases aD a.toI t<;>rfl
theorem aHd{c:LD}(h:c.length=2)(t:Int):Cp c t=(aD (g' c 0) t&&aD (g' c 1) t):=by obtain⟨a,b,rfl⟩:=aHc h;show(!((!(aD a.toI t))||((!(aD b.toI t))||false)))=(aD a.toI t&&aD b.toI t);cases aD a.toI t<;>cases aD b.toI t<;>rfl
theorem k9{c:LD}(h:c.length=1)(t:Int):nZ c [.i t]=aD (g' c 0) t:=by obtain⟨a,rfl⟩:=aHb h;show(true&&!(false||!(aD a.toI t)))=aD a.toI t;cases aD a.toI t<;>rfl
theorem aFo{c:LD}(h:c.length=2)(t u:Int):nZ c [.i t,.i u]=(aD (g' c 0) t&&aD (g' c 1) u):=by obtain⟨a,b,rfl⟩:=aHc h;show(true&&!((false||!(aD a.toI t))||!(aD b.toI u)))=(aD a.toI t&&aD b.toI u);cases aD a.toI t<;>cases aD b.toI u<;>rfl
theorem aHe{d:LD}(h:d.length=3)(t u v:Int):nZ d [.i t,.i u,.i v]=((aD (g' d 0) t&&aD (g' d 1) u)&&aD (g' d 2) v):=by obtain⟨a,b,c,rfl⟩:=aIc h;show(true&&!(((false||!(aD a.toI t))||!(aD b.toI u))||!(aD c.toI v)))=((aD a.toI t&&aD b.toI u)&&aD c.toI v);cases aD a.toI t<;>cases aD b.toI u<;>cases aD c.toI v<;>rfl
theorem aEA{J Y:LD}{f op ty sym num:Int}{c:LD}(d:4<=op)(e:op<=13)(h:c.length=2):MA J Y f op ty sym num c=(aD ty 1&&Cp c 1):=by rw[aHd h 1,<-Bool.and_assoc];unfold MA;rw[nW (show op≠1 by omega),nW (show op≠2 by omega),nW (show op≠3 by omega),nW (show op≠18 by omega),jS d,jS e];rfl
theorem aEB{J Y:LD}{e op ty sym num:Int}{c:LD}(d:op=14\/op=15)(h:c.length=2):MA J Y e op ty sym num c=(aD ty 2&&Cp c 1):=by rw[aHd h,<-Bool.and_assoc];rcases d with rfl |rfl<;>rfl
section
variable(J W y Y:LD)(nm:List UInt8)(o:Bool)(V:LD)(r:Int)(U:LD)
set_option maxHeartbeats 4000000 in
theorem wf_fitting_ok(T:LD)(op ty to sym num:Int)(as1 is1:LD)(has:cG as1)(h:∀j,j<as1.length->aA (gD as1 j).toI T.length=true)(d:i4 op ty to sym num as1.length is1.length)
  (s:op=22->aA sym Y.length=true)(u:op=23->aA sym J.length=true):
  jZ E aZ sites KJ [.l [.l J,.l W,.l y,.l Y],qH nm o V r U,.l T,.l [.i op,.i ty,.i to,.i sym,.i num,.l as1,.l is1]] (.b (MA J Y r op ty sym num (kK T as1))) []:=by
 refine bE YH (by rfl) rfl ?_;show Ev _ _ (YC _) _;have l:(kK T as1).length=as1.length:=IS T as1;have H:=d.a1;have K:=d.a2;have L:=d.a3;have nv:=d.av;have f:=λt=>aAY T as1 t has h;have c:=λC=>T3 T as1 C has h;rcases ops d.o1 d.o2 with rfl |rfl |rfl |rfl |rfl |rfl |rfl |rfl |rfl |rfl |rfl |rfl |rfl |rfl |rfl |rfl |rfl |rfl |rfl |rfl |rfl |rfl |rfl |rfl |rfl |rfl |rfl |rfl |rfl |rfl;all_goals(repeat(first|exact bM rfl rfl |refine aM rfl ?_ |refine aC rfl ?_))
 all_goals(first|(rw[aEA (by omega) (by omega) (by omega)];exact D2 (f 1)) |(rw[aEB (by omega) (by omega)];exact D2 (f 1)) |skip)
 ·rw[show MA J Y r 16 ty sym num (kK T as1)=(aD ty 2&&Cp (kK T as1) 2)from by rw[aId (by omega)];rfl];exact D2 (f 2)
 ·rw[show MA J Y r 17 ty sym num (kK T as1)=nZ (kK T as1) [.i 2,.i ty,.i ty]from(aHe (by omega) 2 ty ty).symm];exact bW (c _) rfl (bM rfl rfl)
 ·rw[show MA J Y r 19 ty sym num (kK T as1)=(aD ty 3&&nZ (kK T as1) [.i 3,.i 1])from by rw[aFo (by omega),<-Bool.and_assoc];rfl];exact D2 (c _)
 ·rw[show MA J Y r 20 ty sym num (kK T as1)=(aD ty 1&&nZ (kK T as1) [.i 3])from by rw[k9 (by omega)];rfl];exact D2 (c _)
 ·rw[show MA J Y r 21 ty sym num (kK T as1)=nZ (kK T as1) [.i 3,.i 1]from(aFo (by omega) 3 1).symm];exact bW (c _) rfl (bM rfl rfl)
 ·refine aC (s rfl) ?_;rw[show MA J Y r 22 ty sym num (kK T as1)=(aD ty (vI (gD Y sym.toNat) 3)&&nZ (kK T as1) (eX (gD Y sym.toNat) 2))from Bool.and_comm _ _];exact D2 (c _)
 ·refine aC (u rfl) ?_;rw[show MA J Y r 23 ty sym num (kK T as1)=(aD ty (vI (gD J sym.toNat) 2)&&nZ (kK T as1) (eX (gD J sym.toNat) 1))from Bool.and_comm _ _];exact D2 (c _)
 ·rw[show MA J Y r 24 ty sym num (kK T as1)=(aD ty 4&&nZ (kK T as1) [.i 1])from by rw[k9 (by omega)];rfl];exact D2 (c _)
 ·have g:0<as1.length:=by have:=(nv rfl).1;omega
  have e:g' (kK T as1) 0=(gD T (gD as1 0).toI.toNat).toI:=by unfold g';rw[PE g];rfl
  rw[show MA J Y r 25 ty sym num (kK T as1)=(aD (gD T (gD as1 0).toI.toNat).toI 4&&!(aD ty 3))from by rw[<-e];rfl];exact aC (aF (j:=0) g) (aC (h 0 g) (bM rfl rfl))
 ·exact bW (f ty) rfl (bM rfl rfl)
 ·rw[show MA J Y r 28 ty sym num (kK T as1)=nZ (kK T as1) [.i 2]from(k9 (by omega) 2).symm];exact bW (c _) rfl (bM rfl rfl)
 ·cases e:aD r 0 with
  |true=>
   rw[show MA J Y r 29 ty sym num (kK T as1)=aD (as1.length:Int) 0 from by
    show(bif aD r 0 then aD ((kK T as1).length:Int) 0 else _)=_;rw[e,l];rfl]
   exact aC e (bM rfl rfl)
  |false=>
   rw[show MA J Y r 29 ty sym num (kK T as1)=nZ (kK T as1) [.i r]from by
    show(bif aD r 0 then _ else aD ((kK T as1).length:Int) 1&&aD (g' (kK T as1) 0) r)=_;rw[e,cond_false];have F:=d.ar rfl;by_cases m:as1.length=1
    ·rw[k9 (by omega),l,m];rfl
    ·have G:as1.length=0:=by omega
     have v:kK T as1=[]:=List.length_eq_zero_iff.1 (by omega);rw[v];rfl]
   exact aM e (bW (c _) rfl (bM rfl rfl))
theorem aGh(f:gA U)(b:Nat)(h:b<U.length)(q:LD)(s:q.length<=100000+b*10000):
  fS KW 2 [.i (b:Int),.l U,.i ((gD U b).els.length:Int),.l (gD U b).els,.i (U.length:Int),.i 0,.l q] (0,[.i (b:Int),.l U,.i (U.length:Int),.l (DB q (gD U b).els)]):=by
 have d:=(f.2 b h).ins;have m:=f.1;have g:=d.sane;unfold fH at d m;refine sB KX (λj(q:LD)=>[.i (b:Int),.l U,.i ((gD U b).els.length:Int),.l (gD U b).els,.i (U.length:Int),.i (j:Int),.l q]) (gD U b).els (λq x=>bif eN x then q++[.i (vI x 1)]else q) (λq=>(0,[.i (b:Int),.l U,.i (U.length:Int),.l q])) (λj p=>p.length<=q.length+j) (λj p c r=>⟨?_,?_⟩) (λp r=>?_) (s0:=q) (Nat.le_refl _)
 ·cases eN (gD (gD U b).els j)<;>simp<;>omega
 ·refine aC (aU c) (aC (aF c) ?_);cases e:eN (gD (gD U b).els j)with
  |true=>
   have l:p.length+1<=1000000000:=by have:=Nat.mul_le_mul (show b<=10000 by omega) (Nat.le_refl 10000);omega
   exact aC e (aC (fA l (by omega)) (aP (nx c g [_,_,_,_,_] _)))
  |false=>exact aM e (aP (nx c g [_,_,_,_,_] _))
 ·exact aM (aX _) (bG rfl)
theorem Fo(d:fH V)(e:gA U):jZ E aZ sites YB [qH nm o V r U] (.l (bI V U)) []:=by
 refine bE KX (by rfl) rfl ?_;show Ev _ _ (UI _) _;unfold UI;unfold fH at d;have g:fS KW 0 [.i 0,.l U,.i (U.length:Int),.l ([.i 0]++V)] (0,[.l (bI V U)]):=by
  refine sB KX (λj(q:LD)=>[.i (j:Int),.l U,.i (U.length:Int),.l q]) U (λq b=>DB q b.els) (λq=>(0,[.l q])) (λj p=>p.length<=100000+j*10000) (λj p c d=>⟨?_,?_⟩) (λp d=>?_) (s0:=[.i 0]++V) (by simp;omega)
  ·have f:=(e.2 j c).ins;unfold fH at f;rw[IQ,<-YX];have:=YU (gD U j).els (gD U j).els.length;omega
  ·exact aC (aU c) (aC (aF c) (aO (aGh U e j c p d) (bB (aP (nx c e.1.sane [] _)))))
  ·exact aM (aX _) (bG rfl)
 refine aC ?_ (aO g (bB (bM rfl rfl)));show jN (1+V.length) 8=true;exact fA (by omega) (by omega)
theorem aEC(l:gA U)(h:lO U)(T:LD)(n:Nat)(m:T.length=n+1)(t:Mt n U)(f:Cq J.length Y.length U)(b:Nat)(d:b<U.length):
  fS KO 2 [.i (b:Int),.l U,.i ((gD U b).els.length:Int),.l (gD U b).els,.i (U.length:Int),.i 0,.l J,.l W,.l y,.l Y,.s nm,.b o,.l V,.i r,.l U,.l T]
   (bif dW (gD U b).els.length (λk=>!rH J Y r T (gD (gD U b).els k))then(0,[.i (b:Int),.l U,.b false,.i (U.length:Int),.l J,.l W,.l y,.l Y,.s nm,.b o,.l V,.i r,.l U,.l T])else(1,[.i (b:Int),.l U,.i (U.length:Int),.l J,.l W,.l y,.l Y,.s nm,.b o,.l V,.i r,.l U,.l T])):=by
 have e:=l.2 b d;refine tO KP (λk=>[.i (b:Int),.l U,.i ((gD U b).els.length:Int),.l (gD U b).els,.i (U.length:Int),.i (k:Int),.l J,.l W,.l y,.l Y,.s nm,.b o,.l V,.i r,.l U,.l T]) (gD U b).els.length (λk=>!rH J Y r T (gD (gD U b).els k)) (λk c=>?_) ?_
 ·have C:∀j,j<(eX (gD (gD U b).els k) 5).length->aA (oG (gD (gD U b).els k) j) T.length=true:=λj u=>by
   obtain⟨v,g,F,G⟩:=t b d k c j u;rw[g,m];exact aF (by omega)
  have s:jZ E aZ sites KJ [.l [.l J,.l W,.l y,.l Y],qH nm o V r U,.l T,.l [.i (vI (gD (gD U b).els k) 0),.i (vI (gD (gD U b).els k) 1),.i (vI (gD (gD U b).els k) 2),.i (vI (gD (gD U b).els k) 3),.i (vI (gD (gD U b).els k) 4),.l (eX (gD (gD U b).els k) 5),.l (eX (gD (gD U b).els k) 6)]] (.b (rH J Y r T (gD (gD U b).els k))) []:=
   wf_fitting_ok J W y Y nm o V r U T _ _ _ _ _ _ _ (e.i k c).as1.sane C (h b d k c) (f b d k c).1 (f b d k c).2
  exact oT (aU c) (oT (aF c) (oC s rfl (oE rfl rfl (nx c e.ins.sane [_,_,_,_,_] _))))
 ·exact aM (aX _) (bG rfl)
theorem D3(l:fH V)(d:gA U)(f:lO U)(g:Mt (aJ V.length U U.length) U)(m:Cq J.length Y.length U):jZ E aZ sites Ku [.l [.l J,.l W,.l y,.l Y],qH nm o V r U] (.b (LG J Y r V U)) []:=by
 refine bE KP (by rfl) rfl ?_;show Ev _ _ (UB _) _;unfold UB LG;have h:fS KO 0 [.i 0,.l U,.i (U.length:Int),.l J,.l W,.l y,.l Y,.s nm,.b o,.l V,.i r,.l U,.l (bI V U)] (bif dW U.length (λb=>dW (gD U b).els.length λk=>!rH J Y r (bI V U) (gD (gD U b).els k))then(0,[.b false])else(1,[])):=by
  refine tO KP (λj=>[.i (j:Int),.l U,.i (U.length:Int),.l J,.l W,.l y,.l Y,.s nm,.b o,.l V,.i r,.l U,.l (bI V U)]) U.length _ (λj c=>?_) ?_
  ·exact oT (aU c) (oT (aF c) (oL (aEC J W y Y nm o V r U d f (bI V U) _ (zP V U) g m j c) rfl (congrArg IX.again (nx c d.1.sane [] _).symm)))
  ·exact aM (aX _) (bG rfl)
 refine bW (Fo nm o V r U l d) rfl ?_;cases e:dW U.length (λb=>dW (gD U b).els.length λk=>!rH J Y r (bI V U) (gD (gD U b).els k))with
 |true=>rw[e]at h;exact aO h (bB (bM rfl rfl))
 |false=>rw[e]at h;exact aO h (fD (bB (bM rfl rfl)))
end
structure Mv(J W y Y:LD):Prop where
 n:J.length+W.length+y.length+Y.length<=10000
 x:∀j,j<J.length->fH (eX (gD J j) 1)
 g:∀j,j<W.length->fH (eX (gD W j) 1)
 t:∀j,j<y.length->fH (eX (gD y j) 1)
 f:∀j,j<Y.length->Mf (gD Y j)
theorem Mv.sane{J W y Y:LD}(h:Mv J W y Y):Zu J W y Y:=by have d:=h.n;exact⟨by unfold cG;omega,by unfold cG;omega,by unfold cG;omega,by unfold cG;omega,λj c=>(h.x j c).sane,λj c=>(h.t j c).sane,λj c=>(h.f j c).sane⟩
abbrev sO(f:D):LD:=eX f 4
abbrev npF(f:D):Nat:=(eX f 2).length
noncomputable def flB(f:D):Bool:=!mM (sO f)
noncomputable def usB(f:D):Bool:=!IR (npF f) (sO f)
noncomputable def tyB(J Y:LD)(f:D):Bool:=!LG J Y (vI f 3) (eX f 2) (sO f)
noncomputable def PF(J W y Y:LD):Int:=
 bif !iW J W y Y then 2 else bif !lN J Y then 1 else bif !LC J W y Y then 3 else bif !CH J W y Y then 4 else
 bif Y.any flB then 5 else bif Y.any usB then 6 else bif Y.any (tyB J Y)then 7 else 0
structure OkM(J W y Y:LD):Prop where
 sm:iW J W y Y=true
 fm:lN J Y=true
 nm:LC J W y Y=true
 sy:CH J W y Y=true
 fl:∀j,j<Y.length->mM (sO (gD Y j))=true
 us:∀j,j<Y.length->IR (npF (gD Y j)) (sO (gD Y j))=true
 ty:∀j,j<Y.length->LG J Y (vI (gD Y j) 3) (eX (gD Y j) 2) (sO (gD Y j))=true
theorem aHf{J W y Y:LD}(h:PF J W y Y=0):OkM J W y Y:=by
 unfold PF at h;cases c:iW J W y Y with
 |false=>rw[c]at h;cases h
 |true=>
 cases d:lN J Y with
 |false=>rw[c,d]at h;cases h
 |true=>
 cases e:LC J W y Y with
 |false=>rw[c,d,e]at h;cases h
 |true=>
 cases f:CH J W y Y with
 |false=>rw[c,d,e,f]at h;cases h
 |true=>
 cases l:Y.any flB with
 |true=>rw[c,d,e,f,l]at h;cases h
 |false=>
 cases m:Y.any usB with
 |true=>rw[c,d,e,f,l,m]at h;cases h
 |false=>
 cases r:Y.any (tyB J Y)with
 |true=>rw[c,d,e,f,l,m,r]at h;cases h
 |false=>
 have nn:∀{b:Bool},(!b)=false->b=true:=λ{b}h=>by cases b with|true=>rfl |false=>cases h
 exact⟨c,d,e,f,λj g=>nn (jH.1 l j g),λj g=>nn (jH.1 m j g),λj g=>nn (jH.1 r j g)⟩
theorem ZA{J W y Y:LD}(h:iW J W y Y=true):∀j,j<Y.length->0<(sO (gD Y j)).length:=λj d=>by unfold iW at h;rw[Bool.and_eq_true,Bool.and_eq_true,Bool.and_eq_true,Bool.and_eq_true]at h;have c:=jH.1 (rW.1 h.2.2.2.2) j d;unfold FG at c;rw[Bool.or_eq_false_iff,Bool.or_eq_false_iff,Bool.or_eq_false_iff]at c;have e:¬(((eX (gD Y j) 4).length:Int)<1):=pP c.1.1.2;show 0<(eX (gD Y j) 4).length;omega
section
variable(J W y Y:LD)(hM:Mv J W y Y)
include hM
theorem aED(d:∀j,j<Y.length->lO (sO (gD Y j))):fS EY 0 [.i 0,.l J,.l W,.l y,.l Y] (bif Y.any flB then(0,[.i 5,.l J,.l W,.l y,.l Y])else(1,[.l J,.l W,.l y,.l Y])):=by
 refine FE EZ (λj=>[.i (j:Int),.l J,.l W,.l y,.l Y]) Y flB (λj c=>?_) ?_
 ·exact oT (aU c) (oT (aF c) (oC (B4 _ _ _ _ _ (hM.f j c).bbs (d j c)) rfl (oE rfl rfl (nx c hM.sane.hf [] _))))
 ·exact aM (aX _) (bG rfl)
theorem aEE(d:∀j,j<Y.length->lO (sO (gD Y j)))(e:∀j,j<Y.length->mM (sO (gD Y j))=true):fS EY 2 [.i 0,.l J,.l W,.l y,.l Y] (bif Y.any usB then(0,[.i 6,.l J,.l W,.l y,.l Y])else(1,[.l J,.l W,.l y,.l Y])):=by
 refine FE EZ (λj=>[.i (j:Int),.l J,.l W,.l y,.l Y]) Y usB (λj c=>?_) ?_
 ·exact oT (aU c) (oT (aF c) (oC (S4 _ _ _ _ _ (hM.f j c).ps (hM.f j c).bbs (d j c) (e j c)) rfl (oE rfl rfl (nx c hM.sane.hf [] _))))
 ·exact aM (aX _) (bG rfl)
theorem aEF(d:∀j,j<Y.length->lO (sO (gD Y j)))(e:CH J W y Y=true)(f:∀j,j<Y.length->IR (npF (gD Y j)) (sO (gD Y j))=true):fS EY 4 [.i 0,.l J,.l W,.l y,.l Y] (bif Y.any (tyB J Y)then(0,[.i 7])else(1,[])):=by
 refine FE EZ (λj=>[.i (j:Int),.l J,.l W,.l y,.l Y]) Y (tyB J Y) (λj c=>?_) ?_
 ·exact oT (aU c) (oT (aF c) (oC (D1 J W y Y _ _ _ _ _ (hM.f j c).ps (hM.f j c).bbs (d j c) (Vz (f j c)) (Wa e j c)) rfl (oE rfl rfl (nx c hM.sane.hf [] _))))
 ·exact aM (aX _) (bG rfl)
theorem aFp:jZ E aZ sites Ki [.l [.l J,.l W,.l y,.l Y]] (.i (PF J W y Y)) []:=by
 refine bE EZ (by rfl) rfl ?_;show Ev _ _ (UJ _) _;unfold UJ PF;have nn:∀{b:Bool},(!b)=false->b=true:=λ{b}h=>by cases b with|true=>rfl |false=>cases h
 have G:=hM.n;refine bW (Vi J W y Y) rfl ?_;cases C:iW J W y Y with
 |false=>exact aC rfl (bM rfl rfl)
 |true=>
 refine aM rfl (bW (Zv J W y Y hM.sane) rfl ?_);cases s:lN J Y with
 |false=>exact aC rfl (bM rfl rfl)
 |true=>
 refine aM rfl (bW (A0 J W y Y (by omega)) rfl ?_);cases F:LC J W y Y with
 |false=>exact aC rfl (bM rfl rfl)
 |true=>
 refine aM rfl (bW (O6 J W y Y hM.sane) rfl ?_);cases t:CH J W y Y with
 |false=>exact aC rfl (bM rfl rfl)
 |true=>
 have l:=Ck s;have c:=aED J W y Y hM l;refine aM rfl ?_;cases f:Y.any flB with
 |true=>rw[f]at c;exact aO c (bB (bM rfl rfl))
 |false=>
 rw[f]at c;have u:=λj m=>nn (jH.1 f j m);have d:=aEE J W y Y hM l u;refine aO c (fD (bB ?_));cases g:Y.any usB with
 |true=>rw[g]at d;exact aO d (bB (bM rfl rfl))
 |false=>
 rw[g]at d;have v:=λj m=>nn (jH.1 g j m);have e:=aEF J W y Y hM l t v;refine aO d (fD (bB ?_));cases r:Y.any (tyB J Y)with
 |true=>rw[r]at e;exact aO e (bB (bM rfl rfl))
 |false=>rw[r]at e;exact aO e (fD (bB (bM rfl rfl)))
theorem aC9(d:∀j,j<Y.length->lO (sO (gD Y j)))(e:∀j,j<Y.length->0<(sO (gD Y j)).length):fS EW 1 [.i (Y.length:Int),.i 0,.l Y,.l J,.l W,.l y,.l Y] (bif Y.any flB then(0,[.i 5,.l J,.l W,.l y,.l Y])else(1,[.l J,.l W,.l y,.l Y])):=by
 refine FE EX (λj=>[.i (Y.length:Int),.i (j:Int),.l Y,.l J,.l W,.l y,.l Y]) Y flB (λj c=>?_) ?_
 ·exact oT (aU c) (oT (aF c) (oC (B6 _ _ _ _ _ (hM.f j c).bbs (d j c) (e j c)) rfl (oE rfl rfl (nx c hM.sane.hf [_] _))))
 ·exact aM (aX _) (bG rfl)
theorem aDa(d:∀j,j<Y.length->lO (sO (gD Y j)))(e:∀j,j<Y.length->0<(sO (gD Y j)).length)(f:∀j,j<Y.length->mM (sO (gD Y j))=true):fS EW 3 [.i 0,.l Y,.i (Y.length:Int),.l J,.l W,.l y,.l Y] (bif Y.any usB then(0,[.i 6,.l J,.l W,.l y,.l Y])else(1,[.l J,.l W,.l y,.l Y])):=by
 refine FE EX (λj=>[.i (j:Int),.l Y,.i (Y.length:Int),.l J,.l W,.l y,.l Y]) Y usB (λj c=>?_) ?_
 ·exact oT (aU c) (oT (aF c) (oC (S9 _ _ _ _ _ (hM.f j c).ps (hM.f j c).bbs (e j c) (d j c) (f j c)) rfl (oE rfl rfl (nx c hM.sane.hf [] _))))
 ·exact aM (aX _) (bG rfl)
theorem aDb(d:∀j,j<Y.length->lO (sO (gD Y j)))(e:CH J W y Y=true)(f:∀j,j<Y.length->IR (npF (gD Y j)) (sO (gD Y j))=true):fS EW 5 [.i (Y.length:Int),.l Y,.i 0,.l J,.l W,.l y,.l Y] (bif Y.any (tyB J Y)then(0,[.i 7])else(1,[])):=by
 refine FE EX (λj=>[.i (Y.length:Int),.l Y,.i (j:Int),.l J,.l W,.l y,.l Y]) Y (tyB J Y) (λj c=>?_) ?_
 ·exact oT (aU c) (oT (aF c) (oC (D3 J W y Y _ _ _ _ _ (hM.f j c).ps (hM.f j c).bbs (d j c) (Vz (f j c)) (Wa e j c)) rfl (oE rfl rfl (nx c hM.sane.hf [_,_] _))))
 ·exact aM (aX _) (bG rfl)
theorem Wb:jZ E aZ sites XZ [.l [.l J,.l W,.l y,.l Y]] (.i (PF J W y Y)) []:=by
 refine bE EX (by rfl) rfl ?_;show Ev _ _ (UG _) _;unfold UG PF;have nn:∀{b:Bool},(!b)=false->b=true:=λ{b}h=>by cases b with|true=>rfl |false=>cases h
 refine bW (Zt J W y Y) rfl ?_;cases u:iW J W y Y with
 |false=>exact aC rfl (bM rfl rfl)
 |true=>
 refine aM rfl (bW (Vl J W y Y hM.sane) rfl ?_);cases r:lN J Y with
 |false=>exact aC rfl (bM rfl rfl)
 |true=>
 refine aM rfl (bW (A1 J W y Y hM.n) rfl ?_);cases G:LC J W y Y with
 |false=>exact aC rfl (bM rfl rfl)
 |true=>
 refine aM rfl (bW (Zx J W y Y hM.sane r) rfl ?_);cases v:CH J W y Y with
 |false=>exact aC rfl (bM rfl rfl)
 |true=>
 have l:=Ck r;have t:=ZA u;have c:=aC9 J W y Y hM l t;refine aM rfl ?_;cases f:Y.any flB with
 |true=>rw[f]at c;exact aO c (bB (bM rfl rfl))
 |false=>
 rw[f]at c;have C:=λj m=>nn (jH.1 f j m);have d:=aDa J W y Y hM l t C;refine aO c (fD (bB ?_));cases g:Y.any usB with
 |true=>rw[g]at d;exact aO d (bB (bM rfl rfl))
 |false=>
 rw[g]at d;have F:=λj m=>nn (jH.1 g j m);have e:=aDb J W y Y hM l v F;refine aO d (fD (bB ?_));cases s:Y.any (tyB J Y)with
 |true=>rw[s]at e;exact aO e (bB (bM rfl rfl))
 |false=>rw[s]at e;exact aO e (fD (bB (bM rfl rfl)))
omit hM in
theorem aDc(h:OkM J W y Y):PF J W y Y=0:=by
 unfold PF;have d:Y.any flB=false:=jH.2 λj c=>by unfold flB;rw[h.fl j c];rfl
 have e:Y.any usB=false:=jH.2 λj c=>by unfold usB;rw[h.us j c];rfl
 have f:Y.any (tyB J Y)=false:=jH.2 λj c=>by unfold tyB;rw[h.ty j c];rfl
 rw[h.sm,h.fm,h.nm,h.sy,d,e,f];rfl
theorem aFq(h:OkM J W y Y):jZ E aZ sites XZ [.l [.l J,.l W,.l y,.l Y]] (.i 0) []:=by have:=Wb J W y Y hM;rw[aDc J W y Y h]at this;exact this
end
end Go.Eng.Q

namespace Go.Eng.Q
open Go.Eng Go.Proofs
theorem tQ(x:D)(l:LD):∃st,fE E 0 (Ug Kh 29).ps [.l (x::l)] {sl:=.nil,bx:=[],ar:=[],ctr:=1}=some st/\∀g,Sd g st (st.sl.get 0)=g st:=
 ⟨(fE E 0 (Ug Kh 29).ps [.l (x::l)] {sl:=.nil,bx:=[],ar:=[],ctr:=1}).getD vL,by kernel_rfl,λg=>by kernel_rfl⟩
theorem tR:jZ E aZ sites bK [.l []] (.l []) []:=
 ⟨1,λk n L e f d=>by obtain⟨k,rfl⟩:∃c,k=c+1:=⟨k-1,by omega⟩;obtain⟨n,rfl⟩:∃c,n=c+1:=⟨n-1,by omega⟩;obtain⟨L,rfl⟩:∃c,L=c+1:=⟨L-1,by omega⟩;exact(show rN (yM E (k+1) sites (L+1)) aZ (Hb E) (k+1) (n+1) bK [.l []]=some (.l [],[])by kernel_rfl)⟩
theorem mN(l:LD)(h:jN l.length 16=true):jZ E aZ sites bK [.l l] (.l l) []:=by
 cases l with
 |nil=>exact tR
 |cons x l=>
  refine aEf vN rfl rfl rfl (λst f g=>?_) ?_
  ·obtain⟨st',c,d⟩:=tQ x l;have e:st'=st:=Option.some.inj (c.symm.trans f);subst e;exact d g
  ·refine aM rfl (aM rfl (aC ?_ (bM rfl rfl)));show jN (0+(x::l).length) 16=true;rw[Nat.zero_add];exact h
def aDd:List (Nat×Nat):=[(29,16)]
def T4:Cl:=λm xs=>
 match look aDd m with
 |some w=>(match xs with
  |[.l l]=>bif jN l.length w then some (.l l,[])else none
  |_=>none)
 |none=>none
theorem aAZ:∀m xs r,T4 m xs=some r->jZ E aZ sites m xs r.1 r.2:=λm xs r h=>by
 unfold T4 at h;split at h
 ·rename_i w c;split at h
  ·rename_i l;cases e:jN l.length w with
   |false=>rw[e]at h;simp at h
   |true=>
    rw[e]at h;simp only[cond_true,Option.some.injEq]at h;subst h;simp only[aDd,look]at c;cases d:Nat.beq 29 m with
    |true=>rw[d]at c;simp only[cond_true,Option.some.injEq]at c;subst c;rw[<-Nat.eq_of_beq_eq_true d];exact mN l e
    |false=>
    rw[d]at c;simp only[cond_false]at c;simp at c
  ·simp at h
 ·simp at h
end Go.Eng.Q

namespace Go.Eng
theorem IT(a b:SP):tY a b=true<->a.1.val<b.1.val\/a.1.val=b.1.val/\a.2.val<b.2.val:=by
 unfold tY;cases e:Nat.beq a.1.val b.1.val with
 |true=>have:=Nat.eq_of_beq_eq_true e;simp;omega
 |false=>
  have:a.1.val≠b.1.val:=λh=>by rw[h,Nat.beq_refl]at e;cases e
  simp;omega
theorem aDe{a b:SP}(c:a.1.val=b.1.val)(d:a.2.val=b.2.val):a=b:=Prod.ext (Fin.ext c) (Fin.ext d)
theorem FM(a:SP):tY a a=false:=by
 cases e:tY a a with
 |false=>rfl
 |true=>rw[IT]at e;omega
theorem LH{a b c:SP}(d:tY a b=true)(e:tY b c=true):tY a c=true:=by rw[IT]at*;omega
theorem PG{a b:SP}:tY a b=false<->b=a\/tY b a=true:=by
 rw[<-Bool.not_eq_true,IT,IT];constructor
 ·intro h;by_cases e:b.1.val=a.1.val/\b.2.val=a.2.val
  ·exact .inl (aDe e.1 e.2)
  ·right;omega
 ·rintro(rfl |h)<;>omega
def IU(l:List SP):Prop:=l.Pairwise λa b=>tY a b=true
theorem IU.nodup{l:List SP}(h:IU l):l.Nodup:=List.Pairwise.imp (λ{a b}c e=>by subst e;rw[FM]at c;cases c) h
theorem ZB:∀{l m:List SP},IU l->IU m->(∀x,x∈l<->x∈m)->l=m
 |[],[],_,_,_=>rfl
 |[],d::m,_,_,h=>by have:=(h d).2 (by simp);simp at this
 |x::l,[],_,_,h=>by have:=(h x).1 (by simp);simp at this
 |x::l,d::m,t,v,h=>by
  obtain⟨g,u⟩:=List.pairwise_cons.1 t;obtain⟨j,y⟩:=List.pairwise_cons.1 v;have C:x=d:=by
   rcases List.mem_cons.1 ((h x).1 (by simp))with e |e
   ·exact e
   ·rcases List.mem_cons.1 ((h d).2 (by simp))with f |f
    ·exact f.symm
    ·have r:=j x e;have s:=g d f;have:=LH r s;rw[FM]at this;cases this
  subst C;have nx:x∉l:=λhx=>by have:=g x hx;rw[FM]at this;cases this
  have F:x∉m:=λhx=>by have:=j x hx;rw[FM]at this;cases this
  congr 1;refine ZB u y λz=>?_;constructor
  ·intro c;rcases List.mem_cons.1 ((h z).1 (List.mem_cons_of_mem _ c))with e |e
   ·subst e;exact absurd c nx
   ·exact e
  ·intro c;rcases List.mem_cons.1 ((h z).2 (List.mem_cons_of_mem _ c))with e |e
   ·subst e;exact absurd c F
   ·exact e
theorem aDf{l m:List SP}(f:l.Nodup)(g:∀x,x∈l->x∈m)(s:m.length<=l.length):∀x,x∈m->x∈l:=λx hx=>by
 by_cases h:x∈l
 ·exact h
 ·have c:(x::l).Nodup:=List.nodup_cons.2 ⟨h,f⟩;have d:(x::l).length<=m.length:=c.length_le_of_subset λr j=>by
   rcases List.mem_cons.1 j with e |e
   ·rw[e];exact hx
   ·exact g r e
  simp at d;omega
def qO(s:List SP):List SP:=match s with
 |[]=>[]
 |[x]=>[x]
 |_=>aBD s
theorem Ra(s:List SP):(qO s).Perm s:=by
 unfold qO;split
 ·exact List.Perm.refl _
 ·exact List.Perm.refl _
 ·exact List.mergeSort_perm _ _
theorem BU(s:List SP):(qO s).length=s.length:=(Ra s).length_eq
theorem D4{s:List SP}{x:SP}:x∈qO s<->x∈s:=(Ra s).mem_iff
theorem D5(s:List SP):(qO s).Pairwise λa b=>tY b a=false:=by
 unfold qO;split
 ·exact List.Pairwise.nil
 ·exact List.pairwise_singleton _ _
 ·have h:=List.pairwise_mergeSort (le:=λx l=>!tY l x) (λa b c d f=>?_) (λa b=>?_) s
  ·exact h.imp λ{a b}j=>by simpa using j
  ·simp only[Bool.not_eq_true']at*;rw[PG]at*;rcases d with rfl |d
   ·exact f
   ·rcases f with rfl |f
    ·exact .inr d
    ·exact .inr (LH d f)
  ·cases e:tY b a with
   |false=>rfl
   |true=>
    cases g:tY a b with
    |false=>rfl
    |true=>have:=LH e g;rw[FM]at this;cases this
theorem aGi(a:SP):s6 (eK a)=some a:=by
 obtain⟨⟨x,hx⟩,⟨c,d⟩⟩:=a;have e:VZ ((x:Nat):Int)=some ⟨x,hx⟩:=by unfold VZ;rw[dif_pos ⟨by omega,by simpa using hx⟩];rfl
 have f:VZ ((c:Nat):Int)=some ⟨c,d⟩:=by unfold VZ;rw[dif_pos ⟨by omega,by simpa using d⟩];rfl
 show((VZ ((x:Nat):Int)).bind λa=>(VZ ((c:Nat):Int)).bind λb=>some (a,b))=_;rw[e,f];rfl
theorem l5:∀s:List SP,Dh (s.map eK)=some s
 |[]=>rfl
 |x::s=>by show((s6 (eK x)).bind λx=>(Dh (s.map eK)).bind λl=>some (x::l))=_;rw[aGi,l5 s];rfl
theorem l7(s:List SP):Wz (s.map eK) s=(qO s).map eK:=by
 match s with
 |[]=>rfl
 |[x]=>rfl
 |x::c::s=>rfl
theorem aEG(s:List SP)(h:s.length<=1000000000):Di [.l (s.map eK),.l []]=some (.l [],[.l ((qO s).map eK)]):=by show(bif Nat.ble (s.map eK).length 1000000000 then(Dh (s.map eK)).bind λl=>some (D.l [],[D.l (Wz (s.map eK) l)])else none)=_;rw[List.length_map,Nat.ble_eq_true_of_le h,cond_true];rw[l5];show some (D.l [],[D.l (Wz (s.map eK) s)])=_;rw[l7]
abbrev sp0:SP:=(0,0)
abbrev gP(s:List SP)(i:Nat):SP:=s.getD i sp0
def oQ(s:List SP)(n:Nat):Bool:=Nat.beq n 0||!(decide (gP s n=gP s (n-1)))
def fQ(s:List SP):Nat->List SP
 |0=>[]
 |n+1=>fQ s n++(bif oQ s n then[gP s n]else[])
def Oj(s:List SP):List SP:=fQ s s.length
theorem LI{s:List SP}{n:Nat}(h:oQ s n=true):fQ s (n+1)=fQ s n++[gP s n]:=by rw[fQ,h];rfl
theorem LJ{s:List SP}{n:Nat}(h:oQ s n=false):fQ s (n+1)=fQ s n:=by rw[fQ,h];simp
theorem QY(s:List SP):∀n,(fQ s n).length<=n
 |0=>Nat.le_refl _
 |n+1=>by
  have:=QY s n;cases e:oQ s n with
  |true=>rw[LI e];simp;omega
  |false=>rw[LJ e];omega
theorem QZ(s:List SP):∀n x,x∈fQ s n<->∃i,i<n/\x=gP s i
 |0,x=>by simp[fQ]
 |n+1,x=>by
  cases e:oQ s n with
  |true=>
   rw[LI e,List.mem_append,QZ s n,List.mem_singleton];constructor
   ·rintro(⟨i,d,c⟩ |h)
    ·exact⟨i,by omega,c⟩
    ·exact⟨n,by omega,h⟩
   ·rintro⟨i,d,c⟩;by_cases f:i=n
    ·subst f;exact .inr c
    ·exact .inl ⟨i,by omega,c⟩
  |false=>
   rw[LJ e,QZ s n];unfold oQ at e;rw[Bool.or_eq_false_iff]at e;have j:n≠0:=λh=>by rw[h]at e;cases e.1
   have g:gP s n=gP s (n-1):=by simpa using e.2
   constructor
   ·rintro⟨i,d,c⟩;exact⟨i,by omega,c⟩
   ·rintro⟨i,d,c⟩;by_cases f:i=n
    ·subst f;exact⟨i-1,by omega,by rw[c,g]⟩
    ·exact⟨i,by omega,c⟩
theorem Mw{s:List SP}(g:s.Pairwise λa b=>tY b a=false){i j:Nat}(l:i<=j)(c:j<s.length):tY (gP s j) (gP s i)=false:=by
 by_cases e:i=j
 ·subst e;exact FM _
 ·have h:=List.pairwise_iff_getElem.1 g i j (by omega) c (by omega);have d:gP s i=s[i]:=by simp[gP,List.getD,show i<s.length by omega]
  have f:gP s j=s[j]:=by simp[gP,List.getD,c]
  rw[d,f];exact h
theorem Mx{s:List SP}(c:s.Pairwise λa b=>tY b a=false):∀n,n<=s.length->IU (fQ s n)
 |0,_=>List.Pairwise.nil
 |n+1,j=>by
  have d:=Mx c n (by omega);cases e:oQ s n with
  |false=>rw[LJ e];exact d
  |true=>
   rw[LI e];refine List.pairwise_append.2 ⟨d,List.pairwise_singleton _ _,λx hx l g=>?_⟩;rw[List.mem_singleton.1 g];obtain⟨i,h,rfl⟩:=(QZ s n x).1 hx;unfold oQ at e;rw[Bool.or_eq_true]at e;rcases e with e |e
   ·have:=Nat.eq_of_beq_eq_true e;omega
   ·have f:gP s n≠gP s (n-1):=by simpa using e
    have a1:=PG.1 (Mw c (show i<=n-1 by omega) (by omega));have a2:=PG.1 (Mw c (show n-1<=n by omega) (by omega));rcases a2 with a2 |a2
    ·exact absurd a2.symm f
    ·rcases a1 with a1 |a1
     ·rw[a1];exact a2
     ·exact LH a1 a2
def yR(s:List SP):List SP:=Oj (qO s)
theorem My(s:List SP):IU (yR s):=Mx (D5 s) _ (Nat.le_refl _)
theorem DD{s:List SP}{x:SP}:x∈yR s<->x∈s:=by
 unfold yR Oj;rw[QZ];constructor
 ·rintro⟨i,c,rfl⟩;have:gP (qO s) i=(qO s)[i]:=by simp[gP,List.getD,c]
  rw[this,<-D4 (s:=s)];exact List.getElem_mem c
 ·intro h;obtain⟨i,c,d⟩:=List.mem_iff_getElem.1 (D4.2 h);exact⟨i,c,by rw[<-d];simp[gP,List.getD,c]⟩
theorem aHF(s:List SP):(yR s).length<=s.length:=by have:=QY (qO s) (qO s).length;rw[BU]at this;unfold yR Oj;rw[BU];exact this
end Go.Eng

namespace Go.Eng.Q
open Go.Eng
abbrev fB(s:List SP):D:=.l (s.map eK)
theorem PH{s:List SP}{i:Nat}(h:i<s.length):gD (s.map eK) i=eK (gP s i):=by simp[gD,List.getD,gP,h]
theorem aDg(s:List SP)(c:s.length<=1000000000):jZ E aZ sites bC [fB s,.l []] (.l []) [fB (qO s)]:=by refine⟨0,λk n L _ _ _=>?_⟩;have h:(Hb E) bC=some Di:=rfl;cases n<;>simp only[rN,h,aEG s c]
theorem eqS(a b:SP):(aD (a.1.val:Int) (b.1.val:Int)&&(aD (a.2.val:Int) (b.2.val:Int)&&true))=decide (a=b):=by
 rw[Bool.eq_iff_iff];simp only[Bool.and_eq_true,bT,decide_eq_true_eq,and_true];constructor
 ·rintro⟨c,d⟩;exact aDe (by omega) (by omega)
 ·rintro rfl;exact⟨rfl,rfl⟩
def mV(s:List SP)(n:Nat):List SP:=fQ s n++s.drop (fQ s n).length
theorem D6{s:List SP}{n:Nat}(h:n<=s.length):(mV s n).length=s.length:=by have:=QY s n;unfold mV;rw[List.length_append,List.length_drop];omega
theorem D7{s:List SP}{n i:Nat}(h:(fQ s n).length<=i)(c:i<s.length):gP (mV s n) i=gP s i:=by unfold mV gP;simp only[List.getD];rw[List.getElem?_append_right h,List.getElem?_drop];congr 2;omega
theorem Mz{s:List SP}:∀n,n<=s.length->(∀i,i<n->oQ s i=true)->fQ s n=s.take n
 |0,_,_=>by simp[fQ]
 |n+1,e,h=>by
  have c:gP s n=s[n]:=by simp[gP,List.getD,show n<s.length by omega]
  rw[LI (h n (by omega)),Mz n (by omega) λi d=>h i (by omega),c,List.take_succ_eq_append_getElem (by omega)]
theorem aDh{s:List SP}{n:Nat}(f:n<s.length)(c:oQ s n=true)(d:(fQ s n).length<s.length):((mV s n).map eK).set (fQ s n).length (eK (gP s n))=(mV s (n+1)).map eK:=by
 have e:(mV s n).set (fQ s n).length (gP s n)=mV s (n+1):=by unfold mV;rw[LI c,List.set_append_right _ _ (Nat.le_refl _),Nat.sub_self];have hd:s.drop (fQ s n).length=s[(fQ s n).length]::s.drop ((fQ s n).length+1):=List.drop_eq_getElem_cons d;rw[hd,List.set_cons_zero,List.length_append,List.append_assoc];rfl
 rw[<-e,List.map_set]
theorem aA0(s:List SP)(c:Nat)(a1:0<c)(a3:c<s.length)(a5:s.length<=1000000)(L:∀i,i<c->oQ s i=true)(hd:oQ s c=false):
  fS cD 2 [.i (c:Int),.i 1,.i (Int.ofNat (s.length-c)),.i (Int.ofNat c),fB s] (0,[.i ((fQ s s.length).length:Int),fB (mV s s.length)]):=by
 have h:fQ s (c+1)=s.take c:=by rw[LJ hd,Mz c (by omega) L]
 have l:(fQ s (c+1)).length=c:=by rw[h,List.length_take];omega
 have J:mV s (c+1)=s:=by unfold mV;rw[l,h,List.take_append_drop]
 have V:∀j,c+1<=j->j<=s.length->(fQ s j).length+1<=j:=λj Q=>by
  induction j with
  |zero=>omega
  |succ j Y=>
   intro a2;by_cases e:j=c
   ·subst e;omega
   ·have:=Y (by omega) (by omega);cases d:oQ s j with
    |true=>rw[LI d];simp;omega
    |false=>rw[LJ d];omega
 have r:fS cD 2 [.i ((fQ s (c+1+0)).length:Int),.i ((0+1:Nat):Int),.i (Int.ofNat (s.length-c)),.i (Int.ofNat c),fB (mV s (c+1+0))] (0,[.i ((fQ s s.length).length:Int),fB (mV s s.length)]):=by
  refine dF eB (λq=>[.i ((fQ s (c+1+q)).length:Int),.i ((q+1:Nat):Int),.i (Int.ofNat (s.length-c)),.i (Int.ofNat c),fB (mV s (c+1+q))]) (s.length-c-1) (λq a4=>?_) ?_
  ·have Q:=V (c+1+q) (by omega) (by omega);have t:=D6 (s:=s) (n:=c+1+q) (by omega);have v:bD .i64 (((q+1:Nat):Int)-1)=(q:Int):=FI (by omega) (by omega);have g:gD ((mV s (c+1+q)).map eK) (c+Int.toNat ((q+1:Nat):Int))=eK (gP s (c+1+q)):=by
    show gD ((mV s (c+1+q)).map eK) (c+(q+1))=_;rw[PH (by omega),D7 (by omega) (by omega),show c+(q+1)=c+1+q by omega]
   have H:gD ((mV s (c+1+q)).map eK) (c+Int.toNat (bD .i64 (((q+1:Nat):Int)-1)))=eK (gP s (c+q)):=by rw[v];show gD ((mV s (c+1+q)).map eK) (c+q)=_;rw[PH (by omega),D7 (by omega) (by omega)]
   have T:oQ s (c+1+q)=!(decide (gP s (c+1+q)=gP s (c+q))):=by
    unfold oQ;rw[show c+1+q-1=c+q by omega];have:Nat.beq (c+1+q) 0=false:=by
     cases e:Nat.beq (c+1+q) 0 with
     |false=>rfl
     |true=>have:=Nat.eq_of_beq_eq_true e;omega
    rw[this];rfl
   have m:(!((aD (vI (gD ((mV s (c+1+q)).map eK) (c+Int.toNat ((q+1:Nat):Int))) 0) (vI (gD ((mV s (c+1+q)).map eK) (c+Int.toNat (bD .i64 (((q+1:Nat):Int)-1)))) 0))&&((aD (vI (gD ((mV s (c+1+q)).map eK) (c+Int.toNat ((q+1:Nat):Int))) 1) (vI (gD ((mV s (c+1+q)).map eK) (c+Int.toNat (bD .i64 (((q+1:Nat):Int)-1)))) 1))&&true)))=oQ s (c+1+q):=by rw[g,H,T];exact congrArg Bool.not (eqS _ _)
   have f:aA ((q+1:Nat):Int) (s.length-c)=true:=aF (by omega);have y:aA (bD .i64 (((q+1:Nat):Int)-1)) (s.length-c)=true:=by rw[v];exact aF (by omega)
   have u:∀K M,[D.i K,.i ((q+1+1:Nat):Int),.i (Int.ofNat (s.length-c)),.i (Int.ofNat c),.l M]=[D.i K,.i (bJ .i64 ((q+1:Nat):Int) 1),.i (Int.ofNat (s.length-c)),.i (Int.ofNat c),.l M]:=λK M=>nx (j:=q+1) (n:=s.length) (by omega) (by omega) [_] _;show Ev _ _ (dT _) _;unfold dT;cases e:oQ s (c+1+q)with
   |false=>
    refine aC (aU (by omega:q+1<s.length-c)) (aC f (aC y (aM (m.trans e) (aP ?_))));show[D.i ((fQ s (c+1+q+1)).length:Int),.i ((q+1+1:Nat):Int),.i (Int.ofNat (s.length-c)),.i (Int.ofNat c),.l ((mV s (c+1+q+1)).map eK)]=_;have d:mV s (c+1+q+1)=mV s (c+1+q):=by unfold mV;rw[LJ e]
    rw[d,LJ e];exact u _ _
   |true=>
    have W:=aDh (s:=s) (n:=c+1+q) (by omega) e (by omega);have P:∃x:SP,gD ((mV s (c+1+q)).map eK) (fQ s (c+1+q)).length=eK x:=⟨_,PH (by omega)⟩;obtain⟨x,hx⟩:=P;have a0:aA ((fQ s (c+1+q)).length:Int) ((mV s (c+1+q)).map eK).length=true:=by rw[List.length_map,t];exact aF (by omega)
    have F:(let z0:=((mV s (c+1+q)).map eK).set (fQ s (c+1+q)).length (D.l (cP (D.els (gD ((mV s (c+1+q)).map eK) (fQ s (c+1+q)).length)) 0 (D.i (vI (gD ((mV s (c+1+q)).map eK) (c+Int.toNat ((q+1:Nat):Int))) 0))));z0.set (fQ s (c+1+q)).length (D.l (cP (D.els (gD z0 (fQ s (c+1+q)).length)) 1 (D.i (vI (gD ((mV s (c+1+q)).map eK) (c+Int.toNat ((q+1:Nat):Int))) 1)))))=(mV s (c+1+q+1)).map eK:=by
     rw[<-W,g,hx];dsimp only;have U:(fQ s (c+1+q)).length<((mV s (c+1+q)).map eK).length:=by rw[List.length_map,t];omega
     have:gD (((mV s (c+1+q)).map eK).set (fQ s (c+1+q)).length (D.l (cP (D.els (eK x)) 0 (D.i (vI (eK (gP s (c+1+q))) 0))))) (fQ s (c+1+q)).length=D.l (cP (D.els (eK x)) 0 (D.i (vI (eK (gP s (c+1+q))) 0))):=by unfold gD;simp only[List.getD];rw[List.getElem?_set_self U];rfl
     rw[this,List.set_set];rfl
    refine aC (aU (by omega:q+1<s.length-c)) (aC f (aC y (aC (m.trans e) (aC f (aC a0 (aP ?_))))));show[D.i ((fQ s (c+1+q+1)).length:Int),.i ((q+1+1:Nat):Int),.i (Int.ofNat (s.length-c)),.i (Int.ofNat c),.l ((mV s (c+1+q+1)).map eK)]=_;have G:((fQ s (c+1+q+1)).length:Int)=bJ .i64 ((fQ s (c+1+q)).length:Int) 1:=by rw[Oi (by omega),LI e,List.length_append];rfl
    rw[<-F,G];exact u _ _
  ·show Ev _ _ (dT _) _;unfold dT;have e1:c+1+(s.length-c-1)=s.length:=by omega
   have d:s.length-c-1+1=s.length-c:=by omega
   dsimp only;rw[e1,d];exact aM (aX _) (bG rfl)
 have C:c+1+0=c+1:=rfl;rw[C,l,J]at r;exact r
theorem Rb{s:List SP}{q:Nat}(c:q+1<s.length)(h:s.length<=1000000):
  aA ((q+1:Nat):Int) (s.map eK).length=true/\aA (bD .i64 (((q+1:Nat):Int)-1)) (s.map eK).length=true/\
  ((aD (vI (gD (s.map eK) (Int.toNat ((q+1:Nat):Int))) 0) (vI (gD (s.map eK) (Int.toNat (bD .i64 (((q+1:Nat):Int)-1)))) 0))&&((aD (vI (gD (s.map eK) (Int.toNat ((q+1:Nat):Int))) 1) (vI (gD (s.map eK) (Int.toNat (bD .i64 (((q+1:Nat):Int)-1)))) 1))&&true))=!(oQ s (q+1)):=by
 have g:bD .i64 (((q+1:Nat):Int)-1)=(q:Int):=FI (by omega) (by omega);have f:oQ s (q+1)=!(decide (gP s (q+1)=gP s q)):=rfl;rw[List.length_map,g];refine⟨aF c,aF (by omega),?_⟩;have d:gD (s.map eK) (Int.toNat ((q+1:Nat):Int))=eK (gP s (q+1)):=PH c;have e:gD (s.map eK) (Int.toNat (q:Int))=eK (gP s q):=PH (by omega);rw[d,e,f,Bool.not_not];exact eqS _ _
theorem aA1(s:List SP)(r:s.length<=1000000)(P:2<=s.length):
  (fS cD 0 [.i 1,fB s] (0,[fB (Oj s)]))\/(Oj s=s/\fS cD 0 [.i 1,fB s] (1,[fB s])):=by
 have v:∀q,q+1<s.length->oQ s (q+1)=true->sW E aZ sites cD (cD.F.lp 0 [.i ((q+1:Nat):Int),fB s]) (.again [.i ((q+1+1:Nat):Int),fB s]):=λq f e=>by
  obtain⟨h,l,m⟩:=Rb f r;have g:aT ((q+1:Nat):Int) (((s.map eK).length:Nat):Int)=true:=by rw[List.length_map];exact aU f
  exact aC g (aC h (aC l (aM (m.trans (by rw[e];rfl)) (aP (nx (j:=q+1) (n:=s.length) f (by omega) [] _)))))
 cases e:dW (s.length-1) λq=>!(oQ s (q+1))with
 |true=>
  left;obtain⟨j,Q,u,H⟩:=rP e;have d:∀i,i<j+1->oQ s i=true:=λi J=>by
   cases i with
   |zero=>rfl
   |succ i=>have:=H i (by omega);cases c:oQ s (i+1)with|true=>rfl |false=>rw[c]at this;cases this
  have y:oQ s (j+1)=false:=by cases c:oQ s (j+1)with|false=>rfl |true=>rw[c]at u;cases u
  refine dF eB (λq=>[.i ((q+1:Nat):Int),fB s]) j (λq f=>v q (by omega) (d (q+1) (by omega))) ?_;obtain⟨h,l,m⟩:=Rb (s:=s) (q:=j) (by omega) r;have g:aT ((j+1:Nat):Int) (((s.map eK).length:Nat):Int)=true:=by rw[List.length_map];exact aU (by omega)
  have G:(cX 0 ((j+1:Nat):Int)&&cX ((j+1:Nat):Int) (((s.map eK).length:Nat):Int))=true:=by rw[List.length_map,jS (by omega),jS (by omega)];rfl
  have t:=aA0 s (j+1) (by omega) (by omega) r d y;have K:=D6 (s:=s) (n:=s.length) (Nat.le_refl _);have T:=QY s s.length;have C:((mV s s.length).map eK).length=s.length:=by rw[List.length_map,K]
  have L:((mV s s.length).map eK).take (fQ s s.length).length=(Oj s).map eK:=by rw[<-List.map_take];unfold mV Oj;rw[List.take_left]
  have F:(s.map eK).length=s.length:=List.length_map ..;rw[<-F]at t;refine aC g (aC h (aC l (aC (m.trans (by rw[y];rfl)) (aC G (aO t (bB ?_))))));rw[F];refine aC ?_ (aC ?_ (bG ?_))
  ·show(cX 0 ((fQ s s.length).length:Int)&&cX ((fQ s s.length).length:Int) ((((mV s s.length).map eK).length:Nat):Int))=true;rw[C,jS (by omega),jS (by omega)];rfl
  ·show kT 0 ((fQ s s.length).length:Int) ((((((mV s s.length).map eK).take (fQ s s.length).length)++List.replicate (((mV s s.length).map eK).length-(fQ s s.length).length) (D.l [.i 0,.i 0])).length:Nat):Int)=true;rw[List.length_append,List.length_take,List.length_replicate,C];unfold kT;rw[jS (by omega),jS (by omega),jS (by omega)];rfl
  ·show(0,[fB (Oj s)])=(0,[D.l (List.drop 0 (List.take (fQ s s.length).length ((((mV s s.length).map eK).take (fQ s s.length).length)++List.replicate (((mV s s.length).map eK).length-(fQ s s.length).length) (D.l [.i 0,.i 0]))))]);rw[List.drop_zero,L,List.take_left' (by rw[List.length_map];rfl)]
 |false=>
  right;have d:∀i,i<s.length->oQ s i=true:=λi J=>by
   cases i with
   |zero=>rfl
   |succ i=>have:=bU.1 e i (by omega);cases c:oQ s (i+1)with|true=>rfl |false=>rw[c]at this;cases this
  refine⟨by unfold Oj;rw[Mz s.length (Nat.le_refl _) d,List.take_length],dF eB (λq=>[.i ((q+1:Nat):Int),fB s]) (s.length-1) (λq f=>v q (by omega) (d (q+1) (by omega))) ?_⟩;show Ev _ _ (cH _) _;unfold cH;dsimp only;have e1:s.length-1+1=(s.map eK).length:=by rw[List.length_map];omega
  rw[e1];exact aM (aX _) (bG rfl)
theorem T5(s:List SP)(f:s.length<=1000000):jZ E aZ sites bY [fB s] (fB (Oj s)) []:=by
 refine bE eB (by rfl) rfl ?_;show Ev _ _ (iA _) _;unfold iA;have d:(s.map eK).length=s.length:=List.length_map ..;by_cases h:s.length<2
 ·refine aC ?_ (bM ?_ rfl)
  ·show aT (((s.map eK).length:Nat):Int) 2=true;rw[d];exact Vn (by omega)
  ·match s,h with
   |[],_=>rfl
   |[x],_=>rfl
 ·refine aM ?_ ?_
  ·show aT (((s.map eK).length:Nat):Int) 2=false;rw[d];exact Ch (by omega)
  ·rcases aA1 s f (by omega)with c |⟨c,e⟩
   ·exact aO c (bB (bM rfl rfl))
   ·rw[c];exact aO e (fD (bB (bM rfl rfl)))
theorem aA2(a b:LD)(h:a.length<=1000000)(j:b.length<=1000000):jZ E aZ sites jE [.l [.l a,.l b]] (.l (a++b)) []:=by
 refine bE cF (by rfl) rfl ?_;show Ev _ _ (iN _) _;unfold iN;have s1:bJ .i64 0 (a.length:Int)=(a.length:Int):=by rw[CN _ _ _ (by simp[VH,VI];omega),wA (by omega) (by omega)];omega
 have e:bJ .i64 (a.length:Int) (b.length:Int)=((a.length+b.length:Nat):Int):=by rw[CN _ _ _ (by simp[VH,VI];omega),wA (by omega) (by omega)];omega
 have f:fS fO 0 [.l [.l a,.l b],.i 0,.i 0,.l [.l a,.l b],.i 2] (0,[.l [.l a,.l b],.i ((a.length+b.length:Nat):Int)]):=by
  refine sX cF (ps':=[.l [.l a,.l b],.i (a.length:Int),.i 1,.l [.l a,.l b],.i 2]) ?_ (sX cF (ps':=[.l [.l a,.l b],.i ((a.length+b.length:Nat):Int),.i 2,.l [.l a,.l b],.i 2]) ?_ (zF cF ?_))
  ·refine aC rfl (aC rfl (aM ?_ (aP ?_)))
   ·show aT (bJ .i64 0 (a.length:Int)) 0=false;rw[s1];exact Ch (by omega)
   ·show _=[D.l [.l a,.l b],.i (bJ .i64 0 (a.length:Int)),.i (bJ .i64 0 1),.l [.l a,.l b],.i 2];rw[s1];rfl
  ·refine aC rfl (aC rfl (aM ?_ (aP ?_)))
   ·show aT (bJ .i64 (a.length:Int) (b.length:Int)) 0=false;rw[e];exact Ch (by omega)
   ·show _=[D.l [.l a,.l b],.i (bJ .i64 (a.length:Int) (b.length:Int)),.i (bJ .i64 1 1),.l [.l a,.l b],.i 2];rw[e];rfl
  ·exact aM rfl (bG rfl)
 have c:fS fO 2 [.i 0,.l [.l a,.l b],.i 2,.l []] (0,[.l (a++b)]):=by
  refine sX cF (ps':=[.i 1,.l [.l a,.l b],.i 2,.l a]) ?_ (sX cF (ps':=[.i 2,.l [.l a,.l b],.i 2,.l (a++b)]) ?_ (zF cF ?_))
  ·refine aC rfl (aC rfl (aC ?_ (aP rfl)));show jN (0+a.length) 16=true;exact fA (by omega) (by omega)
  ·refine aC rfl (aC rfl (aC ?_ (aP rfl)));show jN (a.length+b.length) 16=true;exact fA (by omega) (by omega)
  ·exact aM rfl (bG rfl)
 refine aO f (bB (aM (Ch (by show(0:Int)<=((a.length+b.length:Nat):Int);omega)) ?_));have w:bD .i64 (((a.length+b.length:Nat):Int)-(bD .i64 (0-0)))=((a.length+b.length:Nat):Int):=by have:bD .i64 (0-0)=0:=rfl;rw[this,wA (by omega) (by omega)];omega
 by_cases l:a.length+b.length=0
 ·refine aM ?_ (aO c (bB (bM rfl rfl)));show aT 0 (bD .i64 (((a.length+b.length:Nat):Int)-(bD .i64 (0-0))))=false;rw[w];exact Ch (by omega)
 ·have d:aT 0 (bD .i64 (((a.length+b.length:Nat):Int)-(bD .i64 (0-0))))=true:=by rw[w];exact Vn (by omega)
  refine aC d (aC ?_ (aC ?_ (aO c (bB (bM rfl rfl)))))
  ·show(aT 0 (bD .i64 (((a.length+b.length:Nat):Int)-(bD .i64 (0-0))))&&jN (Int.toNat (bD .i64 (((a.length+b.length:Nat):Int)-(bD .i64 (0-0))))) 16)=true;rw[d,w];exact fA (by show a.length+b.length<=_;omega) (by omega)
  ·have g:∀n:Nat,kT 0 0 (n:Int)=true:=λn=>by unfold kT;rw[jS (show(0:Int)<=(n:Int)by omega)];rfl
   exact g _
def RB(k n:Nat):SP:=(⟨k%1000000000,by omega⟩,⟨n%1000000000,by omega⟩)
theorem Rc{k n:Nat}(c:k<1000000000)(d:n<1000000000):eK (RB k n)=.l [.i (k:Int),.i (n:Int)]:=by show D.l [.i ((k%1000000000:Nat):Int),.i ((n%1000000000:Nat):Int)]=_;rw[Nat.mod_eq_of_lt c,Nat.mod_eq_of_lt d]
def Gq:List SP:=(List.range 4).flatMap λk=>(List.range 400).map λn=>RB k n
theorem Na:Gq.length=1600:=by unfold Gq;rw[List.length_flatMap];simp only[List.length_map,List.length_range];rfl
theorem IV{k n:Nat}(c:k<4)(d:n<400):RB k n∈Gq:=by unfold Gq;rw[List.mem_flatMap];exact⟨k,List.mem_range.2 c,List.mem_map.2 ⟨n,List.mem_range.2 d,rfl⟩⟩
abbrev fP(x:D)(j:Nat):Nat:=(oG x j).toNat
structure aIf(n:Nat)(x:D):Prop where
 a:∀j,j<(eX x 5).length->∃u:Nat,oG x j=u/\u<n
 at':vI x 0=19->(eX x 5).length=2
 sel:vI x 0=17->(eX x 5).length=3
 phi:vI x 0=26->(eX x 5).length<=40
 glo:vI x 0=3->∃g:Nat,vI x 3=g/\g<400
def FN(b:Nat->List SP)(as1:LD):List SP:=as1.flatMap λa=>b a.toI.toNat
def bF(df:Nat->D)(b:Nat->List SP)(v:Nat):List SP:=
 if vI (df v) 0=18 then[RB 2 v]else if vI (df v) 0=3 then[RB 3 (vI (df v) 3).toNat]else if vI (df v) 0=19 then b (fP (df v) 0)else
 if vI (df v) 0=17 then b (fP (df v) 1)++b (fP (df v) 2)else if vI (df v) 0=26 then FN b (eX (df v) 5)else[]
def uW(df:Nat->D)(v:Nat):Bool:=aD (vI (df v) 1) 3
def pY(V:LD)(v:Nat):List SP:=if 0<v/\v<=V.length/\(gD V (v-1)).toI=3 then[RB 1 v]else[]
def aHg(n:Nat)(V:LD)(df:Nat->D)(c:Nat->List SP):Prop:=(∀v,v<n->uW df v=false->∀x,x∈pY V v->x∈c v)/\∀v,v<n->uW df v=true->∀x,x∈bF df c v->x∈c v
structure FO(n:Nat)(V:LD)(df:Nat->D)(b:Nat->List SP):Prop where
 rise:∀v,v<n->IU (b v)
 uni:∀v,v<n->∀x,x∈b v->x∈Gq
 sub:∀v,v<n->uW df v=true->∀x,x∈b v->x∈bF df b v
 ini:∀v,v<n->uW df v=false->b v=pY V v
 low:∀c:Nat->List SP,aHg n V df c->∀v,v<n->∀x,x∈b v->x∈c v
structure D8(n:Nat)(V:LD)(df:Nat->D):Prop where
 n400:n<=400
 d:∀v,v<n->uW df v=true->aIf n (df v)
 par:∀v,v<=V.length->uW df v=false
 pn:V.length<n
section
variable{n:Nat}{V:LD}{df:Nat->D}(hD:D8 n V df)
include hD
theorem l8{b b':Nat->List SP}{v:Nat}(hv:v<n)(l:uW df v=true)(h:∀u,u<n->∀x,x∈b u->x∈b' u):∀x,x∈bF df b v->x∈bF df b' v:=λx hx=>by
 have hd:=hD.d v hv l;have d:∀j,j<(eX (df v) 5).length->fP (df v) j<n:=λj f=>by obtain⟨u,c,g⟩:=hd.a j f;show(oG (df v) j).toNat<n;rw[c];exact g
 unfold bF at hx⊢;split at hx
 ·rename_i e;rw[if_pos e];exact hx
 ·rename_i e;rw[if_neg e];split at hx
  ·rename_i e;rw[if_pos e];exact hx
  ·rename_i e;rw[if_neg e];split at hx
   ·rename_i e;rw[if_pos e];exact h _ (d 0 (by rw[hd.at' e];omega)) x hx
   ·rename_i e;rw[if_neg e];split at hx
    ·rename_i e;rw[if_pos e];rcases List.mem_append.1 hx with c |c
     ·exact List.mem_append_left _ (h _ (d 1 (by rw[hd.sel e];omega)) x c)
     ·exact List.mem_append_right _ (h _ (d 2 (by rw[hd.sel e];omega)) x c)
    ·rename_i e;rw[if_neg e];split at hx
     ·rename_i e;rw[if_pos e];unfold FN at hx⊢;rw[List.mem_flatMap]at hx⊢;obtain⟨a,c,g⟩:=hx;obtain⟨j,f,rfl⟩:=List.mem_iff_getElem.1 c;have hg:gD (eX (df v) 5) j=(eX (df v) 5)[j]:=by simp[gD,List.getD,f]
      have:=d j f;unfold fP oG at this;rw[hg]at this;exact⟨_,c,h _ this x g⟩
     ·cases hx
theorem aDi{b:Nat->List SP}(h:FO n V df b){v:Nat}(hv:v<n)(m:uW df v=true):∀x,x∈bF df b v->x∈Gq:=λx hx=>by
 have hd:=hD.d v hv m;have r:=hD.n400;have f:∀j,j<(eX (df v) 5).length->fP (df v) j<n:=λj l=>by obtain⟨u,c,d⟩:=hd.a j l;show(oG (df v) j).toNat<n;rw[c];exact d
 unfold bF at hx;split at hx
 ·rw[List.mem_singleton.1 hx];exact IV (by omega) (by omega)
 ·split at hx
  ·rename_i e;obtain⟨g,c,d⟩:=hd.glo e;rw[List.mem_singleton.1 hx,c];exact IV (by omega) (by simpa using d)
  ·split at hx
   ·rename_i e;exact h.uni _ (f 0 (by rw[hd.at' e];omega)) x hx
   ·split at hx
    ·rename_i e;rcases List.mem_append.1 hx with c |c
     ·exact h.uni _ (f 1 (by rw[hd.sel e];omega)) x c
     ·exact h.uni _ (f 2 (by rw[hd.sel e];omega)) x c
    ·split at hx
     ·unfold FN at hx;rw[List.mem_flatMap]at hx;obtain⟨a,c,d⟩:=hx;obtain⟨j,l,rfl⟩:=List.mem_iff_getElem.1 c;have hg:gD (eX (df v) 5) j=(eX (df v) 5)[j]:=by simp[gD,List.getD,l]
      have:=f j l;unfold fP oG at this;rw[hg]at this;exact h.uni _ this x d
     ·cases hx
omit hD in
theorem FO.len{b:Nat->List SP}(c:FO n V df b){v:Nat}(hv:v<n):(b v).length<=1600:=by rw[<-Na];exact(c.rise v hv).nodup.length_le_of_subset (λx hx=>c.uni v hv x hx)
omit hD in
theorem Nb{b:Nat->List SP}:∀(l:LD),(∀a,a∈l->(b a.toI.toNat).length<=1600)->(FN b l).length<=l.length*1600
 |[],_=>by simp[FN]
 |a::l,h=>by have c:=Nb l λx hx=>h x (List.mem_cons_of_mem _ hx);have d:=h a (by simp);unfold FN at c⊢;rw[List.flatMap_cons,List.length_append,List.length_cons,Nat.add_mul];omega
theorem aGj{b:Nat->List SP}(f:FO n V df b){v:Nat}(hv:v<n)(l:uW df v=true):(bF df b v).length<=64000:=by
 have hd:=hD.d v hv l;have d:∀j,j<(eX (df v) 5).length->fP (df v) j<n:=λj g=>by obtain⟨u,c,h⟩:=hd.a j g;show(oG (df v) j).toNat<n;rw[c];exact h
 unfold bF;split
 ·simp
 ·split
  ·simp
  ·split
   ·rename_i e;have:=f.len (d 0 (by rw[hd.at' e];omega));omega
   ·split
    ·rename_i e;have c:=f.len (d 1 (by rw[hd.sel e];omega));have h:=f.len (d 2 (by rw[hd.sel e];omega));rw[List.length_append];omega
    ·split
     ·rename_i e;have c:=Nb (b:=b) (eX (df v) 5) λa c=>by
       obtain⟨j,g,rfl⟩:=List.mem_iff_getElem.1 c;have hg:gD (eX (df v) 5) j=(eX (df v) 5)[j]:=by simp[gD,List.getD,g]
       have:=d j g;unfold fP oG at this;rw[hg]at this;exact f.len this
      have:=hd.phi e;have:=Nat.mul_le_mul_right 1600 this;omega
     ·simp
def iJ(b:Nat->List SP)(v:Nat)(l:List SP):Nat->List SP:=λu=>if u=v then l else b u
theorem D9{b:Nat->List SP}(f:FO n V df b){v:Nat}(hv:v<n)(h:uW df v=true):FO n V df (iJ b v (yR (bF df b v))):=by
 have l:∀u,u<n->∀x,x∈b u->x∈iJ b v (yR (bF df b v)) u:=λu d x hx=>by
  unfold iJ;by_cases e:u=v
  ·subst e;rw[if_pos rfl];exact DD.2 (f.sub u d h x hx)
  ·rw[if_neg e];exact hx
 refine⟨λu d=>?_,λu d x hx=>?_,λu d g x hx=>?_,λu d g=>?_,λc j u d x hx=>?_⟩
 ·unfold iJ;by_cases e:u=v
  ·rw[if_pos e];exact My _
  ·rw[if_neg e];exact f.rise u d
 ·unfold iJ at hx;by_cases e:u=v
  ·rw[if_pos e]at hx;exact aDi hD f hv h x (DD.1 hx)
  ·rw[if_neg e]at hx;exact f.uni u d x hx
 ·refine l8 hD d g l x ?_;unfold iJ at hx;by_cases e:u=v
  ·subst e;rw[if_pos rfl]at hx;exact DD.1 hx
  ·rw[if_neg e]at hx;exact f.sub u d g x hx
 ·unfold iJ;by_cases e:u=v
  ·subst e;rw[h]at g;cases g
  ·rw[if_neg e];exact f.ini u d g
 ·unfold iJ at hx;by_cases e:u=v
  ·subst e;rw[if_pos rfl]at hx;exact j.2 u d h x (l8 hD d h (f.low c j) x (DD.1 hx))
  ·rw[if_neg e]at hx;exact f.low c j u d x hx
def nJ(b:Nat->List SP):Nat->Nat
 |0=>0
 |n+1=>nJ b n+(1600-(b n).length)
omit hD in
theorem Nc{b:Nat->List SP}{v:Nat}{l:List SP}(d:(b v).length<l.length)(f:l.length<=1600):∀n,v<n->nJ (iJ b v l) n<nJ b n
 |0,h=>absurd h (by omega)
 |n+1,h=>by
  unfold nJ;by_cases e:v=n
  ·subst e;have key:∀m,m<=v->nJ (iJ b v l) m=nJ b m:=λm=>by
    induction m with
    |zero=>intro _;rfl
    |succ m g=>intro j;unfold nJ;rw[g (by omega)];congr 2;unfold iJ;rw[if_neg (by omega)]
   rw[key v (Nat.le_refl _)];have:(iJ b v l v)=l:=by unfold iJ;rw[if_pos rfl]
   rw[this];omega
  ·have:=Nc d f n (by omega);have c:iJ b v l n=b n:=by unfold iJ;rw[if_neg (by omega)]
   rw[c];omega
omit hD in
theorem Cr{b:Nat->List SP}(c:FO n V df b){v:Nat}(hv:v<n)(d:uW df v=true)(g:(yR (bF df b v)).length=(b v).length):∀x,x∈b v<->x∈bF df b v:=λx=>by
 constructor
 ·exact c.sub v hv d x
 ·intro hx;exact aDf (c.rise v hv).nodup (λf e=>DD.2 (c.sub v hv d f e)) (by omega) x (DD.2 hx)
theorem Rd{b:Nat->List SP}(c:FO n V df b){v:Nat}(hv:v<n)(d:uW df v=true)(j:(yR (bF df b v)).length≠(b v).length):(b v).length<(yR (bF df b v)).length/\(yR (bF df b v)).length<=1600:=by
 have g:(b v).length<=(yR (bF df b v)).length:=(c.rise v hv).nodup.length_le_of_subset λf e=>DD.2 (c.sub v hv d f e);have h:(yR (bF df b v)).length<=1600:=by rw[<-Na];exact(My _).nodup.length_le_of_subset λx hx=>aDi hD c hv d x (DD.1 hx)
 omega
end
abbrev bH(n:Nat)(b:Nat->List SP):LD:=aK n λv=>fB (b v)
theorem PJ(n:Nat)(b:Nat->List SP)(v:Nat)(l:List SP):(bH n b).set v (fB l)=bH n (iJ b v l):=by
 unfold bH;rw[oD];refine dU λi _=>?_;by_cases e:i=v
 ·subst e;rw[fK];unfold iJ;rw[if_pos rfl]
 ·rw[oB _ _ e];unfold iJ;rw[if_neg e]
abbrev st4(n:Nat)(df:Nat->D)(T O:LD)(j:Nat)(q:Bool×(Nat->List SP)):LD:=[.i (j:Int),.i (n:Int),.b q.1,.l (bH n q.2),.l T,.l O,.l (aK n df)]
theorem zQ{n:Nat}{df:Nat->D}(T O:LD){v:Nat}(hv:v<n)(s:n<=400)(t:Bool)(b:Nat->List SP){x:D}{l:List SP}(hx:x=fB l)(r:l.length<=64000){d:Bool×(Nat->List SP)}
  (h:((yR l).length=(b v).length/\d=(t,b))\/((yR l).length≠(b v).length/\d=(true,iJ b v (yR l)))):
  sW E aZ sites eV (.call bK [x] 0 λm _=>.call bC [.l (D.els m),.l []] 1 λu j=>.call bY [.l (D.els (gD j 0))] 0 λg _=>
   .ask (aA (v:Int) (bH n b).length) (.ask (!(aD (iE g) (iE (gD (bH n b) v)))) (.ask (aA (v:Int) (bH n b).length) (.again [.i (bJ .i64 (v:Int) 1),.i (n:Int),.b true,.l (List.set (bH n b) v (D.l (D.els g))),.l T,.l O,.l (aK n df)]) .bad) (.again [.i (bJ .i64 (v:Int) 1),.i (n:Int),.b t,.l (bH n b),.l T,.l O,.l (aK n df)])) .bad)
   (.again (st4 n df T O (v+1) d)):=by
 subst hx;have f:aA (v:Int) (bH n b).length=true:=by rw[cO];exact aF hv
 have hg:gD (bH n b) v=fB (b v):=dX _ hv;have e:(!(aD (iE (fB (yR l))) (iE (gD (bH n b) v))))=!(decide ((yR l).length=(b v).length)):=by rw[hg];congr 1;rw[Bool.eq_iff_iff,bT,decide_eq_true_eq];show((((yR l).map eK).length:Nat):Int)=((((b v).map eK).length:Nat):Int)<->_;rw[List.length_map,List.length_map];omega
 refine bW (mN (l.map eK) (fA (by rw[List.length_map];omega) (by omega))) rfl (bW (aDg l (by omega)) rfl (bW (T5 (qO l) (by rw[BU];omega)) rfl (aC f ?_)));rcases h with⟨c,rfl⟩ |⟨c,rfl⟩
 ·exact aM (e.trans (by rw[decide_eq_true c];rfl)) (aP (nx hv (by omega) [] _))
 ·refine aC (e.trans (by rw[decide_eq_false c];rfl)) (aC f (aP ((nx hv (by omega) [] _).trans ?_)));show[D.i (bJ .i64 (v:Int) 1),.i (n:Int),.b true,.l (bH n (iJ b v (yR l))),.l T,.l O,.l (aK n df)]=_;rw[<-PJ];rfl
section
variable{n:Nat}{V:LD}{df:Nat->D}(hD:D8 n V df)(T O:LD)
theorem aEH(v:Nat)(t:Bool)(b:Nat->List SP)(l:FO n V df b)(as1:LD)(g:∀j,j<as1.length->∃u:Nat,(gD as1 j).toI=u/\u<n)(J:as1.length<=40):
  fS eV 7 [.i (v:Int),.i 0,.i (v:Int),.l as1,.i (n:Int),.b t,.i (as1.length:Int),.l (bH n b),.l [],.l T,.l O,.l (aK n df)]
   (0,[.i (v:Int),.i (v:Int),.i (n:Int),.b t,.l (bH n b),fB (FN b as1),.l T,.l O,.l (aK n df)]):=by
 have y:FN b as1=FN b (as1.take as1.length):=by rw[List.take_length]
 rw[y];refine dF jU (λj=>[.i (v:Int),.i (j:Int),.i (v:Int),.l as1,.i (n:Int),.b t,.i (as1.length:Int),.l (bH n b),fB (FN b (as1.take j)),.l T,.l O,.l (aK n df)]) as1.length (λj c=>?_) ?_
 ·obtain⟨u,d,e⟩:=g j c;have hg:gD (bH n b) (Int.toNat (gD as1 j).toI)=fB (b u):=by rw[d];exact dX _ e
  have G:FN b (as1.take (j+1))=FN b (as1.take j)++b u:=by
   have F:gD as1 j=as1[j]:=by simp[gD,List.getD,c]
   rw[F]at d;unfold FN;rw[List.take_succ_eq_append_getElem c,List.flatMap_append];simp[d]
  have K:=Nb (b:=b) (as1.take j) λa h=>by
   obtain⟨i,m,rfl⟩:=List.mem_iff_getElem.1 (List.mem_of_mem_take h);obtain⟨P,f,s⟩:=g i m;have C:gD as1 i=as1[i]:=by simp[gD,List.getD,m]
   rw[C]at f;rw[f];exact l.len s
  have L:=l.len e;have H:(as1.take j).length<=40:=by rw[List.length_take];omega
  have:=Nat.mul_le_mul_right 1600 H;refine aC (aU c) (aC (aF c) (aC ?_ (aC ?_ (aP ((nx c (by omega) [_] _).trans ?_)))))
  ·show aA (gD as1 j).toI (bH n b).length=true;rw[d,cO];exact aF e
  ·show jN (((FN b (as1.take j)).map eK).length+nE (gD (bH n b) (Int.toNat (gD as1 j).toI))) 16=true;rw[hg,List.length_map];show jN ((FN b (as1.take j)).length+((b u).map eK).length) 16=true;rw[List.length_map];exact fA (by omega) (by omega)
  ·have r:(FN b (as1.take (j+1))).map eK=(FN b (as1.take j)).map eK++D.els (gD (bH n b) (Int.toNat (gD as1 j).toI)):=by rw[hg,G,List.map_append];rfl
   show[D.i (v:Int),.i (bJ .i64 (j:Int) 1),.i (v:Int),.l as1,.i (n:Int),.b t,.i (as1.length:Int),.l (bH n b),.l ((FN b (as1.take (j+1))).map eK),.l T,.l O,.l (aK n df)]=_;rw[r];rfl
 ·exact aM (aX _) (bG rfl)
include hD
theorem Fp{v:Nat}(hv:v<n)(H:uW df v=true)(t:Bool)(b:Nat->List SP)(a0:FO n V df b){K:Bool×(Nat->List SP)}
  (d:((yR (bF df b v)).length=(b v).length/\K=(t,b))\/((yR (bF df b v)).length≠(b v).length/\K=(true,iJ b v (yR (bF df b v))))):
  sW E aZ sites eV (eV.F.lp 4 (st4 n df T O v (t,b))) (.again (st4 n df T O (v+1) K)):=by
 have hd:=hD.d v hv H;have y:=hD.n400;have c:=aGj hD a0 hv H;have hg:gD (aK n df) v=df v:=dX _ hv;have a7:(bH n b).length=n:=cO _ _;have h:∀k:Int,aD (vI (gD (aK n df) v) 0) k=aD (vI (df v) 0) k:=λk=>by rw[hg]
 have J:∀j,j<(eX (df v) 5).length->aA (gD (eX (gD (aK n df) v) 5) j).toI (bH n b).length=true/\D.l (D.els (gD (bH n b) (Int.toNat (gD (eX (gD (aK n df) v) 5) j).toI)))=fB (b (fP (df v) j)):=λj a9=>by
  obtain⟨u,U,W⟩:=hd.a j a9;have a6:(gD (eX (df v) 5) j).toI=u:=U;have e:fP (df v) j=u:=by unfold fP;rw[U];rfl
  rw[hg,a6,a7,e];refine⟨aF W,?_⟩;show D.l (D.els (gD (bH n b) u))=_;rw[dX _ W];rfl
 have G:nX (gD (aK n df) v) 5=(eX (df v) 5).length:=by rw[hg]
 have a2:aA (v:Int) (aK n df).length=true:=by rw[cO];exact aF hv
 have a3:(!(aD (vI (gD (aK n df) v) 1) 3))=false:=by rw[hg];have:aD (vI (df v) 1) 3=true:=H;rw[this];rfl
 refine aC (aU hv) (aC a2 (aM a3 ?_));by_cases l:vI (df v) 0=18
 ·have f:bF df b v=[RB 2 v]:=by unfold bF;rw[if_pos l]
  rw[f]at d c;exact aC ((h 18).trans ((bT _ _).2 l)) (zQ T O hv y t b (congrArg (λQ=>D.l [Q]) (Rc (k:=2) (n:=v) (by omega) (by omega)).symm) c d)
 refine aM ((h 18).trans (nW l)) ?_;by_cases m:vI (df v) 0=3
 ·have f:bF df b v=[RB 3 (vI (df v) 3).toNat]:=by unfold bF;rw[if_neg l,if_pos m]
  rw[f]at d c;obtain⟨g,a5,b2⟩:=hd.glo m;refine aC ((h 3).trans ((bT _ _).2 m)) (zQ T O hv y t b ?_ c d);show D.l [.l [.i 3,.i (vI (gD (aK n df) v) 3)]]=fB [RB 3 (vI (df v) 3).toNat];rw[hg,a5];exact congrArg (λQ=>D.l [Q]) (Rc (k:=3) (n:=g) (by omega) (by omega)).symm
 refine aM ((h 3).trans (nW m)) ?_;by_cases r:vI (df v) 0=19
 ·have f:bF df b v=b (fP (df v) 0):=by unfold bF;rw[if_neg l,if_neg m,if_pos r]
  have F:=hd.at' r;rw[f]at d c;obtain⟨L,P⟩:=J 0 (by omega);refine aC ((h 19).trans ((bT _ _).2 r)) (aC ?_ (aC L (zQ T O hv y t b P c d)));show aA 0 (nX (gD (aK n df) v) 5)=true;rw[G,F];rfl
 refine aM ((h 19).trans (nW r)) ?_;by_cases s:vI (df v) 0=17
 ·have f:bF df b v=b (fP (df v) 1)++b (fP (df v) 2):=by unfold bF;rw[if_neg l,if_neg m,if_neg r,if_pos s]
  have F:=hd.sel s;rw[f]at d c;obtain⟨L,P⟩:=J 1 (by omega);obtain⟨b0,b1⟩:=J 2 (by omega);rw[List.length_append]at c;have a1:=aA2 ((b (fP (df v) 1)).map eK) ((b (fP (df v) 2)).map eK) (by rw[List.length_map];omega) (by rw[List.length_map];omega);have a4:D.l [D.l (D.els (gD (bH n b) (Int.toNat (gD (eX (gD (aK n df) v) 5) 1).toI))),D.l (D.els (gD (bH n b) (Int.toNat (gD (eX (gD (aK n df) v) 5) 2).toI)))]=D.l [.l ((b (fP (df v) 1)).map eK),.l ((b (fP (df v) 2)).map eK)]:=by rw[P,b1]
  rw[<-a4]at a1;refine aC ((h 17).trans ((bT _ _).2 s)) (aC ?_ (aC L (aC ?_ (aC b0 (bW a1 rfl (zQ T O hv y t b ?_ (by rw[List.length_append];omega) d))))))
  ·show aA 1 (nX (gD (aK n df) v) 5)=true;rw[G,F];rfl
  ·show aA 2 (nX (gD (aK n df) v) 5)=true;rw[G,F];rfl
  ·show D.l ((b (fP (df v) 1)).map eK++(b (fP (df v) 2)).map eK)=fB (b (fP (df v) 1)++b (fP (df v) 2));rw[<-List.map_append]
 refine aM ((h 17).trans (nW s)) ?_;by_cases C:vI (df v) 0=26
 ·have f:bF df b v=FN b (eX (df v) 5):=by unfold bF;rw[if_neg l,if_neg m,if_neg r,if_neg s,if_pos C]
  rw[f]at d c;have Y:=aEH T O v t b a0 (eX (df v) 5) hd.a (hd.phi C);rw[<-hg]at Y;refine aC ((h 26).trans ((bT _ _).2 C)) (aO Y (bB (zQ T O hv y t b ?_ c d)));rw[hg];rfl
 refine aM ((h 26).trans (nW C)) ?_;have f:bF df b v=[]:=by unfold bF;rw[if_neg l,if_neg m,if_neg r,if_neg s,if_neg C]
 rw[f]at d c;exact zQ T O hv y t b rfl c d
structure VB(n:Nat)(V:LD)(df:Nat->D)(b0:Nat->List SP)(j:Nat)(q:Bool×(Nat->List SP)):Prop where
 g:FO n V df q.2
 t:q.1=true->nJ q.2 n<nJ b0 n
 f:q.1=false->q.2=b0/\∀v,v<j->uW df v=true->(yR (bF df b0 v)).length=(b0 v).length
 le:nJ q.2 n<=nJ b0 n
theorem aEI(b0:Nat->List SP)(y:FO n V df b0):∃q,VB n V df b0 n q/\fS eV 4 (st4 n df T O 0 (false,b0)) (0,[.b q.1,.l (bH n q.2),.l T,.l O,.l (aK n df)]):=by
 have G:=hD.n400;refine FF jU (λj q=>st4 n df T O j q) n (λq=>(0,[.b q.1,.l (bH n q.2),.l T,.l O,.l (aK n df)])) (VB n V df b0) (λj q d c=>?_) (λq c=>?_) (s0:=(false,b0)) ⟨y,λh=>(by cases h),λ_=>⟨rfl,λv hv=>absurd hv (by omega)⟩,Nat.le_refl _⟩
 ·obtain⟨t,b⟩:=q;cases f:uW df j with
  |false=>
   refine⟨(t,b),⟨c.g,c.t,λh=>⟨(c.f h).1,λv hv g=>?_⟩,c.le⟩,?_⟩
   ·by_cases e:v=j
    ·subst e;rw[f]at g;cases g
    ·exact(c.f h).2 v (by omega) g
   ·have hg:gD (aK n df) j=df j:=dX _ d;have m:aA (j:Int) (aK n df).length=true:=by rw[cO];exact aF d
    have r:(!(aD (vI (gD (aK n df) j) 1) 3))=true:=by rw[hg];have:aD (vI (df j) 1) 3=false:=f;rw[this];rfl
    exact aC (aU d) (aC m (aC r (aP (nx d (by omega) [] _))))
  |true=>
   by_cases l:(yR (bF df b j)).length=(b j).length
   ·refine⟨(t,b),⟨c.g,c.t,λh=>⟨(c.f h).1,λv hv g=>?_⟩,c.le⟩,Fp hD T O d f t b c.g (.inl ⟨l,rfl⟩)⟩;by_cases e:v=j
    ·subst e;have:=(c.f h).1;simp only at this;subst this;exact l
    ·exact(c.f h).2 v (by omega) g
   ·obtain⟨s,u⟩:=Rd hD c.g d f l;have C:nJ (iJ b j (yR (bF df b j))) n<nJ b n:=Nc s u n d;have F:nJ b n<=nJ b0 n:=c.le;refine⟨(true,iJ b j (yR (bF df b j))),⟨D9 hD c.g d f,λ_=>?_,λh=>(by cases h),?_⟩,Fp hD T O d f t b c.g (.inr ⟨l,rfl⟩)⟩
    ·show nJ (iJ b j (yR (bF df b j))) n<_;omega
    ·show nJ (iJ b j (yR (bF df b j))) n<=_;omega
 ·exact aM (aX _) (bG rfl)
structure E0(n:Nat)(V:LD)(df:Nat->D)(b:Nat->List SP):Prop where
 g:FO n V df b
 iff:∀v,v<n->uW df v=true->∀x,x∈b v<->x∈bF df b v
theorem aEJ(b0:Nat->List SP)(s:FO n V df b0):∃b,E0 n V df b/\fS eV 2 [.b true,.l (bH n b0),.l T,.l O,.l (aK n df)] (0,[.l (bH n b),.l T,.l O,.l (aK n df)]):=by
 have h:=IG jU (b:=2) (λ(q:Bool×(Nat->List SP))=>[.b q.1,.l (bH n q.2),.l T,.l O,.l (aK n df)]) (λq=>FO n V df q.2/\(q.1=false->E0 n V df q.2)) (λq=>2*nJ q.2 n+bif q.1 then 1 else 0) (λu=>∃b,E0 n V df b/\u=(0,[.l (bH n b),.l T,.l O,.l (aK n df)])) (λq d=>?_) (s0:=(true,b0)) ⟨s,λh=>(by cases h)⟩
 ·obtain⟨u,⟨b,c,rfl⟩,f⟩:=h;exact⟨b,c,f⟩
 ·obtain⟨t,b⟩:=q;cases t with
  |false=>refine .inl ⟨_,⟨b,d.2 rfl,rfl⟩,?_⟩;exact aM rfl (bG rfl)
  |true=>
   obtain⟨e,c,f⟩:=aEI hD T O b d.1;have y:(aK n df).length=n:=cO _ _;refine .inr ⟨e,⟨c.g,λg=>?_⟩,?_,?_⟩
   ·obtain⟨l,m⟩:=c.f g;rw[l];exact⟨d.1,λv hv j=>Cr d.1 hv j (m v hv j)⟩
   ·cases g:e.1 with
    |true=>have:=c.t g;simp only[cond_true];omega
    |false=>have:=c.le;simp only[cond_false,cond_true];omega
   ·have r:fS eV 4 [.i 0,.i (((aK n df).length:Nat):Int),.b false,.l (bH n b),.l T,.l O,.l (aK n df)] (0,[.b e.1,.l (bH n e.2),.l T,.l O,.l (aK n df)]):=by rw[y];exact f
    exact aC rfl (aO r (bB (aP rfl)))
theorem aEK:fS eV 0 [.i (V.length:Int),.i 0,.l V,.l (List.replicate n (D.l [])),.l T,.l O,.l (aK n df)] (0,[.l (bH n (pY V)),.l T,.l O,.l (aK n df)]):=by
 have t:=hD.n400;have u:=hD.pn;let g:Nat->Nat->List SP:=λj v=>if v<=j then pY V v else[]
 have r:List.replicate n (D.l [])=bH n (g 0):=by
  rw[<-rX];refine dU λi _=>?_;show D.l []=fB (if i<=0 then pY V i else[]);by_cases h:i<=0
  ·have:i=0:=by omega
   subst this;rfl
  ·rw[if_neg h];rfl
 have e1:bH n (pY V)=bH n (g V.length):=by
  refine dU λi _=>?_;show fB (pY V i)=fB (if i<=V.length then pY V i else[]);by_cases h:i<=V.length
  ·rw[if_pos h]
  ·rw[if_neg h];have:pY V i=[]:=by unfold pY;rw[if_neg (by omega)]
   rw[this]
 rw[r,e1];refine dF jU (λj=>[.i (V.length:Int),.i (j:Int),.l V,.l (bH n (g j)),.l T,.l O,.l (aK n df)]) V.length (λj d=>?_) ?_
 ·have m:=Oi (n:=j) (by omega);refine aC (aU d) (aC (aF d) ?_);cases e:aD (gD V j).toI 3 with
  |true=>
   have f:pY V (j+1)=[RB 1 (j+1)]:=by unfold pY;rw[if_pos ⟨by omega,by omega,(bT _ _).1 e⟩]
   have l:bH n (g (j+1))=(bH n (g j)).set (Int.toNat (bJ .i64 (j:Int) 1)) (D.l [.l [.i 1,.i (bJ .i64 (j:Int) 1)]]):=by
    rw[m];have:D.l [.l [.i 1,.i ((j+1:Nat):Int)]]=fB [RB 1 (j+1)]:=congrArg (λs=>D.l [s]) (Rc (k:=1) (n:=j+1) (by omega) (by omega)).symm;rw[this];show _=(bH n (g j)).set (j+1) _;rw[PJ];refine dU λi _=>?_;show fB (if i<=j+1 then pY V i else[])=fB (iJ (g j) (j+1) [RB 1 (j+1)] i);unfold iJ;by_cases h:i=j+1
    ·subst h;rw[if_pos (Nat.le_refl _),if_pos rfl,f]
    ·rw[if_neg h];show _=fB (if i<=j then pY V i else[]);by_cases c:i<=j
     ·rw[if_pos c,if_pos (by omega)]
     ·rw[if_neg c,if_neg (by omega)]
   refine aC e (aC ?_ (aP ((nx d (by omega) [_] _).trans ?_)))
   ·show aA (bJ .i64 (j:Int) 1) (bH n (g j)).length=true;rw[m,cO];exact aF (by omega)
   ·show[D.i (V.length:Int),.i (bJ .i64 (j:Int) 1),.l V,.l (bH n (g (j+1))),.l T,.l O,.l (aK n df)]=_;rw[l];rfl
  |false=>
   have f:pY V (j+1)=[]:=by unfold pY;rw[if_neg];rintro⟨_,_,h⟩;have h:(gD V j).toI=3:=h;rw[h]at e;cases e
   have l:bH n (g (j+1))=bH n (g j):=dU λi _=>by
    show fB (if i<=j+1 then pY V i else[])=fB (if i<=j then pY V i else[]);by_cases h:i=j+1
    ·subst h;rw[if_pos (Nat.le_refl _),if_neg (by omega),f]
    ·by_cases c:i<=j
     ·rw[if_pos c,if_pos (by omega)]
     ·rw[if_neg c,if_neg (by omega)]
   refine aM e (aP ((nx d (by omega) [_] _).trans ?_));show[D.i (V.length:Int),.i (bJ .i64 (j:Int) 1),.l V,.l (bH n (g (j+1))),.l T,.l O,.l (aK n df)]=_;rw[l];rfl
 ·exact aM (aX _) (bG rfl)
theorem E1:FO n V df (pY V):=by
 have f:=hD.n400;have g:=hD.pn;refine⟨λv _=>?_,λv hv x hx=>?_,λv hv d x hx=>?_,λ_ _ _=>rfl,λc e v hv x hx=>?_⟩
 ·unfold pY;split
  ·exact List.pairwise_singleton _ _
  ·exact List.Pairwise.nil
 ·unfold pY at hx;split at hx
  ·rw[List.mem_singleton.1 hx];exact IV (by omega) (by omega)
  ·cases hx
 ·unfold pY at hx;split at hx
  ·rename_i h;rw[hD.par v h.2.1]at d;cases d
  ·cases hx
 ·refine e.1 v hv ?_ x hx;unfold pY at hx;split at hx
  ·rename_i h;exact hD.par v h.2.1
  ·cases hx
omit hD in
theorem aGl{b c:Nat->List SP}(d:E0 n V df b)(e:E0 n V df c){v:Nat}(hv:v<n):b v=c v:=
 have g:∀{b:Nat->List SP},E0 n V df b->aHg n V df b:=λh=>⟨λv hv f x hx=>by rw[h.g.ini v hv f];exact hx,λv hv f x hx=>(h.iff v hv f x).2 hx⟩;ZB (d.g.rise v hv) (e.g.rise v hv) λx=>⟨d.g.low c (g e) v hv x,e.g.low b (g d) v hv x⟩
theorem aDj(j d:LD)(h:T.length=n)(nm:List UInt8)(o:Bool)(r:Int)(U:LD):∃b,E0 n V df b/\jZ E aZ sites zH [.l [.l T,.l d,.l O,.l (aK n df)],qH nm o V r U] (.l []) [.l [.l T,.l (bH n b),.l O,.l (aK n df)]]:=by
 have l:=hD.n400;obtain⟨b,f,g⟩:=aEJ hD T O (pY V) (E1 hD);refine⟨b,f,bE jU (by rfl) rfl ?_⟩;show Ev _ _ (uG _) _;unfold uG;have c:=aEK hD T O;have e:List.replicate n (D.l [])=List.replicate T.length (D.l []):=by rw[h]
 rw[e]at c;refine aC ?_ (aO c (bB (aO g (bB (bM rfl rfl)))));show(cX 0 (T.length:Int)&&(aD (T.length:Int) (T.length:Int)&&jN (Int.toNat (T.length:Int)) 24))=true;rw[jS (by omega),pX];exact fA (by show T.length<=_;omega) (by omega)
end
end Go.Eng.Q

namespace Go.Eng.Q
open Go.Eng
open Classical in
noncomputable def dD(np:Nat)(U:LD)(v:Nat):D:=if h:∃q,MC np U v q then .l (Gi (gD (gD U (Classical.choose h).1).els (Classical.choose h).2))else SL
theorem BZ{np:Nat}{U:LD}{v:Nat}{q:Nat×Nat}(h:MC np U v q):dD np U v=.l (Gi (gD (gD U q.1).els q.2)):=by have c:∃q,MC np U v q:=⟨q,h⟩;unfold dD;rw[dif_pos c,YW (Classical.choose_spec c) h]
theorem PK{np:Nat}{U:LD}{v:Nat}(h:v<=np):dD np U v=SL:=by unfold dD;rw[dif_neg];rintro⟨q,c⟩;have d:=c.v;have e:=Vy np U q.1 q.2;omega
theorem ZC:∀(l q:LD),DB q l=q++DB [] l
 |[],q=>by simp[DB]
 |x::l,q=>by show DB (bif eN x then q++[.i (vI x 1)]else q) l=q++DB (bif eN x then[]++[.i (vI x 1)]else[]) l;rw[ZC l,ZC l (bif eN x then[]++[D.i (vI x 1)]else[])];cases eN x<;>simp
theorem aDk:∀(l:LD)(k:Nat),k<l.length->eN (gD l k)=true->gD (DB [] l) (dV l k)=.i (vI (gD l k) 1):=by
 intro l k c ht;have f:l=l.take k++gD l k::l.drop (k+1):=by
  have:gD l k=l[k]:=by simp[gD,List.getD,c]
  rw[this,<-List.drop_eq_getElem_cons c,List.take_append_drop]
 have d:DB [] l=DB [] (l.take k)++.i (vI (gD l k) 1)::DB [] (l.drop (k+1)):=by
  conv=>lhs;rw[f]
  unfold DB;rw[List.foldl_append,List.foldl_cons,ht,cond_true];have:=ZC (l.drop (k+1)) (List.foldl (λq x=>bif eN x then q++[.i (vI x 1)]else q) [] (l.take k)++[.i (vI (gD l k) 1)]);unfold DB at this;rw[this];simp
 have e:(DB [] (l.take k)).length=dV l k:=by rw[IQ,Cm l k (by omega)];simp
 rw[d,<-e];simp[gD,List.getD]
def rI(V U:LD)(b:Nat):LD:=(U.take b).foldl (λq b=>DB q b.els) ([.i 0]++V)
theorem zR(V U:LD):∀b,b<=U.length->(rI V U b).length=aJ V.length U b+1
 |0,_=>by simp[rI,aJ]
 |b+1,h=>by
  have c:b<U.length:=by omega
  have d:gD U b=U[b]:=by simp[gD,List.getD,c]
  have:=zR V U b (by omega);unfold rI at this⊢;rw[List.take_succ_eq_append_getElem c,List.foldl_append,aJ,d,YX];show(DB _ U[b].els).length=_;rw[IQ,this];omega
theorem Fq(V U:LD)(b:Nat)(c:b<U.length):rI V U (b+1)=rI V U b++DB [] (gD U b).els:=by
 have d:gD U b=U[b]:=by simp[gD,List.getD,c]
 unfold rI;rw[List.take_succ_eq_append_getElem c,List.foldl_append,d];exact ZC _ _
theorem VC(V U:LD):∀(c b:Nat),b+c<=U.length->∀i,i<(rI V U b).length->gD (rI V U (b+c)) i=gD (rI V U b) i
 |0,_,_,_,_=>rfl
 |c+1,b,h,i,d=>by
  have f:=VC V U c b (by omega) i d;have e:i<(rI V U (b+c)).length:=by rw[zR V U _ (by omega)];rw[zR V U _ (by omega)]at d;have:=FK V.length U (show b<=b+c by omega);omega
  rw[<-f,<-Nat.add_assoc,Fq V U (b+c) (by omega)];simp only[gD,List.getD];rw[List.getElem?_append_left e]
theorem aA3{V U:LD}{v:Nat}{q:Nat×Nat}(h:MC V.length U v q):gD (bI V U) v=.i (vI (gD (gD U q.1).els q.2) 1):=by
 have e:=h.b;have e1:bI V U=rI V U U.length:=by unfold rI;rw[List.take_length];rfl
 have g:=zR V U q.1 (by omega);have hv:=h.v;unfold lE at hv;have f:v<(rI V U (q.1+1)).length:=by rw[zR V U _ (by omega),Qv];have:=YV h.k h.t;omega
 have c:=VC V U (U.length-(q.1+1)) (q.1+1) (by omega) v f;rw[show q.1+1+(U.length-(q.1+1))=U.length by omega]at c;rw[e1,c,Fq V U q.1 e];have d:=aDk (gD U q.1).els q.2 h.k h.t;simp only[gD,List.getD]at d⊢;rw[List.getElem?_append_right (by omega)];rw[show v-(rI V U q.1).length=dV (gD U q.1).els q.2 by omega];exact d
theorem aGz{V U:LD}{v:Nat}(h:v<=V.length):gD (bI V U) v=gD ([.i 0]++V) v:=by
 have e1:bI V U=rI V U U.length:=by unfold rI;rw[List.take_length];rfl
 have c:=VC V U U.length 0 (by omega) v (by rw[zR V U 0 (by omega)];unfold aJ;omega);rw[Nat.zero_add]at c;rw[e1,c];unfold rI;simp
def RN(df:Nat->D)(v:Nat):Option Int:=if vI (df v) 0=1 then some (vI (df v) 4)else none
def aA4(df:Nat->D):Nat->Nat->Option Int
 |0,_=>none
 |k+1,v=>if vI (df v) 0=18\/vI (df v) 0=3 then some 0 else if vI (df v) 0=19 then(aA4 df k (fP (df v) 0)).bind λa=>(RN df (fP (df v) 1)).bind λm=>some (bJ .i64 a m)else none
structure Rk(n:Nat)(df:Nat->D)(rk:Nat->Nat):Prop where
 fall:∀v,v<n->vI (df v) 0=19->(eX (df v) 5).length=2/\∃u w:Nat,oG (df v) 0=u/\oG (df v) 1=w/\u<n/\w<n/\rk u<rk v
def iZ(df:Nat->D)(rk:Nat->Nat)(v:Nat):Option Int:=aA4 df (rk v+1) v
theorem RC{n:Nat}{df:Nat->D}{rk:Nat->Nat}(h:Rk n df rk):∀(k v:Nat),v<n->rk v<k->aA4 df k v=iZ df rk v
 |0,v,_,e=>absurd e (by omega)
 |k+1,v,hv,e=>by
  unfold iZ aA4;by_cases e1:vI (df v) 0=18\/vI (df v) 0=3
  ·rw[if_pos e1,if_pos e1]
  ·rw[if_neg e1,if_neg e1];by_cases c:vI (df v) 0=19
   ·rw[if_pos c,if_pos c];obtain⟨_,u,w,f,m,d,s,t⟩:=h.fall v hv c;have g:fP (df v) 0=u:=by unfold fP;rw[f];rfl
    rw[g,RC h k u d (by omega)];by_cases j:rk v=0
    ·omega
    ·obtain⟨r,y⟩:∃r,rk v=r+1:=⟨rk v-1,by omega⟩;by_cases l:rk v<k+1/\rk v<k
     ·rw[RC h (rk v) u d (by omega)]
     ·have:rk v=k:=by omega
      rw[this,RC h k u d (by omega)]
   ·rw[if_neg c,if_neg c]
theorem LL{n:Nat}{df:Nat->D}{rk:Nat->Nat}(h:Rk n df rk){v:Nat}(hv:v<n):iZ df rk v=if vI (df v) 0=18\/vI (df v) 0=3 then some 0 else if vI (df v) 0=19 then(iZ df rk (fP (df v) 0)).bind λa=>(RN df (fP (df v) 1)).bind λm=>some (bJ .i64 a m)else none:=by
 show aA4 df (rk v+1) v=_;rw[aA4];by_cases e1:vI (df v) 0=18\/vI (df v) 0=3
 ·rw[if_pos e1,if_pos e1]
 ·rw[if_neg e1,if_neg e1];by_cases c:vI (df v) 0=19
  ·rw[if_pos c,if_pos c];obtain⟨_,u,w,d,j,e,l,f⟩:=h.fall v hv c;have g:fP (df v) 0=u:=by unfold fP;rw[d];rfl
   rw[g,RC h (rk v) u e f]
  ·rw[if_neg c,if_neg c]
end Go.Eng.Q

namespace Go.Eng.Q
open Go.Eng
def CA:Option Int->D
 |some a=>.l [.i 1,.i a]
 |none=>.l [.i 2,.i 0]
abbrev z2:D:=.l [.i 0,.i 0]
structure E2(n:Nat)(T:LD)(df:Nat->D)(rk:Nat->Nat)(O:Nat->D):Prop where
 or:∀u,u<n->O u=z2\/((gD T u).toI=3/\O u=CA (iZ df rk u))
theorem E2.upd{n:Nat}{T:LD}{df:Nat->D}{rk:Nat->Nat}{O:Nat->D}(h:E2 n T df rk O){v:Nat}(c:(gD T v).toI=3):E2 n T df rk (fV O v (CA (iZ df rk v))):=
 ⟨λu d=>by
  by_cases e:u=v
  ·subst e;rw[fK];exact .inr ⟨c,rfl⟩
  ·rw[oB _ _ e];exact h.or u d⟩
abbrev Hi(T B:LD)(O:LD)(c:LD):D:=.l [.l T,.l B,.l O,.l c]
structure aGm(n:Nat)(T:LD)(df:Nat->D)(rk:Nat->Nat):Prop where
 rk:Rk n df rk
 tl:T.length=n
 ty:∀v,v<n->(gD T v).toI=3->vI (df v) 0=19->(gD T (fP (df v) 0)).toI=3
section
variable{n:Nat}{T:LD}{df:Nat->D}{rk:Nat->Nat}(hP:aGm n T df rk)(B:LD)
theorem aGn(O:LD)(v:Nat)(hv:v<n):jZ E aZ sites EP [Hi T B O (aK n df),.i (v:Int)] (.l [.i (vI (df v) 4),.b (aD (vI (df v) 0) 1)]) []:=by
 refine bE IF (by rfl) rfl ?_;show Ev _ _ (zI _) _;unfold zI;have hg:gD (aK n df) v=df v:=dX _ hv;refine aC ?_ (bM ?_ rfl)
 ·show aA (v:Int) (aK n df).length=true;rw[cO];exact aF hv
 ·show D.l [.i (vI (df v) 4),.b (aD (vI (df v) 0) 1)]=D.l [.i (vI (gD (aK n df) v) 4),.b (aD (vI (gD (aK n df) v) 0) 1)];rw[hg]
theorem Hj(O:Nat->D){v:Nat}(hv:v<n)(c:O v=z2)(x:Option Int)(a b:Int)(hx:CA x=.l [.i a,.i b])(d:D):
  (let z0:=(aK n O).set v (D.l (cP (D.els (gD (aK n O) v)) 0 (D.i a)));z0.set v (D.l (cP (D.els (gD z0 v)) 1 (D.i b))))=aK n (fV O v (CA x)):=by
 rw[hx];exact aC4 (.i a) (.i b) hv c
include hP
theorem aDl:∀(k v:Nat),rk v<k->v<n->∀(O:Nat->D),E2 n T df rk O->
  ∃d,E2 n T df rk d/\(∀u,u<n->O u≠z2->d u=O u)/\((gD T v).toI=3->d v=CA (iZ df rk v))/\
   jZ E aZ sites wC [Hi T B (aK n O) (aK n df),.i (v:Int)] (if(gD T v).toI=3 then CA (iZ df rk v)else z2) [Hi T B (aK n d) (aK n df)]
 |0,_,a4,_,_,_=>absurd a4 (by omega)
 |k+1,v,a4,hv,O,t=>by
  have b5:=hP.tl;have C:aA (v:Int) T.length=true:=by rw[b5];exact aF hv
  have j:aA (v:Int) (aK n O).length=true:=by rw[cO];exact aF hv
  have H:gD (aK n O) v=O v:=dX _ hv;have F:gD (aK n df) v=df v:=dX _ hv;have d1:CA (iZ df rk v)≠z2:=by cases iZ df rk v<;>simp[CA]
  by_cases g:(gD T v).toI=3
  ·rw[if_pos g];have b4:aD (gD T v).toI 3=true:=(bT _ _).2 g;rcases t.or v hv with f |⟨_,f⟩
   ·
    have s:((!(aD (gD T v).toI 3))||(!(aD (vI (gD (aK n O) v) 0) 0)))=false:=by rw[b4,H,f];rfl
    have cd:aA (v:Int) (aK n df).length=true:=by rw[cO];exact aF hv
    have r:∀q:Int,aD (vI (gD (aK n df) v) 0) q=aD (vI (df v) 0) q:=λq=>by rw[F]
    have c:=LL hP.rk hv;by_cases e1:vI (df v) 0=18\/vI (df v) 0=3
    ·rw[if_pos e1]at c;refine⟨fV O v (CA (iZ df rk v)),t.upd g,λu c1 m=>oB _ _ (λe=>m (by rw[e];exact f)),λ_=>fK _ _ _,bE lZ (by rfl) rfl ?_⟩;have G:=Hj (n:=n) O hv f (iZ df rk v) 1 0 (by rw[c];rfl) z2;refine aC C (aC (aH j) (aM s (aC cd ?_)));rcases e1 with e1 |e1
     ·refine aC ((r 18).trans ((bT _ _).2 e1)) (aC ((r 18).trans ((bT _ _).2 e1)) (aC j (bM ?_ ?_)))
      ·rw[c];rfl
      ·rw[<-G];rfl
     ·refine aM ((r 18).trans (nW (by omega))) (aC ((r 3).trans ((bT _ _).2 e1)) (aC j (bM ?_ ?_)))
      ·rw[c];rfl
      ·rw[<-G];rfl
    ·rw[if_neg e1]at c;have V:=(r 18).trans (nW (show vI (df v) 0≠18 fromλh=>e1 (.inl h)));have W:=(r 3).trans (nW (show vI (df v) 0≠3 fromλh=>e1 (.inr h)));by_cases y:vI (df v) 0=19
     ·rw[if_pos y]at c;obtain⟨a2,u,w,Y,a0,b1,b2,b3⟩:=hP.rk.fall v hv y;have a3:fP (df v) 0=u:=by unfold fP;rw[Y];rfl
      have b6:fP (df v) 1=w:=by unfold fP;rw[a0];rfl
      have c0:(gD T u).toI=3:=by have:=hP.ty v hv g y;rw[a3]at this;exact this
      obtain⟨l,L,b0,c8,P⟩:=aDl k u (by omega) b1 O t;rw[if_pos c0]at P;rw[a3,b6]at c;have a5:=aGn (n:=n) (T:=T) (df:=df) B (aK n l) w b2;have c9:gD (aK n l) v=l v:=dX _ hv;have d0:v≠u:=λe=>by rw[e]at b3;omega
      have c2:aA 0 (nX (gD (aK n df) v) 5)=true:=by rw[F];show aA 0 (eX (df v) 5).length=true;rw[a2];rfl
      have c3:aA 1 (nX (gD (aK n df) v) 5)=true:=by rw[F];show aA 1 (eX (df v) 5).length=true;rw[a2];rfl
      have a7:(gD (eX (gD (aK n df) v) 5) 0).toI=(u:Int):=by rw[F];exact Y
      have a9:(gD (eX (gD (aK n df) v) 5) 1).toI=(w:Int):=by rw[F];exact a0
      have K:aA (v:Int) (aK n l).length=true:=by rw[cO];exact aF hv
      rw[<-a7]at P;rw[<-a9]at a5;have b7:∃d,E2 n T df rk d/\(∀q,q<n->l q≠z2->d q=l q)/\d v=CA (iZ df rk v)/\(∀a b:Int,CA (iZ df rk v)=.l [.i a,.i b]->(let z0:=(aK n l).set v (D.l (cP (D.els (gD (aK n l) v)) 0 (D.i a)));z0.set v (D.l (cP (D.els (gD z0 v)) 1 (D.i b))))=aK n d):=by
       refine⟨fV l v (CA (iZ df rk v)),L.upd g,λq J m=>?_,fK _ _ _,λa b a1=>?_⟩
       ·by_cases e:q=v
        ·subst e;rw[fK];rcases L.or q J with h |⟨_,h⟩
         ·exact absurd h m
         ·exact h.symm
        ·exact oB _ _ e
       ·rw[a1];rcases L.or v hv with h |⟨_,h⟩
        ·exact aC4 (.i a) (.i b) hv h
        ·exact aC4 (.i a) (.i b) hv (h.trans a1)
      obtain⟨d,c4,c5,c6,U⟩:=b7;refine⟨d,c4,λq J m=>?_,λ_=>c6,bE lZ (by rfl) rfl ?_⟩
      ·have:=b0 q J m;rw[c5 q J (by rw[this];exact m),this]
      refine aC C (aC (aH j) (aM s (aC cd (aM V (aM W ?_)))));unfold pC;refine aC ((r 19).trans ((bT _ _).2 y)) (aC c2 (bW P rfl (aC c3 (bW a5 rfl ?_))));cases a6:iZ df rk u with
      |none=>
       rw[a6]at c;refine aM rfl (aC K (bM ?_ ?_))
       ·rw[c];rfl
       ·rw[<-U 2 0 (by rw[c];rfl)];rfl
      |some a=>
       rw[a6]at c;cases Q:aD (vI (df w) 0) 1 with
       |false=>
        have:RN df w=none:=by unfold RN;rw[if_neg (λh=>by rw[h,pX]at Q;cases Q)]
        rw[this]at c;refine aM rfl (aC K (bM ?_ ?_))
        ·rw[c];rfl
        ·rw[<-U 2 0 (by rw[c];rfl)];rfl
       |true=>
        have:RN df w=some (vI (df w) 4):=by unfold RN;rw[if_pos ((bT _ _).1 Q)]
        rw[this]at c;refine aC rfl (aC K (bM ?_ ?_))
        ·rw[c];rfl
        ·rw[<-U 1 (bJ .i64 a (vI (df w) 4)) (by rw[c];rfl)];rfl
     ·rw[if_neg y]at c;refine⟨fV O v (CA (iZ df rk v)),t.upd g,λu c1 m=>oB _ _ (λe=>m (by rw[e];exact f)),λ_=>fK _ _ _,bE lZ (by rfl) rfl ?_⟩;have G:=Hj (n:=n) O hv f (iZ df rk v) 2 0 (by rw[c];rfl) z2;refine aC C (aC (aH j) (aM s (aC cd (aM V (aM W ?_)))));unfold pC;refine aM ((r 19).trans (nW y)) (aC j (bM ?_ ?_))
      ·rw[c];rfl
      ·rw[<-G];rfl
   ·refine⟨O,t,λ_ _ _=>rfl,λ_=>f,bE lZ (by rfl) rfl ?_⟩;have s:((!(aD (gD T v).toI 3))||(!(aD (vI (gD (aK n O) v) 0) 0)))=true:=by
     rw[H,f];cases iZ df rk v<;>exact Bool.or_true _
    refine aC C (aC (aH j) (aC s (aC j (bM ?_ rfl))));show CA (iZ df rk v)=D.l [.i (vI (gD (aK n O) v) 0),.i (vI (gD (aK n O) v) 1)];rw[H,f];cases iZ df rk v<;>rfl
  ·rw[if_neg g];refine⟨O,t,λ_ _ _=>rfl,λh=>absurd h g,bE lZ (by rfl) rfl ?_⟩;have f:O v=z2:=by
    rcases t.or v hv with h |⟨h,_⟩
    ·exact h
    ·exact absurd h g
   have s:((!(aD (gD T v).toI 3))||(!(aD (vI (gD (aK n O) v) 0) 0)))=true:=by rw[nW g];rfl
   have c7:(!(!(!(aD (gD T v).toI 3))))=true:=by rw[nW g];rfl
   refine aC C (aC (aH j) (aC s (aC j (bM ?_ rfl))));show z2=D.l [.i (vI (gD (aK n O) v) 0),.i (vI (gD (aK n O) v) 1)];rw[H,f];rfl
def DE(n:Nat)(T:LD)(df:Nat->D)(rk:Nat->Nat):LD:=aK n λv=>if(gD T v).toI=3 then CA (iZ df rk v)else z2
theorem aEL(s:LD)(J:n<=400):jZ E aZ sites BX [Hi T B s (aK n df)] (.l []) [Hi T B (DE n T df rk) (aK n df)]:=by
 have l:=hP.tl;refine bE yI (by rfl) rfl ?_;show Ev _ _ (wN _) _;unfold wN;have h:∃O,(E2 n T df rk O/\∀u,u<n->(gD T u).toI=3->O u=CA (iZ df rk u))/\fS yH 0 [.i 0,.i (T.length:Int),.l T,.l B,.l (aK n λ_=>z2),.l (aK n df)] (0,[.l T,.l B,.l (aK n O),.l (aK n df)]):=by
  refine FF yI (λj(O:Nat->D)=>[.i (j:Int),.i (T.length:Int),.l T,.l B,.l (aK n O),.l (aK n df)]) n (λO=>(0,[.l T,.l B,.l (aK n O),.l (aK n df)])) (λj O=>E2 n T df rk O/\∀u,u<j->(gD T u).toI=3->O u=CA (iZ df rk u)) (λj O m g=>?_) (λO g=>?_) (s0:=λ_=>z2) ⟨⟨λ_ _=>.inl rfl⟩,λu d=>absurd d (by omega)⟩
  ·obtain⟨r,v,y,C,F⟩:=aDl hP B (rk j+1) j (by omega) m O g.1;refine⟨r,⟨v,λu d c=>?_⟩,?_⟩
   ·by_cases e:u=j
    ·subst e;exact C c
    ·have:=g.2 u (by omega) c;rw[y u (by omega) (by rw[this];cases iZ df rk u<;>simp[CA]),this]
   ·refine aC ?_ (bW F rfl (aP (nx m (by omega) [] _)));show aT (j:Int) (T.length:Int)=true;rw[l];exact aU m
  ·refine aM ?_ (bG rfl);show aT (n:Int) (T.length:Int)=false;rw[l];exact aX _
 obtain⟨O,⟨G,H⟩,f⟩:=h;have e1:aK n O=DE n T df rk:=dU λu d=>by
  by_cases c:(gD T u).toI=3
  ·rw[if_pos c];exact H u d c
  ·rw[if_neg c];rcases G.or u d with h |⟨h,_⟩
   ·exact h
   ·exact absurd h c
 rw[e1,rX]at f;have t:List.replicate n z2=List.replicate T.length (D.l [.i 0,.i 0]):=by rw[l]
 rw[t]at f;refine aC ?_ (aO f (bB (bM rfl rfl)));show(cX 0 (T.length:Int)&&(aD (T.length:Int) (T.length:Int)&&jN (Int.toNat (T.length:Int)) 16))=true;rw[jS (by omega),pX];exact fA (by show T.length<=_;omega) (by omega)
end
theorem l9(U:LD)(c:gA U):∀b,b<=U.length->∃s:Nat,(U.take b).foldl (λa x=>bJ .i64 a (iE x)) 0=(s:Int)/\s<=b*10000/\∀np,aJ np U b<=np+s
 |0,_=>⟨0,rfl,Nat.zero_le _,λnp=>Nat.le_refl _⟩
 |b+1,h=>by
  obtain⟨s,e,l,f⟩:=l9 U c b (by omega);have d:b<U.length:=by omega
  have hg:gD U b=U[b]:=by simp[gD,List.getD,d]
  have g:=(c.2 b d).ins;have j:=c.1;unfold fH at g j;have:=Nat.mul_le_mul (show b<=10000 by omega) (Nat.le_refl 10000);refine⟨s+(gD U b).els.length,?_,?_,λnp=>?_⟩
  ·rw[List.take_succ_eq_append_getElem d,List.foldl_append,e,<-hg];show bJ .i64 (s:Int) ((gD U b).els.length:Int)=_;rw[CN _ _ _ (by simp[VH,VI];omega),wA (by omega) (by omega)];omega
  ·rw[Nat.add_mul];omega
  ·have:=f np;have m:=YU (gD U b).els (gD U b).els.length;rw[aJ];omega
theorem VD{J W y Y:LD}(h:iW J W y Y=true):J.length<=12/\W.length<=12/\y.length<=6/\Y.length<=24/\∀j,j<Y.length->(eX (gD Y j) 2).length<=5/\(eX (gD Y j) 4).length<=40/\uQ (eX (gD Y j) 4)<=300:=by unfold iW at h;rw[Bool.and_eq_true,rW,Bool.or_eq_false_iff,Bool.or_eq_false_iff,Bool.or_eq_false_iff,Bool.and_eq_true,Bool.and_eq_true,Bool.and_eq_true]at h;obtain⟨⟨⟨⟨g,l⟩,m⟩,r⟩,P,Q,T,s⟩:=h;have G:¬((24:Int)<(Y.length:Int)):=pP g;have H:¬((12:Int)<(J.length:Int)):=pP l;have K:¬((12:Int)<(W.length:Int)):=pP m;have L:¬((6:Int)<(y.length:Int)):=pP r;refine⟨by omega,by omega,by omega,by omega,λj t=>?_⟩;have c:=jH.1 (rW.1 s) j t;unfold FG at c;rw[Bool.or_eq_false_iff,Bool.or_eq_false_iff,Bool.or_eq_false_iff]at c;obtain⟨⟨⟨d,v⟩,e⟩,f⟩:=c;have u:¬((5:Int)<((eX (gD Y j) 2).length:Int)):=pP d;have C:¬((40:Int)<((eX (gD Y j) 4).length:Int)):=pP e;have F:=pP f;exact⟨by omega,by omega,by omega⟩
structure Nd(nx ng nf:Nat)(J Y:LD)(V U:LD)(r:Int):Prop where
 tp:fH V
 tb:gA U
 b0:0<U.length
 b40:U.length<=40
 n:aJ V.length U U.length<400
 fm:lO U
 fl:mM U=true
 us:IR V.length U=true
 ty:LG J Y r V U=true
 sy:Cq nx nf U
 gl:∀b,b<U.length->∀k,k<(gD U b).els.length->vI (gD (gD U b).els k) 0=3->∃g:Nat,vI (gD (gD U b).els k) 3=g/\g<ng
 fo:∀b,b<U.length->∀k,k<(gD U b).els.length->vI (gD (gD U b).els k) 0=2->∃g:Nat,vI (gD (gD U b).els k) 3=g/\g<nf
theorem aDm{J W y Y:LD}(h:CH J W y Y=true){j b k:Nat}(f:j<Y.length)(e:b<(eX (gD Y j) 4).length)(l:k<(gD (eX (gD Y j) 4) b).els.length){n:Nat}
  (m:uV J.length W.length y.length Y.length (vI (gD (gD (eX (gD Y j) 4) b).els k) 0)=n):∃g:Nat,vI (gD (gD (eX (gD Y j) 4) b).els k) 3=g/\g<n:=by
 unfold CH at h;rw[Bool.and_eq_true,rW,rW]at h;have c:=jH.1 (jH.1 (jH.1 h.2 j f) b e) k l;unfold FH at c;rw[Bool.or_eq_false_iff,m]at c;have r:=pP c.1;have s:¬((n:Int)<=vI (gD (gD (eX (gD Y j) 4) b).els k) 3):=λd=>by rw[jS d]at c;cases c.2
 exact⟨(vI (gD (gD (eX (gD Y j) 4) b).els k) 3).toNat,by omega,by omega⟩
theorem n5{J W y Y:LD}(m:Mv J W y Y)(h:OkM J W y Y){j:Nat}(c:j<Y.length):Nd J.length W.length Y.length J Y (eX (gD Y j) 2) (sO (gD Y j)) (vI (gD Y j) 3):=by
 have hf:=m.f j c;obtain⟨s1,G,H,K,r⟩:=VD h.sm;obtain⟨C,l,F⟩:=r j c;obtain⟨s,e1,u,g⟩:=l9 (eX (gD Y j) 4) hf.bbs _ (Nat.le_refl _);rw[List.take_length]at e1;have t:uQ (eX (gD Y j) 4)=(s:Int):=e1;have v:=g (eX (gD Y j) 2).length;exact⟨hf.ps,hf.bbs,ZA h.sm j c,l,by show aJ (eX (gD Y j) 2).length (eX (gD Y j) 4) (eX (gD Y j) 4).length<400;omega,Ck h.fm j c,h.fl j c,h.us j c,h.ty j c,Wa h.sy j c,
  λb d k e f=>aDm h.sy c d e (by rw[f];rfl),λb d k e f=>aDm h.sy c d e (by rw[f];rfl)⟩
abbrev nv(V U:LD):Nat:=aJ V.length U U.length+1
section
variable{nx ng nf:Nat}{J Y V U:LD}{r:Int}(h:Nd nx ng nf J Y V U r)(hng:ng<=12)
include h
omit h in
theorem VE{v:Nat}(hv:v<nv V U)(c:V.length<v):∃q,MC V.length U v q:=by obtain⟨q,_,d⟩:=Mq U.length (Nat.le_refl _) v c (by unfold nv at hv;omega);exact⟨q,d⟩
theorem Nf{v:Nat}{q:Nat×Nat}(d:MC V.length U v q):vI (gD (gD U q.1).els q.2) 2=(v:Int):=by
 have f:=h.us;unfold IR at f;rw[Bool.and_eq_true,rW,rW]at f;have c:=bU.1 (bU.1 f.1 q.1 d.b) q.2 d.k;unfold SN at c;rw[d.t,Bool.true_and]at c;have g:aD (vI (gD (gD U q.1).els q.2) 2) (lE V.length U q.1 q.2:Int)=true:=by
  cases e:aD (vI (gD (gD U q.1).els q.2) 2) (lE V.length U q.1 q.2:Int)with
  |true=>rfl
  |false=>rw[e]at c;cases c
 rw[(bT _ _).1 g,d.v]
omit h in
theorem aEM{v:Nat}(hv:v<nv V U)(c:uW (dD V.length U) v=true):∃q,MC V.length U v q:=by
 by_cases e:v<=V.length
 ·unfold uW at c;rw[PK e]at c;cases c
 ·exact VE hv (by omega)
theorem Cs{b k:Nat}(e:b<U.length)(g:k<(gD U b).els.length){j:Nat}(f:j<(eX (gD (gD U b).els k) 5).length):∃u:Nat,oG (gD (gD U b).els k) j=u/\1<=u/\u<nv V U:=by obtain⟨u,c,d,l⟩:=Vz h.us b e k g j f;exact⟨u,c,d,by unfold nv;omega⟩
include hng in
theorem Ct:D8 (nv V U) V (dD V.length U):=by
 have C:=h.n;refine⟨by unfold nv;omega,λv hv s=>?_,λv hv=>?_,?_⟩
 ·obtain⟨q,c⟩:=aEM hv s;rw[BZ c];have hf:=h.fm q.1 c.b q.2 c.k;refine⟨λj r=>?_,λe=>hf.a2 (.inr (.inl e)),λe=>hf.a3 e,λe=>?_,λe=>?_⟩
  ·obtain⟨u,l,y,m⟩:=Cs h c.b c.k r;exact⟨u,l,m⟩
  ·obtain⟨d,_⟩:=Ms h.fl c.b c.k e;have f:=(hf.ap e).2;have t:(iT U q.1).length<=U.length:=Cj U U.length q.1;have:=h.b40;show(eX (gD (gD U q.1).els q.2) 5).length<=40;omega
  ·obtain⟨g,d,f⟩:=h.gl q.1 c.b q.2 c.k e;exact⟨g,d,by omega⟩
 ·unfold uW;rw[PK hv];rfl
 ·have:=PA V.length U U.length;unfold nv;omega
open Classical in
noncomputable def rJ(np:Nat)(U:LD)(v:Nat):Nat:=if c:∃q,MC np U v q then(U.length-tP U.length (λi=>dM U i (Classical.choose c).1))*20000+(Classical.choose c).2 +1 else 0
omit h in
theorem n7{np v:Nat}{q:Nat×Nat}(d:MC np U v q):rJ np U v=(U.length-tP U.length (λi=>dM U i q.1))*20000+q.2+1:=by have c:∃q,MC np U v q:=⟨q,d⟩;unfold rJ;rw[dif_pos c,YW (Classical.choose_spec c) d]
omit h in
theorem aEN{np v:Nat}(hv:v<=np):rJ np U v=0:=by unfold rJ;rw[dif_neg];rintro⟨q,c⟩;have d:=c.v;have e:=Vy np U q.1 q.2;omega
omit h in
theorem n8(f:Nat->Bool):∀n,tP n f<=n
 |0=>Nat.le_refl _
 |n+1=>by have:=n8 f n;unfold tP;cases f n<;>simp<;>omega
theorem aEO{v:Nat}{q:Nat×Nat}(c:MC V.length U v q)(t:vI (gD (gD U q.1).els q.2) 0≠26){j:Nat}(H:j<(eX (gD (gD U q.1).els q.2) 5).length){u:Nat}(L:oG (gD (gD U q.1).els q.2) j=u):rJ V.length U u<rJ V.length U v:=by
 have a0:=h.b40;have s:=h.us;unfold IR at s;rw[Bool.and_eq_true,rW,rW]at s;have hx:=bU.1 (bU.1 s.2 q.1 c.b) q.2 c.k;have Q:=bU.1 hx j H;obtain⟨w,C,T,W,f⟩:=aC8 U (np:=V.length) (by omega) c.b (Nat.le_of_lt c.k) Q (λe=>absurd e t);have P:w=u:=by rw[C]at L;omega
 subst P;rw[n7 c];rcases f with f |⟨f,d,Y,r,_,F⟩
 ·rw[aEN f];omega
 ·obtain⟨p,g⟩:=VE (V:=V) (U:=U) (v:=w) (by unfold nv;omega) f;have hd:p.1=d:=by
   have e1:gD (nH V.length U) w=.i (Oh V.length U w).1 :=(dX _ (by omega)).trans (YZ f);rw[e1,GW g]at r;injection r with r;omega
  subst hd;rw[n7 g];have K:=(h.tb.2 p.1 g.b).ins;unfold fH at K;have a2:=g.k;rcases F t with⟨l,m⟩ |⟨l,m⟩
  ·have a1:tP U.length (λi=>dM U i q.1)<tP U.length (λi=>dM U i p.1):=by
    have J:=PD h.fl q.1 c.b;refine LE U.length (i:=q.1) (λi G=>QX G m) c.b ?_ (PC J);cases e:dM U q.1 p.1 with
    |false=>rfl
    |true=>exact absurd (C5 m e) l
   have a3:=n8 (λi=>dM U i p.1) U.length;have:(U.length-tP U.length (λi=>dM U i p.1))+1<=U.length-tP U.length (λi=>dM U i q.1):=by omega
   have:=Nat.mul_le_mul_right 20000 this;rw[Nat.add_mul]at this;omega
  ·have y:=g.v;unfold lE at y;rw[l]at y⊢;have:p.2<q.2:=by
    by_cases e:p.2<q.2
    ·exact e
    ·have:=IP (gD U q.1).els (show q.2<=p.2 by omega);omega
   omega
theorem Cu:aGm (nv V U) (bI V U) (dD V.length U) (rJ V.length U):=by
 refine⟨⟨λv hv e=>?_⟩,zP V U,λv hv K e=>?_⟩
 ·by_cases s:v<=V.length
  ·rw[PK s]at e;cases e
  ·obtain⟨q,c⟩:=VE hv (by omega);rw[BZ c]at e⊢;have f:vI (gD (gD U q.1).els q.2) 0=19:=e;have hf:=h.fm q.1 c.b q.2 c.k;have y:(eX (gD (gD U q.1).els q.2) 5).length=2:=hf.a2 (.inr (.inl f));obtain⟨u,d,g,l⟩:=Cs h c.b c.k (j:=0) (by omega);obtain⟨w,F,H,G⟩:=Cs h c.b c.k (j:=1) (by omega);exact⟨y,u,w,d,F,l,G,aEO h c (by omega) (j:=0) (by omega) d⟩
 ·by_cases s:v<=V.length
  ·rw[PK s]at e;cases e
  ·obtain⟨q,c⟩:=VE hv (by omega);rw[BZ c]at e⊢;have f:vI (gD (gD U q.1).els q.2) 0=19:=e;have t:=h.ty;unfold LG at t;rw[rW]at t;have d:=bU.1 (bU.1 t q.1 c.b) q.2 c.k;have g:rH J Y r (bI V U) (gD (gD U q.1).els q.2)=true:=by
    cases C:rH J Y r (bI V U) (gD (gD U q.1).els q.2)with
    |true=>rfl
    |false=>rw[C]at d;cases d
   unfold rH at g;rw[f]at g;have l:((aD (vI (gD (gD U q.1).els q.2) 1) 3&&aD (g' (kK (bI V U) (eX (gD (gD U q.1).els q.2) 5)) 0) 3)&&aD (g' (kK (bI V U) (eX (gD (gD U q.1).els q.2) 5)) 1) 1)=true:=g;rw[Bool.and_eq_true,Bool.and_eq_true]at l;have hf:=h.fm q.1 c.b q.2 c.k;have y:(eX (gD (gD U q.1).els q.2) 5).length=2:=hf.a2 (.inr (.inl f));have m:=(bT _ _).1 l.1.2;unfold g' at m;rw[PE (by omega)]at m;exact m
end
theorem T6{n k:Nat}(g:Nat->D)(c:k<n)(i:Nat)(a:D):(aK n g).set k (D.l (cP (D.els (gD (aK n g) k)) i a))=aK n (fV g k (.l (cP (D.els (g k)) i a))):=by rw[dX _ c,oD]
theorem aIg{n k:Nat}{g:Nat->D}(c:k<n)(hg:g k=SL)(a0 a1 a2 a3 a4 a5 d:D):
  (let z0:=(aK n g).set k (D.l (cP (D.els (gD (aK n g) k)) 0 a0));let e:=z0.set k (D.l (cP (D.els (gD z0 k)) 1 a1));let z2:=e.set k (D.l (cP (D.els (gD e k)) 2 a2));let z3:=z2.set k (D.l (cP (D.els (gD z2 k)) 3 a3));
   let z4:=z3.set k (D.l (cP (D.els (gD z3 k)) 4 a4));let z5:=z4.set k (D.l (cP (D.els (gD z4 k)) 5 a5));z5.set k (D.l (cP (D.els (gD z5 k)) 6 d)))=aK n (fV g k (.l [a0,a1,a2,a3,a4,a5,d])):=by
 dsimp only;rw[T6 g c,T6 _ c,T6 _ c,T6 _ c,T6 _ c,T6 _ c,T6 _ c];simp only[fK,IM];rw[hg];rfl
def aHh(V U:LD)(x:D):Prop:=∃b,E0 (nv V U) V (dD V.length U) b/\x=Hi (bI V U) (bH (nv V U) b) (DE (nv V U) (bI V U) (dD V.length U) (rJ V.length U)) (aK (nv V U) (dD V.length U))
section
variable{n1 n2 nf:Nat}{J Y V U:LD}{r:Int}(h:Nd n1 n2 nf J Y V U r)(W y:LD)(nm:List UInt8)(o:Bool)(j:Nat)(out:LD)
noncomputable abbrev Wc(np:Nat)(U:LD)(c:Nat):Nat->D:=gT (dD np U) SL c
include h
theorem aIh(b:Nat)(m:b<U.length)(tk:Nat->Bool):∃F:Nat->Bool,fS uM 8
  [.i (U.length:Int),.l Y,.i 0,.i (j:Int),.l (gD U b).els,.i (b:Int),.i (Y.length:Int),.i ((gD U b).els.length:Int),.l U,.s nm,.b o,.l V,.i r,.l U,.l J,.l W,.l y,.l Y,.l (aQ nf tk),.l (aK (nv V U) (Wc V.length U (aJ V.length U b+1))),.l out,.l (bI V U)]
  (0,[.i (U.length:Int),.l Y,.i (j:Int),.i (b:Int),.i (Y.length:Int),.l U,.s nm,.b o,.l V,.i r,.l U,.l J,.l W,.l y,.l Y,.l (aQ nf F),.l (aK (nv V U) (Wc V.length U (aJ V.length U (b+1)+1))),.l out,.l (bI V U)]):=by
 have a4:=(h.tb.2 b m).ins.sane;have a3:=FF uN (b:=8) (λk(tk:Nat->Bool)=>[.i (U.length:Int),.l Y,.i (k:Int),.i (j:Int),.l (gD U b).els,.i (b:Int),.i (Y.length:Int),.i ((gD U b).els.length:Int),.l U,.s nm,.b o,.l V,.i r,.l U,.l J,.l W,.l y,.l Y,.l (aQ nf tk),.l (aK (nv V U) (Wc V.length U (aJ V.length U b+dV (gD U b).els k+1))),.l out,.l (bI V U)]) (gD U b).els.length
  (λtk=>(0,[.i (U.length:Int),.l Y,.i (j:Int),.i (b:Int),.i (Y.length:Int),.l U,.s nm,.b o,.l V,.i r,.l U,.l J,.l W,.l y,.l Y,.l (aQ nf tk),.l (aK (nv V U) (Wc V.length U (aJ V.length U (b+1)+1))),.l out,.l (bI V U)])) (λ_ _=>True) (λk tk d _=>?_) (λtk _=>?_) (s0:=tk) trivial
 ·obtain⟨F,_,T⟩:=a3;exact⟨F,T⟩
 ·have hx:∀(u v:D),[D.i (U.length:Int),.l Y,.i ((k+1:Nat):Int),.i (j:Int),.l (gD U b).els,.i (b:Int),.i (Y.length:Int),.i ((gD U b).els.length:Int),.l U,.s nm,.b o,.l V,.i r,.l U,.l J,.l W,.l y,.l Y,u,v,.l out,.l (bI V U)]=[D.i (U.length:Int),.l Y,.i (bJ .i64 (k:Int) 1),.i (j:Int),.l (gD U b).els,.i (b:Int),.i (Y.length:Int),.i ((gD U b).els.length:Int),.l U,.s nm,.b o,.l V,.i r,.l U,.l J,.l W,.l y,.l Y,u,v,.l out,.l (bI V U)]:=λu v=>nx d a4 [_,_] _;have K:(eN (gD (gD U b).els k)=false/\aK (nv V U) (Wc V.length U (aJ V.length U b+dV (gD U b).els (k+1)+1))=aK (nv V U) (Wc V.length U (aJ V.length U b+dV (gD U b).els k+1)))\/
    (eN (gD (gD U b).els k)=true/\aA (vI (gD (gD U b).els k) 2) (aK (nv V U) (Wc V.length U (aJ V.length U b+dV (gD U b).els k+1))).length=true/\(let z0:=(aK (nv V U) (Wc V.length U (aJ V.length U b+dV (gD U b).els k+1))).set (Int.toNat (vI (gD (gD U b).els k) 2)) (D.l (cP (D.els (gD (aK (nv V U) (Wc V.length U (aJ V.length U b+dV (gD U b).els k+1))) (Int.toNat (vI (gD (gD U b).els k) 2)))) 0 (.i (vI (gD (gD U b).els k) 0))));let P:=z0.set (Int.toNat (vI (gD (gD U b).els k) 2)) (D.l (cP (D.els (gD z0 (Int.toNat (vI (gD (gD U b).els k) 2)))) 1 (.i (vI (gD (gD U b).els k) 1))));let z2:=P.set (Int.toNat (vI (gD (gD U b).els k) 2)) (D.l (cP (D.els (gD P (Int.toNat (vI (gD (gD U b).els k) 2)))) 2 (.i (vI (gD (gD U b).els k) 2))));let z3:=z2.set (Int.toNat (vI (gD (gD U b).els k) 2)) (D.l (cP (D.els (gD z2 (Int.toNat (vI (gD (gD U b).els k) 2)))) 3 (.i (vI (gD (gD U b).els k) 3))));let z4:=z3.set (Int.toNat (vI (gD (gD U b).els k) 2)) (D.l (cP (D.els (gD z3 (Int.toNat (vI (gD (gD U b).els k) 2)))) 4 (.i (vI (gD (gD U b).els k) 4))));let z5:=z4.set (Int.toNat (vI (gD (gD U b).els k) 2)) (D.l (cP (D.els (gD z4 (Int.toNat (vI (gD (gD U b).els k) 2)))) 5 (.l (eX (gD (gD U b).els k) 5))));z5.set (Int.toNat (vI (gD (gD U b).els k) 2)) (D.l (cP (D.els (gD z5 (Int.toNat (vI (gD (gD U b).els k) 2)))) 6 (.l (eX (gD (gD U b).els k) 6)))))=aK (nv V U) (Wc V.length U (aJ V.length U b+dV (gD U b).els (k+1)+1))):=by
   cases e:eN (gD (gD U b).els k)with
   |false=>left;exact⟨rfl,by rw[Mr e]⟩
   |true=>
    right;have L:MC V.length U (lE V.length U b k) (b,k):=⟨m,d,e,rfl⟩;have a5:=Nf h L;have hv:=Vu (np:=V.length) m d e;have C:vI (gD (gD U b).els k) 2=(lE V.length U b k:Int):=a5;refine⟨rfl,?_,?_⟩
    ·rw[C,cO];exact aF (by unfold nv;omega)
    ·rw[C];have a1:aJ V.length U b+dV (gD U b).els k+1=lE V.length U b k:=rfl;have a2:aJ V.length U b+dV (gD U b).els (k+1)+1=lE V.length U b k+1:=by rw[Fm e];rfl
     rw[a2,a1];have a0:=aIg (n:=nv V U) (k:=lE V.length U b k) (g:=Wc V.length U (lE V.length U b k)) (by unfold nv;omega) (C4 (by omega)) (.i (vI (gD (gD U b).els k) 0)) (.i (vI (gD (gD U b).els k) 1)) (.i (lE V.length U b k:Int)) (.i (vI (gD (gD U b).els k) 3)) (.i (vI (gD (gD U b).els k) 4)) (.l (eX (gD (gD U b).els k) 5)) (.l (eX (gD (gD U b).els k) 6));refine a0.trans ?_;have hd:D.l [.i (vI (gD (gD U b).els k) 0),.i (vI (gD (gD U b).els k) 1),.i (lE V.length U b k:Int),.i (vI (gD (gD U b).els k) 3),.i (vI (gD (gD U b).els k) 4),.l (eX (gD (gD U b).els k) 5),.l (eX (gD (gD U b).els k) 6)]=dD V.length U (lE V.length U b k):=by rw[BZ L,<-C];rfl
     rw[hd,<-oD];exact Vw rfl
  have l:∀{c:Bool},eN (gD (gD U b).els k)=c->(!(aD (vI (gD (gD U b).els k) 1) 0))=c:=λh=>h;cases t:aD (vI (gD (gD U b).els k) 0) 2 with
  |true=>
   obtain⟨g,G,H⟩:=h.fo b m k d ((bT _ _).1 t);have Q:aA (vI (gD (gD U b).els k) 3) (aQ nf tk).length=true:=by rw[G,eQ];exact aF H
   have cs:(aQ nf tk).set (Int.toNat (vI (gD (gD U b).els k) 3)) (.b true)=aQ nf (qI tk g):=by rw[G];exact rV tk H
   refine⟨qI tk g,trivial,?_⟩;refine aC (aU d) (aC (aF d) (aC t (aC Q ?_)));rcases K with⟨d1,f⟩ |⟨d1,f,s⟩
   ·refine aM (l d1) (aP ?_);show[D.i (U.length:Int),.l Y,.i ((k+1:Nat):Int),.i (j:Int),.l (gD U b).els,.i (b:Int),.i (Y.length:Int),.i ((gD U b).els.length:Int),.l U,.s nm,.b o,.l V,.i r,.l U,.l J,.l W,.l y,.l Y,.l (aQ nf (qI tk g)),.l (aK (nv V U) (Wc V.length U (aJ V.length U b+dV (gD U b).els (k+1)+1))),.l out,.l (bI V U)]=_;rw[f,<-cs];exact hx _ _
   ·refine aC (l d1) (aC f (aP ?_));show[D.i (U.length:Int),.l Y,.i ((k+1:Nat):Int),.i (j:Int),.l (gD U b).els,.i (b:Int),.i (Y.length:Int),.i ((gD U b).els.length:Int),.l U,.s nm,.b o,.l V,.i r,.l U,.l J,.l W,.l y,.l Y,.l (aQ nf (qI tk g)),.l (aK (nv V U) (Wc V.length U (aJ V.length U b+dV (gD U b).els (k+1)+1))),.l out,.l (bI V U)]=_;rw[<-s,<-cs];exact hx _ _
  |false=>
   refine⟨tk,trivial,?_⟩;refine aC (aU d) (aC (aF d) (aM t ?_));rcases K with⟨d1,f⟩ |⟨d1,f,s⟩
   ·refine aM (l d1) (aP ?_);show[D.i (U.length:Int),.l Y,.i ((k+1:Nat):Int),.i (j:Int),.l (gD U b).els,.i (b:Int),.i (Y.length:Int),.i ((gD U b).els.length:Int),.l U,.s nm,.b o,.l V,.i r,.l U,.l J,.l W,.l y,.l Y,.l (aQ nf tk),.l (aK (nv V U) (Wc V.length U (aJ V.length U b+dV (gD U b).els (k+1)+1))),.l out,.l (bI V U)]=_;rw[f];exact hx _ _
   ·refine aC (l d1) (aC f (aP ?_));show[D.i (U.length:Int),.l Y,.i ((k+1:Nat):Int),.i (j:Int),.l (gD U b).els,.i (b:Int),.i (Y.length:Int),.i ((gD U b).els.length:Int),.l U,.s nm,.b o,.l V,.i r,.l U,.l J,.l W,.l y,.l Y,.l (aQ nf tk),.l (aK (nv V U) (Wc V.length U (aJ V.length U b+dV (gD U b).els (k+1)+1))),.l out,.l (bI V U)]=_;rw[<-s];exact hx _ _
 ·exact aM (aX _) (bG rfl)
theorem aIi(tk:Nat->Bool):∃c:Nat->Bool,fS uM 6
  [.i (U.length:Int),.l Y,.i (j:Int),.i 0,.i (Y.length:Int),.l U,.s nm,.b o,.l V,.i r,.l U,.l J,.l W,.l y,.l Y,.l (aQ nf tk),.l (List.replicate (nv V U) SL),.l out,.l (bI V U)]
  (0,[.l Y,.i (j:Int),.i (Y.length:Int),.s nm,.b o,.l V,.i r,.l U,.l J,.l W,.l y,.l Y,.l (aQ nf c),.l (aK (nv V U) (dD V.length U)),.l out,.l (bI V U)]):=by
 have g:List.replicate (nv V U) SL=aK (nv V U) (Wc V.length U (aJ V.length U 0+1)):=by
  rw[<-rX];refine dU λi f=>?_;by_cases e:i<aJ V.length U 0+1
  ·exact((Qw e).trans (PK (by unfold aJ at e;omega))).symm
  ·exact(C4 e).symm
 have e1:aK (nv V U) (dD V.length U)=aK (nv V U) (Wc V.length U (aJ V.length U U.length+1)):=dU λi f=>(Qw f).symm;rw[g,e1];have s:=FF uN (b:=6) (λb(tk:Nat->Bool)=>[.i (U.length:Int),.l Y,.i (j:Int),.i (b:Int),.i (Y.length:Int),.l U,.s nm,.b o,.l V,.i r,.l U,.l J,.l W,.l y,.l Y,.l (aQ nf tk),.l (aK (nv V U) (Wc V.length U (aJ V.length U b+1))),.l out,.l (bI V U)]) U.length
  (λtk=>(0,[.l Y,.i (j:Int),.i (Y.length:Int),.s nm,.b o,.l V,.i r,.l U,.l J,.l W,.l y,.l Y,.l (aQ nf tk),.l (aK (nv V U) (Wc V.length U (aJ V.length U U.length+1))),.l out,.l (bI V U)])) (λ_ _=>True) (λb tk d _=>?_) (λtk _=>?_) (s0:=tk) trivial
 ·obtain⟨c,_,l⟩:=s;exact⟨c,l⟩
 ·obtain⟨c,m⟩:=aIh h W y nm o j out b d tk;refine⟨c,trivial,?_⟩;exact aC (aU d) (aC (aF d) (aO m (bB (aP (nx d h.tb.1.sane [_,_,_] _)))))
 ·exact aM (aX _) (bG rfl)
end
section
variable(J W y Y:LD)(hM:Mv J W y Y)(hO:OkM J W y Y)
include hM hO
theorem aIj(j:Nat)(v:j<y.length)(tk:Nat->Bool):∃m:Nat->Bool,fS uM 2
  [.i ((eX (gD y j) 1).length:Int),.l y,.i (j:Int),.i 0,.i (y.length:Int),.l (eX (gD y j) 1),.l J,.l W,.l y,.l Y,.l J,.l W,.l y,.l Y,.l (aQ Y.length tk)]
  (0,[.l y,.i (j:Int),.i (y.length:Int),.l J,.l W,.l y,.l Y,.l J,.l W,.l y,.l Y,.l (aQ Y.length m)]):=by
 have H:=(hM.t j v).sane;have l:=hO.sy;unfold CH at l;rw[Bool.and_eq_true,rW,rW]at l;have t:=jH.1 l.1 j v;unfold CX at t;have G:=FF uN (b:=2) (λe(tk:Nat->Bool)=>[.i ((eX (gD y j) 1).length:Int),.l y,.i (j:Int),.i (e:Int),.i (y.length:Int),.l (eX (gD y j) 1),.l J,.l W,.l y,.l Y,.l J,.l W,.l y,.l Y,.l (aQ Y.length tk)]) (eX (gD y j) 1).length
  (λtk=>(0,[.l y,.i (j:Int),.i (y.length:Int),.l J,.l W,.l y,.l Y,.l J,.l W,.l y,.l Y,.l (aQ Y.length tk)])) (λ_ _=>True) (λe tk c _=>?_) (λtk _=>?_) (s0:=tk) trivial
 ·obtain⟨m,_,F⟩:=G;exact⟨m,F⟩
 ·have hx:∀(u:D),[D.i ((eX (gD y j) 1).length:Int),.l y,.i (j:Int),.i ((e+1:Nat):Int),.i (y.length:Int),.l (eX (gD y j) 1),.l J,.l W,.l y,.l Y,.l J,.l W,.l y,.l Y,u]=[D.i ((eX (gD y j) 1).length:Int),.l y,.i (j:Int),.i (bJ .i64 (e:Int) 1),.i (y.length:Int),.l (eX (gD y j) 1),.l J,.l W,.l y,.l Y,.l J,.l W,.l y,.l Y,u]:=λu=>nx c H [_,_,_] _;have d:=jH.1 t e c;unfold Md at d;rw[Bool.or_eq_false_iff]at d;cases f:cX 0 (gD (eX (gD y j) 1) e).toI with
  |false=>refine⟨tk,trivial,?_⟩;exact aC (aU c) (aC (aF c) (aM f (aP (hx _))))
  |true=>
   have K:=(fN _ _).1 f;have L:¬((Y.length:Int)<=(gD (eX (gD y j) 1) e).toI):=λh=>by rw[jS h]at d;cases d.2
   obtain⟨g,r⟩:∃g:Nat,(gD (eX (gD y j) 1) e).toI=(g:Int):=⟨(gD (eX (gD y j) 1) e).toI.toNat,by omega⟩;have s:g<Y.length:=by omega
   have C:aA (gD (eX (gD y j) 1) e).toI (aQ Y.length tk).length=true:=by rw[r,eQ];exact aF s
   have cs:(aQ Y.length tk).set (Int.toNat (gD (eX (gD y j) 1) e).toI) (.b true)=aQ Y.length (qI tk g):=by rw[r];exact rV tk s
   refine⟨qI tk g,trivial,?_⟩;refine aC (aU c) (aC (aF c) (aC f (aC C (aP ?_))));rw[<-cs];exact hx _
 ·exact aM (aX _) (bG rfl)
theorem aIk:∃c:Nat->Bool,fS uM 0 [.l y,.i 0,.i (y.length:Int),.l J,.l W,.l y,.l Y,.l J,.l W,.l y,.l Y,.l (List.replicate Y.length (D.b false))]
  (0,[.l J,.l W,.l y,.l Y,.l J,.l W,.l y,.l Y,.l (aQ Y.length c)]):=by
 rw[<-lV];have f:=FF uN (b:=0) (λj(tk:Nat->Bool)=>[.l y,.i (j:Int),.i (y.length:Int),.l J,.l W,.l y,.l Y,.l J,.l W,.l y,.l Y,.l (aQ Y.length tk)]) y.length
  (λtk=>(0,[.l J,.l W,.l y,.l Y,.l J,.l W,.l y,.l Y,.l (aQ Y.length tk)])) (λ_ _=>True) (λj tk d _=>?_) (λtk _=>?_) (s0:=λ_=>false) trivial
 ·obtain⟨c,_,e⟩:=f;exact⟨c,e⟩
 ·obtain⟨c,e⟩:=aIj J W y Y hM hO j d tk;refine⟨c,trivial,?_⟩;exact aC (aU d) (aC (aF d) (aO e (bB (aP (nx d hM.sane.ht [_] _)))))
 ·exact aM (aX _) (bG rfl)
abbrev E3(Y:LD)(j:Nat)(x:D):Prop:=aHh (eX (gD Y j) 2) (sO (gD Y j)) x
theorem aIl(tk:Nat->Bool):∃(d:Nat->Bool)(F:Nat->D),(∀i,i<Y.length->E3 Y i (F i))/\fS uM 4 [.l Y,.i 0,.i (Y.length:Int),.l J,.l W,.l y,.l Y,.l (aQ Y.length tk),.l []]
  (0,[.l J,.l W,.l y,.l Y,.l (aQ Y.length d),.l (aK Y.length F)]):=by
 have L:=FF uN (b:=4) (λj(q:(Nat->Bool)×(Nat->D))=>[.l Y,.i (j:Int),.i (Y.length:Int),.l J,.l W,.l y,.l Y,.l (aQ Y.length q.1),.l (aK j q.2)]) Y.length
  (λq=>(0,[.l J,.l W,.l y,.l Y,.l (aQ Y.length q.1),.l (aK Y.length q.2)])) (λj q=>∀i,i<j->E3 Y i (q.2 i)) (λj q c K=>?_) (λq _=>?_) (s0:=(tk,λ_=>.i 0)) (λi f=>absurd f (by omega))
 ·obtain⟨q,s,t⟩:=L;exact⟨q.1,q.2,s,t⟩
 ·have hf:=n5 hM hO c;have h:=VD hO.sm;have P:=hf.n;have u:=Ct hf h.2.1;have v:=Cu hf;obtain⟨d,g⟩:=aIi hf W y (D.toS (D.fld (gD Y j) 0)) (vB (gD Y j) 1) j (aK j q.2) q.1;obtain⟨b,C,G⟩:=aDj u (bI (eX (gD Y j) 2) (sO (gD Y j))) [] [] [] (zP _ _) (D.toS (D.fld (gD Y j) 0)) (vB (gD Y j) 1) (vI (gD Y j) 3) (sO (gD Y j));have H:=aEL v (bH (nv (eX (gD Y j) 2) (sO (gD Y j))) b) [] (by unfold nv;omega);have l:(bI (eX (gD Y j) 2) (sO (gD Y j))).length=nv (eX (gD Y j) 2) (sO (gD Y j)):=zP _ _;have m:List.replicate (nv (eX (gD Y j) 2) (sO (gD Y j))) SL=List.replicate (bI (eX (gD Y j) 2) (sO (gD Y j))).length (D.l [.i 0,.i 0,.i 0,.i 0,.i 0,.l [],.l []]):=by rw[l];rfl
  rw[m]at g;refine⟨(d,fV q.2 j (Hi (bI (eX (gD Y j) 2) (sO (gD Y j))) (bH (nv (eX (gD Y j) 2) (sO (gD Y j))) b) (DE (nv (eX (gD Y j) 2) (sO (gD Y j))) (bI (eX (gD Y j) 2) (sO (gD Y j))) (dD (eX (gD Y j) 2).length (sO (gD Y j))) (rJ (eX (gD Y j) 2).length (sO (gD Y j)))) (aK (nv (eX (gD Y j) 2) (sO (gD Y j))) (dD (eX (gD Y j) 2).length (sO (gD Y j)))))),λi f=>?_,?_⟩
  ·show E3 Y i (fV q.2 j _ i);by_cases e:i=j
   ·subst e;rw[fK];exact⟨b,C,rfl⟩
   ·rw[oB _ _ e];exact K i (by omega)
  ·have r:aK (j+1) (fV q.2 j (Hi (bI (eX (gD Y j) 2) (sO (gD Y j))) (bH (nv (eX (gD Y j) 2) (sO (gD Y j))) b) (DE (nv (eX (gD Y j) 2) (sO (gD Y j))) (bI (eX (gD Y j) 2) (sO (gD Y j))) (dD (eX (gD Y j) 2).length (sO (gD Y j))) (rJ (eX (gD Y j) 2).length (sO (gD Y j)))) (aK (nv (eX (gD Y j) 2) (sO (gD Y j))) (dD (eX (gD Y j) 2).length (sO (gD Y j))))))=aK j q.2++[Hi (bI (eX (gD Y j) 2) (sO (gD Y j))) (bH (nv (eX (gD Y j) 2) (sO (gD Y j))) b) (DE (nv (eX (gD Y j) 2) (sO (gD Y j))) (bI (eX (gD Y j) 2) (sO (gD Y j))) (dD (eX (gD Y j) 2).length (sO (gD Y j))) (rJ (eX (gD Y j) 2).length (sO (gD Y j)))) (aK (nv (eX (gD Y j) 2) (sO (gD Y j))) (dD (eX (gD Y j) 2).length (sO (gD Y j))))]:=by
    rw[<-C9,fK];congr 1;exact dU λi f=>oB _ _ (by omega)
   refine aC (aU c) (aC (aF c) (bW (Fo (D.toS (D.fld (gD Y j) 0)) (vB (gD Y j) 1) (eX (gD Y j) 2) (vI (gD Y j) 3) (sO (gD Y j)) hf.tp hf.tb) rfl (aC ?_ (aO g (bB (bW G rfl (bW H rfl (aC ?_ (aP ((nx c hM.sane.hf [_] _).trans ?_))))))))))
   ·show(cX 0 ((bI (eX (gD Y j) 2) (sO (gD Y j))).length:Int)&&(aD ((bI (eX (gD Y j) 2) (sO (gD Y j))).length:Int) ((bI (eX (gD Y j) 2) (sO (gD Y j))).length:Int)&&jN (Int.toNat ((bI (eX (gD Y j) 2) (sO (gD Y j))).length:Int)) 88))=true;rw[l,jS (by omega),pX];exact fA (by show nv (eX (gD Y j) 2) (sO (gD Y j))<=_;unfold nv;omega) (by omega)
   ·show jN ((aK j q.2).length+1) 96=true;have:=h.2.2.2.1;rw[cO];exact fA (by omega) (by omega)
   ·show[D.l Y,.i (bJ .i64 (j:Int) 1),.i (Y.length:Int),.l J,.l W,.l y,.l Y,.l (aQ Y.length d),.l (aK (j+1) _)]=_;rw[r];rfl
 ·exact aM (aX _) (bG rfl)
abbrev aDn(J W y Y:LD)(tk:Nat->Bool)(F:Nat->D):D:=.l [.l J,.l W,.l y,.l Y,.l (aQ Y.length tk),.l (aK Y.length F)]
theorem aFr:∃(tk:Nat->Bool)(F:Nat->D),(∀i,i<Y.length->E3 Y i (F i))/\jZ E aZ sites Kq [.l [.l J,.l W,.l y,.l Y]] (.l [aDn J W y Y tk F]) []:=by obtain⟨f,c⟩:=aIk J W y Y hM hO;obtain⟨tk,F,d,e⟩:=aIl J W y Y hM hO f;refine⟨tk,F,d,bE uN (by rfl) rfl ?_⟩;show Ev _ _ (UN _) _;unfold UN;have g:=hM.n;refine aC ?_ (aO c (bB (aO e (bB (bM rfl rfl)))));show(cX 0 (Y.length:Int)&&(aD (Y.length:Int) (Y.length:Int)&&jN (Int.toNat (Y.length:Int)) 1))=true;rw[jS (by omega),pX];exact fA (by show Y.length<=_;omega) (by omega)
end
def FP(df:Nat->D):Nat->Nat->SP
 |0,_=>sp0
 |k+1,v=>if vI (df v) 0=18 then RB 2 v else if vI (df v) 0=3 then RB 3 (vI (df v) 3).toNat else FP df k (fP (df v) 0)
def tT(df:Nat->D)(rk:Nat->Nat)(v:Nat):SP:=FP df (rk v+1) v
theorem LM{n:Nat}{df:Nat->D}{rk:Nat->Nat}(h:Rk n df rk):∀(k v:Nat),v<n->rk v<k->(iZ df rk v).isSome=true->FP df k v=tT df rk v
 |0,v,_,l,_=>absurd l (by omega)
 |k+1,v,hv,l,e=>by
  unfold tT FP;by_cases e1:vI (df v) 0=18
  ·rw[if_pos e1,if_pos e1]
  ·rw[if_neg e1,if_neg e1];by_cases d:vI (df v) 0=3
   ·rw[if_pos d,if_pos d]
   ·rw[if_neg d,if_neg d];have c:=LL h hv;rw[if_neg (by rintro(h |h);exact e1 h;exact d h)]at c;by_cases f:vI (df v) 0=19
    ·rw[if_pos f]at c;obtain⟨_,u,w,m,C,g,F,r⟩:=h.fall v hv f;have t:fP (df v) 0=u:=by unfold fP;rw[m];rfl
     rw[t]at c⊢;have j:(iZ df rk u).isSome=true:=by
      cases s:iZ df rk u with
      |some a=>rfl
      |none=>rw[s]at c;rw[c]at e;cases e
     rw[LM h k u g (by omega) j];by_cases y:rk v<k
     ·rw[LM h (rk v) u g r j]
     ·have:rk v=k:=by omega
      rw[this,LM h k u g (by omega) j]
    ·rw[if_neg f]at c;rw[c]at e;cases e
theorem E4{n:Nat}{df:Nat->D}{rk:Nat->Nat}(h:Rk n df rk){v:Nat}(hv:v<n)(d:vI (df v) 0=19)(f:(iZ df rk v).isSome=true):(iZ df rk (fP (df v) 0)).isSome=true/\tT df rk v=tT df rk (fP (df v) 0):=by
 have c:=LL h hv;rw[if_neg (by omega),if_pos d]at c;obtain⟨_,u,w,l,t,m,y,r⟩:=h.fall v hv d;have j:fP (df v) 0=u:=by unfold fP;rw[l];rfl
 rw[j]at c⊢;have g:(iZ df rk u).isSome=true:=by
  cases s:iZ df rk u with
  |some a=>rfl
  |none=>rw[s]at c;rw[c]at f;cases f
 refine⟨g,?_⟩;have e:tT df rk v=FP df (rk v) u:=by show FP df (rk v+1) v=_;rw[FP,if_neg (by omega),if_neg (by omega),j]
 rw[e,LM h (rk v) u m r g]
theorem Ng{l:List SP}{x:SP}(d:IU l)(h:∀c,c∈l<->c=x):l=[x]:=
 ZB d (List.pairwise_singleton _ _) λc=>by rw[h c,List.mem_singleton]
theorem VF{n:Nat}{V:LD}{df:Nat->D}{rk:Nat->Nat}{T:LD}(d:aGm n T df rk){b:Nat->List SP}(m:E0 n V df b)(H:∀v,v<n->(gD T v).toI=3->(uW df v=true\/vI (df v) 0=0)):
  ∀(k v:Nat),rk v<k->v<n->(gD T v).toI=3->(iZ df rk v).isSome=true->b v=[tT df rk v]
 |0,v,C,_,_,_=>absurd C (by omega)
 |k+1,v,C,hv,F,f=>by
  have l:=LL d.rk hv;have P:uW df v=true:=by
   rcases H v hv F with h |h
   ·exact h
   ·rw[if_neg (by omega),if_neg (by omega)]at l;rw[l]at f;cases f
  have r:=m.iff v hv P;have s:=m.g.rise v hv;by_cases e1:vI (df v) 0=18
  ·have e:tT df rk v=RB 2 v:=by show FP df (rk v+1) v=_;rw[FP,if_pos e1]
   rw[e];refine Ng s λg=>?_;rw[r g];unfold bF;rw[if_pos e1,List.mem_singleton]
  ·by_cases j:vI (df v) 0=3
   ·have e:tT df rk v=RB 3 (vI (df v) 3).toNat:=by show FP df (rk v+1) v=_;rw[FP,if_neg e1,if_pos j]
    rw[e];refine Ng s λg=>?_;rw[r g];unfold bF;rw[if_neg e1,if_pos j,List.mem_singleton]
   ·by_cases c:vI (df v) 0=19
    ·obtain⟨t,y⟩:=E4 d.rk hv c f;obtain⟨_,u,w,K,U,L,W,Y⟩:=d.rk.fall v hv c;have J:fP (df v) 0=u:=by unfold fP;rw[K];rfl
     have G:=d.ty v hv F c;rw[J]at t y G;have Q:=VF d m H k u (by omega) L G t;rw[y];refine Ng s λg=>?_;rw[r g];unfold bF;rw[if_neg e1,if_neg j,if_pos c,J,Q,List.mem_singleton]
    ·rw[if_neg (by rintro(h |h);exact e1 h;exact j h),if_neg c]at l;rw[l]at f;cases f
theorem n9{n:Nat}{df:Nat->D}{rk:Nat->Nat}(h:Rk n df rk):∀(k v:Nat),rk v<k->v<n->(iZ df rk v).isSome=true->(∃u,u<n/\vI (df u) 0=18/\tT df rk v=RB 2 u)\/(∃u,u<n/\vI (df u) 0=3/\tT df rk v=RB 3 (vI (df u) 3).toNat)
 |0,v,j,_,_=>absurd j (by omega)
 |k+1,v,j,hv,e=>by
  have l:=LL h hv;by_cases e1:vI (df v) 0=18
  ·exact .inl ⟨v,hv,e1,by show FP df (rk v+1) v=_;rw[FP,if_pos e1]⟩
  ·by_cases c:vI (df v) 0=3
   ·exact .inr ⟨v,hv,c,by show FP df (rk v+1) v=_;rw[FP,if_neg e1,if_pos c]⟩
   ·by_cases d:vI (df v) 0=19
    ·obtain⟨f,g⟩:=E4 h hv d e;obtain⟨_,u,w,m,t,r,y,C⟩:=h.fall v hv d;have s:fP (df v) 0=u:=by unfold fP;rw[m];rfl
     rw[s]at f g;rw[g];exact n9 h k u (by omega) r f
    ·rw[if_neg (by rintro(h |h);exact e1 h;exact c h),if_neg d]at l;rw[l]at e;cases e
def szR(W:LD)(df:Nat->D)(x:SP):Int:=if x.1.val=3 then((eX (gD W x.2.val) 1).length:Int)else vI (df x.2.val) 4
def ZD(W:LD)(df:Nat->D)(rk:Nat->Nat)(p:Nat):Bool:=match iZ df rk p with
 |some a=>cX 0 a&&aT a (szR W df (tT df rk p))
 |none=>false
section
variable{n1 n2 nf:Nat}{J Y V U:LD}{r:Int}(h:Nd n1 n2 nf J Y V U r)
theorem aDp{v:Nat}(hv:v<nv V U)(c:(gD (bI V U) v).toI=3):uW (dD V.length U) v=true\/vI (dD V.length U v) 0=0:=by
 by_cases e:v<=V.length
 ·right;rw[PK e];rfl
 ·left;obtain⟨q,d⟩:=VE (V:=V) (U:=U) hv (by omega);rw[aA3 d]at c;unfold uW;rw[BZ d];exact(bT _ _).2 c
include h
theorem o7{b k:Nat}(g:b<U.length)(j:k<(gD U b).els.length)(u:vI (gD (gD U b).els k) 0=20\/vI (gD (gD U b).els k) 0=21):
  0<(eX (gD (gD U b).els k) 5).length/\∃p:Nat,oG (gD (gD U b).els k) 0=p/\p<nv V U/\(gD (bI V U) p).toI=3:=by
 have hf:=h.fm b g k j;have f:0<(eX (gD (gD U b).els k) 5).length:=by
  rcases u with e |e
  ·have:=hf.a1 (.inr (.inl e));omega
  ·have:=hf.a2 (.inr (.inr e));omega
 obtain⟨p,s,C,y⟩:=Cs h g j f;refine⟨f,p,s,y,?_⟩;have l:=h.ty;unfold LG at l;rw[rW]at l;have m:=bU.1 (bU.1 l b g) k j;have c:rH J Y r (bI V U) (gD (gD U b).els k)=true:=by
  cases v:rH J Y r (bI V U) (gD (gD U b).els k)with
  |true=>rfl
  |false=>rw[v]at m;cases m
 unfold rH at c;have t:g' (kK (bI V U) (eX (gD (gD U b).els k) 5)) 0=(gD (bI V U) p).toI:=by unfold g';rw[PE f];show(gD (bI V U) (oG (gD (gD U b).els k) 0).toNat).toI=_;rw[s];rfl
 rcases u with e |e
 ·rw[e]at c;have d:(aD (vI (gD (gD U b).els k) 1) 1&&aD (g' (kK (bI V U) (eX (gD (gD U b).els k) 5)) 0) 3)=true:=c;rw[Bool.and_eq_true,t]at d;exact(bT _ _).1 d.2
 ·rw[e]at c;have d:(aD (g' (kK (bI V U) (eX (gD (gD U b).els k) 5)) 0) 3&&aD (g' (kK (bI V U) (eX (gD (gD U b).els k) 5)) 1) 1)=true:=c;rw[Bool.and_eq_true,t]at d;exact(bT _ _).1 d.1
theorem o8{p:Nat}(r:p<nv V U)(s:(iZ (dD V.length U) (rJ V.length U) p).isSome=true)(t:n2<=12):
  (∃u,u<nv V U/\V.length<u/\tT (dD V.length U) (rJ V.length U) p=RB 2 u)\/(∃g,g<n2/\tT (dD V.length U) (rJ V.length U) p=RB 3 g):=by
 rcases n9 (Cu h).rk _ p (Nat.lt_succ_self _) r s with⟨u,f,c,d⟩ |⟨u,f,c,d⟩
 ·left;refine⟨u,f,?_,d⟩;by_cases e:u<=V.length
  ·rw[PK e]at c;cases c
  ·omega
 ·right;by_cases e:u<=V.length
  ·rw[PK e]at c;cases c
  ·obtain⟨q,j⟩:=VE (V:=V) (U:=U) f (by omega);rw[BZ j]at c d;obtain⟨g,l,m⟩:=h.gl q.1 j.b q.2 j.k c;refine⟨g,m,d.trans ?_⟩;have:vI (D.l (Gi (gD (gD U q.1).els q.2))) 3=(g:Int):=l;rw[this];rfl
end
def T7(W:LD)(df:Nat->D)(rk:Nat->Nat)(x:D):Bool:=(aD (vI x 0) 20||aD (vI x 0) 21)&&ZD W df rk (fP x 0)
theorem Fs{k n:Nat}(c:k<1000000000):(RB k n).1.val =k:=Nat.mod_eq_of_lt c
theorem Ft{k n:Nat}(c:n<1000000000):(RB k n).2.val =n:=Nat.mod_eq_of_lt c
section
variable{J W y Y:LD}(hM:Mv J W y Y)(hO:OkM J W y Y)
include hM hO
theorem aDF(tk:Nat->Bool)(F:Nat->D)(b1:∀i,i<Y.length->E3 Y i (F i))(j:Nat)(C:j<Y.length)(b i:Nat)(b4:b<(sO (gD Y j)).length)(c1:i<(gD (sO (gD Y j)) b).els.length):
  jZ E aZ sites zG [aDn J W y Y tk F,.i (j:Int),.l (Gi (gD (gD (sO (gD Y j)) b).els i))] (.b (T7 W (dD (eX (gD Y j) 2).length (sO (gD Y j))) (rJ (eX (gD Y j) 2).length (sO (gD Y j))) (gD (gD (sO (gD Y j)) b).els i))) []:=by
 have hf:=n5 hM hO C;have c7:=VD hO.sm;obtain⟨G,b5,b6⟩:=b1 j C;refine bE EV (by rfl) rfl ?_;show Ev _ _ (uF _) _;unfold uF;have b2:=o7 hf b4 c1;generalize gD (gD (sO (gD Y j)) b).els i=x at*;generalize d1:eX (gD Y j) 2=V at*;generalize c9:sO (gD Y j)=U at*;have d0:=hf.n;by_cases s:vI x 0=20\/vI x 0=21
 ·have c0:(!(aD (vI x 0) 20)&&!(aD (vI x 0) 21))=false:=by
   rcases s with e |e
   ·rw[e];rfl
   ·rw[e];rfl
  have c4:(aD (vI x 0) 20||aD (vI x 0) 21)=true:=by
   rcases s with e |e
   ·rw[e];rfl
   ·rw[e];rfl
  obtain⟨b3,p,t,l,a2⟩:=b2 s;have c6:fP x 0=p:=by unfold fP;rw[t];rfl
  have r:gD (aK Y.length F) j=Hi (bI V U) (bH (nv V U) G) (DE (nv V U) (bI V U) (dD V.length U) (rJ V.length U)) (aK (nv V U) (dD V.length U)):=(dX _ C).trans b6;have a4:aA (j:Int) (aK Y.length F).length=true:=by rw[cO];exact aF C
  have Q:aA 0 (eX x 5).length=true:=aF (j:=0) b3;have c3:(DE (nv V U) (bI V U) (dD V.length U) (rJ V.length U)).length=nv V U:=cO _ _;have c2:gD (DE (nv V U) (bI V U) (dD V.length U) (rJ V.length U)) p=CA (iZ (dD V.length U) (rJ V.length U) p):=by refine(dX _ l).trans ?_;rw[if_pos a2]
  have a5:aA (gD (eX x 5) 0).toI (nX (gD (aK Y.length F) j) 2)=true:=by have:(gD (eX x 5) 0).toI=(p:Int):=t;rw[this,r];show aA (p:Int) (DE (nv V U) (bI V U) (dD V.length U) (rJ V.length U)).length=true;rw[c3];exact aF l
  have K:∀q,vI (gD (eX (gD (aK Y.length F) j) 2) (Int.toNat (gD (eX x 5) 0).toI)) q=vI (CA (iZ (dD V.length U) (rJ V.length U) p)) q:=λq=>by have:(gD (eX x 5) 0).toI=(p:Int):=t;rw[this,r];show vI (gD (DE (nv V U) (bI V U) (dD V.length U) (rJ V.length U)) p) q=_;rw[c2]
  unfold T7;rw[c4,c6];refine aM c0 (aC a4 (aC Q (aC a5 ?_)));cases h:iZ (dD V.length U) (rJ V.length U) p with
  |none=>
   have m:ZD W (dD V.length U) (rJ V.length U) p=false:=by unfold ZD;rw[h]
   refine aC ?_ (bM (by rw[m];rfl) rfl);exact(congrArg (λc=>!(aD c 1)) (K 0)).trans (by rw[h];rfl)
  |some a=>
   have a3:(iZ (dD V.length U) (rJ V.length U) p).isSome=true:=by rw[h];rfl
   have m:ZD W (dD V.length U) (rJ V.length U) p=(cX 0 a&&aT a (szR W (dD V.length U) (tT (dD V.length U) (rJ V.length U) p))):=by unfold ZD;rw[h]
   have b7:=VF (Cu hf) b5 (λv hv c5=>aDp hv c5) _ p (Nat.lt_succ_self _) l a2 a3;have a6:(!(aD (vI (gD (eX (gD (aK Y.length F) j) 2) (Int.toNat (gD (eX x 5) 0).toI)) 0) 1))=false:=(congrArg (λc=>!(aD c 1)) (K 0)).trans (by rw[h];rfl);have T:vI (gD (eX (gD (aK Y.length F) j) 2) (Int.toNat (gD (eX x 5) 0).toI)) 1=a:=(K 1).trans (by rw[h];rfl);have H:gD (eX (gD (aK Y.length F) j) 1) (Int.toNat (gD (eX x 5) 0).toI)=fB [tT (dD V.length U) (rJ V.length U) p]:=by have:(gD (eX x 5) 0).toI=(p:Int):=t;rw[this,r];show gD (bH (nv V U) G) p=_;rw[dX _ l,b7]
   have a7:aA (gD (eX x 5) 0).toI (nX (gD (aK Y.length F) j) 1)=true:=by have:(gD (eX x 5) 0).toI=(p:Int):=t;rw[this,r];show aA (p:Int) (bH (nv V U) G).length=true;rw[cO];exact aF l
   have a9:aA 0 (nE (gD (eX (gD (aK Y.length F) j) 1) (Int.toNat (gD (eX x 5) 0).toI)))=true:=by rw[H];rfl
   have d:vI (gE (gD (eX (gD (aK Y.length F) j) 1) (Int.toNat (gD (eX x 5) 0).toI)) 0) 0=((tT (dD V.length U) (rJ V.length U) p).1.val :Int):=by rw[H];rfl
   have e1:vI (gE (gD (eX (gD (aK Y.length F) j) 1) (Int.toNat (gD (eX x 5) 0).toI)) 0) 1=((tT (dD V.length U) (rJ V.length U) p).2.val :Int):=by rw[H];rfl
   refine aM a6 (aC Q (aC a7 (aC a9 ?_)));rcases o8 hf l a3 c7.2.1 with⟨u,f,c8,L⟩ |⟨g,f,L⟩
   ·rw[L]at d e1 m;rw[Fs (by omega)]at d;rw[Ft (by unfold nv at f;omega)]at e1;have P:szR W (dD V.length U) (RB 2 u)=vI (dD V.length U u) 4:=by
     unfold szR;rw[Fs (by omega),if_neg (by omega),Ft (by unfold nv at f;omega)]
    have b0:vI (gD (eX (gD (aK Y.length F) j) 3) (Int.toNat (vI (gE (gD (eX (gD (aK Y.length F) j) 1) (Int.toNat (gD (eX x 5) 0).toI)) 0) 1))) 4=vI (dD V.length U u) 4:=by rw[e1,r];show vI (gD (aK (nv V U) (dD V.length U)) u) 4=_;rw[dX _ f]
    refine aM ((congrArg (λc=>aD c 3) d).trans rfl) (aC ?_ (bM ?_ rfl))
    ·show aA (vI (gE (gD (eX (gD (aK Y.length F) j) 1) (Int.toNat (gD (eX x 5) 0).toI)) 0) 1) (nX (gD (aK Y.length F) j) 3)=true;rw[e1,r];show aA (u:Int) (aK (nv V U) (dD V.length U)).length=true;rw[cO];exact aF f
    ·rw[m,P];show D.b (cX 0 a&&aT a (vI (dD V.length U u) 4))=D.b (cX 0 (vI (gD (eX (gD (aK Y.length F) j) 2) (Int.toNat (gD (eX x 5) 0).toI)) 1)&&aT (vI (gD (eX (gD (aK Y.length F) j) 2) (Int.toNat (gD (eX x 5) 0).toI)) 1) (vI (gD (eX (gD (aK Y.length F) j) 3) (Int.toNat (vI (gE (gD (eX (gD (aK Y.length F) j) 1) (Int.toNat (gD (eX x 5) 0).toI)) 0) 1))) 4));rw[b0,T]
   ·rw[L]at d e1 m;rw[Fs (by omega)]at d;rw[Ft (by omega)]at e1;have P:szR W (dD V.length U) (RB 3 g)=((eX (gD W g) 1).length:Int):=by
     unfold szR;rw[Fs (by omega),if_pos rfl,Ft (by omega)]
    refine aC ((congrArg (λc=>aD c 3) d).trans rfl) (aC ?_ (bM ?_ rfl))
    ·show aA (vI (gE (gD (eX (gD (aK Y.length F) j) 1) (Int.toNat (gD (eX x 5) 0).toI)) 0) 1) W.length=true;rw[e1];exact aF f
    ·rw[m,P];show D.b (cX 0 a&&aT a ((eX (gD W g) 1).length:Int))=D.b (cX 0 (vI (gD (eX (gD (aK Y.length F) j) 2) (Int.toNat (gD (eX x 5) 0).toI)) 1)&&aT (vI (gD (eX (gD (aK Y.length F) j) 2) (Int.toNat (gD (eX x 5) 0).toI)) 1) (iX (gD W (Int.toNat (vI (gE (gD (eX (gD (aK Y.length F) j) 1) (Int.toNat (gD (eX x 5) 0).toI)) 0) 1))) 1));rw[e1,T];rfl
 ·have a0:aD (vI x 0) 20=false:=nW λe=>s (.inl e);have a1:aD (vI x 0) 21=false:=nW λe=>s (.inr e);refine aC ?_ (bM ?_ rfl)
  ·show(!(aD (vI x 0) 20)&&!(aD (vI x 0) 21))=true;rw[a0,a1];rfl
  ·unfold T7;rw[a0,a1];rfl
end
theorem IW(n:Int):∃q:Int,bD .i64 n=n+q*18446744073709551616/\-9223372036854775808<=bD .i64 n/\bD .i64 n<=9223372036854775807:=by
 by_cases h:-9223372036854775808<=n/\n<=9223372036854775807
 ·rw[wA h.1 h.2];exact⟨0,by omega,h.1,h.2⟩
 ·have e:bD .i64 n=IntKind.i64.wrap n:=by
   unfold bD;have:(cX (VH .i64) n&&cX n (VI .i64))=false:=by
    cases e:(cX (VH .i64) n&&cX n (VI .i64))with
    |false=>rfl
    |true=>rw[Bool.and_eq_true,fN,fN]at e;exact absurd e h
   rw[this];rfl
  rw[e];have c:(2:Int)^64=18446744073709551616:=by decide
  have d:(2:Int)^(64-1)=9223372036854775808:=by decide
  simp only[IntKind.wrap,IntKind.bits,IntKind.signed,c,d,Bool.true_and,decide_eq_true_eq];split
  ·exact⟨-(n/18446744073709551616)-1,by omega,by omega,by omega⟩
  ·exact⟨-(n/18446744073709551616),by omega,by omega,by omega⟩
def I64(n:Int):Prop:=-9223372036854775808<=n/\n<=9223372036854775807
theorem Nh{a b:Int}(c:I64 b):bJ .i64 a b=bD .i64 (a+b):=CN _ _ _ c
theorem aDq{a b:Int}(e:I64 b):I64 (bJ .i64 a b):=by rw[Nh e];obtain⟨q,f,c,d⟩:=IW (a+b);exact⟨c,d⟩
theorem T8{s m a:Int}(c:I64 m)(f:I64 a):bJ .i64 (bJ .i64 s m) a=bJ .i64 s (bJ .i64 a m):=by
 rw[Nh f,Nh (aDq c),Nh c,Nh c];obtain⟨j,e,C,F⟩:=IW (s+m);obtain⟨l,d,v,y⟩:=IW (a+m);obtain⟨r,g,G,H⟩:=IW (bD .i64 (s+m)+a);obtain⟨t,h,J,K⟩:=IW (s+bD .i64 (a+m));have e1:bD .i64 (bD .i64 (s+m)+a)=s+m+a+(j+r)*18446744073709551616:=by rw[g,e];omega
 have u:bD .i64 (s+bD .i64 (a+m))=s+m+a+(l+t)*18446744073709551616:=by rw[h,d];omega
 omega
theorem aHi{s:Int}(c:I64 s):bJ .i64 s 0=s:=by rw[Nh ⟨by omega,by omega⟩,Int.add_zero,wA c.1 c.2]
section
variable{n1 n2 nf:Nat}{J Y V U:LD}{r:Int}(h:Nd n1 n2 nf J Y V U r)(nm:List UInt8)(o:Bool)
include h
theorem Hk{b k:Nat}(j:b<U.length)(l:k<(gD U b).els.length)(v:Nat):((!(aD (vI (gD (gD U b).els k) 1) 0))&&aD (vI (gD (gD U b).els k) 2) (v:Int))=true<->MC V.length U v (b,k):=by
 rw[Bool.and_eq_true,bT];constructor
 ·rintro⟨d,e⟩;have c:MC V.length U (lE V.length U b k) (b,k):=⟨j,l,d,rfl⟩;have f:=Nf h c;have g:vI (gD (gD U b).els k) 2=(lE V.length U b k:Int):=f;have:lE V.length U b k=v:=by rw[g]at e;omega
  rw[<-this];exact c
 ·intro c;exact⟨c.t,Nf h c⟩
theorem aFs(v b:Nat)(c:b<U.length):
  ((∃k,MC V.length U v (b,k)/\fS qB 2 [.i (v:Int),.i 0,.i (b:Int),.s nm,.b o,.l V,.i r,.l U] (0,[.i (v:Int),.i (k:Int),.i (b:Int),.i (b:Int),.s nm,.b o,.l V,.i r,.l U]))\/
  ((∀k,¬MC V.length U v (b,k))/\fS qB 2 [.i (v:Int),.i 0,.i (b:Int),.s nm,.b o,.l V,.i r,.l U] (1,[.i (v:Int),.i (b:Int),.s nm,.b o,.l V,.i r,.l U]))):=by
 have y:=(h.tb.2 b c).ins.sane;have l:∀k,k<(gD U b).els.length->¬MC V.length U v (b,k)->sW E aZ sites qB (qB.F.lp 2 [.i (v:Int),.i (k:Int),.i (b:Int),.s nm,.b o,.l V,.i r,.l U]) (.again [.i (v:Int),.i ((k+1:Nat):Int),.i (b:Int),.s nm,.b o,.l V,.i r,.l U]):=λk d t=>by
  have hf:((!(aD (vI (gD (gD U b).els k) 1) 0))&&aD (vI (gD (gD U b).els k) 2) (v:Int))=false:=by rw[<-Bool.not_eq_true,Hk h c d v];exact t
  exact aC (aF c) (aC (aU d) (aC (aF c) (aC (aF d) (aM hf (aP (nx d y [_] _))))))
 cases e:dW (gD U b).els.length λk=>((!(aD (vI (gD (gD U b).els k) 1) 0))&&aD (vI (gD (gD U b).els k) 2) (v:Int))with
 |true=>
  obtain⟨k,d,j,s⟩:=rP e;have f:=(Hk h c d v).1 j;refine .inl ⟨k,f,dF DJ (λk=>[.i (v:Int),.i (k:Int),.i (b:Int),.s nm,.b o,.l V,.i r,.l U]) k (λi g=>l i (by omega) λu=>?_) ?_⟩
  ·have:=s i g;rw[(Hk h c (by omega) v).2 u]at this;cases this
  ·exact aC (aF c) (aC (aU d) (aC (aF c) (aC (aF d) (aC j (bG rfl)))))
 |false=>
  have m:∀k,¬MC V.length U v (b,k):=λk f=>by have:=bU.1 e k f.k;rw[(Hk h c f.k v).2 f]at this;cases this
  refine .inr ⟨m,dF DJ (λk=>[.i (v:Int),.i (k:Int),.i (b:Int),.s nm,.b o,.l V,.i r,.l U]) (gD U b).els.length (λi g=>l i g (m i)) ?_⟩;exact aC (aF c) (aM (aX _) (bG rfl))
theorem T9(v:Nat):jZ E aZ sites XX [qH nm o V r U,.i (v:Int)] (Gp V.length U v) []:=by
 refine bE DJ (by rfl) rfl ?_;show Ev _ _ (Bh _) _;unfold Bh;have l:∀b,b<U.length->(∀k,¬MC V.length U v (b,k))->sW E aZ sites qB (qB.F.lp 0 [.i (v:Int),.i (b:Int),.s nm,.b o,.l V,.i r,.l U]) (.again [.i (v:Int),.i ((b+1:Nat):Int),.s nm,.b o,.l V,.i r,.l U]):=λb f e=>by
  show Ev _ _ (qV _) _;unfold qV;rcases aFs h nm o v b f with⟨k,s,_⟩ |⟨_,d⟩
  ·exact absurd s (e k)
  ·exact aC (aU f) (aO d (fD (bB (aP (nx f h.tb.1.sane [_] _)))))
 by_cases c:∃q,MC V.length U v q
 ·obtain⟨⟨b,k⟩,c⟩:=c;have g:fS qB 0 [.i (v:Int),.i 0,.s nm,.b o,.l V,.i r,.l U] (0,[.i (k:Int),.i (b:Int)]):=by
   refine dF DJ (λb=>[.i (v:Int),.i (b:Int),.s nm,.b o,.l V,.i r,.l U]) b (λi m=>l i (by have:=c.b;simp only at this;omega) λy u=>?_) ?_
   ·have:=YW c u;injection this with e1 j;omega
   ·show Ev _ _ (qV _) _;unfold qV;rcases aFs h nm o v b c.b with⟨y,t,d⟩ |⟨e,_⟩
    ·have:=YW c t;injection this with e1 j;subst j;exact aC (aU c.b) (aO d (bB (bG rfl)))
    ·exact absurd c (e k)
  refine aO g (bB (bM ?_ rfl));unfold Gp;rw[GW c];rfl
 ·have e:∀b k,¬MC V.length U v (b,k):=λb k d=>c ⟨_,d⟩;have g:fS qB 0 [.i (v:Int),.i 0,.s nm,.b o,.l V,.i r,.l U] (1,[]):=by
   refine dF DJ (λb=>[.i (v:Int),.i (b:Int),.s nm,.b o,.l V,.i r,.l U]) U.length (λi m=>l i m (e i)) ?_;exact aM (aX _) (bG rfl)
  refine aO g (fD (bB (bM ?_ rfl)));unfold Gp Oh;rw[dif_neg c]
theorem aDr(v:Nat):jZ E aZ sites Aw [qH nm o V r U,.i (v:Int)] (match RN (dD V.length U) v with|some m=>.l [.i m,.b true] |none=>.l [.i 0,.b false]) []:=by
 refine bE Ff (by rfl) rfl ?_;refine bW (T9 h nm o v) rfl ?_;by_cases c:∃q,MC V.length U v q
 ·obtain⟨⟨b,k⟩,c⟩:=c;have d:Gp V.length U v=.l [.i (b:Int),.i (k:Int)]:=by unfold Gp;rw[GW c]
  have l:=c.b;have s:=c.k;have g:aA (b:Int) U.length=true:=aF l;have j:aA (k:Int) (gD U b).els.length=true:=aF s;have f:RN (dD V.length U) v=if vI (gD (gD U b).els k) 0=1 then some (vI (gD (gD U b).els k) 4)else none:=by unfold RN;rw[BZ c];rfl
  rw[d,f];have lb:aT (b:Int) 0=false:=Ch (by omega);by_cases e:vI (gD (gD U b).els k) 0=1
  ·rw[if_pos e];refine aC (aH g) (aC (aH j) (aM ?_ (aC g (aC j (bM rfl rfl)))));show(aT (b:Int) 0||!(aD (vI (gD (gD U b).els k) 0) 1))=false;rw[lb,e];rfl
  ·rw[if_neg e];refine aC (aH g) (aC (aH j) (aC ?_ (bM rfl rfl)));show(aT (b:Int) 0||!(aD (vI (gD (gD U b).els k) 0) 1))=true;rw[nW e];exact Bool.or_true _
 ·have d:Gp V.length U v=.l [.i (-1),.i (-1)]:=by unfold Gp Oh;rw[dif_neg c]
  have f:RN (dD V.length U) v=none:=by unfold RN dD;rw[dif_neg c];rfl
  rw[d,f];exact aC rfl (aC rfl (aC rfl (bM rfl rfl)))
end
end Go.Eng.Q
