/- Part 8 of the proof: what facts.Of and base.Of reckon. -/
import Derived.Test.YtglojhiigapkbaaGreatLawA
set_option linter.unusedSimpArgs false
set_option linter.unusedVariables false
namespace Go.Eng.Q
open Go.Eng
theorem BF{bs:List D}{a b:Nat}:dB bs a b=true<->RA bs 0 (-1) a/\RA bs 0 (-1) b/\¬RA bs 0 (a:Int) b:=by
 unfold dB;rw[Bool.and_eq_true,Bool.and_eq_true,yP,yP,pG];constructor
 ·rintro⟨d,f,c⟩;exact⟨d,f,λh=>by rw[yP.2 h]at c;cases c⟩
 ·rintro⟨d,f,c⟩;refine⟨d,f,?_⟩;cases e:Dp bs 0 (a:Int) b with
  |false=>rfl
  |true=>exact absurd (yP.1 e) c
theorem NC{bs:List D}{a:Nat}(h:RA bs 0 (-1) a):dB bs a a=true:=BF.2 ⟨h,h,Td⟩
theorem OV{bs:List D}{a b c:Nat}(d:dB bs a b=true)(e:dB bs b c=true):dB bs a c=true:=by rw[BF]at*;refine⟨d.1,e.2.1,λh=>?_⟩;exact d.2.2 (aEH h e.2.2)
theorem Yj{bs:List D}{a b:Nat}(c:dB bs a b=true)(d:dB bs b a=true):a=b:=by
 rw[BF]at*;by_cases e:a=b
 ·exact e
 ·rcases aDd c.1 e with h |h
  ·exact absurd h d.2.2
  ·exact absurd h c.2.2
theorem aDe{bs:List D}{a b c:Nat}(d:dB bs a c=true)(f:dB bs b c=true):dB bs a b=true\/dB bs b a=true:=by
 by_cases e:a=b
 ·subst e;left;rw[BF]at d;exact NC d.1
 rw[BF]at d f;by_cases g:RA bs 0 (a:Int) b
 ·by_cases j:RA bs 0 (b:Int) a
  ·rcases aB0 e g j d.2.1 with h |h
   ·exact absurd h d.2.2
   ·exact absurd h f.2.2
  ·right;rw[BF];exact⟨f.1,d.1,j⟩
 ·left;rw[BF];exact⟨d.1,f.1,g⟩
theorem M4{bs:List D}{a b:Nat}(h:dB bs a b=true):a<bs.length/\b<bs.length:=by rw[BF]at h;exact⟨Xu bs 0 (-1) h.1,Xu bs 0 (-1) h.2.1⟩
theorem SW{a b:Bool}(h:a=true):(a||b)=true:=by rw[h];rfl
theorem V5{c:Bool}(h:c=true):(!(!c))=true:=by rw[h];rfl
structure Yk(bs:List D)(c b:Nat)(x:Int):Prop where
 or:(x=-1/\∀i,i<c->i≠b->dB bs i b=false)\/∃d:Nat,x=d/\d<c/\d≠b/\dB bs d b=true/\∀i,i<c->i≠b->dB bs i b=true->dB bs i d=true
section
variable(nm:List UInt8)(o:Bool)(ps:List D)(r:Int)(bs:List D)(hT:fF bs)(h0:0<bs.length)
include hT
theorem aEK(a:Nat)(d:a<bs.length)(l:Dp bs 0 (-1) a=true)(g:Nat->D):
  fC DB 4 [.i (bs.length:Int),.i (bs.length:Int),.i 0,.i (a:Int),.i (a:Int),.i (bs.length:Int),.l (nD bs),.l (aM bs.length (eZ g a (.l (List.replicate bs.length (.b false))))),.l (cO bs 0 (-1)),.l (cO bs 0 a)] (0,[.i (bs.length:Int),.i (bs.length:Int),.i (a:Int),.l (nD bs),.l (aM bs.length (eZ g a (.l (aZ bs.length (dB bs a))))),.l (cO bs 0 (-1))]):=by
 rw[<-Om bs.length (dB bs a),<-Ye bs.length (dB bs a)];have m:(cO bs 0 (-1)).length=bs.length:=by unfold cO;exact eN _ _
 have r:(cO bs 0 a).length=bs.length:=by unfold cO;exact eN _ _
 refine cI DC (λj=>[.i (bs.length:Int),.i (bs.length:Int),.i (j:Int),.i (a:Int),.i (a:Int),.i (bs.length:Int),.l (nD bs),.l (aM bs.length (eZ g a (.l (aZ bs.length (λi=>decide (i<j)&&dB bs a i))))),.l (cO bs 0 (-1)),.l (cO bs 0 a)]) bs.length (λj c=>?_) ?_
 ·have hg:gD (aM bs.length (eZ g a (.l (aZ bs.length (λi=>decide (i<j)&&dB bs a i))))) a=.l (aZ bs.length (λi=>decide (i<j)&&dB bs a i)):=(dU _ d).trans (eP _ _ _);show Ev _ _ (vR _) _;unfold vR;refine aC (aW c) (aC ?_ (aC ?_ (aC (aH ?_) (aC ?_ (aO ((nx c hT.1.sane [_,_] _).trans ?_))))))
  ·show aA (a:Int) (aM bs.length _).length=true;rw[cQ];exact aE d
  ·show aA (j:Int) (cO bs 0 (-1)).length=true;rw[m];exact aE c
  ·show aA (j:Int) (cO bs 0 a).length=true;rw[r];exact aE c
  ·show aA (j:Int) (D.els (gD (aM bs.length (eZ g a (.l (aZ bs.length (λi=>decide (i<j)&&dB bs a i))))) a)).length=true;rw[hg];show aA (j:Int) (aZ bs.length _).length=true;rw[eN];exact aE c
  ·have e1:(gD (cO bs 0 (-1)) j).toB=Dp bs 0 (-1) j:=congrArg D.toB (jR _ c);have e:(gD (cO bs 0 a) j).toB=Dp bs 0 a j:=congrArg D.toB (jR _ c);have f:((gD (cO bs 0 (-1)) j).toB&&!(gD (cO bs 0 a) j).toB)=dB bs a j:=by
    rw[e1,e];unfold dB;rw[l,Bool.true_and]
   have h:(aM bs.length (eZ g a (.l (aZ bs.length (λi=>decide (i<j)&&dB bs a i))))).set a (.l ((D.els (gD (aM bs.length (eZ g a (.l (aZ bs.length (λi=>decide (i<j)&&dB bs a i))))) a)).set j (.b ((gD (cO bs 0 (-1)) j).toB&&!(gD (cO bs 0 a) j).toB))))=aM bs.length (eZ g a (.l (aZ bs.length (λi=>decide (i<j+1)&&dB bs a i)))):=by rw[hg,f,mW,GR];show aM bs.length (eZ g a (.l ((aZ bs.length (λi=>decide (i<j)&&dB bs a i)).set j (.b (dB bs a j)))))=_;rw[Yd _ c]
   rw[<-h];rfl
 ·show Ev _ _ (vR _) _;unfold vR;exact aJ (aX _) (bG rfl)
include h0
theorem aEL:fC DB 2 [.i (bs.length:Int),.i (bs.length:Int),.i 0,.l (nD bs),.l (List.replicate bs.length (D.l [])),.l (cO bs 0 (-1))] (0,[.l (fT bs)]):=by
 have l:=hT.1;unfold eL at l;have r:(cO bs 0 (-1)).length=bs.length:=by unfold cO;exact eN _ _
 rw[Th bs.length (λa=>.l (aZ bs.length (dB bs a))) (.l [])];have m:fT bs=aM bs.length (gT (λa=>.l (aZ bs.length (dB bs a))) (.l []) bs.length):=(M2 _ _ _).symm;rw[m];refine cI DC (λj=>[.i (bs.length:Int),.i (bs.length:Int),.i (j:Int),.l (nD bs),.l (aM bs.length (gT (λa=>.l (aZ bs.length (dB bs a))) (.l []) j)),.l (cO bs 0 (-1))]) bs.length (λj c=>?_) ?_
 ·have e1:(gD (cO bs 0 (-1)) j).toB=Dp bs 0 (-1) j:=congrArg D.toB (jR _ c);have d:(aM bs.length (gT (λa=>.l (aZ bs.length (dB bs a))) (.l []) j)).set j (.l (List.replicate bs.length (.b false)))=aM bs.length (eZ (gT (λa=>.l (aZ bs.length (dB bs a))) (.l []) j) j (.l (List.replicate bs.length (.b false)))):=mW _ _;have f:aM bs.length (eZ (gT (λa=>.l (aZ bs.length (dB bs a))) (.l []) j) j (.l (aZ bs.length (dB bs j))))=aM bs.length (gT (λa=>.l (aZ bs.length (dB bs a))) (.l []) (j+1)):=(mW _ _).symm.trans (Tg rfl);have hx:=nx c hT.1.sane [.i (bs.length:Int),.i (bs.length:Int)] [.l (nD bs),.l (aM bs.length (gT (λa=>.l (aZ bs.length (dB bs a))) (.l []) (j+1))),.l (cO bs 0 (-1))];show Ev _ _ (vQ _) _;unfold vQ;refine aC (aW c) (aC ?_ (aC ?_ (aC ?_ ?_)))
  ·show(cP 0 (bs.length:Int)&&(aD (bs.length:Int) (bs.length:Int)&&iP (Int.toNat (bs.length:Int)) 1))=true;rw[jA (by omega),pF];exact eM (by show bs.length<=_;omega) (by omega)
  ·show aA (j:Int) (aM bs.length _).length=true;rw[cQ];exact aE c
  ·show aA (j:Int) (cO bs 0 (-1)).length=true;rw[r];exact aE c
  ·cases e:Dp bs 0 (-1) j with
   |false=>
    refine aC ((congrArg Bool.not e1).trans (congrArg Bool.not e)) (aO (hx.trans ?_));have h:aZ bs.length (dB bs j)=List.replicate bs.length (.b false):=by rw[<-lZ];refine mA λi _=>?_;unfold dB;rw[e];rfl
    rw[<-f,h,<-d];rfl
   |true=>have g:=aEK bs hT j c e (gT (λa=>.l (aZ bs.length (dB bs a))) (.l []) j);rw[f,<-d]at g;exact aJ ((congrArg Bool.not e1).trans (congrArg Bool.not e)) (bK (M3 bs hT h0 j) rfl (aP g (bD (aO hx))))
 ·show Ev _ _ (vQ _) _;unfold vQ;exact aJ (aX _) (bG rfl)
theorem Ym:iS E aY sites In [pM nm o ps r bs] (.l (fT bs)) []:=by
 have g:=hT.1;unfold eL at g;refine bA DC (by rfl) rfl ?_;show Ev _ _ (SA _) _;unfold SA;have l:fC DB 0 [.i (bs.length:Int),.i 0,.i (bs.length:Int),.s nm,.b o,.l ps,.i r,.l bs,.l (List.replicate bs.length (D.l []))] (0,[.i (bs.length:Int),.s nm,.b o,.l ps,.i r,.l bs,.l (nD bs)]):=by
  rw[Th bs.length (λb=>.l ((aU bs (b:Int)).map iD)) (.l [])];have m:nD bs=aM bs.length (gT (λb=>.l ((aU bs (b:Int)).map iD)) (.l []) bs.length):=(M2 _ _ _).symm;rw[m];refine cI DC (λj=>[.i (bs.length:Int),.i (j:Int),.i (bs.length:Int),.s nm,.b o,.l ps,.i r,.l bs,.l (aM bs.length (gT (λb=>.l ((aU bs (b:Int)).map iD)) (.l []) j))]) bs.length (λj d=>?_) ?_
  ·have f:=Tg (n:=bs.length) (c:=j) (h:=λb=>.l ((aU bs (b:Int)).map iD)) (z:=.l []) (w:=.l ((aU bs (j:Int)).map iD)) rfl;have hx:=nx d hT.1.sane [.i (bs.length:Int)] [.i (bs.length:Int),.s nm,.b o,.l ps,.i r,.l bs,.l (aM bs.length (gT (λb=>.l ((aU bs (b:Int)).map iD)) (.l []) (j+1)))];show Ev _ _ (vP _) _;unfold vP;refine aC (aW d) (bK (JE nm o ps r bs hT (j:Int)) rfl (aC ?_ (aO (hx.trans ?_))))
   ·show aA (j:Int) (aM bs.length _).length=true;rw[cQ];exact aE d
   ·rw[<-f];rfl
  ·show Ev _ _ (vP _) _;unfold vP;exact aJ (aX _) (bG rfl)
 have e:(cP 0 (bs.length:Int)&&(aD (bs.length:Int) (bs.length:Int)&&iP (Int.toNat (bs.length:Int)) 24))=true:=by rw[jA (by omega),pF];exact eM (by show bs.length<=_;omega) (by omega)
 exact aC e (aP l (bD (bK (QG nm o ps r bs hT h0) rfl (aC e (aP (aEL bs hT h0) (bD (bJ rfl rfl)))))))
omit h0 in
theorem v8(b:Nat)(P:b<bs.length)(a6:RA bs 0 (-1) b)(g:Nat->Int):
  ∃x:Int,Yk bs bs.length b x/\fC rT 2 [.l (fT bs),.i (b:Int),.i 0,.i (b:Int),.i (bs.length:Int),.i ((fT bs).length:Int),.l (aM bs.length (eZ (λi=>.i (g i)) b (.i (-1))))] (0,[.l (fT bs),.i (b:Int),.i (bs.length:Int),.l (aM bs.length (eZ (λi=>.i (g i)) b (.i x)))]):=by
 refine DI yL (λj(x:Int)=>[.l (fT bs),.i (b:Int),.i (j:Int),.i (b:Int),.i (bs.length:Int),.i ((fT bs).length:Int),.l (aM bs.length (eZ (λi=>.i (g i)) b (.i x)))]) bs.length (λx=>(0,[.l (fT bs),.i (b:Int),.i (bs.length:Int),.l (aM bs.length (eZ (λi=>.i (g i)) b (.i x)))])) (λc x=>Yk bs c b x) (λj x v hx=>?_) (λx hx=>?_) (s0:=-1) ⟨.inl ⟨rfl,λi h=>absurd h (by omega)⟩⟩
 ·have hd:∀{a c:Nat},a<bs.length->c<bs.length->D.toB (gE (gD (fT bs) a) c)=dB bs a c:=λ{a c}f s=>by
   rw[WJ f];exact congrArg D.toB (jR _ s)
  have a3:∀{a:Nat},a<bs.length->nE (gD (fT bs) a)=bs.length:=λ{a}f=>by rw[WJ f];exact eN _ _
  have T:∀V:Int,[D.l (fT bs),.i (b:Int),.i ((j+1:Nat):Int),.i (b:Int),.i (bs.length:Int),.i ((fT bs).length:Int),.l (aM bs.length (eZ (λi=>.i (g i)) b (.i V)))]=[D.l (fT bs),.i (b:Int),.i (aG .i64 (j:Int) 1),.i (b:Int),.i (bs.length:Int),.i ((fT bs).length:Int),.l (aM bs.length (eZ (λi=>.i (g i)) b (.i V)))]:=λV=>nx v hT.1.sane [_,_] _;have G:aT (j:Int) ((fT bs).length:Int)=true:=by rw[AB];exact aW v
  have H:aA (j:Int) (fT bs).length=true:=by rw[AB];exact aE v
  have J:aA (b:Int) (nE (gD (fT bs) j))=true:=by rw[a3 v];exact aE P
  have W:((aD (j:Int) (b:Int))||(!(D.toB (gE (gD (fT bs) j) b))))=(decide (j=b)||!(dB bs j b)):=by
   rw[hd v P];by_cases e:j=b
   ·subst e;rw[pF,decide_eq_true rfl]
   ·rw[lY (by omega),decide_eq_false e]
  cases e:(decide (j=b)||!(dB bs j b))with
  |true=>
   refine⟨x,⟨?_⟩,?_⟩
   ·have key:∀i,i<j+1->i≠b->dB bs i b=true->i<j:=λi f s F=>by
     by_cases m:i=j
     ·subst m;rw[decide_eq_false s,F]at e;cases e
     ·omega
    rcases hx.or with⟨f,s⟩ |⟨d,f,s,F,K,L⟩
    ·refine .inl ⟨f,λi C l=>?_⟩;cases r:dB bs i b with
     |false=>rfl
     |true=>have:=s i (key i C l r) l;rw[this]at r;cases r
    ·exact .inr ⟨d,f,by omega,F,K,λi C l t=>L i (key i C l t) l t⟩
   ·show Ev _ _ (eW _) _;unfold eW;exact aC G (aC (aH H) (aC (aH J) (aC (W.trans e) (aO (T x)))))
  |false=>
   have a5:=e;rw[Bool.or_eq_false_iff,decide_eq_false_iff_not]at e;have Q:dB bs j b=true:=by
    cases m:dB bs j b with
    |true=>rfl
    |false=>rw[m]at e;cases e.2
   have a2:=(BF.1 Q).1;have hg:(gD (aM bs.length (eZ (λi=>.i (g i)) b (.i x))) b).toI=x:=congrArg D.toI ((dU _ P).trans (eP _ _ _));have u:aA (b:Int) (aM bs.length (eZ (λi=>.i (g i)) b (.i x))).length=true:=by rw[cQ];exact aE P
   have a4:(aM bs.length (eZ (λi=>.i (g i)) b (.i x))).set b (.i (j:Int))=aM bs.length (eZ (λi=>.i (g i)) b (.i (j:Int))):=by rw[mW,GR]
   have U:((aD (j:Int) (b:Int))||(!(D.toB (gE (gD (fT bs) j) b))))=false:=W.trans a5;rcases hx.or with⟨f,s⟩ |⟨d,f,s,F,K,L⟩
   ·have y:aT (gD (aM bs.length (eZ (λi=>.i (g i)) b (.i x))) b).toI 0=true:=by rw[hg,f];rfl
    refine⟨(j:Int),⟨.inr ⟨j,rfl,by omega,e.1,Q,λi C l t=>?_⟩⟩,?_⟩
    ·by_cases m:i=j
     ·subst m;exact NC a2
     ·rw[s i (by omega) l]at t;cases t
    ·show Ev _ _ (eW _) _;unfold eW;refine aC G (aC (aH H) (aC (aH J) (aJ U (aC u (aC (aH u) (aC (SW (V5 y)) (aC (SW (V5 y)) (aC (SW y) (aC u (aO ((T _).trans ?_)))))))))));rw[<-a4];rfl
   ·have y:aA (gD (aM bs.length (eZ (λi=>.i (g i)) b (.i x))) b).toI (fT bs).length=true:=by rw[hg,f,AB];exact aE (by omega)
    have a1:Int.toNat (gD (aM bs.length (eZ (λi=>.i (g i)) b (.i x))) b).toI=d:=by rw[hg,f];rfl
    have Y:aA (j:Int) (nE (gD (fT bs) (Int.toNat (gD (aM bs.length (eZ (λi=>.i (g i)) b (.i x))) b).toI)))=true:=by rw[a1,a3 (by omega)];exact aE v
    have a0:((aT (gD (aM bs.length (eZ (λi=>.i (g i)) b (.i x))) b).toI 0)||(D.toB (gE (gD (fT bs) (Int.toNat (gD (aM bs.length (eZ (λi=>.i (g i)) b (.i x))) b).toI)) j)))=dB bs d j:=by rw[a1,hd (by omega) v,hg,f,MT (by omega)];rfl
    cases r:dB bs d j with
    |true=>
     refine⟨(j:Int),⟨.inr ⟨j,rfl,by omega,e.1,Q,λi C l t=>?_⟩⟩,?_⟩
     ·by_cases m:i=j
      ·subst m;exact NC a2
      ·exact OV (L i (by omega) l t) r
     ·show Ev _ _ (eW _) _;unfold eW;refine aC G (aC (aH H) (aC (aH J) (aJ U (aC u (aC (aH u) (aC (aH y) (aC (aH Y) (aC (a0.trans r) (aC u (aO ((T _).trans ?_)))))))))));rw[<-a4];rfl
    |false=>
     refine⟨x,⟨.inr ⟨d,f,by omega,F,K,λi C l t=>?_⟩⟩,?_⟩
     ·by_cases m:i=j
      ·subst m;rcases aDe K Q with h |h
       ·rw[h]at r;cases r
       ·exact h
      ·exact L i (by omega) l t
     ·show Ev _ _ (eW _) _;unfold eW;exact aC G (aC (aH H) (aC (aH J) (aJ U (aC u (aC (aH u) (aC (aH y) (aC (aH Y) (aJ (a0.trans r) (aO (T x))))))))))
 ·show Ev _ _ (eW _) _;unfold eW;refine aJ ?_ (bG rfl);show aT (bs.length:Int) ((fT bs).length:Int)=false;rw[AB];exact aX _
omit h0 in
theorem M5(s:∀b,b<bs.length->RA bs 0 (-1) b):∃g:Nat->Int,(∀b,b<bs.length->Yk bs bs.length b (g b))/\iS E aY sites LW [.l (fT bs)] (.l (aM bs.length λb=>.i (g b))) []:=by
 have t:=hT.1;unfold eL at t;have u:∃g:Nat->Int,(∀b,b<bs.length->Yk bs bs.length b (g b))/\fC rT 0 [.l (fT bs),.i 0,.i (bs.length:Int),.l (aM bs.length λ_=>.i 0)] (0,[.l (aM bs.length λb=>.i (g b))]):=by
  refine DI yL (λj(g:Nat->Int)=>[.l (fT bs),.i (j:Int),.i (bs.length:Int),.l (aM bs.length λb=>.i (g b))]) bs.length (λg=>(0,[.l (aM bs.length λb=>.i (g b))])) (λc g=>∀b,b<c->Yk bs bs.length b (g b)) (λj g d hg=>?_) (λg hg=>?_) (s0:=λ_=>0) (λb m=>absurd m (by omega))
  ·obtain⟨x,l,f⟩:=v8 bs hT j d (s j d) g;have e1:aM bs.length (eZ (λi=>.i (g i)) j (.i x))=aM bs.length λi=>.i ((λi=>if i=j then x else g i) i):=dL λi _=>by
    by_cases e:i=j
    ·subst e;rw[eP];simp
    ·rw[mV _ _ e];simp[e]
   have h:(aM bs.length λb=>.i (g b)).set j (.i (-1))=aM bs.length (eZ (λi=>.i (g i)) j (.i (-1))):=mW _ _;have v:(List.replicate bs.length (D.i 0)).length=bs.length:=List.length_replicate;rw[<-h]at f;refine⟨λi=>if i=j then x else g i,λb m=>?_,?_⟩
   ·by_cases e:b=j
    ·subst e;simpa using l
    ·simpa[e]using hg b (by omega)
   ·show Ev _ _ (oQ _) _;unfold oQ;refine aC (aW d) (aC ?_ (aP f (bD (aO ((nx d hT.1.sane [_] _).trans ?_)))))
    ·show aA (j:Int) (aM bs.length _).length=true;rw[cQ];exact aE d
    ·show[D.l (fT bs),.i (aG .i64 (j:Int) 1),.i (bs.length:Int),.l (aM bs.length λi=>.i ((λi=>if i=j then x else g i) i))]=_;rw[<-e1];rfl
  ·show Ev _ _ (oQ _) _;unfold oQ;exact aJ (aX _) (bG rfl)
 obtain⟨g,l,f⟩:=u;refine⟨g,l,bA yL (by rfl) rfl ?_⟩;show Ev _ _ (FL _) _;unfold FL;have e1:(aM bs.length λ_=>D.i 0)=List.replicate (fT bs).length (D.i 0):=by rw[AB,qT]
 have h:(List.replicate (fT bs).length (D.i 0)).length=bs.length:=by rw[List.length_replicate,AB]
 have r:fC rT 0 [.l (fT bs),.i 0,.i ((List.replicate (fT bs).length (D.i 0)).length:Int),.l (List.replicate (fT bs).length (D.i 0))] (0,[.l (aM bs.length λb=>.i (g b))]):=by rw[h,<-e1];exact f
 refine aC ?_ (aP r (bD (bJ rfl rfl)));show(cP 0 ((fT bs).length:Int)&&(aD ((fT bs).length:Int) ((fT bs).length:Int)&&iP (Int.toNat ((fT bs).length:Int)) 8))=true;rw[AB,jA (by omega),pF];exact eM (by show bs.length<=_;omega) (by omega)
theorem Yn(e:∀b,b<bs.length->RA bs 0 (-1) b):∃g:Nat->Int,(∀b,b<bs.length->Yk bs bs.length b (g b))/\iS E aY sites Il [pM nm o ps r bs] (.l (aM bs.length λb=>.i (g b))) []:=by obtain⟨g,c,d⟩:=M5 bs hT e;refine⟨g,c,bA Iq (by rfl) rfl ?_⟩;show Ev _ _ (RV _) _;unfold RV;exact bK (Ym nm o ps r bs hT h0) rfl (bK d rfl (bJ rfl rfl))
end
end Go.Eng.Q

namespace Go.Eng.Q
open Go.Eng
theorem Yo(n:Nat)(f:Nat->D):aM n f++[f n]=aM (n+1) f:=by simp[aM,List.range_succ]
theorem aB2{l:List D}{n k:Nat}(h:k<n):gD (l.take n) k=gD l k:=by simp[gD,List.getD,List.getElem?_take,h]
noncomputable def PE(np:Nat)(bs:List D)(v:Nat):D:=.i (bif Nat.ble v np then 0 else(Tv np bs v).1)
theorem aB3{np:Nat}{bs:List D}{v:Nat}(h:v<=np):PE np bs v=.i 0:=by unfold PE;rw[Nat.ble_eq_true_of_le h];rfl
theorem Ke{np:Nat}{bs:List D}{v:Nat}(h:np<v):PE np bs v=.i (Tv np bs v).1 :=by
 unfold PE;have:Nat.ble v np=false:=by
  cases e:Nat.ble v np with
  |false=>rfl
  |true=>have:=Nat.le_of_ble_eq_true e;omega
 rw[this];rfl
theorem Ti(np:Nat)(bs:List D)(b k:Nat):np<kU np bs b k:=by have:=MZ np bs b;unfold kU;omega
section
variable(nm:List UInt8)(o:Bool)(ps:List D)(r:Int)(bs:List D)(hp:eL ps)(hT:fF bs)
include hp hT
theorem aDf(n b:Nat)(j:n<=bs.length)(f:b<n):
  fC IU 2 [.l (gD (bs.take n) b).els,.i (aK ps.length bs b:Int),.i ((bs.take n).length:Int),.i 0,.l (bs.take n),.i ((gD (bs.take n) b).els.length:Int),.i (b:Int)] (0,[.i (aK ps.length bs (b+1):Int),.i ((bs.take n).length:Int),.l (bs.take n),.i (b:Int)]):=by
 have g:=hT.1;unfold eL at g;rw[aB2 f];have d:=(hT.2 b (by omega)).ins.sane;have h:=GU ps bs hp hT;refine cI IV (λk=>[.l (gD bs b).els,.i ((aK ps.length bs b+dV (gD bs b).els k:Nat):Int),.i ((bs.take n).length:Int),.i (k:Int),.l (bs.take n),.i ((gD bs b).els.length:Int),.i (b:Int)]) (gD bs b).els.length (λk c=>?_) ?_
 ·have l:=Kb (np:=ps.length) (show b<bs.length by omega) (Nat.le_of_lt c);show Ev _ _ (vO _) _;unfold vO;refine aC (aW c) (aC (aE c) ?_);cases e:dY (gD (gD bs b).els k)with
  |true=>
   have e1:((aK ps.length bs b+dV (gD bs b).els (k+1):Nat):Int)=aG .i64 ((aK ps.length bs b+dV (gD bs b).els k:Nat):Int) 1:=by rw[Te (by omega),Cx e];rfl
   refine aC e (aO ((nx c d [_,_,_] _).trans ?_));show[D.l (gD bs b).els,.i ((aK ps.length bs b+dV (gD bs b).els (k+1):Nat):Int),.i ((bs.take n).length:Int),.i (aG .i64 (k:Int) 1),.l (bs.take n),.i ((gD bs b).els.length:Int),.i (b:Int)]=_;rw[e1];rfl
  |false=>refine aJ e (aO ((nx c d [_,_,_] _).trans ?_));show[D.l (gD bs b).els,.i ((aK ps.length bs b+dV (gD bs b).els (k+1):Nat):Int),.i ((bs.take n).length:Int),.i (aG .i64 (k:Int) 1),.l (bs.take n),.i ((gD bs b).els.length:Int),.i (b:Int)]=_;rw[Ka e];rfl
 ·show Ev _ _ (vO _) _;unfold vO;exact aJ (aX _) (bG rfl)
theorem Yp(n:Nat)(g:n<=bs.length):iS E aY sites Im [pM nm o ps r bs,.i (n:Int)] (.i (aK ps.length bs n:Int)) []:=by
 refine bA IV (by rfl) rfl ?_;show Ev _ _ (RZ _) _;unfold RZ;have e:=hT.1;unfold eL at e;have d:(bs.take n).length=n:=by rw[List.length_take];omega
 have f:fC IU 0 [.i (ps.length:Int),.i ((bs.take n).length:Int),.l (bs.take n),.i 0] (0,[.i (aK ps.length bs n:Int)]):=by
  refine cI IV (λj=>[.i (aK ps.length bs j:Int),.i ((bs.take n).length:Int),.l (bs.take n),.i (j:Int)]) n (λj c=>?_) ?_
  ·show Ev _ _ (vN _) _;unfold vN;refine aC ?_ (aC ?_ (aP (aDf ps bs hp hT n j g c) (bD (aO (nx c (by omega) [_,_,_] [])))))
   ·show aT (j:Int) ((bs.take n).length:Int)=true;rw[d];exact aW c
   ·show aA (j:Int) (bs.take n).length=true;rw[d];exact aE c
  ·show Ev _ _ (vN _) _;unfold vN;refine aJ ?_ (bG rfl);show aT (n:Int) ((bs.take n).length:Int)=false;rw[d];exact aX _
 refine aC ?_ (aP f (bD (bJ rfl rfl)));show jT 0 (n:Int) (bs.length:Int)=true;unfold jT;rw[jA (by omega),jA (by omega),jA (by omega)];rfl
theorem aEM(b:Nat)(d:b<bs.length)(m:JF ps.length bs b=false):
  fC qO 2 [.i (aK ps.length bs b:Int),.i (b:Int),.i ((gD bs b).els.length:Int),.i (bs.length:Int),.l (gD bs b).els,.l bs,.i 0,.i (b:Int),.s nm,.b o,.l ps,.i r,.l bs,.l (aM (aK ps.length bs b+1) (PE ps.length bs))]
   (1,[.i (aK ps.length bs (b+1):Int),.i (bs.length:Int),.l bs,.i (b:Int),.s nm,.b o,.l ps,.i r,.l bs,.l (aM (aK ps.length bs (b+1)+1) (PE ps.length bs))]):=by
 have s:=(hT.2 b d).ins.sane;have t:=GU ps bs hp hT;refine cI qP (λk=>[.i ((aK ps.length bs b+dV (gD bs b).els k:Nat):Int),.i (b:Int),.i ((gD bs b).els.length:Int),.i (bs.length:Int),.l (gD bs b).els,.l bs,.i (k:Int),.i (b:Int),.s nm,.b o,.l ps,.i r,.l bs,.l (aM (aK ps.length bs b+dV (gD bs b).els k+1) (PE ps.length bs))]) (gD bs b).els.length (λk c=>?_) ?_
 ·have u:=Kb (np:=ps.length) d (Nat.le_of_lt c);have hx:∀n h,[D.i n,.i (b:Int),.i ((gD bs b).els.length:Int),.i (bs.length:Int),.l (gD bs b).els,.l bs,.i ((k+1:Nat):Int),.i (b:Int),.s nm,.b o,.l ps,.i r,.l bs,.l h]=[D.i n,.i (b:Int),.i ((gD bs b).els.length:Int),.i (bs.length:Int),.l (gD bs b).els,.l bs,.i (aG .i64 (k:Int) 1),.i (b:Int),.s nm,.b o,.l ps,.i r,.l bs,.l h]:=λn h=>nx c s [_,_,_,_,_,_] _;show Ev _ _ (zM _) _;unfold zM;refine aC (aW c) (aC (aE c) ?_);cases e:dY (gD (gD bs b).els k)with
  |false=>
   have f:aD (vI (gD (gD bs b).els k) 1) 0=true:=by
    unfold dY at e;cases g:aD (vI (gD (gD bs b).els k) 1) 0 with
    |true=>rfl
    |false=>rw[g]at e;cases e
   refine aC f (aO ?_);show[D.i ((aK ps.length bs b+dV (gD bs b).els (k+1):Nat):Int),.i (b:Int),.i ((gD bs b).els.length:Int),.i (bs.length:Int),.l (gD bs b).els,.l bs,.i ((k+1:Nat):Int),.i (b:Int),.s nm,.b o,.l ps,.i r,.l bs,.l (aM (aK ps.length bs b+dV (gD bs b).els (k+1)+1) (PE ps.length bs))]=_;rw[Ka e];exact hx _ _
  |true=>
   have f:aD (vI (gD (gD bs b).els k) 1) 0=false:=pG.1 e;have ht:=bQ.1 m k c;unfold Cy at ht;rw[e,Bool.true_and]at ht;have e1:aG .i64 ((aK ps.length bs b+dV (gD bs b).els k:Nat):Int) 1=((kU ps.length bs b k:Nat):Int):=Te (by omega);have j:aK ps.length bs b+dV (gD bs b).els (k+1)=kU ps.length bs b k:=by rw[Cx e];rfl
   have l:PE ps.length bs (kU ps.length bs b k)=.i (b:Int):=by rw[Ke (Ti _ _ _ _),EZ (q:=(b,k)) ⟨d,c,e,rfl⟩]
   have hv:=Tf (np:=ps.length) d c e;refine aJ f (aJ ((congrArg (λn=>!(aD (vI (gD (gD bs b).els k) 2) n)) e1).trans ht) (aC ?_ (aO ?_)))
   ·show iP ((aM _ _).length+1) 8=true;rw[cQ];exact eM (by omega) (by omega)
   ·show[D.i ((aK ps.length bs b+dV (gD bs b).els (k+1):Nat):Int),.i (b:Int),.i ((gD bs b).els.length:Int),.i (bs.length:Int),.l (gD bs b).els,.l bs,.i ((k+1:Nat):Int),.i (b:Int),.s nm,.b o,.l ps,.i r,.l bs,.l (aM (aK ps.length bs b+dV (gD bs b).els (k+1)+1) (PE ps.length bs))]=_;rw[j,<-Yo,l,<-e1];exact hx _ _
 ·show Ev _ _ (zM _) _;unfold zM;exact aJ (aX _) (bG rfl)
theorem aEN(d:dS bs.length (JF ps.length bs)=false):
  fC qO 0 [.i (ps.length:Int),.i (bs.length:Int),.l bs,.i 0,.s nm,.b o,.l ps,.i r,.l bs,.l (aM (ps.length+1) (PE ps.length bs))]
   (1,[.i (aK ps.length bs bs.length:Int),.s nm,.b o,.l ps,.i r,.l bs,.l (aM (aK ps.length bs bs.length+1) (PE ps.length bs))]):=by
 refine cI qP (λj=>[.i (aK ps.length bs j:Int),.i (bs.length:Int),.l bs,.i (j:Int),.s nm,.b o,.l ps,.i r,.l bs,.l (aM (aK ps.length bs j+1) (PE ps.length bs))]) bs.length (λj c=>?_) ?_
 ·show Ev _ _ (zL _) _;unfold zL;exact aC (aW c) (aC (aE c) (aP (aEM nm o ps r bs hp hT j c (bQ.1 d j c)) (eB (bD (aO (nx c hT.1.sane [_,_,_] _))))))
 ·show Ev _ _ (zL _) _;unfold zL;exact aJ (aX _) (bG rfl)
structure Up(bs:List D)(b:Nat)(q:Int×(Nat->Bool)):Prop where
 or:(q.1=-1/\∀i,q.2 i=dB bs i b)\/∃d:Nat,q.1=d/\dB bs d b=true/\(∀i,q.2 i=true->dB bs i b=true/\dB bs d i=true/\i≠d)/\∀i,dB bs i b=true->q.2 i=true\/dB bs i d=true
omit hp hT in
theorem aEO(b:Nat)(Q:b<bs.length)(a3:RA bs 0 (-1) b)(g:Nat->Int)(hg:∀i,i<bs.length->Yk bs bs.length i (g i))(t:Nat->D)(n:Int)(v:List D):
  fC qO 6 [.i n,.i (b:Int),.i (b:Int),.i (bs.length:Int),.i (b:Int),.s nm,.b o,.l ps,.i r,.l bs,.l (aM bs.length (eZ t b (.l (List.replicate bs.length (.b false))))),.l v,.l (aM bs.length λi=>.i (g i))]
   (0,[.i n,.i (b:Int),.i (bs.length:Int),.s nm,.b o,.l ps,.i r,.l bs,.l (aM bs.length (eZ t b (.l (aZ bs.length λi=>dB bs i b)))),.l v,.l (aM bs.length λi=>.i (g i))]):=by
 rw[<-lZ];have h:=GM qP (b:=6) (λ(q:Int×(Nat->Bool))=>[.i n,.i (b:Int),.i (b:Int),.i (bs.length:Int),.i q.1,.s nm,.b o,.l ps,.i r,.l bs,.l (aM bs.length (eZ t b (.l (aZ bs.length q.2)))),.l v,.l (aM bs.length λi=>.i (g i))]) (Up bs b) (λq=>rV bs.length q.2)
  (λu=>u=(0,[.i n,.i (b:Int),.i (bs.length:Int),.s nm,.b o,.l ps,.i r,.l bs,.l (aM bs.length (eZ t b (.l (aZ bs.length λi=>dB bs i b)))),.l v,.l (aM bs.length λi=>.i (g i))])) (λq a2=>?_) (s0:=((b:Int),λ_=>false))
  ⟨.inr ⟨b,rfl,NC a3,λi h=>(by cases h),λi h=>.inr h⟩⟩
 ·obtain⟨u,m,j⟩:=h;subst m;exact j
 ·obtain⟨x,f⟩:=q;rcases a2.or with⟨m,j⟩ |⟨d,m,j,s,H⟩
  ·simp only at m j;subst m;refine .inl ⟨_,rfl,?_⟩;show Ev _ _ (zO _) _;unfold zO;have e:f=λi=>dB bs i b:=funext j;rw[e];exact aJ rfl (bG rfl)
  ·simp only at m s H;subst m;have hd:=(M4 j).1;have a0:f d=false:=by
    cases e:f d with
    |false=>rfl
    |true=>exact absurd rfl (s d e).2.2
   have T:=GN f d;have a1:Up bs b (g d,rU f d):=by
    rcases(hg d hd).or with⟨G,P⟩ |⟨e,G,P,W,y,Y⟩
    ·refine⟨.inl ⟨G,λi=>?_⟩⟩;show rU f d i=dB bs i b;by_cases c:i=d
     ·subst c;rw[jS,j]
     ·rw[BC f c];cases F:f i with
      |true=>rw[(s i F).1]
      |false=>
       cases L:dB bs i b with
       |false=>rfl
       |true=>
        rcases H i L with l |l
        ·rw[l]at F;cases F
        ·have:=P i (M4 L).1 c;rw[this]at l;cases l
    ·refine⟨.inr ⟨e,G,OV y j,λi C=>?_,λi C=>?_⟩⟩
     ·by_cases c:i=d
      ·subst c;exact⟨j,y,λh=>W h.symm⟩
      ·have J:f i=true:=by rw[<-BC f c];exact C
       refine⟨(s i J).1,OV y (s i J).2.1,λh=>?_⟩;subst h;exact c (Yj y (s i J).2.1)
     ·by_cases c:i=d
      ·left;subst c;exact jS f i
      ·rcases H i C with l |l
       ·exact .inl (T i l)
       ·exact .inr (Y i (M4 C).1 c l)
   refine .inr ⟨(g d,rU f d),a1,JD bs.length T hd a0 (jS f d),?_⟩;have K:gD (aM bs.length (eZ t b (.l (aZ bs.length f)))) b=.l (aZ bs.length f):=(dU _ Q).trans (eP _ _ _);have U:(gD (aM bs.length λi=>.i (g i)) d).toI=g d:=congrArg D.toI (dU (λi=>D.i (g i)) hd);have V:(aM bs.length (eZ t b (.l (aZ bs.length f)))).set b (.l ((D.els (gD (aM bs.length (eZ t b (.l (aZ bs.length f)))) b)).set d (.b true)))=aM bs.length (eZ t b (.l (aZ bs.length (rU f d)))):=by rw[K,mW,GR];show aM bs.length (eZ t b (.l ((aZ bs.length f).set d (.b true))))=_;rw[yC f hd]
   show Ev _ _ (zO _) _;unfold zO;refine aC (jA (by show(0:Int)<=(d:Int);omega)) (aC ?_ (aC ?_ (aC ?_ (aO ?_))))
   ·show aA (b:Int) (aM bs.length _).length=true;rw[cQ];exact aE Q
   ·show aA (d:Int) (D.els (gD (aM bs.length (eZ t b (.l (aZ bs.length f)))) b)).length=true;rw[K];show aA (d:Int) (aZ bs.length f).length=true;rw[eN];exact aE hd
   ·show aA (d:Int) (aM bs.length _).length=true;rw[cQ];exact aE hd
   ·show[D.i n,.i (b:Int),.i (b:Int),.i (bs.length:Int),.i (g d),.s nm,.b o,.l ps,.i r,.l bs,.l (aM bs.length (eZ t b (.l (aZ bs.length (rU f d))))),.l v,.l (aM bs.length λi=>.i (g i))]=_;rw[<-V,<-U];rfl
noncomputable def nG(bs:List D):List D:=aM bs.length λb=>.l (aZ bs.length λi=>dB bs i b)
omit hp in
theorem aEP(l:∀b,b<bs.length->RA bs 0 (-1) b)(g:Nat->Int)(hg:∀i,i<bs.length->Yk bs bs.length i (g i))(n:Int)(d:List D):
  fC qO 4 [.i n,.i 0,.i ((List.replicate bs.length (D.l [])).length:Int),.s nm,.b o,.l ps,.i r,.l bs,.l (List.replicate bs.length (D.l [])),.l d,.l (aM bs.length λi=>.i (g i))]
   (0,[.i n,.s nm,.b o,.l ps,.i r,.l bs,.l (nG bs),.l d]):=by
 have m:=hT.1;unfold eL at m;have t:(List.replicate bs.length (D.l [])).length=bs.length:=List.length_replicate;rw[t,Th bs.length (λb=>.l (aZ bs.length λi=>dB bs i b)) (.l [])];have s:nG bs=aM bs.length (gT (λb=>.l (aZ bs.length λi=>dB bs i b)) (.l []) bs.length):=(M2 _ _ _).symm;rw[s];refine cI qP (λj=>[.i n,.i (j:Int),.i (bs.length:Int),.s nm,.b o,.l ps,.i r,.l bs,.l (aM bs.length (gT (λb=>.l (aZ bs.length λi=>dB bs i b)) (.l []) j)),.l d,.l (aM bs.length λi=>.i (g i))]) bs.length (λj c=>?_) ?_
 ·have e:=aEO nm o ps r bs j c (l j c) g hg (gT (λb=>.l (aZ bs.length λi=>dB bs i b)) (.l []) j) n d;have f:(aM bs.length (gT (λb=>.l (aZ bs.length λi=>dB bs i b)) (.l []) j)).set j (.l (List.replicate bs.length (.b false)))=aM bs.length (eZ (gT (λb=>.l (aZ bs.length λi=>dB bs i b)) (.l []) j) j (.l (List.replicate bs.length (.b false)))):=mW _ _;have h:aM bs.length (eZ (gT (λb=>.l (aZ bs.length λi=>dB bs i b)) (.l []) j) j (.l (aZ bs.length λi=>dB bs i j)))=aM bs.length (gT (λb=>.l (aZ bs.length λi=>dB bs i b)) (.l []) (j+1)):=(mW _ _).symm.trans (Tg rfl);rw[h,<-f]at e;show Ev _ _ (zN _) _;unfold zN;refine aC (aW c) (aC ?_ (aC ?_ (aP e (bD (aO (nx c hT.1.sane [_] _))))))
  ·show(cP 0 (bs.length:Int)&&(aD (bs.length:Int) (bs.length:Int)&&iP (Int.toNat (bs.length:Int)) 1))=true;rw[jA (by omega),pF];exact eM (by show bs.length<=_;omega) (by omega)
  ·show aA (j:Int) (aM bs.length _).length=true;rw[cQ];exact aE c
 ·show Ev _ _ (zN _) _;unfold zN;exact aJ (aX _) (bG rfl)
end
end Go.Eng.Q

namespace Go.Eng.Q
open Go.Eng
theorem Ot(bs:List D):(nG bs).length=bs.length:=cQ _ _
theorem Ou{bs:List D}{b:Nat}(h:b<bs.length):gD (nG bs) b=.l (aZ bs.length λi=>dB bs i b):=dU _ h
section
variable(nm:List UInt8)(o:Bool)(ps:List D)(r:Int)(bs:List D)(hp:eL ps)(hT:fF bs)
noncomputable abbrev nO(np:Nat)(bs:List D):List D:=aM (aK np bs bs.length+1) (PE np bs)
theorem Yq{np:Nat}{b k:Nat}{x:D}{j:Nat}(W:bs.length<=10000)(L:b<bs.length)(Y:k<=(gD bs b).els.length)(h:t8 (aK np bs bs.length:Int) (DZ np bs) (fT bs) b k x j=false)(P:vI x 0=26->∃p:Nat,NB x j=p/\p<bs.length):
  ∃v:Nat,oM x j=v/\1<=v/\v<=aK np bs bs.length/\(v<=np\/np<v/\∃d:Nat,d<bs.length/\gD (nO np bs) v=.i (d:Int)/\(vI x 0=26->∃p:Nat,NB x j=p/\dB bs d p=true)/\(vI x 0≠26->d≠b/\dB bs d b=true\/d=b/\v<=aK np bs b+dV (gD bs b).els k)):=by
 unfold t8 at h;rw[Bool.or_eq_false_iff,Bool.or_eq_false_iff]at h;obtain⟨⟨H,J⟩,c⟩:=h;have T:=qD H;have U:=qD J;have hv:oM x j=((oM x j).toNat:Int):=by omega
 generalize(oM x j).toNat=v at hv;refine⟨v,hv,by omega,by omega,?_⟩;have C:v<=aK np bs bs.length:=by omega
 have hg:gD (DZ np bs) (Int.toNat (oM x j))=Ej np bs v:=by rw[hv];exact V3 C
 rcases Oo C with⟨l,g⟩ |⟨l,q,g,r⟩
 ·exact .inl l
 ·right;refine⟨l,q.1,g.b,?_,?_⟩
  ·exact(dU _ (by omega)).trans ((Ke l).trans (by rw[r]))
  ·have F:wv (DZ np bs) (oM x j) 0=(q.1:Int):=by unfold wv;rw[hg];show(Tv np bs v).1 =_;rw[r]
   have e1:wv (DZ np bs) (oM x j) 1=(q.2:Int):=by unfold wv;rw[hg];show(Tv np bs v).2 =_;rw[r]
   have u:∀{p:Nat},p<bs.length->dt (fT bs) (q.1:Int) (p:Int)=dB bs q.1 p:=λ{p}hp=>by show D.toB (gE (gD (fT bs) q.1) p)=_;rw[WJ g.b];exact congrArg D.toB (jR _ hp)
   rw[F,e1,MT (by omega)]at c;simp only[cond_false]at c;refine⟨λm=>?_,λm=>?_⟩
   ·obtain⟨p,y,Q⟩:=P m;rw[m,pF,cond_true,y,u Q]at c;exact⟨p,y,by cases e:dB bs q.1 p with|true=>rfl |false=>rw[e]at c;cases c⟩
   ·rw[lY m,cond_false,Bool.or_eq_false_iff,u L]at c;by_cases e:q.1=b
    ·right;refine⟨e,?_⟩;have f:=c.1;rw[e,pF,Bool.true_and]at f;have K:q.2<k:=by
      have:¬((k:Int)<=(q.2:Int)):=λh=>by rw[jA h]at f;cases f
      omega
     have s:=g.t;rw[e]at s;have V:=Ei K s;have t:=g.v;unfold kU at t;rw[e]at t;omega
    ·left;refine⟨e,?_⟩;have f:=c.2;rw[lY (by omega)]at f;cases G:dB bs q.1 b with
     |true=>rfl
     |false=>rw[G]at f;cases f
include hT
theorem aDg(a5:mQ bs)(hf:lP bs=true)(b k:Nat)(f:b<bs.length)(t:k<(gD bs b).els.length)(hx:Dq ps.length bs b k=false):
  fC qO 12 [.i (aK ps.length bs bs.length:Int),.i ((aK ps.length bs b+dV (gD bs b).els k:Nat):Int),.l (eX (gD (gD bs b).els k) 5),.i (bs.length:Int),.i (b:Int),.i 0,.i ((gD bs b).els.length:Int),.i ((eX (gD (gD bs b).els k) 5).length:Int),.l (gD bs b).els,.i (b:Int),.l bs,.i (k:Int),.s nm,.b o,.l ps,.i r,.l bs,.i (vI (gD (gD bs b).els k) 0),.i (vI (gD (gD bs b).els k) 1),.i (vI (gD (gD bs b).els k) 2),.i (vI (gD (gD bs b).els k) 3),.i (vI (gD (gD bs b).els k) 4),.l (eX (gD (gD bs b).els k) 5),.l (eX (gD (gD bs b).els k) 6),.l (nG bs),.l (nO ps.length bs)]
   (1,[.i (aK ps.length bs bs.length:Int),.i ((aK ps.length bs b+dV (gD bs b).els k:Nat):Int),.i (bs.length:Int),.i (b:Int),.i ((gD bs b).els.length:Int),.l (gD bs b).els,.i (b:Int),.l bs,.i (k:Int),.s nm,.b o,.l ps,.i r,.l bs,.i (vI (gD (gD bs b).els k) 0),.i (vI (gD (gD bs b).els k) 1),.i (vI (gD (gD bs b).els k) 2),.i (vI (gD (gD bs b).els k) 3),.i (vI (gD (gD bs b).els k) 4),.l (eX (gD (gD bs b).els k) 5),.l (eX (gD (gD bs b).els k) 6),.l (nG bs),.l (nO ps.length bs)]):=by
 have G:=hT.1;unfold eL at G;have a7:=a5 b f k t;have has:=((hT.2 b f).i k t).as1;have a9:=Kc hf f t;unfold Dq at hx;generalize gD (gD bs b).els k=x at*;have a6:(nO ps.length bs).length=aK ps.length bs bs.length+1:=cQ _ _;refine cI qP (λj=>[.i (aK ps.length bs bs.length:Int),.i ((aK ps.length bs b+dV (gD bs b).els k:Nat):Int),.l (eX x 5),.i (bs.length:Int),.i (b:Int),.i (j:Int),.i ((gD bs b).els.length:Int),.i ((eX x 5).length:Int),.l (gD bs b).els,.i (b:Int),.l bs,.i (k:Int),.s nm,.b o,.l ps,.i r,.l bs,.i (vI x 0),.i (vI x 1),.i (vI x 2),.i (vI x 3),.i (vI x 4),.l (eX x 5),.l (eX x 6),.l (nG bs),.l (nO ps.length bs)]) (eX x 5).length (λj s=>?_) ?_
 ·have C:=nx s has.sane [.i (aK ps.length bs bs.length:Int),.i ((aK ps.length bs b+dV (gD bs b).els k:Nat):Int),.l (eX x 5),.i (bs.length:Int),.i (b:Int)] [.i ((gD bs b).els.length:Int),.i ((eX x 5).length:Int),.l (gD bs b).els,.i (b:Int),.l bs,.i (k:Int),.s nm,.b o,.l ps,.i r,.l bs,.i (vI x 0),.i (vI x 1),.i (vI x 2),.i (vI x 3),.i (vI x 4),.l (eX x 5),.l (eX x 6),.l (nG bs),.l (nO ps.length bs)];have H:vI x 0=26->j<(eX x 6).length/\∃p:Nat,NB x j=p/\p<bs.length:=λc=>by
   obtain⟨g,e⟩:=a9 c;have m:=(a7.ap c).2;have J:j<(gU bs b).length:=by omega
   exact⟨by omega,_,e j J,V4 (List.getElem_mem J)⟩
  obtain⟨v,hv,b2,b3,b0⟩:=Yq bs G f (Nat.le_of_lt t) (bQ.1 hx j s) (λc=>(H c).2);show Ev _ _ (wF _) _;unfold wF;have Q:((aT (oM x j) 1)||(aT (aK ps.length bs bs.length:Int) (oM x j)))=false:=by rw[hv,MT (by omega),MT (by omega)];rfl
  refine aC (aW s) (aC (aE s) (aJ Q ?_));rcases b0 with a1 |⟨a1,d,y,a2,a3,a4⟩
  ·refine aC ?_ (aO C);show cP (oM x j) (ps.length:Int)=true;rw[hv];exact jA (by omega)
  ·have U:cP (oM x j) (ps.length:Int)=false:=by rw[hv];exact J6 (by omega)
   have h:aA (oM x j) (nO ps.length bs).length=true:=by rw[hv,a6];exact aE (by omega)
   have l:(gD (nO ps.length bs) (Int.toNat (oM x j))).toI=(d:Int):=by rw[hv];show(gD (nO ps.length bs) v).toI=_;rw[a2];rfl
   have V:aA (b:Int) (nG bs).length=true:=by rw[Ot];exact aE f
   have K:∀{p:Nat},p<bs.length->nE (gD (nG bs) p)=bs.length:=λ{p}hp=>by show(D.els (gD (nG bs) p)).length=_;rw[Ou hp];exact eN _ _
   have L:∀{p:Nat},p<bs.length->D.toB (gE (gD (nG bs) p) (Int.toNat (gD (nO ps.length bs) (Int.toNat (oM x j))).toI))=dB bs d p:=λ{p}hp=>by rw[l];show D.toB (gE (gD (nG bs) p) d)=_;rw[Ou hp];exact congrArg D.toB (jR (λi=>dB bs i p) y)
   have W:aA (gD (nO ps.length bs) (Int.toNat (oM x j))).toI (nE (gD (nG bs) b))=true:=by rw[K f,l];exact aE y
   refine aJ U (aC h (aC (aH V) (aC (aH h) (aC (aH W) (aC (aH h) ?_)))));by_cases c:vI x 0=26
   ·obtain⟨g,p,e,m⟩:=H c;obtain⟨P,b1,a0⟩:=a3 c;have:P=p:=by omega
    subst this;have u:aA (NB x j) (nG bs).length=true:=by rw[e,Ot];exact aE m
    have F:Int.toNat (NB x j)=P:=by rw[e];rfl
    have Y:aA (gD (nO ps.length bs) (Int.toNat (oM x j))).toI (nE (gD (nG bs) (Int.toNat (NB x j))))=true:=by rw[F,K m,l];exact aE y
    have T:(!(D.toB (gE (gD (nG bs) (Int.toNat (NB x j))) (Int.toNat (gD (nO ps.length bs) (Int.toNat (oM x j))).toI))))=false:=by rw[F,L m,a0];rfl
    exact aC ((bT _ _).2 c) (aC (aE g) (aC u (aC h (aC Y (aJ T (aO C))))))
   ·have u:(!(((!(aD (gD (nO ps.length bs) (Int.toNat (oM x j))).toI (b:Int)))&&(D.toB (gE (gD (nG bs) b) (Int.toNat (gD (nO ps.length bs) (Int.toNat (oM x j))).toI))))||((aD (gD (nO ps.length bs) (Int.toNat (oM x j))).toI (b:Int))&&(cP (oM x j) ((aK ps.length bs b+dV (gD bs b).els k:Nat):Int)))))=false:=by
     rw[L f,l,hv];rcases a4 c with⟨g,e⟩ |⟨g,e⟩
     ·rw[lY (by omega),e];rfl
     ·subst g;rw[pF,jA (by omega)];rfl
    exact aJ (lY c) (aJ u (aO C))
 ·show Ev _ _ (wF _) _;unfold wF;exact aJ (aX _) (bG rfl)
theorem aDh(j:mQ bs)(hf:lP bs=true)(b:Nat)(f:b<bs.length)(l:JF ps.length bs b=false)(hx:dS (gD bs b).els.length (Dq ps.length bs b)=false):
  fC qO 10 [.i (aK ps.length bs bs.length:Int),.i (aK ps.length bs b:Int),.i (bs.length:Int),.i (b:Int),.i ((gD bs b).els.length:Int),.l (gD bs b).els,.i (b:Int),.l bs,.i 0,.s nm,.b o,.l ps,.i r,.l bs,.l (nG bs),.l (nO ps.length bs)]
   (1,[.i (aK ps.length bs bs.length:Int),.i (bs.length:Int),.i (b:Int),.l bs,.s nm,.b o,.l ps,.i r,.l bs,.l (nG bs),.l (nO ps.length bs)]):=by
 have s:=(hT.2 b f).ins.sane;refine cI qP (λk=>[.i (aK ps.length bs bs.length:Int),.i ((aK ps.length bs b+dV (gD bs b).els k:Nat):Int),.i (bs.length:Int),.i (b:Int),.i ((gD bs b).els.length:Int),.l (gD bs b).els,.i (b:Int),.l bs,.i (k:Int),.s nm,.b o,.l ps,.i r,.l bs,.l (nG bs),.l (nO ps.length bs)]) (gD bs b).els.length (λk c=>?_) ?_
 ·have g:∀m,[D.i (aK ps.length bs bs.length:Int),.i m,.i (bs.length:Int),.i (b:Int),.i ((gD bs b).els.length:Int),.l (gD bs b).els,.i (b:Int),.l bs,.i ((k+1:Nat):Int),.s nm,.b o,.l ps,.i r,.l bs,.l (nG bs),.l (nO ps.length bs)]=[D.i (aK ps.length bs bs.length:Int),.i m,.i (bs.length:Int),.i (b:Int),.i ((gD bs b).els.length:Int),.l (gD bs b).els,.i (b:Int),.l bs,.i (aG .i64 (k:Int) 1),.s nm,.b o,.l ps,.i r,.l bs,.l (nG bs),.l (nO ps.length bs)]:=λm=>nx c s [_,_,_,_,_,_,_,_] _;show Ev _ _ (wE _) _;unfold wE;refine aC (aW c) (aC (aE c) (aP (aDg nm o ps r bs hT j hf b k f c (bQ.1 hx k c)) (eB (bD ?_))));cases e:dY (gD (gD bs b).els k)with
  |true=>
   have ht:=bQ.1 l k c;unfold Cy at ht;rw[e,Bool.true_and]at ht;have t:vI (gD (gD bs b).els k) 2=(kU ps.length bs b k:Int):=by
    cases d:aD (vI (gD (gD bs b).els k) 2) (kU ps.length bs b k:Int)with
    |true=>exact(bT _ _).1 d
    |false=>rw[d]at ht;cases ht
   refine aC e (aO ?_);show[D.i (aK ps.length bs bs.length:Int),.i ((aK ps.length bs b+dV (gD bs b).els (k+1):Nat):Int),.i (bs.length:Int),.i (b:Int),.i ((gD bs b).els.length:Int),.l (gD bs b).els,.i (b:Int),.l bs,.i ((k+1:Nat):Int),.s nm,.b o,.l ps,.i r,.l bs,.l (nG bs),.l (nO ps.length bs)]=_;have h:((aK ps.length bs b+dV (gD bs b).els (k+1):Nat):Int)=vI (gD (gD bs b).els k) 2:=by rw[t,Cx e];rfl
   rw[h];exact g _
  |false=>refine aJ e (aO ?_);show[D.i (aK ps.length bs bs.length:Int),.i ((aK ps.length bs b+dV (gD bs b).els (k+1):Nat):Int),.i (bs.length:Int),.i (b:Int),.i ((gD bs b).els.length:Int),.l (gD bs b).els,.i (b:Int),.l bs,.i ((k+1:Nat):Int),.s nm,.b o,.l ps,.i r,.l bs,.l (nG bs),.l (nO ps.length bs)]=_;rw[Ka e];exact g _
 ·show Ev _ _ (wE _) _;unfold wE;exact aJ (aX _) (bG rfl)
include hp
theorem aEQ(h:mQ bs)(hf:lP bs=true)(f:FA ps.length bs=true):
  fC qO 8 [.i (aK ps.length bs bs.length:Int),.i (bs.length:Int),.i 0,.l bs,.s nm,.b o,.l ps,.i r,.l bs,.l (nG bs),.l (nO ps.length bs)] (1,[]):=by
 unfold FA at f;rw[Bool.and_eq_true,pG,pG]at f;refine cI qP (λj=>[.i (aK ps.length bs bs.length:Int),.i (bs.length:Int),.i (j:Int),.l bs,.s nm,.b o,.l ps,.i r,.l bs,.l (nG bs),.l (nO ps.length bs)]) bs.length (λj c=>?_) ?_
 ·have l:0<(gD bs j).els.length:=by
   unfold lP at hf;rw[Bool.and_eq_true,pG,pG]at hf;have d:=kK.1 hf.1 j c;unfold K1 at d;rw[Bool.or_eq_false_iff]at d;rcases Nat.eq_zero_or_pos (gD bs j).els.length with e |e
   ·rw[e]at d;cases d.1
   ·exact e
  have g:=aDh nm o ps r bs hT h hf j c (bQ.1 f.1 j c) (bQ.1 f.2 j c);show Ev _ _ (zP _) _;unfold zP;exact aC (aW c) (aC (aE c) (aC (Sw (by show(0:Int)<((gD bs j).els.length:Int);omega)) (bK (Yp nm o ps r bs hp hT j (by omega)) rfl (aP g (eB (bD (aO (nx c hT.1.sane [_,_] _))))))))
 ·show Ev _ _ (zP _) _;unfold zP;exact aJ (aX _) (bG rfl)
omit hp hT in
theorem ND{bs:List D}(hf:lP bs=true):∀b,b<bs.length->RA bs 0 (-1) b:=λb d=>by
 unfold lP at hf;rw[Bool.and_eq_true,pG,pG]at hf;have c:=bQ.1 hf.2 b d;unfold QZ at c;rw[Bool.or_eq_false_iff]at c;cases e:Dp bs 0 (-1) b with
 |true=>exact yP.1 e
 |false=>rw[e]at c;cases c.1
theorem M6(l:0<bs.length)(m:mQ bs)(hf:lP bs=true)(h:FA ps.length bs=true):iS E aY sites Sj [pM nm o ps r bs] (.b true) []:=by
 refine bA qP (by rfl) rfl ?_;show Ev _ _ (ZA _) _;unfold ZA;have u:=hp;have s:=hT.1;unfold eL at u s;have e1:aG .i64 (ps.length:Int) 1=((ps.length+1:Nat):Int):=Te (by omega);have d:Int.toNat (aG .i64 (ps.length:Int) 1)=ps.length+1:=by rw[e1];rfl
 have j:aM (ps.length+1) (PE ps.length bs)=List.replicate (Int.toNat (aG .i64 (ps.length:Int) 1)) (D.i 0):=by rw[d,dL (n:=ps.length+1) (f:=PE ps.length bs) (g:=λ_=>.i 0) λi v=>aB3 (by omega),qT]
 have c:=h;unfold FA at c;rw[Bool.and_eq_true,pG,pG]at c;have e:=aEN nm o ps r bs hp hT c.1;rw[j]at e;obtain⟨g,hg,t⟩:=Yn nm o ps r bs hT l (ND hf);refine aC ?_ (aP e (eB (bD (aC ?_ (bK t rfl (aP (aEP nm o ps r bs hT (ND hf) g hg _ _) (bD (aP (aEQ nm o ps r bs hp hT m hf h) (eB (bD (bJ rfl rfl)))))))))))
 ·show(cP 0 (aG .i64 (ps.length:Int) 1)&&(aD (aG .i64 (ps.length:Int) 1) (aG .i64 (ps.length:Int) 1)&&iP (Int.toNat (aG .i64 (ps.length:Int) 1)) 8))=true;rw[d,e1,jA (by omega),pF,eM (by omega) (by omega)];rfl
 ·show(cP 0 (bs.length:Int)&&(aD (bs.length:Int) (bs.length:Int)&&iP (Int.toNat (bs.length:Int)) 24))=true;rw[jA (by omega),pF];exact eM (by show bs.length<=_;omega) (by omega)
end
end Go.Eng.Q

namespace Go.Eng.Q
open Go.Eng
def jJ(T as1:List D):List D:=as1.map λa=>.i (gD T a.toI.toNat).toI
theorem GV(T as1:List D):(jJ T as1).length=as1.length:=List.length_map ..
theorem NE{T as1:List D}{j:Nat}(h:j<as1.length):gD (jJ T as1) j=.i (gD T (gD as1 j).toI.toNat).toI:=by simp[jJ,gD,List.getD,h]
abbrev g'(c:List D)(j:Nat):Int:=(gD c j).toI
def Ac(c:List D)(t:Int):Bool:=!(c.any λd=>!(aD d.toI t))
def JX(xs fs:List D)(d op ty sym num:Int)(c:List D):Bool:=
 bif aD op 1 then aD ty 1||(aD ty 2&&(aD num 0||aD num 1))else
 bif aD op 2 then aD ty 4 else
 bif aD op 3||aD op 18 then aD ty 3 else
 bif cP 4 op&&cP op 13 then(aD ty 1&&aD (g' c 0) 1)&&aD (g' c 1) 1 else
 bif aD op 14||aD op 15 then(aD ty 2&&aD (g' c 0) 1)&&aD (g' c 1) 1 else
 bif aD op 16 then aD ty 2&&aD (g' c 0) 2 else
 bif aD op 17 then(aD (g' c 0) 2&&aD (g' c 1) ty)&&aD (g' c 2) ty else
 bif aD op 19 then(aD ty 3&&aD (g' c 0) 3)&&aD (g' c 1) 1 else
 bif aD op 20 then aD ty 1&&aD (g' c 0) 3 else
 bif aD op 21 then aD (g' c 0) 3&&aD (g' c 1) 1 else
 bif aD op 22 then mS c (eX (gD fs sym.toNat) 2)&&aD ty (vI (gD fs sym.toNat) 3)else
 bif aD op 23 then mS c (eX (gD xs sym.toNat) 1)&&aD ty (vI (gD xs sym.toNat) 2)else
 bif aD op 24 then aD ty 4&&aD (g' c 0) 1 else
 bif aD op 25 then aD (g' c 0) 4&&!(aD ty 3)else
 bif aD op 26 then Ac c ty else
 bif aD op 28 then aD (g' c 0) 2 else
 bif aD op 29 then(bif aD d 0 then aD (c.length:Int) 0 else aD (c.length:Int) 1&&aD (g' c 0) d)else true
theorem ops{op:Int}(c:1<=op)(d:op<=30):op=1\/op=2\/op=3\/op=4\/op=5\/op=6\/op=7\/op=8\/op=9\/op=10\/op=11\/op=12\/op=13\/op=14\/op=15\/op=16\/op=17\/op=18\/op=19\/op=20\/op=21\/op=22\/op=23\/op=24\/op=25\/op=26\/op=27\/op=28\/op=29\/op=30:=by omega
section
variable(xs gs ts fs:List D)(nm:List UInt8)(o:Bool)(ps:List D)(r:Int)(bs:List D)
theorem aER(c:List D)(f:cD c)(op ty to sym num:Int)(as1 is1:List D):
  fC ZJ 1 [.l c,.i 0,.i op,.i ty,.i to,.i sym,.i num,.l as1,.l is1] (bif c.any (λe=>!(aD e.toI ty))then(0,[.b false])else(1,[])):=by
 refine GL ZK (λj=>[.l c,.i (j:Int),.i op,.i ty,.i to,.i sym,.i num,.l as1,.l is1]) c (λe=>!(aD e.toI ty)) (λj d=>?_) ?_
 ·show O2 _ _ (zB _) _ _;unfold zB;exact oT (aW d) (oT (aE d) (oE rfl rfl (nx d f [_] _)))
 ·show Ev _ _ (zB _) _;unfold zB;exact aJ (aX _) (bG rfl)
set_option maxHeartbeats 4000000 in
theorem r3_fits_ok(op ty to sym num:Int)(as1 is1 d:List D)(g:cD d)(hg:d.length=as1.length)(f:U2 op ty to sym num as1.length is1.length)
  (m:op=22->aA sym fs.length=true)(s:op=23->aA sym xs.length=true):
  iS E aY sites Ee [.l [.l xs,.l gs,.l ts,.l fs],pM nm o ps r bs,.l [.i op,.i ty,.i to,.i sym,.i num,.l as1,.l is1],.l d] (.b (JX xs fs r op ty sym num d)) []:=by
 refine bA ZK (by rfl) rfl ?_;show Ev _ _ (Np _) _;have w:∀{j:Nat},j<d.length->aA (j:Int) d.length=true:=λh=>aE h;have u:=f.a1;have v:=f.a2;have y:=f.a3;have nv:=f.av;rcases ops f.o1 f.o2 with rfl |rfl |rfl |rfl |rfl |rfl |rfl |rfl |rfl |rfl |rfl |rfl |rfl |rfl |rfl |rfl |rfl |rfl |rfl |rfl |rfl |rfl |rfl |rfl |rfl |rfl |rfl |rfl |rfl |rfl;case inr.inr.inr.inr.inr.inr.inr.inr.inr.inr.inr.inr.inr.inr.inr.inr.inr.inr.inr.inr.inr.inl=>
  repeat(first|refine aJ rfl ?_ |refine aC rfl ?_)
  exact aC (m rfl) (bK (SV d _ g) rfl (aC (aH (m rfl)) (bJ rfl rfl)))
 case inr.inr.inr.inr.inr.inr.inr.inr.inr.inr.inr.inr.inr.inr.inr.inr.inr.inr.inr.inr.inr.inr.inl=>
  repeat(first|refine aJ rfl ?_ |refine aC rfl ?_)
  exact aC (s rfl) (bK (SV d _ g) rfl (aC (aH (s rfl)) (bJ rfl rfl)))
 case inr.inr.inr.inr.inr.inr.inr.inr.inr.inr.inr.inr.inr.inr.inr.inr.inr.inr.inr.inr.inr.inr.inr.inr.inr.inl=>
  repeat(first|refine aJ rfl ?_ |refine aC rfl ?_)
  have h:=aER d g 26 ty to sym num as1 is1;cases e:d.any (λt=>!(aD t.toI ty))with
  |true=>rw[e]at h;exact aP h (bD (bJ (congrArg D.b (by show Ac d ty=false;unfold Ac;rw[e];rfl)) rfl))
  |false=>rw[e]at h;exact aP h (eB (bD (bJ (congrArg D.b (by show Ac d ty=true;unfold Ac;rw[e];rfl)) rfl)))
 case inr.inr.inr.inr.inr.inr.inr.inr.inr.inr.inr.inr.inr.inr.inr.inr.inr.inr.inr.inr.inr.inr.inr.inr.inr.inr.inr.inr.inl=>
  repeat(first|refine aJ rfl ?_ |refine aC rfl ?_)
  cases e:aD r 0 with
  |true=>exact aC e (bJ (congrArg D.b (by show(bif aD r 0 then _ else _)=_;rw[e];rfl)) rfl)
  |false=>
   refine aJ e (aC ?_ (bJ (congrArg D.b (by show(bif aD r 0 then _ else _)=_;rw[e];rfl)) rfl));cases l:aD (d.length:Int) 1 with
   |false=>exact congrArg (λc=>(!(c&&true))||aA 0 d.length) l
   |true=>have:=(bT _ _).1 l;exact aH (w (j:=0) (by omega))
 all_goals(repeat(first|exact bJ rfl rfl |refine aJ rfl ?_ |refine aC rfl ?_ |refine aC (aH (w (j:=0) (by omega))) ?_ |refine aC (aH (w (j:=1) (by omega))) ?_ |refine aC (aH (w (j:=2) (by omega))) ?_ |refine aC (w (j:=0) (by omega)) ?_))
end
end Go.Eng.Q

namespace Go.Eng.Q
open Go.Eng
theorem oL0{d:FD}{b:Bool}{l:Nat}{s f:List D}{e:List D->Sh}{ks:Ri (List D) (Nat×List D)}{o:Nat×List D}{a:List D}(c:fC d l s (0,f))(h:O2 d b (e f) o a):O2 d b (.loop l s (.cons e ks)) o a:=
 h.elim (λh=>.inl ⟨h.1,aP c (bD h.2)⟩) (λh=>.inr ⟨h.1,aP c (bD h.2)⟩)
def qE(xs fs:List D)(c:Int)(T:List D)(x:D):Bool:=JX xs fs c (vI x 0) (vI x 1) (vI x 3) (vI x 4) (jJ T (eX x 5))
def JG(xs fs:List D)(c:Int)(ps bs:List D):Bool:=!(dS bs.length λb=>dS (gD bs b).els.length λk=>!qE xs fs c (bE ps bs) (gD (gD bs b).els k))
def Kf(n:Nat)(bs:List D):Prop:=∀b,b<bs.length->∀k,k<(gD bs b).els.length->∀j,j<(eX (gD (gD bs b).els k) 5).length->∃v:Nat,oM (gD (gD bs b).els k) j=v/\1<=v/\v<=n
theorem Tj{np:Nat}{bs:List D}(h:FA np bs=true):Kf (aK np bs bs.length) bs:=λb e k g j f=>by unfold FA at h;rw[Bool.and_eq_true,pG,pG]at h;have d:=bQ.1 (bQ.1 h.2 b e) k g;have c:=bQ.1 d j f;unfold t8 at c;rw[Bool.or_eq_false_iff,Bool.or_eq_false_iff]at c;have l:=qD c.1.1;have m:=qD c.1.2;exact⟨(oM (gD (gD bs b).els k) j).toNat,by omega,by omega,by omega⟩
def Ad(nx nf:Nat)(bs:List D):Prop:=∀b,b<bs.length->∀k,k<(gD bs b).els.length->(vI (gD (gD bs b).els k) 0=22->aA (vI (gD (gD bs b).els k) 3) nf=true)/\(vI (gD (gD bs b).els k) 0=23->aA (vI (gD (gD bs b).els k) 3) nx=true)
theorem Tk{xs gs ts fs:List D}(h:EX xs gs ts fs=true):∀j,j<fs.length->Ad xs.length fs.length (eX (gD fs j) 4):=λj f b e k g=>by
 unfold EX at h;rw[Bool.and_eq_true,pG,pG]at h;have d:=kK.1 (kK.1 (kK.1 h.2 j f) b e) k g;unfold DK at d;rw[Bool.or_eq_false_iff]at d;have m:=qD d.1;have key:∀n:Nat,tD xs.length gs.length ts.length fs.length (vI (gD (gD (eX (gD fs j) 4) b).els k) 0)=n->aA (vI (gD (gD (eX (gD fs j) 4) b).els k) 3) n=true:=λn l=>by have c:=d.2;rw[l]at c;unfold aA aT;rw[c,jA (by omega)];rfl
 exact⟨λc=>key _ (by rw[c];rfl),λc=>key _ (by rw[c];rfl)⟩
theorem w5{T as1:List D}{j:Nat}(h:j<as1.length):jJ T (as1.take (j+1))=jJ T (as1.take j)++[.i (gD T (gD as1 j).toI.toNat).toI]:=by
 have hg:gD as1 j=as1[j]:=by simp[gD,List.getD,h]
 unfold jJ;rw[List.take_succ_eq_append_getElem h,List.map_append,hg];rfl
section
variable(xs gs ts fs:List D)(nm:List UInt8)(o:Bool)(ps:List D)(r:Int)(bs:List D)
theorem aDi(kk b:Int)(x:D)(T:List D)(has:eL (eX x 5))(e:∀j,j<(eX x 5).length->aA (oM x j) T.length=true):
  fC CX 4 [.i kk,.i b,.i 0,.l xs,.l gs,.l ts,.l fs,.s nm,.b o,.l ps,.i r,.l bs,.i (vI x 0),.i (vI x 1),.i (vI x 2),.i (vI x 3),.i (vI x 4),.l (eX x 5),.l (eX x 6),.l [],.l T]
   (0,[.i kk,.i b,.l xs,.l gs,.l ts,.l fs,.s nm,.b o,.l ps,.i r,.l bs,.i (vI x 0),.i (vI x 1),.i (vI x 2),.i (vI x 3),.i (vI x 4),.l (eX x 5),.l (eX x 6),.l (jJ T (eX x 5)),.l T]):=by
 have ht:=has;unfold eL at ht;have d:jJ T (eX x 5)=jJ T ((eX x 5).take (eX x 5).length):=by rw[List.take_length]
 rw[d];refine cI CY (λj=>[.i kk,.i b,.i (j:Int),.l xs,.l gs,.l ts,.l fs,.s nm,.b o,.l ps,.i r,.l bs,.i (vI x 0),.i (vI x 1),.i (vI x 2),.i (vI x 3),.i (vI x 4),.l (eX x 5),.l (eX x 6),.l (jJ T ((eX x 5).take j)),.l T]) (eX x 5).length (λj c=>?_) ?_
 ·have f:=nx c has.sane [.i kk,.i b] [.l xs,.l gs,.l ts,.l fs,.s nm,.b o,.l ps,.i r,.l bs,.i (vI x 0),.i (vI x 1),.i (vI x 2),.i (vI x 3),.i (vI x 4),.l (eX x 5),.l (eX x 6),.l (jJ T ((eX x 5).take (j+1))),.l T];show Ev _ _ (uT _) _;unfold uT;refine aC (aW c) (aC (aE c) (aC (e j c) (aC ?_ (aO (f.trans ?_)))))
  ·show iP ((jJ T ((eX x 5).take j)).length+1) 8=true;rw[GV,List.length_take];exact eM (by omega) (by omega)
  ·rw[w5 c];rfl
 ·show Ev _ _ (uT _) _;unfold uT;exact aJ (aX _) (bG rfl)
theorem aDj(m:fF bs)(l:mQ bs)(T:List D)(n:Nat)(s:T.length=n+1)(y:Kf n bs)(f:Ad xs.length fs.length bs)(b:Nat)(c:b<bs.length):
  fC CX 2 [.i 0,.i (b:Int),.l xs,.l gs,.l ts,.l fs,.s nm,.b o,.l ps,.i r,.l bs,.l T]
   (bif dS (gD bs b).els.length (λk=>!qE xs fs r T (gD (gD bs b).els k))then(0,[.b false,.i (b:Int),.l xs,.l gs,.l ts,.l fs,.s nm,.b o,.l ps,.i r,.l bs,.l T])else(1,[.i (b:Int),.l xs,.l gs,.l ts,.l fs,.s nm,.b o,.l ps,.i r,.l bs,.l T])):=by
 have e:=m.2 b c;refine xD CY (λk=>[.i (k:Int),.i (b:Int),.l xs,.l gs,.l ts,.l fs,.s nm,.b o,.l ps,.i r,.l bs,.l T]) (gD bs b).els.length (λk=>!qE xs fs r T (gD (gD bs b).els k)) (λk d=>?_) ?_
 ·have u:=l b c k d;have has:=(e.i k d).as1;have F:∀j,j<(eX (gD (gD bs b).els k) 5).length->aA (oM (gD (gD bs b).els k) j) T.length=true:=λj C=>by
   obtain⟨v,g,G,H⟩:=y b c k d j C;rw[g,s];exact aE (by omega)
  have h:=aDi xs gs ts fs nm o ps r bs (k:Int) (b:Int) (gD (gD bs b).els k) T has F;have t:iS E aY sites Ee [.l [.l xs,.l gs,.l ts,.l fs],pM nm o ps r bs,.l [.i (vI (gD (gD bs b).els k) 0),.i (vI (gD (gD bs b).els k) 1),.i (vI (gD (gD bs b).els k) 2),.i (vI (gD (gD bs b).els k) 3),.i (vI (gD (gD bs b).els k) 4),.l (eX (gD (gD bs b).els k) 5),.l (eX (gD (gD bs b).els k) 6)],.l (jJ T (eX (gD (gD bs b).els k) 5))] (.b (qE xs fs r T (gD (gD bs b).els k))) []:=
   r3_fits_ok xs gs ts fs nm o ps r bs _ _ _ _ _ _ _ _ (by unfold cD;rw[GV];exact has.sane) (GV _ _) u (f b c k d).1 (f b c k d).2
  show O2 _ _ (uS _) _ _;unfold uS;exact oT (aE c) (oT (aW d) (oT (aE c) (oT (aE d) (oL0 h (oC t rfl (oE rfl rfl (nx d e.ins.sane [] _)))))))
 ·show Ev _ _ (uS _) _;unfold uS;exact aC (aE c) (aJ (aX _) (bG rfl))
theorem Yr(l:eL ps)(c:fF bs)(f:mQ bs)(g:Kf (aK ps.length bs bs.length) bs)(m:Ad xs.length fs.length bs):iS E aY sites Id [.l [.l xs,.l gs,.l ts,.l fs],pM nm o ps r bs] (.b (JG xs fs r ps bs)) []:=by
 refine bA CY (by rfl) rfl ?_;show Ev _ _ (RQ _) _;unfold RQ JG;have h:fC CX 0 [.i 0,.l xs,.l gs,.l ts,.l fs,.s nm,.b o,.l ps,.i r,.l bs,.l (bE ps bs)] (bif dS bs.length (λb=>dS (gD bs b).els.length λk=>!qE xs fs r (bE ps bs) (gD (gD bs b).els k))then(0,[.b false])else(1,[])):=by
  refine xD CY (λj=>[.i (j:Int),.l xs,.l gs,.l ts,.l fs,.s nm,.b o,.l ps,.i r,.l bs,.l (bE ps bs)]) bs.length _ (λj d=>?_) ?_
  ·show O2 _ _ (uR _) _ _;unfold uR;exact oT (aW d) (oL (aDj xs gs ts fs nm o ps r bs c f (bE ps bs) _ (yD ps bs) g m j d) rfl (congrArg IX.again (nx d c.1.sane [] _).symm))
  ·show Ev _ _ (uR _) _;unfold uR;exact aJ (aX _) (bG rfl)
 refine bK (NA nm o ps r bs l c) rfl ?_;cases e:dS bs.length (λb=>dS (gD bs b).els.length λk=>!qE xs fs r (bE ps bs) (gD (gD bs b).els k))with
 |true=>rw[e]at h;exact aP h (bD (bJ rfl rfl))
 |false=>rw[e]at h;exact aP h (eB (bD (bJ rfl rfl)))
end
end Go.Eng.Q

namespace Go.Eng.Q
open Go.Eng
theorem Kg{n:Nat}{P Q:Nat->Bool}(h:∀j,j<n->P j=Q j):dS n P=dS n Q:=by rw[Bool.eq_iff_iff,<-Bool.not_eq_false,<-Bool.not_eq_false,bQ,bQ];exact not_congr ⟨λd j c=>(h j c)▸d j c,λd j c=>(h j c).symm▸d j c⟩
theorem aFH(l:List D)(p:D->Bool):l.any p=dS l.length λj=>p (gD l j):=by rw[Bool.eq_iff_iff,<-Bool.not_eq_false,<-Bool.not_eq_false,bQ,kK]
theorem aFI(T as1:List D)(t:Int):Ac (jJ T as1) t=!(dS as1.length λj=>!(aD (gD T (gD as1 j).toI.toNat).toI t)):=by unfold Ac;rw[aFH,GV];congr 1;exact Kg λj c=>by rw[NE c];rfl
theorem aES(T as1 c:List D):mS (jJ T as1) c=(aD (as1.length:Int) c.length&&!(dS as1.length λj=>!(aD (gD T (gD as1 j).toI.toNat).toI (gD c j).toI))):=by unfold mS;rw[GV];congr 2;exact Kg λj d=>by rw[NE d];rfl
theorem w6(T as1:List D)(t:Int)(has:cD as1)(d:∀j,j<as1.length->aA (gD as1 j).toI T.length=true):iS E aY sites YS [.l T,.l as1,.i t] (.b (Ac (jJ T as1) t)) []:=by
 refine bA Iw (by rfl) rfl ?_;show Ev _ _ (Io _) _;unfold Io;have h:fC Iv 0 [.l T,.i 0,.l as1,.i t,.i (as1.length:Int)] (bif dS as1.length (λj=>!(aD (gD T (gD as1 j).toI.toNat).toI t))then(0,[.b false])else(1,[])):=by
  refine xD Iw (λj=>[.l T,.i (j:Int),.l as1,.i t,.i (as1.length:Int)]) as1.length _ (λj c=>?_) ?_
  ·show O2 _ _ (CW _) _ _;unfold CW;exact oT (aW c) (oT (aE c) (oT (d j c) (oE rfl rfl (nx c has [_] _))))
  ·show Ev _ _ (CW _) _;unfold CW;exact aJ (aX _) (bG rfl)
 rw[aFI];cases e:dS as1.length (λj=>!(aD (gD T (gD as1 j).toI.toNat).toI t))with
 |true=>rw[e]at h;exact aP h (bD (bJ rfl rfl))
 |false=>rw[e]at h;exact aP h (eB (bD (bJ rfl rfl)))
theorem M7(T as1 c:List D)(has:cD as1)(f:∀j,j<as1.length->aA (gD as1 j).toI T.length=true):iS E aY sites uL [.l T,.l as1,.l c] (.b (mS (jJ T as1) c)) []:=by
 refine bA ZX (by rfl) rfl ?_;show Ev _ _ (ZI _) _;unfold ZI;rw[aES];cases el:aD (as1.length:Int) c.length with
 |false=>exact aC (congrArg Bool.not el) (bJ rfl rfl)
 |true=>
  have l:as1.length=c.length:=by have:=(bT _ _).1 el;omega
  have h:fC ZW 0 [.l T,.i (as1.length:Int),.l c,.i 0,.l as1] (bif dS as1.length (λj=>!(aD (gD T (gD as1 j).toI.toNat).toI (gD c j).toI))then(0,[.b false])else(1,[])):=by
   refine xD ZX (λj=>[.l T,.i (as1.length:Int),.l c,.i (j:Int),.l as1]) as1.length _ (λj d=>?_) ?_
   ·have g:j<c.length:=by omega
    show O2 _ _ (zZ _) _ _;unfold zZ;exact oT (aW d) (oT (aE d) (oT (f j d) (oT (aE g) (oE rfl rfl (nx d has [_,_,_] _)))))
   ·show Ev _ _ (zZ _) _;unfold zZ;exact aJ (aX _) (bG rfl)
  refine aJ (congrArg Bool.not el) ?_;cases e:dS as1.length (λj=>!(aD (gD T (gD as1 j).toI.toNat).toI (gD c j).toI))with
  |true=>rw[e]at h;exact aP h (bD (bJ rfl rfl))
  |false=>rw[e]at h;exact aP h (eB (bD (bJ rfl rfl)))
theorem Ys{d:FD}{c x:Bool}{m:Nat}{xs:List D}(h:iS E aY sites m xs (.b x) []):sA E aY sites d (.ask (c&&true) (.call m xs 0 λr _=>.ret (.b (c&&D.toB r)) []) (.ret (.b (c&&D.toB (.i 0))) [])) (.ret (.b (c&&x)) []):=by
 cases c with
 |true=>exact aC rfl (bK h rfl (bJ rfl rfl))
 |false=>exact aJ rfl (bJ rfl rfl)
theorem aFJ{l:List D}(h:l.length=1):∃a,l=[a]:=List.length_eq_one_iff.1 h
theorem aFK{l:List D}(h:l.length=2):∃a b,l=[a,b]:=by
 match l,h with
 |[a,b],_=>exact⟨a,b,rfl⟩
theorem aGN{l:List D}(h:l.length=3):∃a b c,l=[a,b,c]:=by
 match l,h with
 |[a,b,c],_=>exact⟨a,b,c,rfl⟩
theorem aGO{c:List D}(h:c.length=1)(t:Int):Ac c t=aD (g' c 0) t:=by obtain⟨a,rfl⟩:=aFJ h;show(!((!(aD a.toI t))||false))=aD a.toI t;cases aD a.toI t<;>rfl
theorem aFL{c:List D}(h:c.length=2)(t:Int):Ac c t=(aD (g' c 0) t&&aD (g' c 1) t):=by obtain⟨a,b,rfl⟩:=aFK h;show(!((!(aD a.toI t))||((!(aD b.toI t))||false)))=(aD a.toI t&&aD b.toI t);cases aD a.toI t<;>cases aD b.toI t<;>rfl
theorem V6{c:List D}(h:c.length=1)(t:Int):mS c [.i t]=aD (g' c 0) t:=by obtain⟨a,rfl⟩:=aFJ h;show(true&&!(false||!(aD a.toI t)))=aD a.toI t;cases aD a.toI t<;>rfl
theorem aD4{c:List D}(h:c.length=2)(t u:Int):mS c [.i t,.i u]=(aD (g' c 0) t&&aD (g' c 1) u):=by obtain⟨a,b,rfl⟩:=aFK h;show(true&&!((false||!(aD a.toI t))||!(aD b.toI u)))=(aD a.toI t&&aD b.toI u);cases aD a.toI t<;>cases aD b.toI u<;>rfl
theorem aFM{d:List D}(h:d.length=3)(t u v:Int):mS d [.i t,.i u,.i v]=((aD (g' d 0) t&&aD (g' d 1) u)&&aD (g' d 2) v):=by obtain⟨a,b,c,rfl⟩:=aGN h;show(true&&!(((false||!(aD a.toI t))||!(aD b.toI u))||!(aD c.toI v)))=((aD a.toI t&&aD b.toI u)&&aD c.toI v);cases aD a.toI t<;>cases aD b.toI u<;>cases aD c.toI v<;>rfl
theorem aDk{xs fs:List D}{f op ty sym num:Int}{c:List D}(d:4<=op)(e:op<=13)(h:c.length=2):JX xs fs f op ty sym num c=(aD ty 1&&Ac c 1):=by rw[aFL h 1,<-Bool.and_assoc];unfold JX;rw[lY (show op≠1 by omega),lY (show op≠2 by omega),lY (show op≠3 by omega),lY (show op≠18 by omega),jA d,jA e];rfl
theorem aDl{xs fs:List D}{e op ty sym num:Int}{c:List D}(d:op=14\/op=15)(h:c.length=2):JX xs fs e op ty sym num c=(aD ty 2&&Ac c 1):=by rw[aFL h,<-Bool.and_assoc];rcases d with rfl |rfl<;>rfl
section
variable(xs gs ts fs:List D)(nm:List UInt8)(o:Bool)(ps:List D)(r:Int)(bs:List D)
set_option maxHeartbeats 4000000 in
theorem wf_fitting_ok(T:List D)(op ty to sym num:Int)(as1 is1:List D)(has:cD as1)(h:∀j,j<as1.length->aA (gD as1 j).toI T.length=true)(d:U2 op ty to sym num as1.length is1.length)
  (s:op=22->aA sym fs.length=true)(u:op=23->aA sym xs.length=true):
  iS E aY sites IL [.l [.l xs,.l gs,.l ts,.l fs],pM nm o ps r bs,.l T,.l [.i op,.i ty,.i to,.i sym,.i num,.l as1,.l is1]] (.b (JX xs fs r op ty sym num (jJ T as1))) []:=by
 refine bA VY (by rfl) rfl ?_;show Ev _ _ (VU _) _;have l:(jJ T as1).length=as1.length:=GV T as1;have G:=d.a1;have H:=d.a2;have J:=d.a3;have nv:=d.av;have f:=λt=>w6 T as1 t has h;have c:=λy=>M7 T as1 y has h;rcases ops d.o1 d.o2 with rfl |rfl |rfl |rfl |rfl |rfl |rfl |rfl |rfl |rfl |rfl |rfl |rfl |rfl |rfl |rfl |rfl |rfl |rfl |rfl |rfl |rfl |rfl |rfl |rfl |rfl |rfl |rfl |rfl |rfl;all_goals(repeat(first|exact bJ rfl rfl |refine aJ rfl ?_ |refine aC rfl ?_))
 all_goals(first|(rw[aDk (by omega) (by omega) (by omega)];exact Ys (f 1)) |(rw[aDl (by omega) (by omega)];exact Ys (f 1)) |skip)
 ·rw[show JX xs fs r 16 ty sym num (jJ T as1)=(aD ty 2&&Ac (jJ T as1) 2)from by rw[aGO (by omega)];rfl];exact Ys (f 2)
 ·rw[show JX xs fs r 17 ty sym num (jJ T as1)=mS (jJ T as1) [.i 2,.i ty,.i ty]from(aFM (by omega) 2 ty ty).symm];exact bK (c _) rfl (bJ rfl rfl)
 ·rw[show JX xs fs r 19 ty sym num (jJ T as1)=(aD ty 3&&mS (jJ T as1) [.i 3,.i 1])from by rw[aD4 (by omega),<-Bool.and_assoc];rfl];exact Ys (c _)
 ·rw[show JX xs fs r 20 ty sym num (jJ T as1)=(aD ty 1&&mS (jJ T as1) [.i 3])from by rw[V6 (by omega)];rfl];exact Ys (c _)
 ·rw[show JX xs fs r 21 ty sym num (jJ T as1)=mS (jJ T as1) [.i 3,.i 1]from(aD4 (by omega) 3 1).symm];exact bK (c _) rfl (bJ rfl rfl)
 ·refine aC (s rfl) ?_;rw[show JX xs fs r 22 ty sym num (jJ T as1)=(aD ty (vI (gD fs sym.toNat) 3)&&mS (jJ T as1) (eX (gD fs sym.toNat) 2))from Bool.and_comm _ _];exact Ys (c _)
 ·refine aC (u rfl) ?_;rw[show JX xs fs r 23 ty sym num (jJ T as1)=(aD ty (vI (gD xs sym.toNat) 2)&&mS (jJ T as1) (eX (gD xs sym.toNat) 1))from Bool.and_comm _ _];exact Ys (c _)
 ·rw[show JX xs fs r 24 ty sym num (jJ T as1)=(aD ty 4&&mS (jJ T as1) [.i 1])from by rw[V6 (by omega)];rfl];exact Ys (c _)
 ·have g:0<as1.length:=by have:=(nv rfl).1;omega
  have e:g' (jJ T as1) 0=(gD T (gD as1 0).toI.toNat).toI:=by unfold g';rw[NE g];rfl
  rw[show JX xs fs r 25 ty sym num (jJ T as1)=(aD (gD T (gD as1 0).toI.toNat).toI 4&&!(aD ty 3))from by rw[<-e];rfl];exact aC (aE (j:=0) g) (aC (h 0 g) (bJ rfl rfl))
 ·exact bK (f ty) rfl (bJ rfl rfl)
 ·rw[show JX xs fs r 28 ty sym num (jJ T as1)=mS (jJ T as1) [.i 2]from(V6 (by omega) 2).symm];exact bK (c _) rfl (bJ rfl rfl)
 ·cases e:aD r 0 with
  |true=>
   rw[show JX xs fs r 29 ty sym num (jJ T as1)=aD (as1.length:Int) 0 from by
    show(bif aD r 0 then aD ((jJ T as1).length:Int) 0 else _)=_;rw[e,l];rfl]
   exact aC e (bJ rfl rfl)
  |false=>
   rw[show JX xs fs r 29 ty sym num (jJ T as1)=mS (jJ T as1) [.i r]from by
    show(bif aD r 0 then _ else aD ((jJ T as1).length:Int) 1&&aD (g' (jJ T as1) 0) r)=_;rw[e,cond_false];have C:=d.ar rfl;by_cases m:as1.length=1
    ·rw[V6 (by omega),l,m];rfl
    ·have F:as1.length=0:=by omega
     have v:jJ T as1=[]:=List.length_eq_zero_iff.1 (by omega);rw[v];rfl]
   exact aJ e (bK (c _) rfl (bJ rfl rfl))
theorem aET(f:fF bs)(b:Nat)(h:b<bs.length)(q:List D)(s:q.length<=100000+b*10000):
  fC aC9 2 [.i (b:Int),.l bs,.i ((gD bs b).els.length:Int),.l (gD bs b).els,.i (bs.length:Int),.i 0,.l q] (0,[.i (b:Int),.l bs,.i (bs.length:Int),.l (BE q (gD bs b).els)]):=by
 have d:=(f.2 b h).ins;have m:=f.1;have g:=d.sane;unfold eL at d m;refine EU IP (λj(q:List D)=>[.i (b:Int),.l bs,.i ((gD bs b).els.length:Int),.l (gD bs b).els,.i (bs.length:Int),.i (j:Int),.l q]) (gD bs b).els (λq x=>bif dY x then q++[.i (vI x 1)]else q) (λq=>(0,[.i (b:Int),.l bs,.i (bs.length:Int),.l q])) (λj p=>p.length<=q.length+j) (λj p c r=>⟨?_,?_⟩) (λp r=>?_) (s0:=q) (Nat.le_refl _)
 ·cases dY (gD (gD bs b).els j)<;>simp<;>omega
 ·show Ev _ _ (vE _) _;unfold vE;refine aC (aW c) (aC (aE c) ?_);cases e:dY (gD (gD bs b).els j)with
  |true=>
   have l:p.length+1<=1000000000:=by have:=Nat.mul_le_mul (show b<=10000 by omega) (Nat.le_refl 10000);omega
   exact aC e (aC (eM l (by omega)) (aO (nx c g [_,_,_,_,_] _)))
  |false=>exact aJ e (aO (nx c g [_,_,_,_,_] _))
 ·show Ev _ _ (vE _) _;unfold vE;exact aJ (aX _) (bG rfl)
theorem Cz(d:eL ps)(e:fF bs):iS E aY sites VT [pM nm o ps r bs] (.l (bE ps bs)) []:=by
 refine bA IP (by rfl) rfl ?_;show Ev _ _ (RU _) _;unfold RU;unfold eL at d;have g:fC aC9 0 [.i 0,.l bs,.i (bs.length:Int),.l ([.i 0]++ps)] (0,[.l (bE ps bs)]):=by
  refine EU IP (λj(q:List D)=>[.i (j:Int),.l bs,.i (bs.length:Int),.l q]) bs (λq b=>BE q b.els) (λq=>(0,[.l q])) (λj p=>p.length<=100000+j*10000) (λj p c d=>⟨?_,?_⟩) (λp d=>?_) (s0:=[.i 0]++ps) (by simp;omega)
  ·have f:=(e.2 j c).ins;unfold eL at f;rw[GT,<-WM];have:=WK (gD bs j).els (gD bs j).els.length;omega
  ·show Ev _ _ (vD _) _;unfold vD;exact aC (aW c) (aC (aE c) (aP (aET bs e j c p d) (bD (aO (nx c e.1.sane [] _)))))
  ·show Ev _ _ (vD _) _;unfold vD;exact aJ (aX _) (bG rfl)
 refine aC ?_ (aP g (bD (bJ rfl rfl)));show iP (1+ps.length) 8=true;exact eM (by omega) (by omega)
theorem aDm(l:fF bs)(h:mQ bs)(T:List D)(n:Nat)(m:T.length=n+1)(t:Kf n bs)(f:Ad xs.length fs.length bs)(b:Nat)(d:b<bs.length):
  fC IZ 2 [.i (b:Int),.l bs,.i ((gD bs b).els.length:Int),.l (gD bs b).els,.i (bs.length:Int),.i 0,.l xs,.l gs,.l ts,.l fs,.s nm,.b o,.l ps,.i r,.l bs,.l T]
   (bif dS (gD bs b).els.length (λk=>!qE xs fs r T (gD (gD bs b).els k))then(0,[.i (b:Int),.l bs,.b false,.i (bs.length:Int),.l xs,.l gs,.l ts,.l fs,.s nm,.b o,.l ps,.i r,.l bs,.l T])else(1,[.i (b:Int),.l bs,.i (bs.length:Int),.l xs,.l gs,.l ts,.l fs,.s nm,.b o,.l ps,.i r,.l bs,.l T])):=by
 have e:=l.2 b d;refine xD JA (λk=>[.i (b:Int),.l bs,.i ((gD bs b).els.length:Int),.l (gD bs b).els,.i (bs.length:Int),.i (k:Int),.l xs,.l gs,.l ts,.l fs,.s nm,.b o,.l ps,.i r,.l bs,.l T]) (gD bs b).els.length (λk=>!qE xs fs r T (gD (gD bs b).els k)) (λk c=>?_) ?_
 ·have y:∀j,j<(eX (gD (gD bs b).els k) 5).length->aA (oM (gD (gD bs b).els k) j) T.length=true:=λj u=>by
   obtain⟨v,g,C,F⟩:=t b d k c j u;rw[g,m];exact aE (by omega)
  have s:iS E aY sites IL [.l [.l xs,.l gs,.l ts,.l fs],pM nm o ps r bs,.l T,.l [.i (vI (gD (gD bs b).els k) 0),.i (vI (gD (gD bs b).els k) 1),.i (vI (gD (gD bs b).els k) 2),.i (vI (gD (gD bs b).els k) 3),.i (vI (gD (gD bs b).els k) 4),.l (eX (gD (gD bs b).els k) 5),.l (eX (gD (gD bs b).els k) 6)]] (.b (qE xs fs r T (gD (gD bs b).els k))) []:=
   wf_fitting_ok xs gs ts fs nm o ps r bs T _ _ _ _ _ _ _ (e.i k c).as1.sane y (h b d k c) (f b d k c).1 (f b d k c).2
  show O2 _ _ (wS _) _ _;unfold wS;exact oT (aW c) (oT (aE c) (oC s rfl (oE rfl rfl (nx c e.ins.sane [_,_,_,_,_] _))))
 ·show Ev _ _ (wS _) _;unfold wS;exact aJ (aX _) (bG rfl)
theorem Yt(l:eL ps)(d:fF bs)(f:mQ bs)(g:Kf (aK ps.length bs bs.length) bs)(m:Ad xs.length fs.length bs):iS E aY sites Ik [.l [.l xs,.l gs,.l ts,.l fs],pM nm o ps r bs] (.b (JG xs fs r ps bs)) []:=by
 refine bA JA (by rfl) rfl ?_;show Ev _ _ (SK _) _;unfold SK JG;have h:fC IZ 0 [.i 0,.l bs,.i (bs.length:Int),.l xs,.l gs,.l ts,.l fs,.s nm,.b o,.l ps,.i r,.l bs,.l (bE ps bs)] (bif dS bs.length (λb=>dS (gD bs b).els.length λk=>!qE xs fs r (bE ps bs) (gD (gD bs b).els k))then(0,[.b false])else(1,[])):=by
  refine xD JA (λj=>[.i (j:Int),.l bs,.i (bs.length:Int),.l xs,.l gs,.l ts,.l fs,.s nm,.b o,.l ps,.i r,.l bs,.l (bE ps bs)]) bs.length _ (λj c=>?_) ?_
  ·show O2 _ _ (wR _) _ _;unfold wR;exact oT (aW c) (oT (aE c) (oL (aDm xs gs ts fs nm o ps r bs d f (bE ps bs) _ (yD ps bs) g m j c) rfl (congrArg IX.again (nx c d.1.sane [] _).symm)))
  ·show Ev _ _ (wR _) _;unfold wR;exact aJ (aX _) (bG rfl)
 refine bK (Cz nm o ps r bs l d) rfl ?_;cases e:dS bs.length (λb=>dS (gD bs b).els.length λk=>!qE xs fs r (bE ps bs) (gD (gD bs b).els k))with
 |true=>rw[e]at h;exact aP h (bD (bJ rfl rfl))
 |false=>rw[e]at h;exact aP h (eB (bD (bJ rfl rfl)))
end
end Go.Eng.Q

namespace Go.Eng.Q
open Go.Eng
structure WP(xs gs ts fs:List D):Prop where
 n:xs.length+gs.length+ts.length+fs.length<=10000
 x:∀j,j<xs.length->eL (eX (gD xs j) 1)
 g:∀j,j<gs.length->eL (eX (gD gs j) 1)
 t:∀j,j<ts.length->eL (eX (gD ts j) 1)
 f:∀j,j<fs.length->Jq (gD fs j)
theorem WP.sane{xs gs ts fs:List D}(h:WP xs gs ts fs):Xi xs gs ts fs:=by have d:=h.n;exact⟨by unfold cD;omega,by unfold cD;omega,by unfold cD;omega,by unfold cD;omega,λj c=>(h.x j c).sane,λj c=>(h.t j c).sane,λj c=>(h.f j c).sane⟩
abbrev gJ(f:D):List D:=eX f 4
abbrev npF(f:D):Nat:=(eX f 2).length
noncomputable def flB(f:D):Bool:=!lP (gJ f)
noncomputable def usB(f:D):Bool:=!FA (npF f) (gJ f)
noncomputable def tyB(xs fs:List D)(f:D):Bool:=!JG xs fs (vI f 3) (eX f 2) (gJ f)
noncomputable def Kh(xs gs ts fs:List D):Int:=
 bif !iG xs gs ts fs then 2 else bif !lG xs fs then 1 else bif !MS xs gs ts fs then 3 else bif !EX xs gs ts fs then 4 else
 bif fs.any flB then 5 else bif fs.any usB then 6 else bif fs.any (tyB xs fs)then 7 else 0
structure OkM(xs gs ts fs:List D):Prop where
 sm:iG xs gs ts fs=true
 fm:lG xs fs=true
 nm:MS xs gs ts fs=true
 sy:EX xs gs ts fs=true
 fl:∀j,j<fs.length->lP (gJ (gD fs j))=true
 us:∀j,j<fs.length->FA (npF (gD fs j)) (gJ (gD fs j))=true
 ty:∀j,j<fs.length->JG xs fs (vI (gD fs j) 3) (eX (gD fs j) 2) (gJ (gD fs j))=true
theorem aB4{xs gs ts fs:List D}(h:Kh xs gs ts fs=0):OkM xs gs ts fs:=by
 unfold Kh at h;cases c:iG xs gs ts fs with
 |false=>rw[c]at h;cases h
 |true=>
 cases d:lG xs fs with
 |false=>rw[c,d]at h;cases h
 |true=>
 cases e:MS xs gs ts fs with
 |false=>rw[c,d,e]at h;cases h
 |true=>
 cases f:EX xs gs ts fs with
 |false=>rw[c,d,e,f]at h;cases h
 |true=>
 cases l:fs.any flB with
 |true=>rw[c,d,e,f,l]at h;cases h
 |false=>
 cases m:fs.any usB with
 |true=>rw[c,d,e,f,l,m]at h;cases h
 |false=>
 cases r:fs.any (tyB xs fs)with
 |true=>rw[c,d,e,f,l,m,r]at h;cases h
 |false=>
 have nn:∀{b:Bool},(!b)=false->b=true:=λ{b}h=>by cases b with|true=>rfl |false=>cases h
 exact⟨c,d,e,f,λj g=>nn (kK.1 l j g),λj g=>nn (kK.1 m j g),λj g=>nn (kK.1 r j g)⟩
theorem WQ{xs gs ts fs:List D}(h:iG xs gs ts fs=true):∀j,j<fs.length->0<(gJ (gD fs j)).length:=λj d=>by unfold iG at h;rw[Bool.and_eq_true,Bool.and_eq_true,Bool.and_eq_true,Bool.and_eq_true]at h;have c:=kK.1 (pG.1 h.2.2.2.2) j d;unfold DJ at c;rw[Bool.or_eq_false_iff,Bool.or_eq_false_iff,Bool.or_eq_false_iff]at c;have e:¬(((eX (gD fs j) 4).length:Int)<1):=qD c.1.1.2;show 0<(eX (gD fs j) 4).length;omega
section
variable(xs gs ts fs:List D)(hM:WP xs gs ts fs)
include hM
theorem aDn(d:∀j,j<fs.length->mQ (gJ (gD fs j))):fC DE 0 [.i 0,.l xs,.l gs,.l ts,.l fs] (bif fs.any flB then(0,[.i 5,.l xs,.l gs,.l ts,.l fs])else(1,[.l xs,.l gs,.l ts,.l fs])):=by
 refine GL DF (λj=>[.i (j:Int),.l xs,.l gs,.l ts,.l fs]) fs flB (λj c=>?_) ?_
 ·show O2 _ _ (wH _) _ _;unfold wH;exact oT (aW c) (oT (aE c) (oC (Ya _ _ _ _ _ (hM.f j c).bbs (d j c)) rfl (oE rfl rfl (nx c hM.sane.hf [] _))))
 ·show Ev _ _ (wH _) _;unfold wH;exact aJ (aX _) (bG rfl)
theorem aDo(d:∀j,j<fs.length->mQ (gJ (gD fs j)))(e:∀j,j<fs.length->lP (gJ (gD fs j))=true):fC DE 2 [.i 0,.l xs,.l gs,.l ts,.l fs] (bif fs.any usB then(0,[.i 6,.l xs,.l gs,.l ts,.l fs])else(1,[.l xs,.l gs,.l ts,.l fs])):=by
 refine GL DF (λj=>[.i (j:Int),.l xs,.l gs,.l ts,.l fs]) fs usB (λj c=>?_) ?_
 ·show O2 _ _ (wI _) _ _;unfold wI;exact oT (aW c) (oT (aE c) (oC (M1 _ _ _ _ _ (hM.f j c).ps (hM.f j c).bbs (d j c) (e j c)) rfl (oE rfl rfl (nx c hM.sane.hf [] _))))
 ·show Ev _ _ (wI _) _;unfold wI;exact aJ (aX _) (bG rfl)
theorem aDp(d:∀j,j<fs.length->mQ (gJ (gD fs j)))(e:EX xs gs ts fs=true)(f:∀j,j<fs.length->FA (npF (gD fs j)) (gJ (gD fs j))=true):fC DE 4 [.i 0,.l xs,.l gs,.l ts,.l fs] (bif fs.any (tyB xs fs)then(0,[.i 7])else(1,[])):=by
 refine GL DF (λj=>[.i (j:Int),.l xs,.l gs,.l ts,.l fs]) fs (tyB xs fs) (λj c=>?_) ?_
 ·show O2 _ _ (wJ _) _ _;unfold wJ;exact oT (aW c) (oT (aE c) (oC (Yr xs gs ts fs _ _ _ _ _ (hM.f j c).ps (hM.f j c).bbs (d j c) (Tj (f j c)) (Tk e j c)) rfl (oE rfl rfl (nx c hM.sane.hf [] _))))
 ·show Ev _ _ (wJ _) _;unfold wJ;exact aJ (aX _) (bG rfl)
theorem Yu:iS E aY sites Hz [.l [.l xs,.l gs,.l ts,.l fs]] (.i (Kh xs gs ts fs)) []:=by
 refine bA DF (by rfl) rfl ?_;show Ev _ _ (SF _) _;unfold SF Kh;have nn:∀{b:Bool},(!b)=false->b=true:=λ{b}h=>by cases b with|true=>rfl |false=>cases h
 have F:=hM.n;refine bK (Sr xs gs ts fs) rfl ?_;cases y:iG xs gs ts fs with
 |false=>exact aC rfl (bJ rfl rfl)
 |true=>
 refine aJ rfl (bK (Xj xs gs ts fs hM.sane) rfl ?_);cases s:lG xs fs with
 |false=>exact aC rfl (bJ rfl rfl)
 |true=>
 refine aJ rfl (bK (Xo xs gs ts fs (by omega)) rfl ?_);cases C:MS xs gs ts fs with
 |false=>exact aC rfl (bJ rfl rfl)
 |true=>
 refine aJ rfl (bK (I0 xs gs ts fs hM.sane) rfl ?_);cases t:EX xs gs ts fs with
 |false=>exact aC rfl (bJ rfl rfl)
 |true=>
 have l:=Aa s;have c:=aDn xs gs ts fs hM l;refine aJ rfl ?_;cases f:fs.any flB with
 |true=>rw[f]at c;exact aP c (bD (bJ rfl rfl))
 |false=>
 rw[f]at c;have u:=λj m=>nn (kK.1 f j m);have d:=aDo xs gs ts fs hM l u;refine aP c (eB (bD ?_));cases g:fs.any usB with
 |true=>rw[g]at d;exact aP d (bD (bJ rfl rfl))
 |false=>
 rw[g]at d;have v:=λj m=>nn (kK.1 g j m);have e:=aDp xs gs ts fs hM l t v;refine aP d (eB (bD ?_));cases r:fs.any (tyB xs fs)with
 |true=>rw[r]at e;exact aP e (bD (bJ rfl rfl))
 |false=>rw[r]at e;exact aP e (eB (bD (bJ rfl rfl)))
theorem Yv(h:OkM xs gs ts fs):iS E aY sites Ie [.l [.l xs,.l gs,.l ts,.l fs]] (.i 0) []:=by
 refine bA DH (by rfl) rfl ?_;show Ev _ _ (SH _) _;unfold SH;have v:=hM.n;have d:=Aa h.fm;have r:=WQ h.sm;have e:=Xh xs gs ts fs;rw[h.sm]at e;have f:=Su xs gs ts fs hM.sane;rw[h.fm]at f;have l:=Xp xs gs ts fs hM.n;rw[h.nm]at l;have m:=Xl xs gs ts fs hM.sane h.fm;rw[h.sy]at m;have s:fC DG 1 [.i (fs.length:Int),.i 0,.l fs,.l xs,.l gs,.l ts,.l fs] (1,[.l xs,.l gs,.l ts,.l fs]):=by
  refine cI DH (λj=>[.i (fs.length:Int),.i (j:Int),.l fs,.l xs,.l gs,.l ts,.l fs]) fs.length (λj c=>?_) ?_
  ·have g:=Yc (D.toS (D.fld (gD fs j) 0)) (vB (gD fs j) 1) (eX (gD fs j) 2) (vI (gD fs j) 3) (eX (gD fs j) 4) (hM.f j c).bbs (d j c) (r j c);rw[h.fl j c]at g;show Ev _ _ (wK _) _;unfold wK;exact aC (aW c) (aC (aE c) (bK g rfl (aJ rfl (aO (nx c hM.sane.hf [_] _)))))
  ·show Ev _ _ (wK _) _;unfold wK;exact aJ (aX _) (bG rfl)
 have t:fC DG 3 [.i 0,.l fs,.i (fs.length:Int),.l xs,.l gs,.l ts,.l fs] (1,[.l xs,.l gs,.l ts,.l fs]):=by
  refine cI DH (λj=>[.i (j:Int),.l fs,.i (fs.length:Int),.l xs,.l gs,.l ts,.l fs]) fs.length (λj c=>?_) ?_
  ·have g:=M6 (D.toS (D.fld (gD fs j) 0)) (vB (gD fs j) 1) (eX (gD fs j) 2) (vI (gD fs j) 3) (eX (gD fs j) 4) (hM.f j c).ps (hM.f j c).bbs (r j c) (d j c) (h.fl j c) (h.us j c);show Ev _ _ (wL _) _;unfold wL;exact aC (aW c) (aC (aE c) (bK g rfl (aJ rfl (aO (nx c hM.sane.hf [] _)))))
  ·show Ev _ _ (wL _) _;unfold wL;exact aJ (aX _) (bG rfl)
 have u:fC DG 5 [.i (fs.length:Int),.l fs,.i 0,.l xs,.l gs,.l ts,.l fs] (1,[]):=by
  refine cI DH (λj=>[.i (fs.length:Int),.l fs,.i (j:Int),.l xs,.l gs,.l ts,.l fs]) fs.length (λj c=>?_) ?_
  ·have g:=Yt xs gs ts fs (D.toS (D.fld (gD fs j) 0)) (vB (gD fs j) 1) (eX (gD fs j) 2) (vI (gD fs j) 3) (eX (gD fs j) 4) (hM.f j c).ps (hM.f j c).bbs (d j c) (Tj (h.us j c)) (Tk h.sy j c);rw[h.ty j c]at g;show Ev _ _ (wM _) _;unfold wM;exact aC (aW c) (aC (aE c) (bK g rfl (aJ rfl (aO (nx c hM.sane.hf [_,_] _)))))
  ·show Ev _ _ (wM _) _;unfold wM;exact aJ (aX _) (bG rfl)
 exact bK e rfl (aJ rfl (bK f rfl (aJ rfl (bK l rfl (aJ rfl (bK m rfl (aJ rfl (aP s (eB (bD (aP t (eB (bD (aP u (eB (bD (bJ rfl rfl)))))))))))))))))
end
end Go.Eng.Q

namespace Go.Eng.Q
open Go.Eng Go.Proofs
theorem rW(x:D)(l:List D):∃st,eI E 0 (Ry Hv 22).ps [.l (x::l)] {sl:=.nil,bx:=[],ar:=[],ctr:=1}=some st/\∀g,Px g st (st.sl.get 0)=g st:=
 ⟨(eI E 0 (Ry Hv 22).ps [.l (x::l)] {sl:=.nil,bx:=[],ar:=[],ctr:=1}).getD tQ,by kernel_rfl,λg=>by kernel_rfl⟩
theorem rX:iS E aY sites bH [.l []] (.l []) []:=
 ⟨1,λk n L e f d=>by obtain⟨k,rfl⟩:∃c,k=c+1:=⟨k-1,by omega⟩;obtain⟨n,rfl⟩:∃c,n=c+1:=⟨n-1,by omega⟩;obtain⟨L,rfl⟩:∃c,L=c+1:=⟨L-1,by omega⟩;exact(show qK (wZ E (k+1) sites (L+1)) aY (Eb E) (k+1) (n+1) bH [.l []]=some (.l [],[])by kernel_rfl)⟩
theorem lH(l:List D)(h:iP l.length 16=true):iS E aY sites bH [.l l] (.l l) []:=by
 cases l with
 |nil=>exact rX
 |cons x l=>
  refine aC1 tT rfl rfl rfl (λst f g=>?_) ?_
  ·obtain⟨st',c,d⟩:=rW x l;have e:st'=st:=Option.some.inj (c.symm.trans f);subst e;exact d g
  ·show Ev _ _ (gV _) _;unfold gV;refine aJ rfl (aJ rfl (aC ?_ (bJ rfl rfl)));show iP (0+(x::l).length) 16=true;rw[Nat.zero_add];exact h
def aB5:List (Nat×Nat):=[(22,16)]
def M8:Cl:=λm xs=>
 match look aB5 m with
 |some w=>(match xs with
  |[.l l]=>bif iP l.length w then some (.l l,[])else none
  |_=>none)
 |none=>none
theorem w7:∀m xs r,M8 m xs=some r->iS E aY sites m xs r.1 r.2:=λm xs r h=>by
 unfold M8 at h;split at h
 ·rename_i w c;split at h
  ·rename_i l;cases e:iP l.length w with
   |false=>rw[e]at h;simp at h
   |true=>
    rw[e]at h;simp only[cond_true,Option.some.injEq]at h;subst h;simp only[aB5,look]at c;cases d:Nat.beq 22 m with
    |true=>rw[d]at c;simp only[cond_true,Option.some.injEq]at c;subst c;rw[<-Nat.eq_of_beq_eq_true d];exact lH l e
    |false=>
    rw[d]at c;simp only[cond_false]at c;simp at c
  ·simp at h
 ·simp at h
end Go.Eng.Q

namespace Go.Eng
theorem GW(a b:SP):sE a b=true<->a.1.val<b.1.val\/a.1.val=b.1.val/\a.2.val<b.2.val:=by
 unfold sE;cases e:Nat.beq a.1.val b.1.val with
 |true=>have:=Nat.eq_of_beq_eq_true e;simp;omega
 |false=>
  have:a.1.val≠b.1.val:=λh=>by rw[h,Nat.beq_refl]at e;cases e
  simp;omega
theorem aB6{a b:SP}(c:a.1.val=b.1.val)(d:a.2.val=b.2.val):a=b:=Prod.ext (Fin.ext c) (Fin.ext d)
theorem DO(a:SP):sE a a=false:=by
 cases e:sE a a with
 |false=>rfl
 |true=>rw[GW]at e;omega
theorem JH{a b c:SP}(d:sE a b=true)(e:sE b c=true):sE a c=true:=by rw[GW]at*;omega
theorem NF{a b:SP}:sE a b=false<->b=a\/sE b a=true:=by
 rw[<-Bool.not_eq_true,GW,GW];constructor
 ·intro h;by_cases e:b.1.val=a.1.val/\b.2.val=a.2.val
  ·exact .inl (aB6 e.1 e.2)
  ·right;omega
 ·rintro(rfl |h)<;>omega
def GX(l:List SP):Prop:=l.Pairwise λa b=>sE a b=true
theorem GX.nodup{l:List SP}(h:GX l):l.Nodup:=List.Pairwise.imp (λ{a b}c e=>by subst e;rw[DO]at c;cases c) h
theorem Ki:∀{l m:List SP},GX l->GX m->(∀x,x∈l<->x∈m)->l=m
 |[],[],_,_,_=>rfl
 |[],d::m,_,_,h=>by have:=(h d).2 (by simp);simp at this
 |x::l,[],_,_,h=>by have:=(h x).1 (by simp);simp at this
 |x::l,d::m,t,v,h=>by
  obtain⟨g,u⟩:=List.pairwise_cons.1 t;obtain⟨j,y⟩:=List.pairwise_cons.1 v;have C:x=d:=by
   rcases List.mem_cons.1 ((h x).1 (by simp))with e |e
   ·exact e
   ·rcases List.mem_cons.1 ((h d).2 (by simp))with f |f
    ·exact f.symm
    ·have r:=j x e;have s:=g d f;have:=JH r s;rw[DO]at this;cases this
  subst C;have nx:x∉l:=λhx=>by have:=g x hx;rw[DO]at this;cases this
  have F:x∉m:=λhx=>by have:=j x hx;rw[DO]at this;cases this
  congr 1;refine Ki u y λz=>?_;constructor
  ·intro c;rcases List.mem_cons.1 ((h z).1 (List.mem_cons_of_mem _ c))with e |e
   ·subst e;exact absurd c nx
   ·exact e
  ·intro c;rcases List.mem_cons.1 ((h z).2 (List.mem_cons_of_mem _ c))with e |e
   ·subst e;exact absurd c F
   ·exact e
theorem aB7{l m:List SP}(f:l.Nodup)(g:∀x,x∈l->x∈m)(s:m.length<=l.length):∀x,x∈m->x∈l:=λx hx=>by
 by_cases h:x∈l
 ·exact h
 ·have c:(x::l).Nodup:=List.nodup_cons.2 ⟨h,f⟩;have d:(x::l).length<=m.length:=c.length_le_of_subset λr j=>by
   rcases List.mem_cons.1 j with e |e
   ·rw[e];exact hx
   ·exact g r e
  simp at d;omega
def pN(s:List SP):List SP:=match s with
 |[]=>[]
 |[x]=>[x]
 |_=>aAz s
theorem Ov(s:List SP):(pN s).Perm s:=by
 unfold pN;split
 ·exact List.Perm.refl _
 ·exact List.Perm.refl _
 ·exact List.mergeSort_perm _ _
theorem AC(s:List SP):(pN s).length=s.length:=(Ov s).length_eq
theorem Yw{s:List SP}{x:SP}:x∈pN s<->x∈s:=(Ov s).mem_iff
theorem Yx(s:List SP):(pN s).Pairwise λa b=>sE b a=false:=by
 unfold pN;split
 ·exact List.Pairwise.nil
 ·exact List.pairwise_singleton _ _
 ·have h:=List.pairwise_mergeSort (le:=λx l=>!sE l x) (λa b c d f=>?_) (λa b=>?_) s
  ·exact h.imp λ{a b}j=>by simpa using j
  ·simp only[Bool.not_eq_true']at*;rw[NF]at*;rcases d with rfl |d
   ·exact f
   ·rcases f with rfl |f
    ·exact .inr d
    ·exact .inr (JH d f)
  ·cases e:sE b a with
   |false=>rfl
   |true=>
    cases g:sE a b with
    |false=>rfl
    |true=>have:=JH e g;rw[DO]at this;cases this
theorem aEV(a:SP):Y1 (eE a)=some a:=by
 obtain⟨⟨x,hx⟩,⟨c,d⟩⟩:=a;have e:TV ((x:Nat):Int)=some ⟨x,hx⟩:=by unfold TV;rw[dif_pos ⟨by omega,by simpa using hx⟩];rfl
 have f:TV ((c:Nat):Int)=some ⟨c,d⟩:=by unfold TV;rw[dif_pos ⟨by omega,by simpa using d⟩];rfl
 show((TV ((x:Nat):Int)).bind λa=>(TV ((c:Nat):Int)).bind λb=>some (a,b))=_;rw[e,f];rfl
theorem V7:∀s:List SP,Ar (s.map eE)=some s
 |[]=>rfl
 |x::s=>by show((Y1 (eE x)).bind λx=>(Ar (s.map eE)).bind λl=>some (x::l))=_;rw[aEV,V7 s];rfl
theorem V8(s:List SP):Uq (s.map eE) s=(pN s).map eE:=by
 match s with
 |[]=>rfl
 |[x]=>rfl
 |x::c::s=>rfl
theorem aDq(s:List SP)(h:s.length<=1000000000):As [.l (s.map eE),.l []]=some (.l [],[.l ((pN s).map eE)]):=by show(bif Nat.ble (s.map eE).length 1000000000 then(Ar (s.map eE)).bind λl=>some (D.l [],[D.l (Uq (s.map eE) l)])else none)=_;rw[List.length_map,Nat.ble_eq_true_of_le h,cond_true];rw[V7];show some (D.l [],[D.l (Uq (s.map eE) s)])=_;rw[V8]
abbrev sp0:SP:=(0,0)
abbrev gP(s:List SP)(i:Nat):SP:=s.getD i sp0
def nH(s:List SP)(n:Nat):Bool:=Nat.beq n 0||!(decide (gP s n=gP s (n-1)))
def eU(s:List SP):Nat->List SP
 |0=>[]
 |n+1=>eU s n++(bif nH s n then[gP s n]else[])
def Lx(s:List SP):List SP:=eU s s.length
theorem JI{s:List SP}{n:Nat}(h:nH s n=true):eU s (n+1)=eU s n++[gP s n]:=by rw[eU,h];rfl
theorem JJ{s:List SP}{n:Nat}(h:nH s n=false):eU s (n+1)=eU s n:=by rw[eU,h];simp
theorem OW(s:List SP):∀n,(eU s n).length<=n
 |0=>Nat.le_refl _
 |n+1=>by
  have:=OW s n;cases e:nH s n with
  |true=>rw[JI e];simp;omega
  |false=>rw[JJ e];omega
theorem OX(s:List SP):∀n x,x∈eU s n<->∃i,i<n/\x=gP s i
 |0,x=>by simp[eU]
 |n+1,x=>by
  cases e:nH s n with
  |true=>
   rw[JI e,List.mem_append,OX s n,List.mem_singleton];constructor
   ·rintro(⟨i,d,c⟩ |h)
    ·exact⟨i,by omega,c⟩
    ·exact⟨n,by omega,h⟩
   ·rintro⟨i,d,c⟩;by_cases f:i=n
    ·subst f;exact .inr c
    ·exact .inl ⟨i,by omega,c⟩
  |false=>
   rw[JJ e,OX s n];unfold nH at e;rw[Bool.or_eq_false_iff]at e;have j:n≠0:=λh=>by rw[h]at e;cases e.1
   have g:gP s n=gP s (n-1):=by simpa using e.2
   constructor
   ·rintro⟨i,d,c⟩;exact⟨i,by omega,c⟩
   ·rintro⟨i,d,c⟩;by_cases f:i=n
    ·subst f;exact⟨i-1,by omega,by rw[c,g]⟩
    ·exact⟨i,by omega,c⟩
theorem Kj{s:List SP}(g:s.Pairwise λa b=>sE b a=false){i j:Nat}(l:i<=j)(c:j<s.length):sE (gP s j) (gP s i)=false:=by
 by_cases e:i=j
 ·subst e;exact DO _
 ·have h:=List.pairwise_iff_getElem.1 g i j (by omega) c (by omega);have d:gP s i=s[i]:=by simp[gP,List.getD,show i<s.length by omega]
  have f:gP s j=s[j]:=by simp[gP,List.getD,c]
  rw[d,f];exact h
theorem Kk{s:List SP}(c:s.Pairwise λa b=>sE b a=false):∀n,n<=s.length->GX (eU s n)
 |0,_=>List.Pairwise.nil
 |n+1,j=>by
  have d:=Kk c n (by omega);cases e:nH s n with
  |false=>rw[JJ e];exact d
  |true=>
   rw[JI e];refine List.pairwise_append.2 ⟨d,List.pairwise_singleton _ _,λx hx l g=>?_⟩;rw[List.mem_singleton.1 g];obtain⟨i,h,rfl⟩:=(OX s n x).1 hx;unfold nH at e;rw[Bool.or_eq_true]at e;rcases e with e |e
   ·have:=Nat.eq_of_beq_eq_true e;omega
   ·have f:gP s n≠gP s (n-1):=by simpa using e
    have a1:=NF.1 (Kj c (show i<=n-1 by omega) (by omega));have a2:=NF.1 (Kj c (show n-1<=n by omega) (by omega));rcases a2 with a2 |a2
    ·exact absurd a2.symm f
    ·rcases a1 with a1 |a1
     ·rw[a1];exact a2
     ·exact JH a1 a2
def xE(s:List SP):List SP:=Lx (pN s)
theorem Kl(s:List SP):GX (xE s):=Kk (Yx s) _ (Nat.le_refl _)
theorem FB{s:List SP}{x:SP}:x∈xE s<->x∈s:=by
 unfold xE Lx;rw[OX];constructor
 ·rintro⟨i,c,rfl⟩;have:gP (pN s) i=(pN s)[i]:=by simp[gP,List.getD,c]
  rw[this,<-Yw (s:=s)];exact List.getElem_mem c
 ·intro h;obtain⟨i,c,d⟩:=List.mem_iff_getElem.1 (Yw.2 h);exact⟨i,c,by rw[<-d];simp[gP,List.getD,c]⟩
theorem aGg(s:List SP):(xE s).length<=s.length:=by have:=OW (pN s) (pN s).length;rw[AC]at this;unfold xE Lx;rw[AC];exact this
end Go.Eng

namespace Go.Eng.Q
open Go.Eng
abbrev eG(s:List SP):D:=.l (s.map eE)
theorem NG{s:List SP}{i:Nat}(h:i<s.length):gD (s.map eE) i=eE (gP s i):=by simp[gD,List.getD,gP,h]
theorem aB8(s:List SP)(c:s.length<=1000000000):iS E aY sites bB [eG s,.l []] (.l []) [eG (pN s)]:=by refine⟨0,λk n L _ _ _=>?_⟩;have h:(Eb E) bB=some As:=rfl;cases n<;>simp only[qK,h,aDq s c]
theorem eqS(a b:SP):(aD (a.1.val:Int) (b.1.val:Int)&&(aD (a.2.val:Int) (b.2.val:Int)&&true))=decide (a=b):=by
 rw[Bool.eq_iff_iff];simp only[Bool.and_eq_true,bT,decide_eq_true_eq,and_true];constructor
 ·rintro⟨c,d⟩;exact aB6 (by omega) (by omega)
 ·rintro rfl;exact⟨rfl,rfl⟩
def lQ(s:List SP)(n:Nat):List SP:=eU s n++s.drop (eU s n).length
theorem Yy{s:List SP}{n:Nat}(h:n<=s.length):(lQ s n).length=s.length:=by have:=OW s n;unfold lQ;rw[List.length_append,List.length_drop];omega
theorem Yz{s:List SP}{n i:Nat}(h:(eU s n).length<=i)(c:i<s.length):gP (lQ s n) i=gP s i:=by unfold lQ gP;simp only[List.getD];rw[List.getElem?_append_right h,List.getElem?_drop];congr 2;omega
theorem Km{s:List SP}:∀n,n<=s.length->(∀i,i<n->nH s i=true)->eU s n=s.take n
 |0,_,_=>by simp[eU]
 |n+1,e,h=>by
  have c:gP s n=s[n]:=by simp[gP,List.getD,show n<s.length by omega]
  rw[JI (h n (by omega)),Km n (by omega) λi d=>h i (by omega),c,List.take_succ_eq_append_getElem (by omega)]
theorem aB9{s:List SP}{n:Nat}(f:n<s.length)(c:nH s n=true)(d:(eU s n).length<s.length):((lQ s n).map eE).set (eU s n).length (eE (gP s n))=(lQ s (n+1)).map eE:=by
 have e:(lQ s n).set (eU s n).length (gP s n)=lQ s (n+1):=by unfold lQ;rw[JI c,List.set_append_right _ _ (Nat.le_refl _),Nat.sub_self];have hd:s.drop (eU s n).length=s[(eU s n).length]::s.drop ((eU s n).length+1):=List.drop_eq_getElem_cons d;rw[hd,List.set_cons_zero,List.length_append,List.append_assoc];rfl
 rw[<-e,List.map_set]
theorem w8(s:List SP)(c:Nat)(a1:0<c)(a3:c<s.length)(a5:s.length<=1000000)(L:∀i,i<c->nH s i=true)(hd:nH s c=false):
  fC cB 2 [.i (c:Int),.i 1,.i (Int.ofNat (s.length-c)),.i (Int.ofNat c),eG s] (0,[.i ((eU s s.length).length:Int),eG (lQ s s.length)]):=by
 have h:eU s (c+1)=s.take c:=by rw[JJ hd,Km c (by omega) L]
 have l:(eU s (c+1)).length=c:=by rw[h,List.length_take];omega
 have J:lQ s (c+1)=s:=by unfold lQ;rw[l,h,List.take_append_drop]
 have V:∀j,c+1<=j->j<=s.length->(eU s j).length+1<=j:=λj Q=>by
  induction j with
  |zero=>omega
  |succ j Y=>
   intro a2;by_cases e:j=c
   ·subst e;omega
   ·have:=Y (by omega) (by omega);cases d:nH s j with
    |true=>rw[JI d];simp;omega
    |false=>rw[JJ d];omega
 have r:fC cB 2 [.i ((eU s (c+1+0)).length:Int),.i ((0+1:Nat):Int),.i (Int.ofNat (s.length-c)),.i (Int.ofNat c),eG (lQ s (c+1+0))] (0,[.i ((eU s s.length).length:Int),eG (lQ s s.length)]):=by
  refine cI dN (λq=>[.i ((eU s (c+1+q)).length:Int),.i ((q+1:Nat):Int),.i (Int.ofNat (s.length-c)),.i (Int.ofNat c),eG (lQ s (c+1+q))]) (s.length-c-1) (λq a4=>?_) ?_
  ·have Q:=V (c+1+q) (by omega) (by omega);have t:=Yy (s:=s) (n:=c+1+q) (by omega);have v:bC .i64 (((q+1:Nat):Int)-1)=(q:Int):=DL (by omega) (by omega);have g:gD ((lQ s (c+1+q)).map eE) (c+Int.toNat ((q+1:Nat):Int))=eE (gP s (c+1+q)):=by
    show gD ((lQ s (c+1+q)).map eE) (c+(q+1))=_;rw[NG (by omega),Yz (by omega) (by omega),show c+(q+1)=c+1+q by omega]
   have H:gD ((lQ s (c+1+q)).map eE) (c+Int.toNat (bC .i64 (((q+1:Nat):Int)-1)))=eE (gP s (c+q)):=by rw[v];show gD ((lQ s (c+1+q)).map eE) (c+q)=_;rw[NG (by omega),Yz (by omega) (by omega)]
   have T:nH s (c+1+q)=!(decide (gP s (c+1+q)=gP s (c+q))):=by
    unfold nH;rw[show c+1+q-1=c+q by omega];have:Nat.beq (c+1+q) 0=false:=by
     cases e:Nat.beq (c+1+q) 0 with
     |false=>rfl
     |true=>have:=Nat.eq_of_beq_eq_true e;omega
    rw[this];rfl
   have m:(!((aD (vI (gD ((lQ s (c+1+q)).map eE) (c+Int.toNat ((q+1:Nat):Int))) 0) (vI (gD ((lQ s (c+1+q)).map eE) (c+Int.toNat (bC .i64 (((q+1:Nat):Int)-1)))) 0))&&((aD (vI (gD ((lQ s (c+1+q)).map eE) (c+Int.toNat ((q+1:Nat):Int))) 1) (vI (gD ((lQ s (c+1+q)).map eE) (c+Int.toNat (bC .i64 (((q+1:Nat):Int)-1)))) 1))&&true)))=nH s (c+1+q):=by rw[g,H,T];exact congrArg Bool.not (eqS _ _)
   have f:aA ((q+1:Nat):Int) (s.length-c)=true:=aE (by omega);have y:aA (bC .i64 (((q+1:Nat):Int)-1)) (s.length-c)=true:=by rw[v];exact aE (by omega)
   have u:∀K M,[D.i K,.i ((q+1+1:Nat):Int),.i (Int.ofNat (s.length-c)),.i (Int.ofNat c),.l M]=[D.i K,.i (aG .i64 ((q+1:Nat):Int) 1),.i (Int.ofNat (s.length-c)),.i (Int.ofNat c),.l M]:=λK M=>nx (j:=q+1) (n:=s.length) (by omega) (by omega) [_] _;show Ev _ _ (dI _) _;unfold dI;cases e:nH s (c+1+q)with
   |false=>
    refine aC (aW (by omega:q+1<s.length-c)) (aC f (aC y (aJ (m.trans e) (aO ?_))));show[D.i ((eU s (c+1+q+1)).length:Int),.i ((q+1+1:Nat):Int),.i (Int.ofNat (s.length-c)),.i (Int.ofNat c),.l ((lQ s (c+1+q+1)).map eE)]=_;have d:lQ s (c+1+q+1)=lQ s (c+1+q):=by unfold lQ;rw[JJ e]
    rw[d,JJ e];exact u _ _
   |true=>
    have W:=aB9 (s:=s) (n:=c+1+q) (by omega) e (by omega);have P:∃x:SP,gD ((lQ s (c+1+q)).map eE) (eU s (c+1+q)).length=eE x:=⟨_,NG (by omega)⟩;obtain⟨x,hx⟩:=P;have a0:aA ((eU s (c+1+q)).length:Int) ((lQ s (c+1+q)).map eE).length=true:=by rw[List.length_map,t];exact aE (by omega)
    have F:(let z0:=((lQ s (c+1+q)).map eE).set (eU s (c+1+q)).length (D.l (cK (D.els (gD ((lQ s (c+1+q)).map eE) (eU s (c+1+q)).length)) 0 (D.i (vI (gD ((lQ s (c+1+q)).map eE) (c+Int.toNat ((q+1:Nat):Int))) 0))));z0.set (eU s (c+1+q)).length (D.l (cK (D.els (gD z0 (eU s (c+1+q)).length)) 1 (D.i (vI (gD ((lQ s (c+1+q)).map eE) (c+Int.toNat ((q+1:Nat):Int))) 1)))))=(lQ s (c+1+q+1)).map eE:=by
     rw[<-W,g,hx];dsimp only;have U:(eU s (c+1+q)).length<((lQ s (c+1+q)).map eE).length:=by rw[List.length_map,t];omega
     have:gD (((lQ s (c+1+q)).map eE).set (eU s (c+1+q)).length (D.l (cK (D.els (eE x)) 0 (D.i (vI (eE (gP s (c+1+q))) 0))))) (eU s (c+1+q)).length=D.l (cK (D.els (eE x)) 0 (D.i (vI (eE (gP s (c+1+q))) 0))):=by unfold gD;simp only[List.getD];rw[List.getElem?_set_self U];rfl
     rw[this,List.set_set];rfl
    refine aC (aW (by omega:q+1<s.length-c)) (aC f (aC y (aC (m.trans e) (aC f (aC a0 (aO ?_))))));show[D.i ((eU s (c+1+q+1)).length:Int),.i ((q+1+1:Nat):Int),.i (Int.ofNat (s.length-c)),.i (Int.ofNat c),.l ((lQ s (c+1+q+1)).map eE)]=_;have G:((eU s (c+1+q+1)).length:Int)=aG .i64 ((eU s (c+1+q)).length:Int) 1:=by rw[Te (by omega),JI e,List.length_append];rfl
    rw[<-F,G];exact u _ _
  ·show Ev _ _ (dI _) _;unfold dI;have e1:c+1+(s.length-c-1)=s.length:=by omega
   have d:s.length-c-1+1=s.length-c:=by omega
   dsimp only;rw[e1,d];exact aJ (aX _) (bG rfl)
 have C:c+1+0=c+1:=rfl;rw[C,l,J]at r;exact r
theorem Ow{s:List SP}{q:Nat}(c:q+1<s.length)(h:s.length<=1000000):
  aA ((q+1:Nat):Int) (s.map eE).length=true/\aA (bC .i64 (((q+1:Nat):Int)-1)) (s.map eE).length=true/\
  ((aD (vI (gD (s.map eE) (Int.toNat ((q+1:Nat):Int))) 0) (vI (gD (s.map eE) (Int.toNat (bC .i64 (((q+1:Nat):Int)-1)))) 0))&&((aD (vI (gD (s.map eE) (Int.toNat ((q+1:Nat):Int))) 1) (vI (gD (s.map eE) (Int.toNat (bC .i64 (((q+1:Nat):Int)-1)))) 1))&&true))=!(nH s (q+1)):=by
 have g:bC .i64 (((q+1:Nat):Int)-1)=(q:Int):=DL (by omega) (by omega);have f:nH s (q+1)=!(decide (gP s (q+1)=gP s q)):=rfl;rw[List.length_map,g];refine⟨aE c,aE (by omega),?_⟩;have d:gD (s.map eE) (Int.toNat ((q+1:Nat):Int))=eE (gP s (q+1)):=NG c;have e:gD (s.map eE) (Int.toNat (q:Int))=eE (gP s q):=NG (by omega);rw[d,e,f,Bool.not_not];exact eqS _ _
theorem w9(s:List SP)(r:s.length<=1000000)(P:2<=s.length):
  (fC cB 0 [.i 1,eG s] (0,[eG (Lx s)]))\/(Lx s=s/\fC cB 0 [.i 1,eG s] (1,[eG s])):=by
 have v:∀q,q+1<s.length->nH s (q+1)=true->sA E aY sites cB (cB.F.lp 0 [.i ((q+1:Nat):Int),eG s]) (.again [.i ((q+1+1:Nat):Int),eG s]):=λq f e=>by
  obtain⟨h,l,m⟩:=Ow f r;have g:aT ((q+1:Nat):Int) (((s.map eE).length:Nat):Int)=true:=by rw[List.length_map];exact aW f
  show Ev _ _ (cE _) _;unfold cE;exact aC g (aC h (aC l (aJ (m.trans (by rw[e];rfl)) (aO (nx (j:=q+1) (n:=s.length) f (by omega) [] _)))))
 cases e:dS (s.length-1) λq=>!(nH s (q+1))with
 |true=>
  left;obtain⟨j,Q,u,H⟩:=xS e;have d:∀i,i<j+1->nH s i=true:=λi J=>by
   cases i with
   |zero=>rfl
   |succ i=>have:=H i (by omega);cases c:nH s (i+1)with|true=>rfl |false=>rw[c]at this;cases this
  have y:nH s (j+1)=false:=by cases c:nH s (j+1)with|false=>rfl |true=>rw[c]at u;cases u
  refine cI dN (λq=>[.i ((q+1:Nat):Int),eG s]) j (λq f=>v q (by omega) (d (q+1) (by omega))) ?_;obtain⟨h,l,m⟩:=Ow (s:=s) (q:=j) (by omega) r;have g:aT ((j+1:Nat):Int) (((s.map eE).length:Nat):Int)=true:=by rw[List.length_map];exact aW (by omega)
  have G:(cP 0 ((j+1:Nat):Int)&&cP ((j+1:Nat):Int) (((s.map eE).length:Nat):Int))=true:=by rw[List.length_map,jA (by omega),jA (by omega)];rfl
  have t:=w8 s (j+1) (by omega) (by omega) r d y;have K:=Yy (s:=s) (n:=s.length) (Nat.le_refl _);have T:=OW s s.length;have C:((lQ s s.length).map eE).length=s.length:=by rw[List.length_map,K]
  have L:((lQ s s.length).map eE).take (eU s s.length).length=(Lx s).map eE:=by rw[<-List.map_take];unfold lQ Lx;rw[List.take_left]
  have F:(s.map eE).length=s.length:=List.length_map ..;rw[<-F]at t;show Ev _ _ (cE _) _;unfold cE;refine aC g (aC h (aC l (aC (m.trans (by rw[y];rfl)) (aC G (aP t (bD ?_))))));rw[F];refine aC ?_ (aC ?_ (bG ?_))
  ·show(cP 0 ((eU s s.length).length:Int)&&cP ((eU s s.length).length:Int) ((((lQ s s.length).map eE).length:Nat):Int))=true;rw[C,jA (by omega),jA (by omega)];rfl
  ·show jT 0 ((eU s s.length).length:Int) ((((((lQ s s.length).map eE).take (eU s s.length).length)++List.replicate (((lQ s s.length).map eE).length-(eU s s.length).length) (D.l [.i 0,.i 0])).length:Nat):Int)=true;rw[List.length_append,List.length_take,List.length_replicate,C];unfold jT;rw[jA (by omega),jA (by omega),jA (by omega)];rfl
  ·show(0,[eG (Lx s)])=(0,[D.l (List.drop 0 (List.take (eU s s.length).length ((((lQ s s.length).map eE).take (eU s s.length).length)++List.replicate (((lQ s s.length).map eE).length-(eU s s.length).length) (D.l [.i 0,.i 0]))))]);rw[List.drop_zero,L,List.take_left' (by rw[List.length_map];rfl)]
 |false=>
  right;have d:∀i,i<s.length->nH s i=true:=λi J=>by
   cases i with
   |zero=>rfl
   |succ i=>have:=bQ.1 e i (by omega);cases c:nH s (i+1)with|true=>rfl |false=>rw[c]at this;cases this
  refine⟨by unfold Lx;rw[Km s.length (Nat.le_refl _) d,List.take_length],cI dN (λq=>[.i ((q+1:Nat):Int),eG s]) (s.length-1) (λq f=>v q (by omega) (d (q+1) (by omega))) ?_⟩;show Ev _ _ (cE _) _;unfold cE;dsimp only;have e1:s.length-1+1=(s.map eE).length:=by rw[List.length_map];omega
  rw[e1];exact aJ (aX _) (bG rfl)
theorem M9(s:List SP)(f:s.length<=1000000):iS E aY sites bV [eG s] (eG (Lx s)) []:=by
 refine bA dN (by rfl) rfl ?_;show Ev _ _ (fX _) _;unfold fX;have d:(s.map eE).length=s.length:=List.length_map ..;by_cases h:s.length<2
 ·refine aC ?_ (bJ ?_ rfl)
  ·show aT (((s.map eE).length:Nat):Int) 2=true;rw[d];exact Sw (by omega)
  ·match s,h with
   |[],_=>rfl
   |[x],_=>rfl
 ·refine aJ ?_ ?_
  ·show aT (((s.map eE).length:Nat):Int) 2=false;rw[d];exact MT (by omega)
  ·rcases w9 s f (by omega)with c |⟨c,e⟩
   ·exact aP c (bD (bJ rfl rfl))
   ·rw[c];exact aP e (eB (bD (bJ rfl rfl)))
theorem x0(a b:List D)(h:a.length<=1000000)(j:b.length<=1000000):iS E aY sites iB [.l [.l a,.l b]] (.l (a++b)) []:=by
 refine bA cC (by rfl) rfl ?_;show Ev _ _ (gK _) _;unfold gK;have s1:aG .i64 0 (a.length:Int)=(a.length:Int):=by rw[AQ _ _ _ (by simp[TC,TD];omega),uJ (by omega) (by omega)];omega
 have e:aG .i64 (a.length:Int) (b.length:Int)=((a.length+b.length:Nat):Int):=by rw[AQ _ _ _ (by simp[TC,TD];omega),uJ (by omega) (by omega)];omega
 have f:fC eS 0 [.l [.l a,.l b],.i 0,.i 0,.l [.l a,.l b],.i 2] (0,[.l [.l a,.l b],.i ((a.length+b.length:Nat):Int)]):=by
  refine rK cC (ps':=[.l [.l a,.l b],.i (a.length:Int),.i 1,.l [.l a,.l b],.i 2]) ?_ (rK cC (ps':=[.l [.l a,.l b],.i ((a.length+b.length:Nat):Int),.i 2,.l [.l a,.l b],.i 2]) ?_ (xR cC ?_))
  ·show Ev _ _ (cG _) _;unfold cG;refine aC rfl (aC rfl (aJ ?_ (aO ?_)))
   ·show aT (aG .i64 0 (a.length:Int)) 0=false;rw[s1];exact MT (by omega)
   ·show _=[D.l [.l a,.l b],.i (aG .i64 0 (a.length:Int)),.i (aG .i64 0 1),.l [.l a,.l b],.i 2];rw[s1];rfl
  ·show Ev _ _ (cG _) _;unfold cG;refine aC rfl (aC rfl (aJ ?_ (aO ?_)))
   ·show aT (aG .i64 (a.length:Int) (b.length:Int)) 0=false;rw[e];exact MT (by omega)
   ·show _=[D.l [.l a,.l b],.i (aG .i64 (a.length:Int) (b.length:Int)),.i (aG .i64 1 1),.l [.l a,.l b],.i 2];rw[e];rfl
  ·show Ev _ _ (cG _) _;unfold cG;exact aJ rfl (bG rfl)
 have c:fC eS 2 [.i 0,.l [.l a,.l b],.i 2,.l []] (0,[.l (a++b)]):=by
  refine rK cC (ps':=[.i 1,.l [.l a,.l b],.i 2,.l a]) ?_ (rK cC (ps':=[.i 2,.l [.l a,.l b],.i 2,.l (a++b)]) ?_ (xR cC ?_))
  ·show Ev _ _ (cH _) _;unfold cH;refine aC rfl (aC rfl (aC ?_ (aO rfl)));show iP (0+a.length) 16=true;exact eM (by omega) (by omega)
  ·show Ev _ _ (cH _) _;unfold cH;refine aC rfl (aC rfl (aC ?_ (aO rfl)));show iP (a.length+b.length) 16=true;exact eM (by omega) (by omega)
  ·show Ev _ _ (cH _) _;unfold cH;exact aJ rfl (bG rfl)
 refine aP f (bD (aJ (MT (by show(0:Int)<=((a.length+b.length:Nat):Int);omega)) ?_));have w:bC .i64 (((a.length+b.length:Nat):Int)-(bC .i64 (0-0)))=((a.length+b.length:Nat):Int):=by have:bC .i64 (0-0)=0:=rfl;rw[this,uJ (by omega) (by omega)];omega
 by_cases l:a.length+b.length=0
 ·refine aJ ?_ (aP c (bD (bJ rfl rfl)));show aT 0 (bC .i64 (((a.length+b.length:Nat):Int)-(bC .i64 (0-0))))=false;rw[w];exact MT (by omega)
 ·have d:aT 0 (bC .i64 (((a.length+b.length:Nat):Int)-(bC .i64 (0-0))))=true:=by rw[w];exact Sw (by omega)
  refine aC d (aC ?_ (aC ?_ (aP c (bD (bJ rfl rfl)))))
  ·show(aT 0 (bC .i64 (((a.length+b.length:Nat):Int)-(bC .i64 (0-0))))&&iP (Int.toNat (bC .i64 (((a.length+b.length:Nat):Int)-(bC .i64 (0-0))))) 16)=true;rw[d,w];exact eM (by show a.length+b.length<=_;omega) (by omega)
  ·have g:∀n:Nat,jT 0 0 (n:Int)=true:=λn=>by unfold jT;rw[jA (show(0:Int)<=(n:Int)by omega)];rfl
   exact g _
end Go.Eng.Q

namespace Go.Eng.Q
open Go.Eng
def QH(k n:Nat):SP:=(⟨k%1000000000,by omega⟩,⟨n%1000000000,by omega⟩)
theorem Ox{k n:Nat}(c:k<1000000000)(d:n<1000000000):eE (QH k n)=.l [.i (k:Int),.i (n:Int)]:=by show D.l [.i ((k%1000000000:Nat):Int),.i ((n%1000000000:Nat):Int)]=_;rw[Nat.mod_eq_of_lt c,Nat.mod_eq_of_lt d]
def Kn:List SP:=(List.range 4).flatMap λk=>(List.range 400).map λn=>QH k n
theorem Ko:Kn.length=1600:=by unfold Kn;rw[List.length_flatMap];simp only[List.length_map,List.length_range];rfl
theorem Kp{k n:Nat}(c:k<4)(d:n<400):QH k n∈Kn:=by unfold Kn;rw[List.mem_flatMap];exact⟨k,List.mem_range.2 c,List.mem_map.2 ⟨n,List.mem_range.2 d,rfl⟩⟩
abbrev eT(x:D)(j:Nat):Nat:=(oM x j).toNat
structure aGR(n:Nat)(x:D):Prop where
 a:∀j,j<(eX x 5).length->∃u:Nat,oM x j=u/\u<n
 at':vI x 0=19->(eX x 5).length=2
 sel:vI x 0=17->(eX x 5).length=3
 phi:vI x 0=26->(eX x 5).length<=40
 glo:vI x 0=3->∃g:Nat,vI x 3=g/\g<400
def EA(b:Nat->List SP)(as1:List D):List SP:=as1.flatMap λa=>b a.toI.toNat
def bF(df:Nat->D)(b:Nat->List SP)(v:Nat):List SP:=
 if vI (df v) 0=18 then[QH 2 v]else if vI (df v) 0=3 then[QH 3 (vI (df v) 3).toNat]else if vI (df v) 0=19 then b (eT (df v) 0)else
 if vI (df v) 0=17 then b (eT (df v) 1)++b (eT (df v) 2)else if vI (df v) 0=26 then EA b (eX (df v) 5)else[]
def wV(df:Nat->D)(v:Nat):Bool:=aD (vI (df v) 1) 3
def qF(ps:List D)(v:Nat):List SP:=if 0<v/\v<=ps.length/\(gD ps (v-1)).toI=3 then[QH 1 v]else[]
structure DP(n:Nat)(ps:List D)(df:Nat->D)(b:Nat->List SP):Prop where
 rise:∀v,v<n->GX (b v)
 uni:∀v,v<n->∀x,x∈b v->x∈Kn
 sub:∀v,v<n->wV df v=true->∀x,x∈b v->x∈bF df b v
 ini:∀v,v<n->wV df v=false->b v=qF ps v
structure V9(n:Nat)(ps:List D)(df:Nat->D):Prop where
 n400:n<=400
 d:∀v,v<n->wV df v=true->aGR n (df v)
 par:∀v,v<=ps.length->wV df v=false
 pn:ps.length<n
section
variable{n:Nat}{ps:List D}{df:Nat->D}(hD:V9 n ps df)
include hD
theorem aDr{b b':Nat->List SP}{v:Nat}(hv:v<n)(l:wV df v=true)(h:∀u,u<n->∀x,x∈b u->x∈b' u):∀x,x∈bF df b v->x∈bF df b' v:=λx hx=>by
 have hd:=hD.d v hv l;have d:∀j,j<(eX (df v) 5).length->eT (df v) j<n:=λj f=>by obtain⟨u,c,g⟩:=hd.a j f;show(oM (df v) j).toNat<n;rw[c];exact g
 unfold bF at hx⊢;split at hx
 ·rename_i e;rw[if_pos e];exact hx
 ·rename_i e;rw[if_neg e];split at hx
  ·rename_i e;rw[if_pos e];exact hx
  ·rename_i e;rw[if_neg e];split at hx
   ·rename_i e;rw[if_pos e];exact h _ (d 0 (by rw[hd.at' e];omega)) x hx
   ·rename_i e;rw[if_neg e];split at hx
    ·rename_i e;rw[if_pos e];rcases List.mem_append.1 hx with c |c
     ·exact List.mem_append_left _ (h _ (d 1 (by rw[hd.sel e];omega)) x c)
     ·exact List.mem_append_right _ (h _ (d 2 (by rw[hd.sel e];omega)) x c)
    ·rename_i e;rw[if_neg e];split at hx
     ·rename_i e;rw[if_pos e];unfold EA at hx⊢;rw[List.mem_flatMap]at hx⊢;obtain⟨a,c,g⟩:=hx;obtain⟨j,f,rfl⟩:=List.mem_iff_getElem.1 c;have hg:gD (eX (df v) 5) j=(eX (df v) 5)[j]:=by simp[gD,List.getD,f]
      have:=d j f;unfold eT oM at this;rw[hg]at this;exact⟨_,c,h _ this x g⟩
     ·cases hx
theorem aCa{b:Nat->List SP}(h:DP n ps df b){v:Nat}(hv:v<n)(m:wV df v=true):∀x,x∈bF df b v->x∈Kn:=λx hx=>by
 have hd:=hD.d v hv m;have r:=hD.n400;have f:∀j,j<(eX (df v) 5).length->eT (df v) j<n:=λj l=>by obtain⟨u,c,d⟩:=hd.a j l;show(oM (df v) j).toNat<n;rw[c];exact d
 unfold bF at hx;split at hx
 ·rw[List.mem_singleton.1 hx];exact Kp (by omega) (by omega)
 ·split at hx
  ·rename_i e;obtain⟨g,c,d⟩:=hd.glo e;rw[List.mem_singleton.1 hx,c];exact Kp (by omega) (by simpa using d)
  ·split at hx
   ·rename_i e;exact h.uni _ (f 0 (by rw[hd.at' e];omega)) x hx
   ·split at hx
    ·rename_i e;rcases List.mem_append.1 hx with c |c
     ·exact h.uni _ (f 1 (by rw[hd.sel e];omega)) x c
     ·exact h.uni _ (f 2 (by rw[hd.sel e];omega)) x c
    ·split at hx
     ·unfold EA at hx;rw[List.mem_flatMap]at hx;obtain⟨a,c,d⟩:=hx;obtain⟨j,l,rfl⟩:=List.mem_iff_getElem.1 c;have hg:gD (eX (df v) 5) j=(eX (df v) 5)[j]:=by simp[gD,List.getD,l]
      have:=f j l;unfold eT oM at this;rw[hg]at this;exact h.uni _ this x d
     ·cases hx
omit hD in
theorem DP.len{b:Nat->List SP}(c:DP n ps df b){v:Nat}(hv:v<n):(b v).length<=1600:=by rw[<-Ko];exact(c.rise v hv).nodup.length_le_of_subset (λx hx=>c.uni v hv x hx)
omit hD in
theorem Kq{b:Nat->List SP}:∀(l:List D),(∀a,a∈l->(b a.toI.toNat).length<=1600)->(EA b l).length<=l.length*1600
 |[],_=>by simp[EA]
 |a::l,h=>by have c:=Kq l λx hx=>h x (List.mem_cons_of_mem _ hx);have d:=h a (by simp);unfold EA at c⊢;rw[List.flatMap_cons,List.length_append,List.length_cons,Nat.add_mul];omega
theorem aEW{b:Nat->List SP}(f:DP n ps df b){v:Nat}(hv:v<n)(l:wV df v=true):(bF df b v).length<=64000:=by
 have hd:=hD.d v hv l;have d:∀j,j<(eX (df v) 5).length->eT (df v) j<n:=λj g=>by obtain⟨u,c,h⟩:=hd.a j g;show(oM (df v) j).toNat<n;rw[c];exact h
 unfold bF;split
 ·simp
 ·split
  ·simp
  ·split
   ·rename_i e;have:=f.len (d 0 (by rw[hd.at' e];omega));omega
   ·split
    ·rename_i e;have c:=f.len (d 1 (by rw[hd.sel e];omega));have h:=f.len (d 2 (by rw[hd.sel e];omega));rw[List.length_append];omega
    ·split
     ·rename_i e;have c:=Kq (b:=b) (eX (df v) 5) λa c=>by
       obtain⟨j,g,rfl⟩:=List.mem_iff_getElem.1 c;have hg:gD (eX (df v) 5) j=(eX (df v) 5)[j]:=by simp[gD,List.getD,g]
       have:=d j g;unfold eT oM at this;rw[hg]at this;exact f.len this
      have:=hd.phi e;have:=Nat.mul_le_mul_right 1600 this;omega
     ·simp
def gG(b:Nat->List SP)(v:Nat)(l:List SP):Nat->List SP:=λu=>if u=v then l else b u
theorem Za{b:Nat->List SP}(d:DP n ps df b){v:Nat}(hv:v<n)(g:wV df v=true):DP n ps df (gG b v (xE (bF df b v))):=by
 have h:∀u,u<n->∀x,x∈b u->x∈gG b v (xE (bF df b v)) u:=λu c x hx=>by
  unfold gG;by_cases e:u=v
  ·subst e;rw[if_pos rfl];exact FB.2 (d.sub u c g x hx)
  ·rw[if_neg e];exact hx
 refine⟨λu c=>?_,λu c x hx=>?_,λu c f x hx=>?_,λu c f=>?_⟩
 ·unfold gG;by_cases e:u=v
  ·rw[if_pos e];exact Kl _
  ·rw[if_neg e];exact d.rise u c
 ·unfold gG at hx;by_cases e:u=v
  ·rw[if_pos e]at hx;exact aCa hD d hv g x (FB.1 hx)
  ·rw[if_neg e]at hx;exact d.uni u c x hx
 ·refine aDr hD c f h x ?_;unfold gG at hx;by_cases e:u=v
  ·subst e;rw[if_pos rfl]at hx;exact FB.1 hx
  ·rw[if_neg e]at hx;exact d.sub u c f x hx
 ·unfold gG;by_cases e:u=v
  ·subst e;rw[g]at f;cases f
  ·rw[if_neg e];exact d.ini u c f
def mD(b:Nat->List SP):Nat->Nat
 |0=>0
 |n+1=>mD b n+(1600-(b n).length)
omit hD in
theorem Kr{b:Nat->List SP}{v:Nat}{l:List SP}(d:(b v).length<l.length)(f:l.length<=1600):∀n,v<n->mD (gG b v l) n<mD b n
 |0,h=>absurd h (by omega)
 |n+1,h=>by
  unfold mD;by_cases e:v=n
  ·subst e;have key:∀m,m<=v->mD (gG b v l) m=mD b m:=λm=>by
    induction m with
    |zero=>intro _;rfl
    |succ m g=>intro j;unfold mD;rw[g (by omega)];congr 2;unfold gG;rw[if_neg (by omega)]
   rw[key v (Nat.le_refl _)];have:(gG b v l v)=l:=by unfold gG;rw[if_pos rfl]
   rw[this];omega
  ·have:=Kr d f n (by omega);have c:gG b v l n=b n:=by unfold gG;rw[if_neg (by omega)]
   rw[c];omega
omit hD in
theorem Ae{b:Nat->List SP}(c:DP n ps df b){v:Nat}(hv:v<n)(d:wV df v=true)(g:(xE (bF df b v)).length=(b v).length):∀x,x∈b v<->x∈bF df b v:=λx=>by
 constructor
 ·exact c.sub v hv d x
 ·intro hx;exact aB7 (c.rise v hv).nodup (λf e=>FB.2 (c.sub v hv d f e)) (by omega) x (FB.2 hx)
theorem Oy{b:Nat->List SP}(c:DP n ps df b){v:Nat}(hv:v<n)(d:wV df v=true)(j:(xE (bF df b v)).length≠(b v).length):(b v).length<(xE (bF df b v)).length/\(xE (bF df b v)).length<=1600:=by
 have g:(b v).length<=(xE (bF df b v)).length:=(c.rise v hv).nodup.length_le_of_subset λf e=>FB.2 (c.sub v hv d f e);have h:(xE (bF df b v)).length<=1600:=by rw[<-Ko];exact(Kl _).nodup.length_le_of_subset λx hx=>aCa hD c hv d x (FB.1 hx)
 omega
end
end Go.Eng.Q

namespace Go.Eng.Q
open Go.Eng
abbrev cF(n:Nat)(b:Nat->List SP):List D:=aM n λv=>eG (b v)
theorem NH(n:Nat)(b:Nat->List SP)(v:Nat)(l:List SP):(cF n b).set v (eG l)=cF n (gG b v l):=by
 unfold cF;rw[mW];refine dL λi _=>?_;by_cases e:i=v
 ·subst e;rw[eP];unfold gG;rw[if_pos rfl]
 ·rw[mV _ _ e];unfold gG;rw[if_neg e]
abbrev st4(n:Nat)(df:Nat->D)(T O:List D)(j:Nat)(q:Bool×(Nat->List SP)):List D:=[.i (j:Int),.i (n:Int),.b q.1,.l (cF n q.2),.l T,.l O,.l (aM n df)]
theorem yE{n:Nat}{df:Nat->D}(T O:List D){v:Nat}(hv:v<n)(s:n<=400)(t:Bool)(b:Nat->List SP){x:D}{l:List SP}(hx:x=eG l)(r:l.length<=64000){d:Bool×(Nat->List SP)}
  (h:((xE l).length=(b v).length/\d=(t,b))\/((xE l).length≠(b v).length/\d=(true,gG b v (xE l)))):
  sA E aY sites eC (.call bH [x] 0 λm _=>.call bB [.l (D.els m),.l []] 1 λu j=>.call bV [.l (D.els (gD j 0))] 0 λg _=>
   .ask (aA (v:Int) (cF n b).length) (.ask (!(aD (iE g) (iE (gD (cF n b) v)))) (.ask (aA (v:Int) (cF n b).length) (.again [.i (aG .i64 (v:Int) 1),.i (n:Int),.b true,.l (List.set (cF n b) v (D.l (D.els g))),.l T,.l O,.l (aM n df)]) .bad) (.again [.i (aG .i64 (v:Int) 1),.i (n:Int),.b t,.l (cF n b),.l T,.l O,.l (aM n df)])) .bad)
   (.again (st4 n df T O (v+1) d)):=by
 subst hx;have f:aA (v:Int) (cF n b).length=true:=by rw[cQ];exact aE hv
 have hg:gD (cF n b) v=eG (b v):=dU _ hv;have e:(!(aD (iE (eG (xE l))) (iE (gD (cF n b) v))))=!(decide ((xE l).length=(b v).length)):=by rw[hg];congr 1;rw[Bool.eq_iff_iff,bT,decide_eq_true_eq];show((((xE l).map eE).length:Nat):Int)=((((b v).map eE).length:Nat):Int)<->_;rw[List.length_map,List.length_map];omega
 refine bK (lH (l.map eE) (eM (by rw[List.length_map];omega) (by omega))) rfl (bK (aB8 l (by omega)) rfl (bK (M9 (pN l) (by rw[AC];omega)) rfl (aC f ?_)));rcases h with⟨c,rfl⟩ |⟨c,rfl⟩
 ·exact aJ (e.trans (by rw[decide_eq_true c];rfl)) (aO (nx hv (by omega) [] _))
 ·refine aC (e.trans (by rw[decide_eq_false c];rfl)) (aC f (aO ((nx hv (by omega) [] _).trans ?_)));show[D.i (aG .i64 (v:Int) 1),.i (n:Int),.b true,.l (cF n (gG b v (xE l))),.l T,.l O,.l (aM n df)]=_;rw[<-NH];rfl
section
variable{n:Nat}{ps:List D}{df:Nat->D}(hD:V9 n ps df)(T O:List D)
theorem aDs(v:Nat)(t:Bool)(b:Nat->List SP)(l:DP n ps df b)(as1:List D)(g:∀j,j<as1.length->∃u:Nat,(gD as1 j).toI=u/\u<n)(J:as1.length<=40):
  fC eC 7 [.i (v:Int),.i 0,.i (v:Int),.l as1,.i (n:Int),.b t,.i (as1.length:Int),.l (cF n b),.l [],.l T,.l O,.l (aM n df)]
   (0,[.i (v:Int),.i (v:Int),.i (n:Int),.b t,.l (cF n b),eG (EA b as1),.l T,.l O,.l (aM n df)]):=by
 have y:EA b as1=EA b (as1.take as1.length):=by rw[List.take_length]
 rw[y];refine cI iT (λj=>[.i (v:Int),.i (j:Int),.i (v:Int),.l as1,.i (n:Int),.b t,.i (as1.length:Int),.l (cF n b),eG (EA b (as1.take j)),.l T,.l O,.l (aM n df)]) as1.length (λj c=>?_) ?_
 ·obtain⟨u,d,e⟩:=g j c;have hg:gD (cF n b) (Int.toNat (gD as1 j).toI)=eG (b u):=by rw[d];exact dU _ e
  have G:EA b (as1.take (j+1))=EA b (as1.take j)++b u:=by
   have F:gD as1 j=as1[j]:=by simp[gD,List.getD,c]
   rw[F]at d;unfold EA;rw[List.take_succ_eq_append_getElem c,List.flatMap_append];simp[d]
  have K:=Kq (b:=b) (as1.take j) λa h=>by
   obtain⟨i,m,rfl⟩:=List.mem_iff_getElem.1 (List.mem_of_mem_take h);obtain⟨P,f,s⟩:=g i m;have C:gD as1 i=as1[i]:=by simp[gD,List.getD,m]
   rw[C]at f;rw[f];exact l.len s
  have L:=l.len e;have H:(as1.take j).length<=40:=by rw[List.length_take];omega
  have:=Nat.mul_le_mul_right 1600 H;show Ev _ _ (jG _) _;unfold jG;refine aC (aW c) (aC (aE c) (aC ?_ (aC ?_ (aO ((nx c (by omega) [_] _).trans ?_)))))
  ·show aA (gD as1 j).toI (cF n b).length=true;rw[d,cQ];exact aE e
  ·show iP (((EA b (as1.take j)).map eE).length+nE (gD (cF n b) (Int.toNat (gD as1 j).toI))) 16=true;rw[hg,List.length_map];show iP ((EA b (as1.take j)).length+((b u).map eE).length) 16=true;rw[List.length_map];exact eM (by omega) (by omega)
  ·have r:(EA b (as1.take (j+1))).map eE=(EA b (as1.take j)).map eE++D.els (gD (cF n b) (Int.toNat (gD as1 j).toI)):=by rw[hg,G,List.map_append];rfl
   show[D.i (v:Int),.i (aG .i64 (j:Int) 1),.i (v:Int),.l as1,.i (n:Int),.b t,.i (as1.length:Int),.l (cF n b),.l ((EA b (as1.take (j+1))).map eE),.l T,.l O,.l (aM n df)]=_;rw[r];rfl
 ·show Ev _ _ (jG _) _;unfold jG;exact aJ (aX _) (bG rfl)
include hD
theorem Da{v:Nat}(hv:v<n)(H:wV df v=true)(t:Bool)(b:Nat->List SP)(Y:DP n ps df b){K:Bool×(Nat->List SP)}
  (d:((xE (bF df b v)).length=(b v).length/\K=(t,b))\/((xE (bF df b v)).length≠(b v).length/\K=(true,gG b v (xE (bF df b v))))):
  sA E aY sites eC (eC.F.lp 4 (st4 n df T O v (t,b))) (.again (st4 n df T O (v+1) K)):=by
 have hd:=hD.d v hv H;have y:=hD.n400;have c:=aEW hD Y hv H;have hg:gD (aM n df) v=df v:=dU _ hv;have a6:(cF n b).length=n:=cQ _ _;have h:∀k:Int,aD (vI (gD (aM n df) v) 0) k=aD (vI (df v) 0) k:=λk=>by rw[hg]
 have J:∀j,j<(eX (df v) 5).length->aA (gD (eX (gD (aM n df) v) 5) j).toI (cF n b).length=true/\D.l (D.els (gD (cF n b) (Int.toNat (gD (eX (gD (aM n df) v) 5) j).toI)))=eG (b (eT (df v) j)):=λj a7=>by
  obtain⟨u,U,V⟩:=hd.a j a7;have a5:(gD (eX (df v) 5) j).toI=u:=U;have e:eT (df v) j=u:=by unfold eT;rw[U];rfl
  rw[hg,a5,a6,e];refine⟨aE V,?_⟩;show D.l (D.els (gD (cF n b) u))=_;rw[dU _ V];rfl
 have G:nX (gD (aM n df) v) 5=(eX (df v) 5).length:=by rw[hg]
 have a1:aA (v:Int) (aM n df).length=true:=by rw[cQ];exact aE hv
 have a2:(!(aD (vI (gD (aM n df) v) 1) 3))=false:=by rw[hg];have:aD (vI (df v) 1) 3=true:=H;rw[this];rfl
 show Ev _ _ (fJ _) _;unfold fJ;refine aC (aW hv) (aC a1 (aJ a2 ?_));by_cases l:vI (df v) 0=18
 ·have f:bF df b v=[QH 2 v]:=by unfold bF;rw[if_pos l]
  rw[f]at d c;exact aC ((h 18).trans ((bT _ _).2 l)) (yE T O hv y t b (congrArg (λQ=>D.l [Q]) (Ox (k:=2) (n:=v) (by omega) (by omega)).symm) c d)
 refine aJ ((h 18).trans (lY l)) ?_;by_cases m:vI (df v) 0=3
 ·have f:bF df b v=[QH 3 (vI (df v) 3).toNat]:=by unfold bF;rw[if_neg l,if_pos m]
  rw[f]at d c;obtain⟨g,a4,b1⟩:=hd.glo m;refine aC ((h 3).trans ((bT _ _).2 m)) (yE T O hv y t b ?_ c d);show D.l [.l [.i 3,.i (vI (gD (aM n df) v) 3)]]=eG [QH 3 (vI (df v) 3).toNat];rw[hg,a4];exact congrArg (λQ=>D.l [Q]) (Ox (k:=3) (n:=g) (by omega) (by omega)).symm
 refine aJ ((h 3).trans (lY m)) ?_;by_cases r:vI (df v) 0=19
 ·have f:bF df b v=b (eT (df v) 0):=by unfold bF;rw[if_neg l,if_neg m,if_pos r]
  have F:=hd.at' r;rw[f]at d c;obtain⟨L,P⟩:=J 0 (by omega);refine aC ((h 19).trans ((bT _ _).2 r)) (aC ?_ (aC L (yE T O hv y t b P c d)));show aA 0 (nX (gD (aM n df) v) 5)=true;rw[G,F];rfl
 refine aJ ((h 19).trans (lY r)) ?_;by_cases s:vI (df v) 0=17
 ·have f:bF df b v=b (eT (df v) 1)++b (eT (df v) 2):=by unfold bF;rw[if_neg l,if_neg m,if_neg r,if_pos s]
  have F:=hd.sel s;rw[f]at d c;obtain⟨L,P⟩:=J 1 (by omega);obtain⟨a9,b0⟩:=J 2 (by omega);rw[List.length_append]at c;have a0:=x0 ((b (eT (df v) 1)).map eE) ((b (eT (df v) 2)).map eE) (by rw[List.length_map];omega) (by rw[List.length_map];omega);have a3:D.l [D.l (D.els (gD (cF n b) (Int.toNat (gD (eX (gD (aM n df) v) 5) 1).toI))),D.l (D.els (gD (cF n b) (Int.toNat (gD (eX (gD (aM n df) v) 5) 2).toI)))]=D.l [.l ((b (eT (df v) 1)).map eE),.l ((b (eT (df v) 2)).map eE)]:=by rw[P,b0]
  rw[<-a3]at a0;refine aC ((h 17).trans ((bT _ _).2 s)) (aC ?_ (aC L (aC ?_ (aC a9 (bK a0 rfl (yE T O hv y t b ?_ (by rw[List.length_append];omega) d))))))
  ·show aA 1 (nX (gD (aM n df) v) 5)=true;rw[G,F];rfl
  ·show aA 2 (nX (gD (aM n df) v) 5)=true;rw[G,F];rfl
  ·show D.l ((b (eT (df v) 1)).map eE++(b (eT (df v) 2)).map eE)=eG (b (eT (df v) 1)++b (eT (df v) 2));rw[<-List.map_append]
 refine aJ ((h 17).trans (lY s)) ?_;by_cases C:vI (df v) 0=26
 ·have f:bF df b v=EA b (eX (df v) 5):=by unfold bF;rw[if_neg l,if_neg m,if_neg r,if_neg s,if_pos C]
  rw[f]at d c;have W:=aDs T O v t b Y (eX (df v) 5) hd.a (hd.phi C);rw[<-hg]at W;refine aC ((h 26).trans ((bT _ _).2 C)) (aP W (bD (yE T O hv y t b ?_ c d)));rw[hg];rfl
 refine aJ ((h 26).trans (lY C)) ?_;have f:bF df b v=[]:=by unfold bF;rw[if_neg l,if_neg m,if_neg r,if_neg s,if_neg C]
 rw[f]at d c;exact yE T O hv y t b rfl c d
structure SX(n:Nat)(ps:List D)(df:Nat->D)(b0:Nat->List SP)(j:Nat)(q:Bool×(Nat->List SP)):Prop where
 g:DP n ps df q.2
 t:q.1=true->mD q.2 n<mD b0 n
 f:q.1=false->q.2=b0/\∀v,v<j->wV df v=true->(xE (bF df b0 v)).length=(b0 v).length
 le:mD q.2 n<=mD b0 n
theorem aDt(b0:Nat->List SP)(y:DP n ps df b0):∃q,SX n ps df b0 n q/\fC eC 4 (st4 n df T O 0 (false,b0)) (0,[.b q.1,.l (cF n q.2),.l T,.l O,.l (aM n df)]):=by
 have G:=hD.n400;refine DI iT (λj q=>st4 n df T O j q) n (λq=>(0,[.b q.1,.l (cF n q.2),.l T,.l O,.l (aM n df)])) (SX n ps df b0) (λj q d c=>?_) (λq c=>?_) (s0:=(false,b0)) ⟨y,λh=>(by cases h),λ_=>⟨rfl,λv hv=>absurd hv (by omega)⟩,Nat.le_refl _⟩
 ·obtain⟨t,b⟩:=q;cases f:wV df j with
  |false=>
   refine⟨(t,b),⟨c.g,c.t,λh=>⟨(c.f h).1,λv hv g=>?_⟩,c.le⟩,?_⟩
   ·by_cases e:v=j
    ·subst e;rw[f]at g;cases g
    ·exact(c.f h).2 v (by omega) g
   ·have hg:gD (aM n df) j=df j:=dU _ d;have m:aA (j:Int) (aM n df).length=true:=by rw[cQ];exact aE d
    have r:(!(aD (vI (gD (aM n df) j) 1) 3))=true:=by rw[hg];have:aD (vI (df j) 1) 3=false:=f;rw[this];rfl
    show Ev _ _ (fJ _) _;unfold fJ;exact aC (aW d) (aC m (aC r (aO (nx d (by omega) [] _))))
  |true=>
   by_cases l:(xE (bF df b j)).length=(b j).length
   ·refine⟨(t,b),⟨c.g,c.t,λh=>⟨(c.f h).1,λv hv g=>?_⟩,c.le⟩,Da hD T O d f t b c.g (.inl ⟨l,rfl⟩)⟩;by_cases e:v=j
    ·subst e;have:=(c.f h).1;simp only at this;subst this;exact l
    ·exact(c.f h).2 v (by omega) g
   ·obtain⟨s,u⟩:=Oy hD c.g d f l;have C:mD (gG b j (xE (bF df b j))) n<mD b n:=Kr s u n d;have F:mD b n<=mD b0 n:=c.le;refine⟨(true,gG b j (xE (bF df b j))),⟨Za hD c.g d f,λ_=>?_,λh=>(by cases h),?_⟩,Da hD T O d f t b c.g (.inr ⟨l,rfl⟩)⟩
    ·show mD (gG b j (xE (bF df b j))) n<_;omega
    ·show mD (gG b j (xE (bF df b j))) n<=_;omega
 ·show Ev _ _ (fJ _) _;unfold fJ;exact aJ (aX _) (bG rfl)
structure x3(n:Nat)(ps:List D)(df:Nat->D)(b:Nat->List SP):Prop where
 g:DP n ps df b
 iff:∀v,v<n->wV df v=true->∀x,x∈b v<->x∈bF df b v
theorem aDu(b0:Nat->List SP)(s:DP n ps df b0):∃b,x3 n ps df b/\fC eC 2 [.b true,.l (cF n b0),.l T,.l O,.l (aM n df)] (0,[.l (cF n b),.l T,.l O,.l (aM n df)]):=by
 have h:=GM iT (b:=2) (λ(q:Bool×(Nat->List SP))=>[.b q.1,.l (cF n q.2),.l T,.l O,.l (aM n df)]) (λq=>DP n ps df q.2/\(q.1=false->x3 n ps df q.2)) (λq=>2*mD q.2 n+bif q.1 then 1 else 0) (λu=>∃b,x3 n ps df b/\u=(0,[.l (cF n b),.l T,.l O,.l (aM n df)])) (λq d=>?_) (s0:=(true,b0)) ⟨s,λh=>(by cases h)⟩
 ·obtain⟨u,⟨b,c,rfl⟩,f⟩:=h;exact⟨b,c,f⟩
 ·obtain⟨t,b⟩:=q;cases t with
  |false=>refine .inl ⟨_,⟨b,d.2 rfl,rfl⟩,?_⟩;show Ev _ _ (jF _) _;unfold jF;exact aJ rfl (bG rfl)
  |true=>
   obtain⟨e,c,f⟩:=aDt hD T O b d.1;have y:(aM n df).length=n:=cQ _ _;refine .inr ⟨e,⟨c.g,λg=>?_⟩,?_,?_⟩
   ·obtain⟨l,m⟩:=c.f g;rw[l];exact⟨d.1,λv hv j=>Ae d.1 hv j (m v hv j)⟩
   ·cases g:e.1 with
    |true=>have:=c.t g;simp only[cond_true];omega
    |false=>have:=c.le;simp only[cond_false,cond_true];omega
   ·have r:fC eC 4 [.i 0,.i (((aM n df).length:Nat):Int),.b false,.l (cF n b),.l T,.l O,.l (aM n df)] (0,[.b e.1,.l (cF n e.2),.l T,.l O,.l (aM n df)]):=by rw[y];exact f
    show Ev _ _ (jF _) _;unfold jF;exact aC rfl (aP r (bD (aO rfl)))
theorem aDv:fC eC 0 [.i (ps.length:Int),.i 0,.l ps,.l (List.replicate n (D.l [])),.l T,.l O,.l (aM n df)] (0,[.l (cF n (qF ps)),.l T,.l O,.l (aM n df)]):=by
 have t:=hD.n400;have u:=hD.pn;let g:Nat->Nat->List SP:=λj v=>if v<=j then qF ps v else[]
 have r:List.replicate n (D.l [])=cF n (g 0):=by
  rw[<-qT];refine dL λi _=>?_;show D.l []=eG (if i<=0 then qF ps i else[]);by_cases h:i<=0
  ·have:i=0:=by omega
   subst this;rfl
  ·rw[if_neg h];rfl
 have e1:cF n (qF ps)=cF n (g ps.length):=by
  refine dL λi _=>?_;show eG (qF ps i)=eG (if i<=ps.length then qF ps i else[]);by_cases h:i<=ps.length
  ·rw[if_pos h]
  ·rw[if_neg h];have:qF ps i=[]:=by unfold qF;rw[if_neg (by omega)]
   rw[this]
 rw[r,e1];refine cI iT (λj=>[.i (ps.length:Int),.i (j:Int),.l ps,.l (cF n (g j)),.l T,.l O,.l (aM n df)]) ps.length (λj d=>?_) ?_
 ·have m:=Te (n:=j) (by omega);show Ev _ _ (jE _) _;unfold jE;refine aC (aW d) (aC (aE d) ?_);cases e:aD (gD ps j).toI 3 with
  |true=>
   have f:qF ps (j+1)=[QH 1 (j+1)]:=by unfold qF;rw[if_pos ⟨by omega,by omega,(bT _ _).1 e⟩]
   have l:cF n (g (j+1))=(cF n (g j)).set (Int.toNat (aG .i64 (j:Int) 1)) (D.l [.l [.i 1,.i (aG .i64 (j:Int) 1)]]):=by
    rw[m];have:D.l [.l [.i 1,.i ((j+1:Nat):Int)]]=eG [QH 1 (j+1)]:=congrArg (λs=>D.l [s]) (Ox (k:=1) (n:=j+1) (by omega) (by omega)).symm;rw[this];show _=(cF n (g j)).set (j+1) _;rw[NH];refine dL λi _=>?_;show eG (if i<=j+1 then qF ps i else[])=eG (gG (g j) (j+1) [QH 1 (j+1)] i);unfold gG;by_cases h:i=j+1
    ·subst h;rw[if_pos (Nat.le_refl _),if_pos rfl,f]
    ·rw[if_neg h];show _=eG (if i<=j then qF ps i else[]);by_cases c:i<=j
     ·rw[if_pos c,if_pos (by omega)]
     ·rw[if_neg c,if_neg (by omega)]
   refine aC e (aC ?_ (aO ((nx d (by omega) [_] _).trans ?_)))
   ·show aA (aG .i64 (j:Int) 1) (cF n (g j)).length=true;rw[m,cQ];exact aE (by omega)
   ·show[D.i (ps.length:Int),.i (aG .i64 (j:Int) 1),.l ps,.l (cF n (g (j+1))),.l T,.l O,.l (aM n df)]=_;rw[l];rfl
  |false=>
   have f:qF ps (j+1)=[]:=by unfold qF;rw[if_neg];rintro⟨_,_,h⟩;have h:(gD ps j).toI=3:=h;rw[h]at e;cases e
   have l:cF n (g (j+1))=cF n (g j):=dL λi _=>by
    show eG (if i<=j+1 then qF ps i else[])=eG (if i<=j then qF ps i else[]);by_cases h:i=j+1
    ·subst h;rw[if_pos (Nat.le_refl _),if_neg (by omega),f]
    ·by_cases c:i<=j
     ·rw[if_pos c,if_pos (by omega)]
     ·rw[if_neg c,if_neg (by omega)]
   refine aJ e (aO ((nx d (by omega) [_] _).trans ?_));show[D.i (ps.length:Int),.i (aG .i64 (j:Int) 1),.l ps,.l (cF n (g (j+1))),.l T,.l O,.l (aM n df)]=_;rw[l];rfl
 ·show Ev _ _ (jE _) _;unfold jE;exact aJ (aX _) (bG rfl)
theorem Zb:DP n ps df (qF ps):=by
 have d:=hD.n400;have e:=hD.pn;refine⟨λv _=>?_,λv hv x hx=>?_,λv hv c x hx=>?_,λ_ _ _=>rfl⟩
 ·unfold qF;split
  ·exact List.pairwise_singleton _ _
  ·exact List.Pairwise.nil
 ·unfold qF at hx;split at hx
  ·rw[List.mem_singleton.1 hx];exact Kp (by omega) (by omega)
  ·cases hx
 ·unfold qF at hx;split at hx
  ·rename_i h;rw[hD.par v h.2.1]at c;cases c
  ·cases hx
theorem aCb(j d:List D)(h:T.length=n)(nm:List UInt8)(o:Bool)(r:Int)(bs:List D):∃b,x3 n ps df b/\iS E aY sites xU [.l [.l T,.l d,.l O,.l (aM n df)],pM nm o ps r bs] (.l []) [.l [.l T,.l (cF n b),.l O,.l (aM n df)]]:=by
 have l:=hD.n400;obtain⟨b,f,g⟩:=aDu hD T O (qF ps) (Zb hD);refine⟨b,f,bA iT (by rfl) rfl ?_⟩;show Ev _ _ (sM _) _;unfold sM;have c:=aDv hD T O;have e:List.replicate n (D.l [])=List.replicate T.length (D.l []):=by rw[h]
 rw[e]at c;refine aC ?_ (aP c (bD (aP g (bD (bJ rfl rfl)))));show(cP 0 (T.length:Int)&&(aD (T.length:Int) (T.length:Int)&&iP (Int.toNat (T.length:Int)) 24))=true;rw[jA (by omega),pF];exact eM (by show T.length<=_;omega) (by omega)
end
end Go.Eng.Q

namespace Go.Eng.Q
open Go.Eng
open Classical in
noncomputable def dD(np:Nat)(bs:List D)(v:Nat):D:=if h:∃q,JZ np bs v q then .l (Do (gD (gD bs (Classical.choose h).1).els (Classical.choose h).2))else QF
theorem AH{np:Nat}{bs:List D}{v:Nat}{q:Nat×Nat}(h:JZ np bs v q):dD np bs v=.l (Do (gD (gD bs q.1).els q.2)):=by have c:∃q,JZ np bs v q:=⟨q,h⟩;unfold dD;rw[dif_pos c,WL (Classical.choose_spec c) h]
theorem NI{np:Nat}{bs:List D}{v:Nat}(h:v<=np):dD np bs v=QF:=by unfold dD;rw[dif_neg];rintro⟨q,c⟩;have d:=c.v;have e:=Ti np bs q.1 q.2;omega
theorem WR:∀(l q:List D),BE q l=q++BE [] l
 |[],q=>by simp[BE]
 |x::l,q=>by show BE (bif dY x then q++[.i (vI x 1)]else q) l=q++BE (bif dY x then[]++[.i (vI x 1)]else[]) l;rw[WR l,WR l (bif dY x then[]++[D.i (vI x 1)]else[])];cases dY x<;>simp
theorem aCc:∀(l:List D)(k:Nat),k<l.length->dY (gD l k)=true->gD (BE [] l) (dV l k)=.i (vI (gD l k) 1):=by
 intro l k c ht;have f:l=l.take k++gD l k::l.drop (k+1):=by
  have:gD l k=l[k]:=by simp[gD,List.getD,c]
  rw[this,<-List.drop_eq_getElem_cons c,List.take_append_drop]
 have d:BE [] l=BE [] (l.take k)++.i (vI (gD l k) 1)::BE [] (l.drop (k+1)):=by
  conv=>lhs;rw[f]
  unfold BE;rw[List.foldl_append,List.foldl_cons,ht,cond_true];have:=WR (l.drop (k+1)) (List.foldl (λq x=>bif dY x then q++[.i (vI x 1)]else q) [] (l.take k)++[.i (vI (gD l k) 1)]);unfold BE at this;rw[this];simp
 have e:(BE [] (l.take k)).length=dV l k:=by rw[GT,Ab l k (by omega)];simp
 rw[d,<-e];simp[gD,List.getD]
def qG(ps bs:List D)(b:Nat):List D:=(bs.take b).foldl (λq b=>BE q b.els) ([.i 0]++ps)
theorem yF(ps bs:List D):∀b,b<=bs.length->(qG ps bs b).length=aK ps.length bs b+1
 |0,_=>by simp[qG,aK]
 |b+1,h=>by
  have c:b<bs.length:=by omega
  have d:gD bs b=bs[b]:=by simp[gD,List.getD,c]
  have:=yF ps bs b (by omega);unfold qG at this⊢;rw[List.take_succ_eq_append_getElem c,List.foldl_append,aK,d,WM];show(BE _ bs[b].els).length=_;rw[GT,this];omega
theorem Db(ps bs:List D)(b:Nat)(c:b<bs.length):qG ps bs (b+1)=qG ps bs b++BE [] (gD bs b).els:=by
 have d:gD bs b=bs[b]:=by simp[gD,List.getD,c]
 unfold qG;rw[List.take_succ_eq_append_getElem c,List.foldl_append,d];exact WR _ _
theorem SY(ps bs:List D):∀(c b:Nat),b+c<=bs.length->∀i,i<(qG ps bs b).length->gD (qG ps bs (b+c)) i=gD (qG ps bs b) i
 |0,_,_,_,_=>rfl
 |c+1,b,h,i,d=>by
  have f:=SY ps bs c b (by omega) i d;have e:i<(qG ps bs (b+c)).length:=by rw[yF ps bs _ (by omega)];rw[yF ps bs _ (by omega)]at d;have:=DN ps.length bs (show b<=b+c by omega);omega
  rw[<-f,<-Nat.add_assoc,Db ps bs (b+c) (by omega)];simp only[gD,List.getD];rw[List.getElem?_append_left e]
theorem x4{ps bs:List D}{v:Nat}{q:Nat×Nat}(h:JZ ps.length bs v q):gD (bE ps bs) v=.i (vI (gD (gD bs q.1).els q.2) 1):=by
 have e:=h.b;have e1:bE ps bs=qG ps bs bs.length:=by unfold qG;rw[List.take_length];rfl
 have g:=yF ps bs q.1 (by omega);have hv:=h.v;unfold kU at hv;have f:v<(qG ps bs (q.1+1)).length:=by rw[yF ps bs _ (by omega),On];have:=Ei h.k h.t;omega
 have c:=SY ps bs (bs.length-(q.1+1)) (q.1+1) (by omega) v f;rw[show q.1+1+(bs.length-(q.1+1))=bs.length by omega]at c;rw[e1,c,Db ps bs q.1 e];have d:=aCc (gD bs q.1).els q.2 h.k h.t;simp only[gD,List.getD]at d⊢;rw[List.getElem?_append_right (by omega)];rw[show v-(qG ps bs q.1).length=dV (gD bs q.1).els q.2 by omega];exact d
theorem x5{ps bs:List D}{v:Nat}(h:v<=ps.length):gD (bE ps bs) v=gD ([.i 0]++ps) v:=by
 have e1:bE ps bs=qG ps bs bs.length:=by unfold qG;rw[List.take_length];rfl
 have c:=SY ps bs bs.length 0 (by omega) v (by rw[yF ps bs 0 (by omega)];unfold aK;omega);rw[Nat.zero_add]at c;rw[e1,c];unfold qG;simp
def PF(df:Nat->D)(v:Nat):Option Int:=if vI (df v) 0=1 then some (vI (df v) 4)else none
def x6(df:Nat->D):Nat->Nat->Option Int
 |0,_=>none
 |k+1,v=>if vI (df v) 0=18\/vI (df v) 0=3 then some 0 else if vI (df v) 0=19 then(x6 df k (eT (df v) 0)).bind λa=>(PF df (eT (df v) 1)).bind λm=>some (aG .i64 a m)else none
structure Rk(n:Nat)(df:Nat->D)(rk:Nat->Nat):Prop where
 fall:∀v,v<n->vI (df v) 0=19->(eX (df v) 5).length=2/\∃u w:Nat,oM (df v) 0=u/\oM (df v) 1=w/\u<n/\w<n/\rk u<rk v
def gY(df:Nat->D)(rk:Nat->Nat)(v:Nat):Option Int:=x6 df (rk v+1) v
theorem OY{n:Nat}{df:Nat->D}{rk:Nat->Nat}(h:Rk n df rk):∀(k v:Nat),v<n->rk v<k->x6 df k v=gY df rk v
 |0,v,_,e=>absurd e (by omega)
 |k+1,v,hv,e=>by
  unfold gY x6;by_cases e1:vI (df v) 0=18\/vI (df v) 0=3
  ·rw[if_pos e1,if_pos e1]
  ·rw[if_neg e1,if_neg e1];by_cases c:vI (df v) 0=19
   ·rw[if_pos c,if_pos c];obtain⟨_,u,w,f,m,d,s,t⟩:=h.fall v hv c;have g:eT (df v) 0=u:=by unfold eT;rw[f];rfl
    rw[g,OY h k u d (by omega)];by_cases j:rk v=0
    ·omega
    ·obtain⟨r,y⟩:∃r,rk v=r+1:=⟨rk v-1,by omega⟩;by_cases l:rk v<k+1/\rk v<k
     ·rw[OY h (rk v) u d (by omega)]
     ·have:rk v=k:=by omega
      rw[this,OY h k u d (by omega)]
   ·rw[if_neg c,if_neg c]
theorem JK{n:Nat}{df:Nat->D}{rk:Nat->Nat}(h:Rk n df rk){v:Nat}(hv:v<n):gY df rk v=if vI (df v) 0=18\/vI (df v) 0=3 then some 0 else if vI (df v) 0=19 then(gY df rk (eT (df v) 0)).bind λa=>(PF df (eT (df v) 1)).bind λm=>some (aG .i64 a m)else none:=by
 show x6 df (rk v+1) v=_;rw[x6];by_cases e1:vI (df v) 0=18\/vI (df v) 0=3
 ·rw[if_pos e1,if_pos e1]
 ·rw[if_neg e1,if_neg e1];by_cases c:vI (df v) 0=19
  ·rw[if_pos c,if_pos c];obtain⟨_,u,w,d,j,e,l,f⟩:=h.fall v hv c;have g:eT (df v) 0=u:=by unfold eT;rw[d];rfl
   rw[g,OY h (rk v) u e f]
  ·rw[if_neg c,if_neg c]
end Go.Eng.Q

namespace Go.Eng.Q
open Go.Eng
def AI:Option Int->D
 |some a=>.l [.i 1,.i a]
 |none=>.l [.i 2,.i 0]
abbrev z2:D:=.l [.i 0,.i 0]
structure Zc(n:Nat)(T:List D)(df:Nat->D)(rk:Nat->Nat)(O:Nat->D):Prop where
 or:∀u,u<n->O u=z2\/((gD T u).toI=3/\O u=AI (gY df rk u))
theorem Zc.upd{n:Nat}{T:List D}{df:Nat->D}{rk:Nat->Nat}{O:Nat->D}(h:Zc n T df rk O){v:Nat}(c:(gD T v).toI=3):Zc n T df rk (eZ O v (AI (gY df rk v))):=
 ⟨λu d=>by
  by_cases e:u=v
  ·subst e;rw[eP];exact .inr ⟨c,rfl⟩
  ·rw[mV _ _ e];exact h.or u d⟩
abbrev fnD(T B:List D)(O:List D)(c:List D):D:=.l [.l T,.l B,.l O,.l c]
structure aEY(n:Nat)(T:List D)(df:Nat->D)(rk:Nat->Nat):Prop where
 rk:Rk n df rk
 tl:T.length=n
 ty:∀v,v<n->(gD T v).toI=3->vI (df v) 0=19->(gD T (eT (df v) 0)).toI=3
section
variable{n:Nat}{T:List D}{df:Nat->D}{rk:Nat->Nat}(hP:aEY n T df rk)(B:List D)
theorem aEZ(O:List D)(v:Nat)(hv:v<n):iS E aY sites CS [fnD T B O (aM n df),.i (v:Int)] (.l [.i (vI (df v) 4),.b (aD (vI (df v) 0) 1)]) []:=by
 refine bA GH (by rfl) rfl ?_;show Ev _ _ (xV _) _;unfold xV;have hg:gD (aM n df) v=df v:=dU _ hv;refine aC ?_ (bJ ?_ rfl)
 ·show aA (v:Int) (aM n df).length=true;rw[cQ];exact aE hv
 ·show D.l [.i (vI (df v) 4),.b (aD (vI (df v) 0) 1)]=D.l [.i (vI (gD (aM n df) v) 4),.b (aD (vI (gD (aM n df) v) 0) 1)];rw[hg]
theorem Ek(O:Nat->D){v:Nat}(hv:v<n)(c:O v=z2)(x:Option Int)(a b:Int)(hx:AI x=.l [.i a,.i b])(d:D):
  (let z0:=(aM n O).set v (D.l (cK (D.els (gD (aM n O) v)) 0 (D.i a)));z0.set v (D.l (cK (D.els (gD z0 v)) 1 (D.i b))))=aM n (eZ O v (AI x)):=by
 rw[hx];exact aB1 (.i a) (.i b) hv c
include hP
theorem aCd:∀(k v:Nat),rk v<k->v<n->∀(O:Nat->D),Zc n T df rk O->
  ∃d,Zc n T df rk d/\(∀u,u<n->O u≠z2->d u=O u)/\((gD T v).toI=3->d v=AI (gY df rk v))/\
   iS E aY sites uK [fnD T B (aM n O) (aM n df),.i (v:Int)] (if(gD T v).toI=3 then AI (gY df rk v)else z2) [fnD T B (aM n d) (aM n df)]
 |0,_,a4,_,_,_=>absurd a4 (by omega)
 |k+1,v,a4,hv,O,t=>by
  have b5:=hP.tl;have C:aA (v:Int) T.length=true:=by rw[b5];exact aE hv
  have j:aA (v:Int) (aM n O).length=true:=by rw[cQ];exact aE hv
  have H:gD (aM n O) v=O v:=dU _ hv;have F:gD (aM n df) v=df v:=dU _ hv;have d1:AI (gY df rk v)≠z2:=by cases gY df rk v<;>simp[AI]
  by_cases g:(gD T v).toI=3
  ·rw[if_pos g];have b4:aD (gD T v).toI 3=true:=(bT _ _).2 g;rcases t.or v hv with f |⟨_,f⟩
   ·
    have s:((!(aD (gD T v).toI 3))||(!(aD (vI (gD (aM n O) v) 0) 0)))=false:=by rw[b4,H,f];rfl
    have cd:aA (v:Int) (aM n df).length=true:=by rw[cQ];exact aE hv
    have r:∀q:Int,aD (vI (gD (aM n df) v) 0) q=aD (vI (df v) 0) q:=λq=>by rw[F]
    have c:=JK hP.rk hv;by_cases e1:vI (df v) 0=18\/vI (df v) 0=3
    ·rw[if_pos e1]at c;refine⟨eZ O v (AI (gY df rk v)),t.upd g,λu c1 m=>mV _ _ (λe=>m (by rw[e];exact f)),λ_=>eP _ _ _,bA kT (by rfl) rfl ?_⟩;have G:=Ek (n:=n) O hv f (gY df rk v) 1 0 (by rw[c];rfl) z2;show Ev _ _ (eK _) _;unfold eK;refine aC C (aC (aH j) (aJ s (aC cd ?_)));rcases e1 with e1 |e1
     ·refine aC ((r 18).trans ((bT _ _).2 e1)) (aC ((r 18).trans ((bT _ _).2 e1)) (aC j (bJ ?_ ?_)))
      ·rw[c];rfl
      ·rw[<-G];rfl
     ·refine aJ ((r 18).trans (lY (by omega))) (aC ((r 3).trans ((bT _ _).2 e1)) (aC j (bJ ?_ ?_)))
      ·rw[c];rfl
      ·rw[<-G];rfl
    ·rw[if_neg e1]at c;have V:=(r 18).trans (lY (show vI (df v) 0≠18 fromλh=>e1 (.inl h)));have W:=(r 3).trans (lY (show vI (df v) 0≠3 fromλh=>e1 (.inr h)));by_cases y:vI (df v) 0=19
     ·rw[if_pos y]at c;obtain⟨a2,u,w,Y,a0,b1,b2,b3⟩:=hP.rk.fall v hv y;have a3:eT (df v) 0=u:=by unfold eT;rw[Y];rfl
      have b6:eT (df v) 1=w:=by unfold eT;rw[a0];rfl
      have c0:(gD T u).toI=3:=by have:=hP.ty v hv g y;rw[a3]at this;exact this
      obtain⟨l,L,b0,c8,P⟩:=aCd k u (by omega) b1 O t;rw[if_pos c0]at P;rw[a3,b6]at c;have a5:=aEZ (n:=n) (T:=T) (df:=df) B (aM n l) w b2;have c9:gD (aM n l) v=l v:=dU _ hv;have d0:v≠u:=λe=>by rw[e]at b3;omega
      have c2:aA 0 (nX (gD (aM n df) v) 5)=true:=by rw[F];show aA 0 (eX (df v) 5).length=true;rw[a2];rfl
      have c3:aA 1 (nX (gD (aM n df) v) 5)=true:=by rw[F];show aA 1 (eX (df v) 5).length=true;rw[a2];rfl
      have a7:(gD (eX (gD (aM n df) v) 5) 0).toI=(u:Int):=by rw[F];exact Y
      have a9:(gD (eX (gD (aM n df) v) 5) 1).toI=(w:Int):=by rw[F];exact a0
      have K:aA (v:Int) (aM n l).length=true:=by rw[cQ];exact aE hv
      rw[<-a7]at P;rw[<-a9]at a5;have b7:∃d,Zc n T df rk d/\(∀q,q<n->l q≠z2->d q=l q)/\d v=AI (gY df rk v)/\(∀a b:Int,AI (gY df rk v)=.l [.i a,.i b]->(let z0:=(aM n l).set v (D.l (cK (D.els (gD (aM n l) v)) 0 (D.i a)));z0.set v (D.l (cK (D.els (gD z0 v)) 1 (D.i b))))=aM n d):=by
       refine⟨eZ l v (AI (gY df rk v)),L.upd g,λq J m=>?_,eP _ _ _,λa b a1=>?_⟩
       ·by_cases e:q=v
        ·subst e;rw[eP];rcases L.or q J with h |⟨_,h⟩
         ·exact absurd h m
         ·exact h.symm
        ·exact mV _ _ e
       ·rw[a1];rcases L.or v hv with h |⟨_,h⟩
        ·exact aB1 (.i a) (.i b) hv h
        ·exact aB1 (.i a) (.i b) hv (h.trans a1)
      obtain⟨d,c4,c5,c6,U⟩:=b7;refine⟨d,c4,λq J m=>?_,λ_=>c6,bA kT (by rfl) rfl ?_⟩
      ·have:=b0 q J m;rw[c5 q J (by rw[this];exact m),this]
      show Ev _ _ (eK _) _;unfold eK;refine aC C (aC (aH j) (aJ s (aC cd (aJ V (aJ W ?_)))));unfold oA;refine aC ((r 19).trans ((bT _ _).2 y)) (aC c2 (bK P rfl (aC c3 (bK a5 rfl ?_))));cases a6:gY df rk u with
      |none=>
       rw[a6]at c;refine aJ rfl (aC K (bJ ?_ ?_))
       ·rw[c];rfl
       ·rw[<-U 2 0 (by rw[c];rfl)];rfl
      |some a=>
       rw[a6]at c;cases Q:aD (vI (df w) 0) 1 with
       |false=>
        have:PF df w=none:=by unfold PF;rw[if_neg (λh=>by rw[h,pF]at Q;cases Q)]
        rw[this]at c;refine aJ rfl (aC K (bJ ?_ ?_))
        ·rw[c];rfl
        ·rw[<-U 2 0 (by rw[c];rfl)];rfl
       |true=>
        have:PF df w=some (vI (df w) 4):=by unfold PF;rw[if_pos ((bT _ _).1 Q)]
        rw[this]at c;refine aC rfl (aC K (bJ ?_ ?_))
        ·rw[c];rfl
        ·rw[<-U 1 (aG .i64 a (vI (df w) 4)) (by rw[c];rfl)];rfl
     ·rw[if_neg y]at c;refine⟨eZ O v (AI (gY df rk v)),t.upd g,λu c1 m=>mV _ _ (λe=>m (by rw[e];exact f)),λ_=>eP _ _ _,bA kT (by rfl) rfl ?_⟩;have G:=Ek (n:=n) O hv f (gY df rk v) 2 0 (by rw[c];rfl) z2;show Ev _ _ (eK _) _;unfold eK;refine aC C (aC (aH j) (aJ s (aC cd (aJ V (aJ W ?_)))));unfold oA;refine aJ ((r 19).trans (lY y)) (aC j (bJ ?_ ?_))
      ·rw[c];rfl
      ·rw[<-G];rfl
   ·refine⟨O,t,λ_ _ _=>rfl,λ_=>f,bA kT (by rfl) rfl ?_⟩;have s:((!(aD (gD T v).toI 3))||(!(aD (vI (gD (aM n O) v) 0) 0)))=true:=by
     rw[H,f];cases gY df rk v<;>exact Bool.or_true _
    show Ev _ _ (eK _) _;unfold eK;refine aC C (aC (aH j) (aC s (aC j (bJ ?_ rfl))));show AI (gY df rk v)=D.l [.i (vI (gD (aM n O) v) 0),.i (vI (gD (aM n O) v) 1)];rw[H,f];cases gY df rk v<;>rfl
  ·rw[if_neg g];refine⟨O,t,λ_ _ _=>rfl,λh=>absurd h g,bA kT (by rfl) rfl ?_⟩;have f:O v=z2:=by
    rcases t.or v hv with h |⟨h,_⟩
    ·exact h
    ·exact absurd h g
   have s:((!(aD (gD T v).toI 3))||(!(aD (vI (gD (aM n O) v) 0) 0)))=true:=by rw[lY g];rfl
   have c7:(!(!(!(aD (gD T v).toI 3))))=true:=by rw[lY g];rfl
   show Ev _ _ (eK _) _;unfold eK;refine aC C (aC (aH j) (aC s (aC j (bJ ?_ rfl))));show z2=D.l [.i (vI (gD (aM n O) v) 0),.i (vI (gD (aM n O) v) 1)];rw[H,f];rfl
def wW(n:Nat)(T:List D)(df:Nat->D)(rk:Nat->Nat):List D:=aM n λv=>if(gD T v).toI=3 then AI (gY df rk v)else z2
theorem aDw(s:List D)(J:n<=400):iS E aY sites AF [fnD T B s (aM n df)] (.l []) [fnD T B (wW n T df rk) (aM n df)]:=by
 have l:=hP.tl;refine bA wU (by rfl) rfl ?_;show Ev _ _ (wG _) _;unfold wG;have h:∃O,(Zc n T df rk O/\∀u,u<n->(gD T u).toI=3->O u=AI (gY df rk u))/\fC wT 0 [.i 0,.i (T.length:Int),.l T,.l B,.l (aM n λ_=>z2),.l (aM n df)] (0,[.l T,.l B,.l (aM n O),.l (aM n df)]):=by
  refine DI wU (λj(O:Nat->D)=>[.i (j:Int),.i (T.length:Int),.l T,.l B,.l (aM n O),.l (aM n df)]) n (λO=>(0,[.l T,.l B,.l (aM n O),.l (aM n df)])) (λj O=>Zc n T df rk O/\∀u,u<j->(gD T u).toI=3->O u=AI (gY df rk u)) (λj O m g=>?_) (λO g=>?_) (s0:=λ_=>z2) ⟨⟨λ_ _=>.inl rfl⟩,λu d=>absurd d (by omega)⟩
  ·obtain⟨r,v,y,C,F⟩:=aCd hP B (rk j+1) j (by omega) m O g.1;refine⟨r,⟨v,λu d c=>?_⟩,?_⟩
   ·by_cases e:u=j
    ·subst e;exact C c
    ·have:=g.2 u (by omega) c;rw[y u (by omega) (by rw[this];cases gY df rk u<;>simp[AI]),this]
   ·show Ev _ _ (kC _) _;unfold kC;refine aC ?_ (bK F rfl (aO (nx m (by omega) [] _)));show aT (j:Int) (T.length:Int)=true;rw[l];exact aW m
  ·show Ev _ _ (kC _) _;unfold kC;refine aJ ?_ (bG rfl);show aT (n:Int) (T.length:Int)=false;rw[l];exact aX _
 obtain⟨O,⟨G,H⟩,f⟩:=h;have e1:aM n O=wW n T df rk:=dL λu d=>by
  by_cases c:(gD T u).toI=3
  ·rw[if_pos c];exact H u d c
  ·rw[if_neg c];rcases G.or u d with h |⟨h,_⟩
   ·exact h
   ·exact absurd h c
 rw[e1,qT]at f;have t:List.replicate n z2=List.replicate T.length (D.l [.i 0,.i 0]):=by rw[l]
 rw[t]at f;refine aC ?_ (aP f (bD (bJ rfl rfl)));show(cP 0 (T.length:Int)&&(aD (T.length:Int) (T.length:Int)&&iP (Int.toNat (T.length:Int)) 16))=true;rw[jA (by omega),pF];exact eM (by show T.length<=_;omega) (by omega)
end
end Go.Eng.Q

namespace Go.Eng.Q
open Go.Eng
theorem W0(bs:List D)(c:fF bs):∀b,b<=bs.length->∃s:Nat,(bs.take b).foldl (λa x=>aG .i64 a (iE x)) 0=(s:Int)/\s<=b*10000/\∀np,aK np bs b<=np+s
 |0,_=>⟨0,rfl,Nat.zero_le _,λnp=>Nat.le_refl _⟩
 |b+1,h=>by
  obtain⟨s,e,l,f⟩:=W0 bs c b (by omega);have d:b<bs.length:=by omega
  have hg:gD bs b=bs[b]:=by simp[gD,List.getD,d]
  have g:=(c.2 b d).ins;have j:=c.1;unfold eL at g j;have:=Nat.mul_le_mul (show b<=10000 by omega) (Nat.le_refl 10000);refine⟨s+(gD bs b).els.length,?_,?_,λnp=>?_⟩
  ·rw[List.take_succ_eq_append_getElem d,List.foldl_append,e,<-hg];show aG .i64 (s:Int) ((gD bs b).els.length:Int)=_;rw[AQ _ _ _ (by simp[TC,TD];omega),uJ (by omega) (by omega)];omega
  ·rw[Nat.add_mul];omega
  ·have:=f np;have m:=WK (gD bs b).els (gD bs b).els.length;rw[aK];omega
theorem DQ{xs gs ts fs:List D}(h:iG xs gs ts fs=true):xs.length<=12/\gs.length<=12/\ts.length<=6/\fs.length<=24/\∀j,j<fs.length->(eX (gD fs j) 2).length<=5/\(eX (gD fs j) 4).length<=40/\sW (eX (gD fs j) 4)<=300:=by unfold iG at h;rw[Bool.and_eq_true,pG,Bool.or_eq_false_iff,Bool.or_eq_false_iff,Bool.or_eq_false_iff,Bool.and_eq_true,Bool.and_eq_true,Bool.and_eq_true]at h;obtain⟨⟨⟨⟨g,l⟩,m⟩,r⟩,K,L,P,s⟩:=h;have F:¬((24:Int)<(fs.length:Int)):=qD g;have G:¬((12:Int)<(xs.length:Int)):=qD l;have H:¬((12:Int)<(gs.length:Int)):=qD m;have J:¬((6:Int)<(ts.length:Int)):=qD r;refine⟨by omega,by omega,by omega,by omega,λj t=>?_⟩;have c:=kK.1 (pG.1 s) j t;unfold DJ at c;rw[Bool.or_eq_false_iff,Bool.or_eq_false_iff,Bool.or_eq_false_iff]at c;obtain⟨⟨⟨d,v⟩,e⟩,f⟩:=c;have u:¬((5:Int)<((eX (gD fs j) 2).length:Int)):=qD d;have y:¬((40:Int)<((eX (gD fs j) 4).length:Int)):=qD e;have C:=qD f;exact⟨by omega,by omega,by omega⟩
structure Tl(nx ng nf:Nat)(xs fs:List D)(ps bs:List D)(r:Int):Prop where
 tp:eL ps
 tb:fF bs
 b0:0<bs.length
 b40:bs.length<=40
 n:aK ps.length bs bs.length<400
 fm:mQ bs
 fl:lP bs=true
 us:FA ps.length bs=true
 ty:JG xs fs r ps bs=true
 sy:Ad nx nf bs
 gl:∀b,b<bs.length->∀k,k<(gD bs b).els.length->vI (gD (gD bs b).els k) 0=3->∃g:Nat,vI (gD (gD bs b).els k) 3=g/\g<ng
 fo:∀b,b<bs.length->∀k,k<(gD bs b).els.length->vI (gD (gD bs b).els k) 0=2->∃g:Nat,vI (gD (gD bs b).els k) 3=g/\g<nf
theorem aCe{xs gs ts fs:List D}(h:EX xs gs ts fs=true){j b k:Nat}(f:j<fs.length)(e:b<(eX (gD fs j) 4).length)(l:k<(gD (eX (gD fs j) 4) b).els.length){n:Nat}
  (m:tD xs.length gs.length ts.length fs.length (vI (gD (gD (eX (gD fs j) 4) b).els k) 0)=n):∃g:Nat,vI (gD (gD (eX (gD fs j) 4) b).els k) 3=g/\g<n:=by
 unfold EX at h;rw[Bool.and_eq_true,pG,pG]at h;have c:=kK.1 (kK.1 (kK.1 h.2 j f) b e) k l;unfold DK at c;rw[Bool.or_eq_false_iff,m]at c;have r:=qD c.1;have s:¬((n:Int)<=vI (gD (gD (eX (gD fs j) 4) b).els k) 3):=λd=>by rw[jA d]at c;cases c.2
 exact⟨(vI (gD (gD (eX (gD fs j) 4) b).els k) 3).toNat,by omega,by omega⟩
theorem WS{xs gs ts fs:List D}(m:WP xs gs ts fs)(h:OkM xs gs ts fs){j:Nat}(c:j<fs.length):Tl xs.length gs.length fs.length xs fs (eX (gD fs j) 2) (gJ (gD fs j)) (vI (gD fs j) 3):=by
 have hf:=m.f j c;obtain⟨s1,F,G,H,r⟩:=DQ h.sm;obtain⟨y,l,C⟩:=r j c;obtain⟨s,e1,u,g⟩:=W0 (eX (gD fs j) 4) hf.bbs _ (Nat.le_refl _);rw[List.take_length]at e1;have t:sW (eX (gD fs j) 4)=(s:Int):=e1;have v:=g (eX (gD fs j) 2).length;exact⟨hf.ps,hf.bbs,WQ h.sm j c,l,by show aK (eX (gD fs j) 2).length (eX (gD fs j) 4) (eX (gD fs j) 4).length<400;omega,Aa h.fm j c,h.fl j c,h.us j c,h.ty j c,Tk h.sy j c,
  λb d k e f=>aCe h.sy c d e (by rw[f];rfl),λb d k e f=>aCe h.sy c d e (by rw[f];rfl)⟩
abbrev nv(ps bs:List D):Nat:=aK ps.length bs bs.length+1
section
variable{nx ng nf:Nat}{xs fs ps bs:List D}{r:Int}(h:Tl nx ng nf xs fs ps bs r)(hng:ng<=12)
include h
omit h in
theorem SZ{v:Nat}(hv:v<nv ps bs)(c:ps.length<v):∃q,JZ ps.length bs v q:=by obtain⟨q,_,d⟩:=Jz bs.length (Nat.le_refl _) v c (by unfold nv at hv;omega);exact⟨q,d⟩
theorem Ks{v:Nat}{q:Nat×Nat}(d:JZ ps.length bs v q):vI (gD (gD bs q.1).els q.2) 2=(v:Int):=by
 have f:=h.us;unfold FA at f;rw[Bool.and_eq_true,pG,pG]at f;have c:=bQ.1 (bQ.1 f.1 q.1 d.b) q.2 d.k;unfold Cy at c;rw[d.t,Bool.true_and]at c;have g:aD (vI (gD (gD bs q.1).els q.2) 2) (kU ps.length bs q.1 q.2:Int)=true:=by
  cases e:aD (vI (gD (gD bs q.1).els q.2) 2) (kU ps.length bs q.1 q.2:Int)with
  |true=>rfl
  |false=>rw[e]at c;cases c
 rw[(bT _ _).1 g,d.v]
omit h in
theorem aDx{v:Nat}(hv:v<nv ps bs)(c:wV (dD ps.length bs) v=true):∃q,JZ ps.length bs v q:=by
 by_cases e:v<=ps.length
 ·unfold wV at c;rw[NI e]at c;cases c
 ·exact SZ hv (by omega)
theorem Tm{b k:Nat}(e:b<bs.length)(g:k<(gD bs b).els.length){j:Nat}(f:j<(eX (gD (gD bs b).els k) 5).length):∃u:Nat,oM (gD (gD bs b).els k) j=u/\1<=u/\u<nv ps bs:=by obtain⟨u,c,d,l⟩:=Tj h.us b e k g j f;exact⟨u,c,d,by unfold nv;omega⟩
include hng in
theorem Kt:V9 (nv ps bs) ps (dD ps.length bs):=by
 have C:=h.n;refine⟨by unfold nv;omega,λv hv s=>?_,λv hv=>?_,?_⟩
 ·obtain⟨q,c⟩:=aDx hv s;rw[AH c];have hf:=h.fm q.1 c.b q.2 c.k;refine⟨λj r=>?_,λe=>hf.a2 (.inr (.inl e)),λe=>hf.a3 e,λe=>?_,λe=>?_⟩
  ·obtain⟨u,l,y,m⟩:=Tm h c.b c.k r;exact⟨u,l,m⟩
  ·obtain⟨d,_⟩:=Kc h.fl c.b c.k e;have f:=(hf.ap e).2;have t:(gU bs q.1).length<=bs.length:=ZZ bs bs.length q.1;have:=h.b40;show(eX (gD (gD bs q.1).els q.2) 5).length<=40;omega
  ·obtain⟨g,d,f⟩:=h.gl q.1 c.b q.2 c.k e;exact⟨g,d,by omega⟩
 ·unfold wV;rw[NI hv];rfl
 ·have:=MZ ps.length bs bs.length;unfold nv;omega
open Classical in
noncomputable def nP(np:Nat)(bs:List D)(v:Nat):Nat:=if c:∃q,JZ np bs v q then(bs.length-rV bs.length (λi=>dB bs i (Classical.choose c).1))*20000+(Classical.choose c).2 +1 else 0
omit h in
theorem X0{np v:Nat}{q:Nat×Nat}(d:JZ np bs v q):nP np bs v=(bs.length-rV bs.length (λi=>dB bs i q.1))*20000+q.2+1:=by have c:∃q,JZ np bs v q:=⟨q,d⟩;unfold nP;rw[dif_pos c,WL (Classical.choose_spec c) d]
omit h in
theorem aDy{np v:Nat}(hv:v<=np):nP np bs v=0:=by unfold nP;rw[dif_neg];rintro⟨q,c⟩;have d:=c.v;have e:=Ti np bs q.1 q.2;omega
omit h in
theorem X1(f:Nat->Bool):∀n,rV n f<=n
 |0=>Nat.le_refl _
 |n+1=>by have:=X1 f n;unfold rV;cases f n<;>simp<;>omega
theorem aDz{v:Nat}{q:Nat×Nat}(c:JZ ps.length bs v q)(t:vI (gD (gD bs q.1).els q.2) 0≠26){j:Nat}(H:j<(eX (gD (gD bs q.1).els q.2) 5).length){u:Nat}(L:oM (gD (gD bs q.1).els q.2) j=u):nP ps.length bs u<nP ps.length bs v:=by
 have W:=h.b40;have s:=h.us;unfold FA at s;rw[Bool.and_eq_true,pG,pG]at s;have hx:=bQ.1 (bQ.1 s.2 q.1 c.b) q.2 c.k;have Q:=bQ.1 hx j H;obtain⟨w,C,T,U,f⟩:=Yq bs (np:=ps.length) (by omega) c.b (Nat.le_of_lt c.k) Q (λe=>absurd e t);have P:w=u:=by rw[C]at L;omega
 subst P;rw[X0 c];rcases f with f |⟨f,d,V,r,_,F⟩
 ·rw[aDy f];omega
 ·obtain⟨p,g⟩:=SZ (ps:=ps) (bs:=bs) (v:=w) (by unfold nv;omega) f;have hd:p.1=d:=by
   have e1:gD (nO ps.length bs) w=.i (Tv ps.length bs w).1 :=(dU _ (by omega)).trans (Ke f);rw[e1,EZ g]at r;injection r with r;omega
  subst hd;rw[X0 g];have K:=(h.tb.2 p.1 g.b).ins;unfold eL at K;have a0:=g.k;rcases F t with⟨l,m⟩ |⟨l,m⟩
  ·have Y:rV bs.length (λi=>dB bs i q.1)<rV bs.length (λi=>dB bs i p.1):=by
    have J:=ND h.fl q.1 c.b;refine JD bs.length (i:=q.1) (λi G=>OV G m) c.b ?_ (NC J);cases e:dB bs q.1 p.1 with
    |false=>rfl
    |true=>exact absurd (Yj m e) l
   have a1:=X1 (λi=>dB bs i p.1) bs.length;have:(bs.length-rV bs.length (λi=>dB bs i p.1))+1<=bs.length-rV bs.length (λi=>dB bs i q.1):=by omega
   have:=Nat.mul_le_mul_right 20000 this;rw[Nat.add_mul]at this;omega
  ·have y:=g.v;unfold kU at y;rw[l]at y⊢;have:p.2<q.2:=by
    by_cases e:p.2<q.2
    ·exact e
    ·have:=OU (gD bs q.1).els (show q.2<=p.2 by omega);omega
   omega
theorem Af:aEY (nv ps bs) (bE ps bs) (dD ps.length bs) (nP ps.length bs):=by
 refine⟨⟨λv hv e=>?_⟩,yD ps bs,λv hv J e=>?_⟩
 ·by_cases s:v<=ps.length
  ·rw[NI s]at e;cases e
  ·obtain⟨q,c⟩:=SZ hv (by omega);rw[AH c]at e⊢;have f:vI (gD (gD bs q.1).els q.2) 0=19:=e;have hf:=h.fm q.1 c.b q.2 c.k;have y:(eX (gD (gD bs q.1).els q.2) 5).length=2:=hf.a2 (.inr (.inl f));obtain⟨u,d,g,l⟩:=Tm h c.b c.k (j:=0) (by omega);obtain⟨w,F,H,G⟩:=Tm h c.b c.k (j:=1) (by omega);exact⟨y,u,w,d,F,l,G,aDz h c (by omega) (j:=0) (by omega) d⟩
 ·by_cases s:v<=ps.length
  ·rw[NI s]at e;cases e
  ·obtain⟨q,c⟩:=SZ hv (by omega);rw[AH c]at e⊢;have f:vI (gD (gD bs q.1).els q.2) 0=19:=e;have t:=h.ty;unfold JG at t;rw[pG]at t;have d:=bQ.1 (bQ.1 t q.1 c.b) q.2 c.k;have g:qE xs fs r (bE ps bs) (gD (gD bs q.1).els q.2)=true:=by
    cases C:qE xs fs r (bE ps bs) (gD (gD bs q.1).els q.2)with
    |true=>rfl
    |false=>rw[C]at d;cases d
   unfold qE at g;rw[f]at g;have l:((aD (vI (gD (gD bs q.1).els q.2) 1) 3&&aD (g' (jJ (bE ps bs) (eX (gD (gD bs q.1).els q.2) 5)) 0) 3)&&aD (g' (jJ (bE ps bs) (eX (gD (gD bs q.1).els q.2) 5)) 1) 1)=true:=g;rw[Bool.and_eq_true,Bool.and_eq_true]at l;have hf:=h.fm q.1 c.b q.2 c.k;have y:(eX (gD (gD bs q.1).els q.2) 5).length=2:=hf.a2 (.inr (.inl f));have m:=(bT _ _).1 l.1.2;unfold g' at m;rw[NE (by omega)]at m;exact m
end
end Go.Eng.Q

namespace Go.Eng.Q
open Go.Eng
theorem N0{n k:Nat}(g:Nat->D)(c:k<n)(i:Nat)(a:D):(aM n g).set k (D.l (cK (D.els (gD (aM n g) k)) i a))=aM n (eZ g k (.l (cK (D.els (g k)) i a))):=by rw[dU _ c,mW]
theorem aGS{n k:Nat}{g:Nat->D}(c:k<n)(hg:g k=QF)(a0 a1 a2 a3 a4 a5 d:D):
  (let z0:=(aM n g).set k (D.l (cK (D.els (gD (aM n g) k)) 0 a0));let e:=z0.set k (D.l (cK (D.els (gD z0 k)) 1 a1));let z2:=e.set k (D.l (cK (D.els (gD e k)) 2 a2));let z3:=z2.set k (D.l (cK (D.els (gD z2 k)) 3 a3));
   let z4:=z3.set k (D.l (cK (D.els (gD z3 k)) 4 a4));let z5:=z4.set k (D.l (cK (D.els (gD z4 k)) 5 a5));z5.set k (D.l (cK (D.els (gD z5 k)) 6 d)))=aM n (eZ g k (.l [a0,a1,a2,a3,a4,a5,d])):=by
 dsimp only;rw[N0 g c,N0 _ c,N0 _ c,N0 _ c,N0 _ c,N0 _ c,N0 _ c];simp only[eP,GR];rw[hg];rfl
def aFQ(ps bs:List D)(x:D):Prop:=∃b,x3 (nv ps bs) ps (dD ps.length bs) b/\x=fnD (bE ps bs) (cF (nv ps bs) b) (wW (nv ps bs) (bE ps bs) (dD ps.length bs) (nP ps.length bs)) (aM (nv ps bs) (dD ps.length bs))
section
variable{n1 n2 nf:Nat}{xs fs ps bs:List D}{r:Int}(h:Tl n1 n2 nf xs fs ps bs r)(gs ts:List D)(nm:List UInt8)(o:Bool)(j:Nat)(out:List D)
noncomputable abbrev Tn(np:Nat)(bs:List D)(c:Nat):Nat->D:=gT (dD np bs) QF c
include h
theorem aGT(b:Nat)(s:b<bs.length)(d:Nat->Bool):∃F:Nat->Bool,fC sN 8
  [.i (bs.length:Int),.l fs,.i 0,.i (j:Int),.l (gD bs b).els,.i (b:Int),.i (fs.length:Int),.i ((gD bs b).els.length:Int),.l bs,.s nm,.b o,.l ps,.i r,.l bs,.l xs,.l gs,.l ts,.l fs,.l (aZ nf d),.l (aM (nv ps bs) (Tn ps.length bs (aK ps.length bs b+1))),.l out,.l (bE ps bs)]
  (0,[.i (bs.length:Int),.l fs,.i (j:Int),.i (b:Int),.i (fs.length:Int),.l bs,.s nm,.b o,.l ps,.i r,.l bs,.l xs,.l gs,.l ts,.l fs,.l (aZ nf F),.l (aM (nv ps bs) (Tn ps.length bs (aK ps.length bs (b+1)+1))),.l out,.l (bE ps bs)]):=by
 have Y:=(h.tb.2 b s).ins.sane;have W:=DI sO (b:=8) (λk(d:Nat->Bool)=>[.i (bs.length:Int),.l fs,.i (k:Int),.i (j:Int),.l (gD bs b).els,.i (b:Int),.i (fs.length:Int),.i ((gD bs b).els.length:Int),.l bs,.s nm,.b o,.l ps,.i r,.l bs,.l xs,.l gs,.l ts,.l fs,.l (aZ nf d),.l (aM (nv ps bs) (Tn ps.length bs (aK ps.length bs b+dV (gD bs b).els k+1))),.l out,.l (bE ps bs)]) (gD bs b).els.length
  (λd=>(0,[.i (bs.length:Int),.l fs,.i (j:Int),.i (b:Int),.i (fs.length:Int),.l bs,.s nm,.b o,.l ps,.i r,.l bs,.l xs,.l gs,.l ts,.l fs,.l (aZ nf d),.l (aM (nv ps bs) (Tn ps.length bs (aK ps.length bs (b+1)+1))),.l out,.l (bE ps bs)])) (λ_ _=>True) (λk d f _=>?_) (λd _=>?_) (s0:=d) trivial
 ·obtain⟨F,_,Q⟩:=W;exact⟨F,Q⟩
 ·have hx:∀(u v:D),[D.i (bs.length:Int),.l fs,.i ((k+1:Nat):Int),.i (j:Int),.l (gD bs b).els,.i (b:Int),.i (fs.length:Int),.i ((gD bs b).els.length:Int),.l bs,.s nm,.b o,.l ps,.i r,.l bs,.l xs,.l gs,.l ts,.l fs,u,v,.l out,.l (bE ps bs)]=[D.i (bs.length:Int),.l fs,.i (aG .i64 (k:Int) 1),.i (j:Int),.l (gD bs b).els,.i (b:Int),.i (fs.length:Int),.i ((gD bs b).els.length:Int),.l bs,.s nm,.b o,.l ps,.i r,.l bs,.l xs,.l gs,.l ts,.l fs,u,v,.l out,.l (bE ps bs)]:=λu v=>nx f Y [_,_] _;have J:(dY (gD (gD bs b).els k)=false/\aM (nv ps bs) (Tn ps.length bs (aK ps.length bs b+dV (gD bs b).els (k+1)+1))=aM (nv ps bs) (Tn ps.length bs (aK ps.length bs b+dV (gD bs b).els k+1)))\/
    (dY (gD (gD bs b).els k)=true/\aA (vI (gD (gD bs b).els k) 2) (aM (nv ps bs) (Tn ps.length bs (aK ps.length bs b+dV (gD bs b).els k+1))).length=true/\(let z0:=(aM (nv ps bs) (Tn ps.length bs (aK ps.length bs b+dV (gD bs b).els k+1))).set (Int.toNat (vI (gD (gD bs b).els k) 2)) (D.l (cK (D.els (gD (aM (nv ps bs) (Tn ps.length bs (aK ps.length bs b+dV (gD bs b).els k+1))) (Int.toNat (vI (gD (gD bs b).els k) 2)))) 0 (.i (vI (gD (gD bs b).els k) 0))));let L:=z0.set (Int.toNat (vI (gD (gD bs b).els k) 2)) (D.l (cK (D.els (gD z0 (Int.toNat (vI (gD (gD bs b).els k) 2)))) 1 (.i (vI (gD (gD bs b).els k) 1))));let z2:=L.set (Int.toNat (vI (gD (gD bs b).els k) 2)) (D.l (cK (D.els (gD L (Int.toNat (vI (gD (gD bs b).els k) 2)))) 2 (.i (vI (gD (gD bs b).els k) 2))));let z3:=z2.set (Int.toNat (vI (gD (gD bs b).els k) 2)) (D.l (cK (D.els (gD z2 (Int.toNat (vI (gD (gD bs b).els k) 2)))) 3 (.i (vI (gD (gD bs b).els k) 3))));let z4:=z3.set (Int.toNat (vI (gD (gD bs b).els k) 2)) (D.l (cK (D.els (gD z3 (Int.toNat (vI (gD (gD bs b).els k) 2)))) 4 (.i (vI (gD (gD bs b).els k) 4))));let z5:=z4.set (Int.toNat (vI (gD (gD bs b).els k) 2)) (D.l (cK (D.els (gD z4 (Int.toNat (vI (gD (gD bs b).els k) 2)))) 5 (.l (eX (gD (gD bs b).els k) 5))));z5.set (Int.toNat (vI (gD (gD bs b).els k) 2)) (D.l (cK (D.els (gD z5 (Int.toNat (vI (gD (gD bs b).els k) 2)))) 6 (.l (eX (gD (gD bs b).els k) 6)))))=aM (nv ps bs) (Tn ps.length bs (aK ps.length bs b+dV (gD bs b).els (k+1)+1))):=by
   cases e:dY (gD (gD bs b).els k)with
   |false=>left;exact⟨rfl,by rw[Ka e]⟩
   |true=>
    right;have K:JZ ps.length bs (kU ps.length bs b k) (b,k):=⟨s,f,e,rfl⟩;have a0:=Ks h K;have hv:=Tf (np:=ps.length) s f e;have C:vI (gD (gD bs b).els k) 2=(kU ps.length bs b k:Int):=a0;refine⟨rfl,?_,?_⟩
    ·rw[C,cQ];exact aE (by unfold nv;omega)
    ·rw[C];have U:aK ps.length bs b+dV (gD bs b).els k+1=kU ps.length bs b k:=rfl;have V:aK ps.length bs b+dV (gD bs b).els (k+1)+1=kU ps.length bs b k+1:=by rw[Cx e];rfl
     rw[V,U];have T:=aGS (n:=nv ps bs) (k:=kU ps.length bs b k) (g:=Tn ps.length bs (kU ps.length bs b k)) (by unfold nv;omega) (Yi (by omega)) (.i (vI (gD (gD bs b).els k) 0)) (.i (vI (gD (gD bs b).els k) 1)) (.i (kU ps.length bs b k:Int)) (.i (vI (gD (gD bs b).els k) 3)) (.i (vI (gD (gD bs b).els k) 4)) (.l (eX (gD (gD bs b).els k) 5)) (.l (eX (gD (gD bs b).els k) 6));refine T.trans ?_;have hd:D.l [.i (vI (gD (gD bs b).els k) 0),.i (vI (gD (gD bs b).els k) 1),.i (kU ps.length bs b k:Int),.i (vI (gD (gD bs b).els k) 3),.i (vI (gD (gD bs b).els k) 4),.l (eX (gD (gD bs b).els k) 5),.l (eX (gD (gD bs b).els k) 6)]=dD ps.length bs (kU ps.length bs b k):=by rw[AH K,<-C];rfl
     rw[hd,<-mW];exact Tg rfl
  have m:∀{c:Bool},dY (gD (gD bs b).els k)=c->(!(aD (vI (gD (gD bs b).els k) 1) 0))=c:=λh=>h;cases y:aD (vI (gD (gD bs b).els k) 0) 2 with
  |true=>
   obtain⟨g,G,H⟩:=h.fo b s k f ((bT _ _).1 y);have P:aA (vI (gD (gD bs b).els k) 3) (aZ nf d).length=true:=by rw[G,eN];exact aE H
   have cs:(aZ nf d).set (Int.toNat (vI (gD (gD bs b).els k) 3)) (.b true)=aZ nf (rU d g):=by rw[G];exact yC d H
   refine⟨rU d g,trivial,?_⟩;show Ev _ _ (nU _) _;unfold nU;refine aC (aW f) (aC (aE f) (aC y (aC P ?_)));rcases J with⟨d1,l⟩ |⟨d1,l,t⟩
   ·refine aJ (m d1) (aO ?_);show[D.i (bs.length:Int),.l fs,.i ((k+1:Nat):Int),.i (j:Int),.l (gD bs b).els,.i (b:Int),.i (fs.length:Int),.i ((gD bs b).els.length:Int),.l bs,.s nm,.b o,.l ps,.i r,.l bs,.l xs,.l gs,.l ts,.l fs,.l (aZ nf (rU d g)),.l (aM (nv ps bs) (Tn ps.length bs (aK ps.length bs b+dV (gD bs b).els (k+1)+1))),.l out,.l (bE ps bs)]=_;rw[l,<-cs];exact hx _ _
   ·refine aC (m d1) (aC l (aO ?_));show[D.i (bs.length:Int),.l fs,.i ((k+1:Nat):Int),.i (j:Int),.l (gD bs b).els,.i (b:Int),.i (fs.length:Int),.i ((gD bs b).els.length:Int),.l bs,.s nm,.b o,.l ps,.i r,.l bs,.l xs,.l gs,.l ts,.l fs,.l (aZ nf (rU d g)),.l (aM (nv ps bs) (Tn ps.length bs (aK ps.length bs b+dV (gD bs b).els (k+1)+1))),.l out,.l (bE ps bs)]=_;rw[<-t,<-cs];exact hx _ _
  |false=>
   refine⟨d,trivial,?_⟩;show Ev _ _ (nU _) _;unfold nU;refine aC (aW f) (aC (aE f) (aJ y ?_));rcases J with⟨d1,l⟩ |⟨d1,l,t⟩
   ·refine aJ (m d1) (aO ?_);show[D.i (bs.length:Int),.l fs,.i ((k+1:Nat):Int),.i (j:Int),.l (gD bs b).els,.i (b:Int),.i (fs.length:Int),.i ((gD bs b).els.length:Int),.l bs,.s nm,.b o,.l ps,.i r,.l bs,.l xs,.l gs,.l ts,.l fs,.l (aZ nf d),.l (aM (nv ps bs) (Tn ps.length bs (aK ps.length bs b+dV (gD bs b).els (k+1)+1))),.l out,.l (bE ps bs)]=_;rw[l];exact hx _ _
   ·refine aC (m d1) (aC l (aO ?_));show[D.i (bs.length:Int),.l fs,.i ((k+1:Nat):Int),.i (j:Int),.l (gD bs b).els,.i (b:Int),.i (fs.length:Int),.i ((gD bs b).els.length:Int),.l bs,.s nm,.b o,.l ps,.i r,.l bs,.l xs,.l gs,.l ts,.l fs,.l (aZ nf d),.l (aM (nv ps bs) (Tn ps.length bs (aK ps.length bs b+dV (gD bs b).els (k+1)+1))),.l out,.l (bE ps bs)]=_;rw[<-t];exact hx _ _
 ·show Ev _ _ (nU _) _;unfold nU;exact aJ (aX _) (bG rfl)
theorem aGU(c:Nat->Bool):∃d:Nat->Bool,fC sN 6
  [.i (bs.length:Int),.l fs,.i (j:Int),.i 0,.i (fs.length:Int),.l bs,.s nm,.b o,.l ps,.i r,.l bs,.l xs,.l gs,.l ts,.l fs,.l (aZ nf c),.l (List.replicate (nv ps bs) QF),.l out,.l (bE ps bs)]
  (0,[.l fs,.i (j:Int),.i (fs.length:Int),.s nm,.b o,.l ps,.i r,.l bs,.l xs,.l gs,.l ts,.l fs,.l (aZ nf d),.l (aM (nv ps bs) (dD ps.length bs)),.l out,.l (bE ps bs)]):=by
 have l:List.replicate (nv ps bs) QF=aM (nv ps bs) (Tn ps.length bs (aK ps.length bs 0+1)):=by
  rw[<-qT];refine dL λi g=>?_;by_cases f:i<aK ps.length bs 0+1
  ·exact((Oq f).trans (NI (by unfold aK at f;omega))).symm
  ·exact(Yi f).symm
 have e1:aM (nv ps bs) (dD ps.length bs)=aM (nv ps bs) (Tn ps.length bs (aK ps.length bs bs.length+1)):=dL λi g=>(Oq g).symm;rw[l,e1];have t:=DI sO (b:=6) (λb(c:Nat->Bool)=>[.i (bs.length:Int),.l fs,.i (j:Int),.i (b:Int),.i (fs.length:Int),.l bs,.s nm,.b o,.l ps,.i r,.l bs,.l xs,.l gs,.l ts,.l fs,.l (aZ nf c),.l (aM (nv ps bs) (Tn ps.length bs (aK ps.length bs b+1))),.l out,.l (bE ps bs)]) bs.length
  (λc=>(0,[.l fs,.i (j:Int),.i (fs.length:Int),.s nm,.b o,.l ps,.i r,.l bs,.l xs,.l gs,.l ts,.l fs,.l (aZ nf c),.l (aM (nv ps bs) (Tn ps.length bs (aK ps.length bs bs.length+1))),.l out,.l (bE ps bs)])) (λ_ _=>True) (λb c e _=>?_) (λc _=>?_) (s0:=c) trivial
 ·obtain⟨d,_,m⟩:=t;exact⟨d,m⟩
 ·obtain⟨d,s⟩:=aGT h gs ts nm o j out b e c;refine⟨d,trivial,?_⟩;show Ev _ _ (uW _) _;unfold uW;exact aC (aW e) (aC (aE e) (aP s (bD (aO (nx e h.tb.1.sane [_,_,_] _)))))
 ·show Ev _ _ (uW _) _;unfold uW;exact aJ (aX _) (bG rfl)
end
end Go.Eng.Q

namespace Go.Eng.Q
open Go.Eng
section
variable(xs gs ts fs:List D)(hM:WP xs gs ts fs)(hO:OkM xs gs ts fs)
include hM hO
theorem aGV(j:Nat)(y:j<ts.length)(c:Nat->Bool):∃r:Nat->Bool,fC sN 2
  [.i ((eX (gD ts j) 1).length:Int),.l ts,.i (j:Int),.i 0,.i (ts.length:Int),.l (eX (gD ts j) 1),.l xs,.l gs,.l ts,.l fs,.l xs,.l gs,.l ts,.l fs,.l (aZ fs.length c)]
  (0,[.l ts,.i (j:Int),.i (ts.length:Int),.l xs,.l gs,.l ts,.l fs,.l xs,.l gs,.l ts,.l fs,.l (aZ fs.length r)]):=by
 have H:=(hM.t j y).sane;have m:=hO.sy;unfold EX at m;rw[Bool.and_eq_true,pG,pG]at m;have v:=kK.1 m.1 j y;unfold BA at v;have G:=DI sO (b:=2) (λe(c:Nat->Bool)=>[.i ((eX (gD ts j) 1).length:Int),.l ts,.i (j:Int),.i (e:Int),.i (ts.length:Int),.l (eX (gD ts j) 1),.l xs,.l gs,.l ts,.l fs,.l xs,.l gs,.l ts,.l fs,.l (aZ fs.length c)]) (eX (gD ts j) 1).length
  (λc=>(0,[.l ts,.i (j:Int),.i (ts.length:Int),.l xs,.l gs,.l ts,.l fs,.l xs,.l gs,.l ts,.l fs,.l (aZ fs.length c)])) (λ_ _=>True) (λe c d _=>?_) (λc _=>?_) (s0:=c) trivial
 ·obtain⟨r,_,F⟩:=G;exact⟨r,F⟩
 ·have hx:∀(u:D),[D.i ((eX (gD ts j) 1).length:Int),.l ts,.i (j:Int),.i ((e+1:Nat):Int),.i (ts.length:Int),.l (eX (gD ts j) 1),.l xs,.l gs,.l ts,.l fs,.l xs,.l gs,.l ts,.l fs,u]=[D.i ((eX (gD ts j) 1).length:Int),.l ts,.i (j:Int),.i (aG .i64 (e:Int) 1),.i (ts.length:Int),.l (eX (gD ts j) 1),.l xs,.l gs,.l ts,.l fs,.l xs,.l gs,.l ts,.l fs,u]:=λu=>nx d H [_,_,_] _;have f:=kK.1 v e d;unfold Jo at f;rw[Bool.or_eq_false_iff]at f;cases l:cP 0 (gD (eX (gD ts j) 1) e).toI with
  |false=>refine⟨c,trivial,?_⟩;show Ev _ _ (nT _) _;unfold nT;exact aC (aW d) (aC (aE d) (aJ l (aO (hx _))))
  |true=>
   have J:=(eR _ _).1 l;have K:¬((fs.length:Int)<=(gD (eX (gD ts j) 1) e).toI):=λh=>by rw[jA h]at f;cases f.2
   obtain⟨g,s⟩:∃g:Nat,(gD (eX (gD ts j) 1) e).toI=(g:Int):=⟨(gD (eX (gD ts j) 1) e).toI.toNat,by omega⟩;have t:g<fs.length:=by omega
   have C:aA (gD (eX (gD ts j) 1) e).toI (aZ fs.length c).length=true:=by rw[s,eN];exact aE t
   have cs:(aZ fs.length c).set (Int.toNat (gD (eX (gD ts j) 1) e).toI) (.b true)=aZ fs.length (rU c g):=by rw[s];exact yC c t
   refine⟨rU c g,trivial,?_⟩;show Ev _ _ (nT _) _;unfold nT;refine aC (aW d) (aC (aE d) (aC l (aC C (aO ?_))));rw[<-cs];exact hx _
 ·show Ev _ _ (nT _) _;unfold nT;exact aJ (aX _) (bG rfl)
theorem aGW:∃d:Nat->Bool,fC sN 0 [.l ts,.i 0,.i (ts.length:Int),.l xs,.l gs,.l ts,.l fs,.l xs,.l gs,.l ts,.l fs,.l (List.replicate fs.length (D.b false))]
  (0,[.l xs,.l gs,.l ts,.l fs,.l xs,.l gs,.l ts,.l fs,.l (aZ fs.length d)]):=by
 rw[<-lZ];have g:=DI sO (b:=0) (λj(c:Nat->Bool)=>[.l ts,.i (j:Int),.i (ts.length:Int),.l xs,.l gs,.l ts,.l fs,.l xs,.l gs,.l ts,.l fs,.l (aZ fs.length c)]) ts.length
  (λc=>(0,[.l xs,.l gs,.l ts,.l fs,.l xs,.l gs,.l ts,.l fs,.l (aZ fs.length c)])) (λ_ _=>True) (λj c e _=>?_) (λc _=>?_) (s0:=λ_=>false) trivial
 ·obtain⟨d,_,f⟩:=g;exact⟨d,f⟩
 ·obtain⟨d,f⟩:=aGV xs gs ts fs hM hO j e c;refine⟨d,trivial,?_⟩;show Ev _ _ (uU _) _;unfold uU;exact aC (aW e) (aC (aE e) (aP f (bD (aO (nx e hM.sane.ht [_] _)))))
 ·show Ev _ _ (uU _) _;unfold uU;exact aJ (aX _) (bG rfl)
abbrev Oz(fs:List D)(j:Nat)(x:D):Prop:=aFQ (eX (gD fs j) 2) (gJ (gD fs j)) x
theorem aGX(m:Nat->Bool):∃(d:Nat->Bool)(F:Nat->D),(∀i,i<fs.length->Oz fs i (F i))/\fC sN 4 [.l fs,.i 0,.i (fs.length:Int),.l xs,.l gs,.l ts,.l fs,.l (aZ fs.length m),.l []]
  (0,[.l xs,.l gs,.l ts,.l fs,.l (aZ fs.length d),.l (aM fs.length F)]):=by
 have K:=DI sO (b:=4) (λj(q:(Nat->Bool)×(Nat->D))=>[.l fs,.i (j:Int),.i (fs.length:Int),.l xs,.l gs,.l ts,.l fs,.l (aZ fs.length q.1),.l (aM j q.2)]) fs.length
  (λq=>(0,[.l xs,.l gs,.l ts,.l fs,.l (aZ fs.length q.1),.l (aM fs.length q.2)])) (λj q=>∀i,i<j->Oz fs i (q.2 i)) (λj q c J=>?_) (λq _=>?_) (s0:=(m,λ_=>.i 0)) (λi f=>absurd f (by omega))
 ·obtain⟨q,t,u⟩:=K;exact⟨q.1,q.2,t,u⟩
 ·have hf:=WS hM hO c;have h:=DQ hO.sm;have L:=hf.n;have v:=Kt hf h.2.1;have y:=Af hf;obtain⟨d,g⟩:=aGU hf gs ts (D.toS (D.fld (gD fs j) 0)) (vB (gD fs j) 1) j (aM j q.2) q.1;obtain⟨b,C,G⟩:=aCb v (bE (eX (gD fs j) 2) (gJ (gD fs j))) [] [] [] (yD _ _) (D.toS (D.fld (gD fs j) 0)) (vB (gD fs j) 1) (vI (gD fs j) 3) (gJ (gD fs j));have H:=aDw y (cF (nv (eX (gD fs j) 2) (gJ (gD fs j))) b) [] (by unfold nv;omega);have l:(bE (eX (gD fs j) 2) (gJ (gD fs j))).length=nv (eX (gD fs j) 2) (gJ (gD fs j)):=yD _ _;have r:List.replicate (nv (eX (gD fs j) 2) (gJ (gD fs j))) QF=List.replicate (bE (eX (gD fs j) 2) (gJ (gD fs j))).length (D.l [.i 0,.i 0,.i 0,.i 0,.i 0,.l [],.l []]):=by rw[l];rfl
  rw[r]at g;refine⟨(d,eZ q.2 j (fnD (bE (eX (gD fs j) 2) (gJ (gD fs j))) (cF (nv (eX (gD fs j) 2) (gJ (gD fs j))) b) (wW (nv (eX (gD fs j) 2) (gJ (gD fs j))) (bE (eX (gD fs j) 2) (gJ (gD fs j))) (dD (eX (gD fs j) 2).length (gJ (gD fs j))) (nP (eX (gD fs j) 2).length (gJ (gD fs j)))) (aM (nv (eX (gD fs j) 2) (gJ (gD fs j))) (dD (eX (gD fs j) 2).length (gJ (gD fs j)))))),λi f=>?_,?_⟩
  ·show Oz fs i (eZ q.2 j _ i);by_cases e:i=j
   ·subst e;rw[eP];exact⟨b,C,rfl⟩
   ·rw[mV _ _ e];exact J i (by omega)
  ·have s:aM (j+1) (eZ q.2 j (fnD (bE (eX (gD fs j) 2) (gJ (gD fs j))) (cF (nv (eX (gD fs j) 2) (gJ (gD fs j))) b) (wW (nv (eX (gD fs j) 2) (gJ (gD fs j))) (bE (eX (gD fs j) 2) (gJ (gD fs j))) (dD (eX (gD fs j) 2).length (gJ (gD fs j))) (nP (eX (gD fs j) 2).length (gJ (gD fs j)))) (aM (nv (eX (gD fs j) 2) (gJ (gD fs j))) (dD (eX (gD fs j) 2).length (gJ (gD fs j))))))=aM j q.2++[fnD (bE (eX (gD fs j) 2) (gJ (gD fs j))) (cF (nv (eX (gD fs j) 2) (gJ (gD fs j))) b) (wW (nv (eX (gD fs j) 2) (gJ (gD fs j))) (bE (eX (gD fs j) 2) (gJ (gD fs j))) (dD (eX (gD fs j) 2).length (gJ (gD fs j))) (nP (eX (gD fs j) 2).length (gJ (gD fs j)))) (aM (nv (eX (gD fs j) 2) (gJ (gD fs j))) (dD (eX (gD fs j) 2).length (gJ (gD fs j))))]:=by
    rw[<-Yo,eP];congr 1;exact dL λi f=>mV _ _ (by omega)
   show Ev _ _ (uV _) _;unfold uV;refine aC (aW c) (aC (aE c) (bK (Cz (D.toS (D.fld (gD fs j) 0)) (vB (gD fs j) 1) (eX (gD fs j) 2) (vI (gD fs j) 3) (gJ (gD fs j)) hf.tp hf.tb) rfl (aC ?_ (aP g (bD (bK G rfl (bK H rfl (aC ?_ (aO ((nx c hM.sane.hf [_] _).trans ?_))))))))))
   ·show(cP 0 ((bE (eX (gD fs j) 2) (gJ (gD fs j))).length:Int)&&(aD ((bE (eX (gD fs j) 2) (gJ (gD fs j))).length:Int) ((bE (eX (gD fs j) 2) (gJ (gD fs j))).length:Int)&&iP (Int.toNat ((bE (eX (gD fs j) 2) (gJ (gD fs j))).length:Int)) 88))=true;rw[l,jA (by omega),pF];exact eM (by show nv (eX (gD fs j) 2) (gJ (gD fs j))<=_;unfold nv;omega) (by omega)
   ·show iP ((aM j q.2).length+1) 96=true;have:=h.2.2.2.1;rw[cQ];exact eM (by omega) (by omega)
   ·show[D.l fs,.i (aG .i64 (j:Int) 1),.i (fs.length:Int),.l xs,.l gs,.l ts,.l fs,.l (aZ fs.length d),.l (aM (j+1) _)]=_;rw[s];rfl
 ·show Ev _ _ (uV _) _;unfold uV;exact aJ (aX _) (bG rfl)
abbrev N2(xs gs ts fs:List D)(c:Nat->Bool)(F:Nat->D):D:=.l [.l xs,.l gs,.l ts,.l fs,.l (aZ fs.length c),.l (aM fs.length F)]
theorem Zd:∃(c:Nat->Bool)(F:Nat->D),(∀i,i<fs.length->Oz fs i (F i))/\iS E aY sites If [.l [.l xs,.l gs,.l ts,.l fs]] (.l [N2 xs gs ts fs c F]) []:=by obtain⟨g,d⟩:=aGW xs gs ts fs hM hO;obtain⟨c,F,e,f⟩:=aGX xs gs ts fs hM hO g;refine⟨c,F,e,bA sO (by rfl) rfl ?_⟩;show Ev _ _ (RR _) _;unfold RR;have h:=hM.n;refine aC ?_ (aP d (bD (aP f (bD (bJ rfl rfl)))));show(cP 0 (fs.length:Int)&&(aD (fs.length:Int) (fs.length:Int)&&iP (Int.toNat (fs.length:Int)) 1))=true;rw[jA (by omega),pF];exact eM (by show fs.length<=_;omega) (by omega)
end
end Go.Eng.Q

namespace Go.Eng.Q
open Go.Eng
def DR(df:Nat->D):Nat->Nat->SP
 |0,_=>sp0
 |k+1,v=>if vI (df v) 0=18 then QH 2 v else if vI (df v) 0=3 then QH 3 (vI (df v) 3).toNat else DR df k (eT (df v) 0)
def rY(df:Nat->D)(rk:Nat->Nat)(v:Nat):SP:=DR df (rk v+1) v
theorem JL{n:Nat}{df:Nat->D}{rk:Nat->Nat}(h:Rk n df rk):∀(k v:Nat),v<n->rk v<k->(gY df rk v).isSome=true->DR df k v=rY df rk v
 |0,v,_,l,_=>absurd l (by omega)
 |k+1,v,hv,l,e=>by
  unfold rY DR;by_cases e1:vI (df v) 0=18
  ·rw[if_pos e1,if_pos e1]
  ·rw[if_neg e1,if_neg e1];by_cases d:vI (df v) 0=3
   ·rw[if_pos d,if_pos d]
   ·rw[if_neg d,if_neg d];have c:=JK h hv;rw[if_neg (by rintro(h |h);exact e1 h;exact d h)]at c;by_cases f:vI (df v) 0=19
    ·rw[if_pos f]at c;obtain⟨_,u,w,m,C,g,F,r⟩:=h.fall v hv f;have t:eT (df v) 0=u:=by unfold eT;rw[m];rfl
     rw[t]at c⊢;have j:(gY df rk u).isSome=true:=by
      cases s:gY df rk u with
      |some a=>rfl
      |none=>rw[s]at c;rw[c]at e;cases e
     rw[JL h k u g (by omega) j];by_cases y:rk v<k
     ·rw[JL h (rk v) u g r j]
     ·have:rk v=k:=by omega
      rw[this,JL h k u g (by omega) j]
    ·rw[if_neg f]at c;rw[c]at e;cases e
theorem Ze{n:Nat}{df:Nat->D}{rk:Nat->Nat}(h:Rk n df rk){v:Nat}(hv:v<n)(d:vI (df v) 0=19)(f:(gY df rk v).isSome=true):(gY df rk (eT (df v) 0)).isSome=true/\rY df rk v=rY df rk (eT (df v) 0):=by
 have c:=JK h hv;rw[if_neg (by omega),if_pos d]at c;obtain⟨_,u,w,l,t,m,y,r⟩:=h.fall v hv d;have j:eT (df v) 0=u:=by unfold eT;rw[l];rfl
 rw[j]at c⊢;have g:(gY df rk u).isSome=true:=by
  cases s:gY df rk u with
  |some a=>rfl
  |none=>rw[s]at c;rw[c]at f;cases f
 refine⟨g,?_⟩;have e:rY df rk v=DR df (rk v) u:=by show DR df (rk v+1) v=_;rw[DR,if_neg (by omega),if_neg (by omega),j]
 rw[e,JL h (rk v) u m r g]
theorem Ku{l:List SP}{x:SP}(d:GX l)(h:∀c,c∈l<->c=x):l=[x]:=
 Ki d (List.pairwise_singleton _ _) λc=>by rw[h c,List.mem_singleton]
theorem TA{n:Nat}{ps:List D}{df:Nat->D}{rk:Nat->Nat}{T:List D}(d:aEY n T df rk){b:Nat->List SP}(m:x3 n ps df b)(H:∀v,v<n->(gD T v).toI=3->(wV df v=true\/vI (df v) 0=0)):
  ∀(k v:Nat),rk v<k->v<n->(gD T v).toI=3->(gY df rk v).isSome=true->b v=[rY df rk v]
 |0,v,C,_,_,_=>absurd C (by omega)
 |k+1,v,C,hv,F,f=>by
  have l:=JK d.rk hv;have P:wV df v=true:=by
   rcases H v hv F with h |h
   ·exact h
   ·rw[if_neg (by omega),if_neg (by omega)]at l;rw[l]at f;cases f
  have r:=m.iff v hv P;have s:=m.g.rise v hv;by_cases e1:vI (df v) 0=18
  ·have e:rY df rk v=QH 2 v:=by show DR df (rk v+1) v=_;rw[DR,if_pos e1]
   rw[e];refine Ku s λg=>?_;rw[r g];unfold bF;rw[if_pos e1,List.mem_singleton]
  ·by_cases j:vI (df v) 0=3
   ·have e:rY df rk v=QH 3 (vI (df v) 3).toNat:=by show DR df (rk v+1) v=_;rw[DR,if_neg e1,if_pos j]
    rw[e];refine Ku s λg=>?_;rw[r g];unfold bF;rw[if_neg e1,if_pos j,List.mem_singleton]
   ·by_cases c:vI (df v) 0=19
    ·obtain⟨t,y⟩:=Ze d.rk hv c f;obtain⟨_,u,w,K,U,L,V,W⟩:=d.rk.fall v hv c;have J:eT (df v) 0=u:=by unfold eT;rw[K];rfl
     have G:=d.ty v hv F c;rw[J]at t y G;have Q:=TA d m H k u (by omega) L G t;rw[y];refine Ku s λg=>?_;rw[r g];unfold bF;rw[if_neg e1,if_neg j,if_pos c,J,Q,List.mem_singleton]
    ·rw[if_neg (by rintro(h |h);exact e1 h;exact j h),if_neg c]at l;rw[l]at f;cases f
theorem X2{n:Nat}{df:Nat->D}{rk:Nat->Nat}(h:Rk n df rk):∀(k v:Nat),rk v<k->v<n->(gY df rk v).isSome=true->(∃u,u<n/\vI (df u) 0=18/\rY df rk v=QH 2 u)\/(∃u,u<n/\vI (df u) 0=3/\rY df rk v=QH 3 (vI (df u) 3).toNat)
 |0,v,j,_,_=>absurd j (by omega)
 |k+1,v,j,hv,e=>by
  have l:=JK h hv;by_cases e1:vI (df v) 0=18
  ·exact .inl ⟨v,hv,e1,by show DR df (rk v+1) v=_;rw[DR,if_pos e1]⟩
  ·by_cases c:vI (df v) 0=3
   ·exact .inr ⟨v,hv,c,by show DR df (rk v+1) v=_;rw[DR,if_neg e1,if_pos c]⟩
   ·by_cases d:vI (df v) 0=19
    ·obtain⟨f,g⟩:=Ze h hv d e;obtain⟨_,u,w,m,t,r,y,C⟩:=h.fall v hv d;have s:eT (df v) 0=u:=by unfold eT;rw[m];rfl
     rw[s]at f g;rw[g];exact X2 h k u (by omega) r f
    ·rw[if_neg (by rintro(h |h);exact e1 h;exact c h),if_neg d]at l;rw[l]at e;cases e
def szR(gs:List D)(df:Nat->D)(x:SP):Int:=if x.1.val=3 then((eX (gD gs x.2.val) 1).length:Int)else vI (df x.2.val) 4
def WT(gs:List D)(df:Nat->D)(rk:Nat->Nat)(p:Nat):Bool:=match gY df rk p with
 |some a=>cP 0 a&&aT a (szR gs df (rY df rk p))
 |none=>false
section
variable{n1 n2 nf:Nat}{xs fs ps bs:List D}{r:Int}(h:Tl n1 n2 nf xs fs ps bs r)
theorem aCg{v:Nat}(hv:v<nv ps bs)(c:(gD (bE ps bs) v).toI=3):wV (dD ps.length bs) v=true\/vI (dD ps.length bs v) 0=0:=by
 by_cases e:v<=ps.length
 ·right;rw[NI e];rfl
 ·left;obtain⟨q,d⟩:=SZ (ps:=ps) (bs:=bs) hv (by omega);rw[x4 d]at c;unfold wV;rw[AH d];exact(bT _ _).2 c
include h
theorem X3{b k:Nat}(g:b<bs.length)(j:k<(gD bs b).els.length)(u:vI (gD (gD bs b).els k) 0=20\/vI (gD (gD bs b).els k) 0=21):
  0<(eX (gD (gD bs b).els k) 5).length/\∃p:Nat,oM (gD (gD bs b).els k) 0=p/\p<nv ps bs/\(gD (bE ps bs) p).toI=3:=by
 have hf:=h.fm b g k j;have f:0<(eX (gD (gD bs b).els k) 5).length:=by
  rcases u with e |e
  ·have:=hf.a1 (.inr (.inl e));omega
  ·have:=hf.a2 (.inr (.inr e));omega
 obtain⟨p,s,C,y⟩:=Tm h g j f;refine⟨f,p,s,y,?_⟩;have l:=h.ty;unfold JG at l;rw[pG]at l;have m:=bQ.1 (bQ.1 l b g) k j;have c:qE xs fs r (bE ps bs) (gD (gD bs b).els k)=true:=by
  cases v:qE xs fs r (bE ps bs) (gD (gD bs b).els k)with
  |true=>rfl
  |false=>rw[v]at m;cases m
 unfold qE at c;have t:g' (jJ (bE ps bs) (eX (gD (gD bs b).els k) 5)) 0=(gD (bE ps bs) p).toI:=by unfold g';rw[NE f];show(gD (bE ps bs) (oM (gD (gD bs b).els k) 0).toNat).toI=_;rw[s];rfl
 rcases u with e |e
 ·rw[e]at c;have d:(aD (vI (gD (gD bs b).els k) 1) 1&&aD (g' (jJ (bE ps bs) (eX (gD (gD bs b).els k) 5)) 0) 3)=true:=c;rw[Bool.and_eq_true,t]at d;exact(bT _ _).1 d.2
 ·rw[e]at c;have d:(aD (g' (jJ (bE ps bs) (eX (gD (gD bs b).els k) 5)) 0) 3&&aD (g' (jJ (bE ps bs) (eX (gD (gD bs b).els k) 5)) 1) 1)=true:=c;rw[Bool.and_eq_true,t]at d;exact(bT _ _).1 d.1
theorem X4{p:Nat}(r:p<nv ps bs)(s:(gY (dD ps.length bs) (nP ps.length bs) p).isSome=true)(t:n2<=12):
  (∃u,u<nv ps bs/\ps.length<u/\rY (dD ps.length bs) (nP ps.length bs) p=QH 2 u)\/(∃g,g<n2/\rY (dD ps.length bs) (nP ps.length bs) p=QH 3 g):=by
 rcases X2 (Af h).rk _ p (Nat.lt_succ_self _) r s with⟨u,f,c,d⟩ |⟨u,f,c,d⟩
 ·left;refine⟨u,f,?_,d⟩;by_cases e:u<=ps.length
  ·rw[NI e]at c;cases c
  ·omega
 ·right;by_cases e:u<=ps.length
  ·rw[NI e]at c;cases c
  ·obtain⟨q,j⟩:=SZ (ps:=ps) (bs:=bs) f (by omega);rw[AH j]at c d;obtain⟨g,l,m⟩:=h.gl q.1 j.b q.2 j.k c;refine⟨g,m,d.trans ?_⟩;have:vI (D.l (Do (gD (gD bs q.1).els q.2))) 3=(g:Int):=l;rw[this];rfl
end
end Go.Eng.Q

namespace Go.Eng.Q
open Go.Eng
def Dr(gs:List D)(df:Nat->D)(rk:Nat->Nat)(x:D):Bool:=(aD (vI x 0) 20||aD (vI x 0) 21)&&WT gs df rk (eT x 0)
theorem Dc{k n:Nat}(c:k<1000000000):(QH k n).1.val =k:=Nat.mod_eq_of_lt c
theorem Dd{k n:Nat}(c:n<1000000000):(QH k n).2.val =n:=Nat.mod_eq_of_lt c
section
variable{xs gs ts fs:List D}(hM:WP xs gs ts fs)(hO:OkM xs gs ts fs)
include hM hO
theorem Ly(c2:Nat->Bool)(F:Nat->D)(a4:∀i,i<fs.length->Oz fs i (F i))(j:Nat)(y:j<fs.length)(b i:Nat)(a7:b<(gJ (gD fs j)).length)(b3:i<(gD (gJ (gD fs j)) b).els.length):
  iS E aY sites xT [N2 xs gs ts fs c2 F,.i (j:Int),.l (Do (gD (gD (gJ (gD fs j)) b).els i))] (.b (Dr gs (dD (eX (gD fs j) 2).length (gJ (gD fs j))) (nP (eX (gD fs j) 2).length (gJ (gD fs j))) (gD (gD (gJ (gD fs j)) b).els i))) []:=by
 have hf:=WS hM hO y;have c1:=DQ hO.sm;obtain⟨C,a9,b0⟩:=a4 j y;refine bA DA (by rfl) rfl ?_;show Ev _ _ (sL _) _;unfold sL;have a5:=X3 hf a7 b3;generalize gD (gD (gJ (gD fs j)) b).els i=x at*;generalize c6:eX (gD fs j) 2=ps at*;generalize c4:gJ (gD fs j)=bs at*;have c5:=hf.n;by_cases s:vI x 0=20\/vI x 0=21
 ·have b2:(!(aD (vI x 0) 20)&&!(aD (vI x 0) 21))=false:=by
   rcases s with e |e
   ·rw[e];rfl
   ·rw[e];rfl
  have b6:(aD (vI x 0) 20||aD (vI x 0) 21)=true:=by
   rcases s with e |e
   ·rw[e];rfl
   ·rw[e];rfl
  obtain⟨a6,p,t,l,U⟩:=a5 s;have c0:eT x 0=p:=by unfold eT;rw[t];rfl
  have r:gD (aM fs.length F) j=fnD (bE ps bs) (cF (nv ps bs) C) (wW (nv ps bs) (bE ps bs) (dD ps.length bs) (nP ps.length bs)) (aM (nv ps bs) (dD ps.length bs)):=(dU _ y).trans b0;have W:aA (j:Int) (aM fs.length F).length=true:=by rw[cQ];exact aE y
  have L:aA 0 (eX x 5).length=true:=aE (j:=0) a6;have b5:(wW (nv ps bs) (bE ps bs) (dD ps.length bs) (nP ps.length bs)).length=nv ps bs:=cQ _ _;have b4:gD (wW (nv ps bs) (bE ps bs) (dD ps.length bs) (nP ps.length bs)) p=AI (gY (dD ps.length bs) (nP ps.length bs) p):=by refine(dU _ l).trans ?_;rw[if_pos U]
  have Y:aA (gD (eX x 5) 0).toI (nX (gD (aM fs.length F) j) 2)=true:=by have:(gD (eX x 5) 0).toI=(p:Int):=t;rw[this,r];show aA (p:Int) (wW (nv ps bs) (bE ps bs) (dD ps.length bs) (nP ps.length bs)).length=true;rw[b5];exact aE l
  have H:∀q,vI (gD (eX (gD (aM fs.length F) j) 2) (Int.toNat (gD (eX x 5) 0).toI)) q=vI (AI (gY (dD ps.length bs) (nP ps.length bs) p)) q:=λq=>by have:(gD (eX x 5) 0).toI=(p:Int):=t;rw[this,r];show vI (gD (wW (nv ps bs) (bE ps bs) (dD ps.length bs) (nP ps.length bs)) p) q=_;rw[b4]
  unfold Dr;rw[b6,c0];refine aJ b2 (aC W (aC L (aC Y ?_)));cases h:gY (dD ps.length bs) (nP ps.length bs) p with
  |none=>
   have m:WT gs (dD ps.length bs) (nP ps.length bs) p=false:=by unfold WT;rw[h]
   refine aC ?_ (bJ (by rw[m];rfl) rfl);exact(congrArg (λc=>!(aD c 1)) (H 0)).trans (by rw[h];rfl)
  |some a=>
   have V:(gY (dD ps.length bs) (nP ps.length bs) p).isSome=true:=by rw[h];rfl
   have m:WT gs (dD ps.length bs) (nP ps.length bs) p=(cP 0 a&&aT a (szR gs (dD ps.length bs) (rY (dD ps.length bs) (nP ps.length bs) p))):=by unfold WT;rw[h]
   have b1:=TA (Af hf) a9 (λv hv b7=>aCg hv b7) _ p (Nat.lt_succ_self _) l U V;have a0:(!(aD (vI (gD (eX (gD (aM fs.length F) j) 2) (Int.toNat (gD (eX x 5) 0).toI)) 0) 1))=false:=(congrArg (λc=>!(aD c 1)) (H 0)).trans (by rw[h];rfl);have P:vI (gD (eX (gD (aM fs.length F) j) 2) (Int.toNat (gD (eX x 5) 0).toI)) 1=a:=(H 1).trans (by rw[h];rfl);have G:gD (eX (gD (aM fs.length F) j) 1) (Int.toNat (gD (eX x 5) 0).toI)=eG [rY (dD ps.length bs) (nP ps.length bs) p]:=by have:(gD (eX x 5) 0).toI=(p:Int):=t;rw[this,r];show gD (cF (nv ps bs) C) p=_;rw[dU _ l,b1]
   have a1:aA (gD (eX x 5) 0).toI (nX (gD (aM fs.length F) j) 1)=true:=by have:(gD (eX x 5) 0).toI=(p:Int):=t;rw[this,r];show aA (p:Int) (cF (nv ps bs) C).length=true;rw[cQ];exact aE l
   have a2:aA 0 (nE (gD (eX (gD (aM fs.length F) j) 1) (Int.toNat (gD (eX x 5) 0).toI)))=true:=by rw[G];rfl
   have d:vI (gE (gD (eX (gD (aM fs.length F) j) 1) (Int.toNat (gD (eX x 5) 0).toI)) 0) 0=((rY (dD ps.length bs) (nP ps.length bs) p).1.val :Int):=by rw[G];rfl
   have e1:vI (gE (gD (eX (gD (aM fs.length F) j) 1) (Int.toNat (gD (eX x 5) 0).toI)) 0) 1=((rY (dD ps.length bs) (nP ps.length bs) p).2.val :Int):=by rw[G];rfl
   refine aJ a0 (aC L (aC a1 (aC a2 ?_)));rcases X4 hf l V c1.2.1 with⟨u,f,c3,J⟩ |⟨g,f,J⟩
   ·rw[J]at d e1 m;rw[Dc (by omega)]at d;rw[Dd (by unfold nv at f;omega)]at e1;have K:szR gs (dD ps.length bs) (QH 2 u)=vI (dD ps.length bs u) 4:=by
     unfold szR;rw[Dc (by omega),if_neg (by omega),Dd (by unfold nv at f;omega)]
    have a3:vI (gD (eX (gD (aM fs.length F) j) 3) (Int.toNat (vI (gE (gD (eX (gD (aM fs.length F) j) 1) (Int.toNat (gD (eX x 5) 0).toI)) 0) 1))) 4=vI (dD ps.length bs u) 4:=by rw[e1,r];show vI (gD (aM (nv ps bs) (dD ps.length bs)) u) 4=_;rw[dU _ f]
    refine aJ ((congrArg (λc=>aD c 3) d).trans rfl) (aC ?_ (bJ ?_ rfl))
    ·show aA (vI (gE (gD (eX (gD (aM fs.length F) j) 1) (Int.toNat (gD (eX x 5) 0).toI)) 0) 1) (nX (gD (aM fs.length F) j) 3)=true;rw[e1,r];show aA (u:Int) (aM (nv ps bs) (dD ps.length bs)).length=true;rw[cQ];exact aE f
    ·rw[m,K];show D.b (cP 0 a&&aT a (vI (dD ps.length bs u) 4))=D.b (cP 0 (vI (gD (eX (gD (aM fs.length F) j) 2) (Int.toNat (gD (eX x 5) 0).toI)) 1)&&aT (vI (gD (eX (gD (aM fs.length F) j) 2) (Int.toNat (gD (eX x 5) 0).toI)) 1) (vI (gD (eX (gD (aM fs.length F) j) 3) (Int.toNat (vI (gE (gD (eX (gD (aM fs.length F) j) 1) (Int.toNat (gD (eX x 5) 0).toI)) 0) 1))) 4));rw[a3,P]
   ·rw[J]at d e1 m;rw[Dc (by omega)]at d;rw[Dd (by omega)]at e1;have K:szR gs (dD ps.length bs) (QH 3 g)=((eX (gD gs g) 1).length:Int):=by
     unfold szR;rw[Dc (by omega),if_pos rfl,Dd (by omega)]
    refine aC ((congrArg (λc=>aD c 3) d).trans rfl) (aC ?_ (bJ ?_ rfl))
    ·show aA (vI (gE (gD (eX (gD (aM fs.length F) j) 1) (Int.toNat (gD (eX x 5) 0).toI)) 0) 1) gs.length=true;rw[e1];exact aE f
    ·rw[m,K];show D.b (cP 0 a&&aT a ((eX (gD gs g) 1).length:Int))=D.b (cP 0 (vI (gD (eX (gD (aM fs.length F) j) 2) (Int.toNat (gD (eX x 5) 0).toI)) 1)&&aT (vI (gD (eX (gD (aM fs.length F) j) 2) (Int.toNat (gD (eX x 5) 0).toI)) 1) (iX (gD gs (Int.toNat (vI (gE (gD (eX (gD (aM fs.length F) j) 1) (Int.toNat (gD (eX x 5) 0).toI)) 0) 1))) 1));rw[e1,P];rfl
 ·have Q:aD (vI x 0) 20=false:=lY λe=>s (.inl e);have T:aD (vI x 0) 21=false:=lY λe=>s (.inr e);refine aC ?_ (bJ ?_ rfl)
  ·show(!(aD (vI x 0) 20)&&!(aD (vI x 0) 21))=true;rw[Q,T];rfl
  ·unfold Dr;rw[Q,T];rfl
theorem Lz(j:Nat)(f:j<fs.length):∃(c:Nat->Bool)(F:Nat->D),(∀i,i<fs.length->Oz fs i (F i))/\iS E aY sites CR [.l [.l xs,.l gs,.l ts,.l fs],.i (j:Int)] (.l [N2 xs gs ts fs c F]) []:=by obtain⟨c,F,d,e⟩:=Zd xs gs ts fs hM hO;refine⟨c,F,d,bA VW (by rfl) rfl ?_⟩;show Ev _ _ (IM _) _;unfold IM;refine bK (Yv xs gs ts fs hM hO) rfl (aJ ?_ (bK e rfl (aJ rfl (bJ rfl rfl))));show(((!(aD (0:Int) 0))||aT (j:Int) 0)||cP (fs.length:Int) (j:Int))=false;rw[MT (by omega),J6 (by omega)];rfl
theorem To(j b i:Nat)(c:j<fs.length)(e:b<(gJ (gD fs j)).length)(f:i<(gD (gJ (gD fs j)) b).els.length):
  iS E aY sites BJ [.l [.l xs,.l gs,.l ts,.l fs],.i (j:Int),.i (b:Int),.i (i:Int)] (.b (Dr gs (dD (eX (gD fs j) 2).length (gJ (gD fs j))) (nP (eX (gD fs j) 2).length (gJ (gD fs j))) (gD (gD (gJ (gD fs j)) b).els i))) []:=by
 obtain⟨r,F,h,l⟩:=Lz hM hO j c;have m:=Ly hM hO r F h j c b i e f;refine bA Ck (by rfl) rfl ?_;show Ev _ _ (ME _) _;unfold ME;have d:aA (j:Int) fs.length=true:=aE c;have g:aA (b:Int) (gJ (gD fs j)).length=true:=aE e;have s:aA (i:Int) (gD (gJ (gD fs j)) b).els.length=true:=aE f;refine bK l rfl (aJ rfl (aC (aH d) (aC (aH d) (aC (aH g) (aJ ?_ (aC d (aC g (aC s (bK m rfl (bJ rfl rfl))))))))));show(((aT (b:Int) 0||cP ((gJ (gD fs j)).length:Int) (b:Int))||aT (i:Int) 0)||cP (((gD (gJ (gD fs j)) b).els.length:Nat):Int) (i:Int))=false;rw[MT (by omega),J6 (by omega),MT (by omega),J6 (by omega)];rfl
end
end Go.Eng.Q

namespace Go.Eng.Q
open Go.Eng
theorem GY(n:Int):∃q:Int,bC .i64 n=n+q*18446744073709551616/\-9223372036854775808<=bC .i64 n/\bC .i64 n<=9223372036854775807:=by
 by_cases h:-9223372036854775808<=n/\n<=9223372036854775807
 ·rw[uJ h.1 h.2];exact⟨0,by omega,h.1,h.2⟩
 ·have e:bC .i64 n=IntKind.i64.wrap n:=by
   unfold bC;have:(cP (TC .i64) n&&cP n (TD .i64))=false:=by
    cases e:(cP (TC .i64) n&&cP n (TD .i64))with
    |false=>rfl
    |true=>rw[Bool.and_eq_true,eR,eR]at e;exact absurd e h
   rw[this];rfl
  rw[e];have c:(2:Int)^64=18446744073709551616:=by decide
  have d:(2:Int)^(64-1)=9223372036854775808:=by decide
  simp only[IntKind.wrap,IntKind.bits,IntKind.signed,c,d,Bool.true_and,decide_eq_true_eq];split
  ·exact⟨-(n/18446744073709551616)-1,by omega,by omega,by omega⟩
  ·exact⟨-(n/18446744073709551616),by omega,by omega,by omega⟩
def I64(n:Int):Prop:=-9223372036854775808<=n/\n<=9223372036854775807
theorem Kv{a b:Int}(c:I64 b):aG .i64 a b=bC .i64 (a+b):=AQ _ _ _ c
theorem aCh{a b:Int}(e:I64 b):I64 (aG .i64 a b):=by rw[Kv e];obtain⟨q,f,c,d⟩:=GY (a+b);exact⟨c,d⟩
theorem N3{s m a:Int}(c:I64 m)(f:I64 a):aG .i64 (aG .i64 s m) a=aG .i64 s (aG .i64 a m):=by
 rw[Kv f,Kv (aCh c),Kv c,Kv c];obtain⟨j,e,C,F⟩:=GY (s+m);obtain⟨l,d,v,y⟩:=GY (a+m);obtain⟨r,g,G,H⟩:=GY (bC .i64 (s+m)+a);obtain⟨t,h,J,K⟩:=GY (s+bC .i64 (a+m));have e1:bC .i64 (bC .i64 (s+m)+a)=s+m+a+(j+r)*18446744073709551616:=by rw[g,e];omega
 have u:bC .i64 (s+bC .i64 (a+m))=s+m+a+(l+t)*18446744073709551616:=by rw[h,d];omega
 omega
theorem aFR{s:Int}(c:I64 s):aG .i64 s 0=s:=by rw[Kv ⟨by omega,by omega⟩,Int.add_zero,uJ c.1 c.2]
section
variable{n1 n2 nf:Nat}{xs fs ps bs:List D}{r:Int}(h:Tl n1 n2 nf xs fs ps bs r)(nm:List UInt8)(o:Bool)
include h
theorem El{b k:Nat}(j:b<bs.length)(l:k<(gD bs b).els.length)(v:Nat):((!(aD (vI (gD (gD bs b).els k) 1) 0))&&aD (vI (gD (gD bs b).els k) 2) (v:Int))=true<->JZ ps.length bs v (b,k):=by
 rw[Bool.and_eq_true,bT];constructor
 ·rintro⟨d,e⟩;have c:JZ ps.length bs (kU ps.length bs b k) (b,k):=⟨j,l,d,rfl⟩;have f:=Ks h c;have g:vI (gD (gD bs b).els k) 2=(kU ps.length bs b k:Int):=f;have:kU ps.length bs b k=v:=by rw[g]at e;omega
  rw[<-this];exact c
 ·intro c;exact⟨c.t,Ks h c⟩
theorem aD5(v b:Nat)(c:b<bs.length):
  ((∃k,JZ ps.length bs v (b,k)/\fC pB 2 [.i (v:Int),.i 0,.i (b:Int),.s nm,.b o,.l ps,.i r,.l bs] (0,[.i (v:Int),.i (k:Int),.i (b:Int),.i (b:Int),.s nm,.b o,.l ps,.i r,.l bs]))\/
  ((∀k,¬JZ ps.length bs v (b,k))/\fC pB 2 [.i (v:Int),.i 0,.i (b:Int),.s nm,.b o,.l ps,.i r,.l bs] (1,[.i (v:Int),.i (b:Int),.s nm,.b o,.l ps,.i r,.l bs]))):=by
 have y:=(h.tb.2 b c).ins.sane;have l:∀k,k<(gD bs b).els.length->¬JZ ps.length bs v (b,k)->sA E aY sites pB (pB.F.lp 2 [.i (v:Int),.i (k:Int),.i (b:Int),.s nm,.b o,.l ps,.i r,.l bs]) (.again [.i (v:Int),.i ((k+1:Nat):Int),.i (b:Int),.s nm,.b o,.l ps,.i r,.l bs]):=λk d t=>by
  have hf:((!(aD (vI (gD (gD bs b).els k) 1) 0))&&aD (vI (gD (gD bs b).els k) 2) (v:Int))=false:=by rw[<-Bool.not_eq_true,El h c d v];exact t
  show Ev _ _ (pW _) _;unfold pW;exact aC (aE c) (aC (aW d) (aC (aE c) (aC (aE d) (aJ hf (aO (nx d y [_] _))))))
 cases e:dS (gD bs b).els.length λk=>((!(aD (vI (gD (gD bs b).els k) 1) 0))&&aD (vI (gD (gD bs b).els k) 2) (v:Int))with
 |true=>
  obtain⟨k,d,j,s⟩:=xS e;have f:=(El h c d v).1 j;refine .inl ⟨k,f,cI BL (λk=>[.i (v:Int),.i (k:Int),.i (b:Int),.s nm,.b o,.l ps,.i r,.l bs]) k (λi g=>l i (by omega) λu=>?_) ?_⟩
  ·have:=s i g;rw[(El h c (by omega) v).2 u]at this;cases this
  ·show Ev _ _ (pW _) _;unfold pW;exact aC (aE c) (aC (aW d) (aC (aE c) (aC (aE d) (aC j (bG rfl)))))
 |false=>
  have m:∀k,¬JZ ps.length bs v (b,k):=λk f=>by have:=bQ.1 e k f.k;rw[(El h c f.k v).2 f]at this;cases this
  refine .inr ⟨m,cI BL (λk=>[.i (v:Int),.i (k:Int),.i (b:Int),.s nm,.b o,.l ps,.i r,.l bs]) (gD bs b).els.length (λi g=>l i g (m i)) ?_⟩;show Ev _ _ (pW _) _;unfold pW;exact aC (aE c) (aJ (aX _) (bG rfl))
theorem N4(v:Nat):iS E aY sites VQ [pM nm o ps r bs,.i (v:Int)] (Ej ps.length bs v) []:=by
 refine bA BL (by rfl) rfl ?_;show Ev _ _ (YZ _) _;unfold YZ;have l:∀b,b<bs.length->(∀k,¬JZ ps.length bs v (b,k))->sA E aY sites pB (pB.F.lp 0 [.i (v:Int),.i (b:Int),.s nm,.b o,.l ps,.i r,.l bs]) (.again [.i (v:Int),.i ((b+1:Nat):Int),.s nm,.b o,.l ps,.i r,.l bs]):=λb f e=>by
  show Ev _ _ (pV _) _;unfold pV;rcases aD5 h nm o v b f with⟨k,s,_⟩ |⟨_,d⟩
  ·exact absurd s (e k)
  ·exact aC (aW f) (aP d (eB (bD (aO (nx f h.tb.1.sane [_] _)))))
 by_cases c:∃q,JZ ps.length bs v q
 ·obtain⟨⟨b,k⟩,c⟩:=c;have g:fC pB 0 [.i (v:Int),.i 0,.s nm,.b o,.l ps,.i r,.l bs] (0,[.i (k:Int),.i (b:Int)]):=by
   refine cI BL (λb=>[.i (v:Int),.i (b:Int),.s nm,.b o,.l ps,.i r,.l bs]) b (λi m=>l i (by have:=c.b;simp only at this;omega) λy u=>?_) ?_
   ·have:=WL c u;injection this with e1 j;omega
   ·show Ev _ _ (pV _) _;unfold pV;rcases aD5 h nm o v b c.b with⟨y,t,d⟩ |⟨e,_⟩
    ·have:=WL c t;injection this with e1 j;subst j;exact aC (aW c.b) (aP d (bD (bG rfl)))
    ·exact absurd c (e k)
  refine aP g (bD (bJ ?_ rfl));unfold Ej;rw[EZ c];rfl
 ·have e:∀b k,¬JZ ps.length bs v (b,k):=λb k d=>c ⟨_,d⟩;have g:fC pB 0 [.i (v:Int),.i 0,.s nm,.b o,.l ps,.i r,.l bs] (1,[]):=by
   refine cI BL (λb=>[.i (v:Int),.i (b:Int),.s nm,.b o,.l ps,.i r,.l bs]) bs.length (λi m=>l i m (e i)) ?_;show Ev _ _ (pV _) _;unfold pV;exact aJ (aX _) (bG rfl)
  refine aP g (eB (bD (bJ ?_ rfl)));unfold Ej Tv;rw[dif_neg c]
theorem aCi(v:Nat):iS E aY sites YO [pM nm o ps r bs,.i (v:Int)] (match PF (dD ps.length bs) v with|some m=>.l [.i m,.b true] |none=>.l [.i 0,.b false]) []:=by
 refine bA Cq (by rfl) rfl ?_;show Ev _ _ (MG _) _;unfold MG;refine bK (N4 h nm o v) rfl ?_;by_cases c:∃q,JZ ps.length bs v q
 ·obtain⟨⟨b,k⟩,c⟩:=c;have d:Ej ps.length bs v=.l [.i (b:Int),.i (k:Int)]:=by unfold Ej;rw[EZ c]
  have l:=c.b;have s:=c.k;have g:aA (b:Int) bs.length=true:=aE l;have j:aA (k:Int) (gD bs b).els.length=true:=aE s;have f:PF (dD ps.length bs) v=if vI (gD (gD bs b).els k) 0=1 then some (vI (gD (gD bs b).els k) 4)else none:=by unfold PF;rw[AH c];rfl
  rw[d,f];have lb:aT (b:Int) 0=false:=MT (by omega);by_cases e:vI (gD (gD bs b).els k) 0=1
  ·rw[if_pos e];refine aC (aH g) (aC (aH j) (aJ ?_ (aC g (aC j (bJ rfl rfl)))));show(aT (b:Int) 0||!(aD (vI (gD (gD bs b).els k) 0) 1))=false;rw[lb,e];rfl
  ·rw[if_neg e];refine aC (aH g) (aC (aH j) (aC ?_ (bJ rfl rfl)));show(aT (b:Int) 0||!(aD (vI (gD (gD bs b).els k) 0) 1))=true;rw[lY e];exact Bool.or_true _
 ·have d:Ej ps.length bs v=.l [.i (-1),.i (-1)]:=by unfold Ej Tv;rw[dif_neg c]
  have f:PF (dD ps.length bs) v=none:=by unfold PF dD;rw[dif_neg c];rfl
  rw[d,f];exact aC rfl (aC rfl (aC rfl (bJ rfl rfl)))
end
end Go.Eng.Q
