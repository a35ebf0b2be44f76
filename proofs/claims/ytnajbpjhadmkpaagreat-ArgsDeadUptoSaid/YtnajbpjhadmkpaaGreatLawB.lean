/- Part 8 of the proof: what facts.Of reckons. -/
import Derived.Test.YtnajbpjhadmkpaaGreatLawA
set_option linter.unusedSimpArgs false
set_option linter.unusedVariables false
namespace Go.Eng.Q
open Go.Eng
theorem CL{bs:LD}{a b:Nat}:dM bs a b=true<->RA bs 0 (-1) a/\RA bs 0 (-1) b/\¬RA bs 0 (a:Int) b:=by
 unfold dM;rw[Bool.and_eq_true,Bool.and_eq_true,zR,zR,qG];constructor
 ·rintro⟨d,f,c⟩;exact⟨d,f,λh=>by rw[zR.2 h]at c;cases c⟩
 ·rintro⟨d,f,c⟩;refine⟨d,f,?_⟩;cases e:Fm bs 0 (a:Int) b with
  |false=>rfl
  |true=>exact absurd (zR.1 e) c
theorem OQ{bs:LD}{a:Nat}(h:RA bs 0 (-1) a):dM bs a a=true:=CL.2 ⟨h,h,Vc⟩
theorem QL{bs:LD}{a b c:Nat}(d:dM bs a b=true)(e:dM bs b c=true):dM bs a c=true:=by rw[CL]at*;refine⟨d.1,e.2.1,λh=>?_⟩;exact d.2.2 (aFC h e.2.2)
theorem A9{bs:LD}{a b:Nat}(c:dM bs a b=true)(d:dM bs b a=true):a=b:=by
 rw[CL]at*;by_cases e:a=b
 ·exact e
 ·rcases aD8 c.1 e with h |h
  ·exact absurd h d.2.2
  ·exact absurd h c.2.2
theorem aD9{bs:LD}{a b c:Nat}(d:dM bs a c=true)(f:dM bs b c=true):dM bs a b=true\/dM bs b a=true:=by
 by_cases e:a=b
 ·subst e;left;rw[CL]at d;exact OQ d.1
 rw[CL]at d f;by_cases g:RA bs 0 (a:Int) b
 ·by_cases j:RA bs 0 (b:Int) a
  ·rcases aCR e g j d.2.1 with h |h
   ·exact absurd h d.2.2
   ·exact absurd h f.2.2
  ·right;rw[CL];exact⟨f.1,d.1,j⟩
 ·left;rw[CL];exact⟨d.1,f.1,g⟩
theorem S2{bs:LD}{a b:Nat}(h:dM bs a b=true):a<bs.length/\b<bs.length:=by rw[CL]at h;exact⟨Zu bs 0 (-1) h.1,Zu bs 0 (-1) h.2.1⟩
theorem UO{a b:Bool}(h:a=true):(a||b)=true:=by rw[h];rfl
theorem j7{c:Bool}(h:c=true):(!(!c))=true:=by rw[h];rfl
structure B1(bs:LD)(c b:Nat)(x:Int):Prop where
 or:(x=-1/\∀i,i<c->i≠b->dM bs i b=false)\/∃d:Nat,x=d/\d<c/\d≠b/\dM bs d b=true/\∀i,i<c->i≠b->dM bs i b=true->dM bs i d=true
section
variable(nm:List UInt8)(o:Bool)(ps:LD)(r:Int)(bs:LD)(hT:fZ bs)(h0:0<bs.length)
include hT
theorem aFF(a:Nat)(d:a<bs.length)(l:Fm bs 0 (-1) a=true)(g:Nat->D):
  fV EF 4 [.i (bs.length:Int),.i (bs.length:Int),.i 0,.i (a:Int),.i (a:Int),.i (bs.length:Int),.l (oH bs),.l (aK bs.length (fS g a (.l (List.replicate bs.length (.b false))))),.l (dB bs 0 (-1)),.l (dB bs 0 a)] (0,[.i (bs.length:Int),.i (bs.length:Int),.i (a:Int),.l (oH bs),.l (aK bs.length (fS g a (.l (aZ bs.length (dM bs a))))),.l (dB bs 0 (-1))]):=by
 rw[<-Qh bs.length (dM bs a),<-A4 bs.length (dM bs a)];have m:(dB bs 0 (-1)).length=bs.length:=by unfold dB;exact fH _ _
 have r:(dB bs 0 a).length=bs.length:=by unfold dB;exact fH _ _
 refine cI EG (λj=>[.i (bs.length:Int),.i (bs.length:Int),.i (j:Int),.i (a:Int),.i (a:Int),.i (bs.length:Int),.l (oH bs),.l (aK bs.length (fS g a (.l (aZ bs.length (λi=>decide (i<j)&&dM bs a i))))),.l (dB bs 0 (-1)),.l (dB bs 0 a)]) bs.length (λj c=>?_) ?_
 ·have hg:gD (aK bs.length (fS g a (.l (aZ bs.length (λi=>decide (i<j)&&dM bs a i))))) a=.l (aZ bs.length (λi=>decide (i<j)&&dM bs a i)):=(eB _ d).trans (fK _ _ _);refine aC (aV c) (aC ?_ (aC ?_ (aC (aH ?_) (aC ?_ (aO ((nx c hT.1.sane [_,_] _).trans ?_))))))
  ·show aA (a:Int) (aK bs.length _).length=true;rw[dA];exact aE d
  ·show aA (j:Int) (dB bs 0 (-1)).length=true;rw[m];exact aE c
  ·show aA (j:Int) (dB bs 0 a).length=true;rw[r];exact aE c
  ·show aA (j:Int) (D.els (gD (aK bs.length (fS g a (.l (aZ bs.length (λi=>decide (i<j)&&dM bs a i))))) a)).length=true;rw[hg];show aA (j:Int) (aZ bs.length _).length=true;rw[fH];exact aE c
  ·have e1:(gD (dB bs 0 (-1)) j).toB=Fm bs 0 (-1) j:=congrArg D.toB (kN _ c);have e:(gD (dB bs 0 a) j).toB=Fm bs 0 a j:=congrArg D.toB (kN _ c);have f:((gD (dB bs 0 (-1)) j).toB&&!(gD (dB bs 0 a) j).toB)=dM bs a j:=by
    rw[e1,e];unfold dM;rw[l,Bool.true_and]
   have h:(aK bs.length (fS g a (.l (aZ bs.length (λi=>decide (i<j)&&dM bs a i))))).set a (.l ((D.els (gD (aK bs.length (fS g a (.l (aZ bs.length (λi=>decide (i<j)&&dM bs a i))))) a)).set j (.b ((gD (dB bs 0 (-1)) j).toB&&!(gD (dB bs 0 a) j).toB))))=aK bs.length (fS g a (.l (aZ bs.length (λi=>decide (i<j+1)&&dM bs a i)))):=by rw[hg,f,nY,HZ];show aK bs.length (fS g a (.l ((aZ bs.length (λi=>decide (i<j)&&dM bs a i)).set j (.b (dM bs a j)))))=_;rw[A3 _ c]
   rw[<-h];rfl
 ·exact aJ (aX _) (bH rfl)
include h0
theorem aFG:fV EF 2 [.i (bs.length:Int),.i (bs.length:Int),.i 0,.l (oH bs),.l (List.replicate bs.length (D.l [])),.l (dB bs 0 (-1))] (0,[.l (gU bs)]):=by
 have l:=hT.1;unfold fF at l;have r:(dB bs 0 (-1)).length=bs.length:=by unfold dB;exact fH _ _
 rw[Vg bs.length (λa=>.l (aZ bs.length (dM bs a))) (.l [])];have m:gU bs=aK bs.length (gT (λa=>.l (aZ bs.length (dM bs a))) (.l []) bs.length):=(R9 _ _ _).symm;rw[m];refine cI EG (λj=>[.i (bs.length:Int),.i (bs.length:Int),.i (j:Int),.l (oH bs),.l (aK bs.length (gT (λa=>.l (aZ bs.length (dM bs a))) (.l []) j)),.l (dB bs 0 (-1))]) bs.length (λj c=>?_) ?_
 ·have e1:(gD (dB bs 0 (-1)) j).toB=Fm bs 0 (-1) j:=congrArg D.toB (kN _ c);have d:(aK bs.length (gT (λa=>.l (aZ bs.length (dM bs a))) (.l []) j)).set j (.l (List.replicate bs.length (.b false)))=aK bs.length (fS (gT (λa=>.l (aZ bs.length (dM bs a))) (.l []) j) j (.l (List.replicate bs.length (.b false)))):=nY _ _;have f:aK bs.length (fS (gT (λa=>.l (aZ bs.length (dM bs a))) (.l []) j) j (.l (aZ bs.length (dM bs j))))=aK bs.length (gT (λa=>.l (aZ bs.length (dM bs a))) (.l []) (j+1)):=(nY _ _).symm.trans (Vf rfl);have hx:=nx c hT.1.sane [.i (bs.length:Int),.i (bs.length:Int)] [.l (oH bs),.l (aK bs.length (gT (λa=>.l (aZ bs.length (dM bs a))) (.l []) (j+1))),.l (dB bs 0 (-1))];refine aC (aV c) (aC ?_ (aC ?_ (aC ?_ ?_)))
  ·show(cK 0 (bs.length:Int)&&(aD (bs.length:Int) (bs.length:Int)&&jP (Int.toNat (bs.length:Int)) 1))=true;rw[jK (by omega),qF];exact fG (by show bs.length<=_;omega) (by omega)
  ·show aA (j:Int) (aK bs.length _).length=true;rw[dA];exact aE c
  ·show aA (j:Int) (dB bs 0 (-1)).length=true;rw[r];exact aE c
  ·cases e:Fm bs 0 (-1) j with
   |false=>
    refine aC ((congrArg Bool.not e1).trans (congrArg Bool.not e)) (aO (hx.trans ?_));have h:aZ bs.length (dM bs j)=List.replicate bs.length (.b false):=by rw[<-mY];refine mZ λi _=>?_;unfold dM;rw[e];rfl
    rw[<-f,h,<-d];rfl
   |true=>have g:=aFF bs hT j c e (gT (λa=>.l (aZ bs.length (dM bs a))) (.l []) j);rw[f,<-d]at g;exact aJ ((congrArg Bool.not e1).trans (congrArg Bool.not e)) (bK (S0 bs hT h0 j) rfl (aP g (bG (aO hx))))
 ·exact aJ (aX _) (bH rfl)
theorem B2:iQ E aW sites Kh [oK nm o ps r bs] (.l (gU bs)) []:=by
 have g:=hT.1;unfold fF at g;refine bA EG (by rfl) rfl ?_;show Ev _ _ (TM _) _;unfold TM;have l:fV EF 0 [.i (bs.length:Int),.i 0,.i (bs.length:Int),.s nm,.b o,.l ps,.i r,.l bs,.l (List.replicate bs.length (D.l []))] (0,[.i (bs.length:Int),.s nm,.b o,.l ps,.i r,.l bs,.l (oH bs)]):=by
  rw[Vg bs.length (λb=>.l ((aT bs (b:Int)).map iD)) (.l [])];have m:oH bs=aK bs.length (gT (λb=>.l ((aT bs (b:Int)).map iD)) (.l []) bs.length):=(R9 _ _ _).symm;rw[m];refine cI EG (λj=>[.i (bs.length:Int),.i (j:Int),.i (bs.length:Int),.s nm,.b o,.l ps,.i r,.l bs,.l (aK bs.length (gT (λb=>.l ((aT bs (b:Int)).map iD)) (.l []) j))]) bs.length (λj d=>?_) ?_
  ·have f:=Vf (n:=bs.length) (c:=j) (h:=λb=>.l ((aT bs (b:Int)).map iD)) (z:=.l []) (w:=.l ((aT bs (j:Int)).map iD)) rfl;have hx:=nx d hT.1.sane [.i (bs.length:Int)] [.i (bs.length:Int),.s nm,.b o,.l ps,.i r,.l bs,.l (aK bs.length (gT (λb=>.l ((aT bs (b:Int)).map iD)) (.l []) (j+1)))];refine aC (aV d) (bK (KT nm o ps r bs hT (j:Int)) rfl (aC ?_ (aO (hx.trans ?_))))
   ·show aA (j:Int) (aK bs.length _).length=true;rw[dA];exact aE d
   ·rw[<-f];rfl
  ·exact aJ (aX _) (bH rfl)
 have e:(cK 0 (bs.length:Int)&&(aD (bs.length:Int) (bs.length:Int)&&jP (Int.toNat (bs.length:Int)) 24))=true:=by rw[jK (by omega),qF];exact fG (by show bs.length<=_;omega) (by omega)
 exact aC e (aP l (bG (bK (RW nm o ps r bs hT h0) rfl (aC e (aP (aFG bs hT h0) (bG (bI rfl rfl)))))))
omit h0 in
theorem aAN(b:Nat)(P:b<bs.length)(a6:RA bs 0 (-1) b)(g:Nat->Int):
  ∃x:Int,B1 bs bs.length b x/\fV tC 2 [.l (gU bs),.i (b:Int),.i 0,.i (b:Int),.i (bs.length:Int),.i ((gU bs).length:Int),.l (aK bs.length (fS (λi=>.i (g i)) b (.i (-1))))] (0,[.l (gU bs),.i (b:Int),.i (bs.length:Int),.l (aK bs.length (fS (λi=>.i (g i)) b (.i x)))]):=by
 refine EP zO (λj(x:Int)=>[.l (gU bs),.i (b:Int),.i (j:Int),.i (b:Int),.i (bs.length:Int),.i ((gU bs).length:Int),.l (aK bs.length (fS (λi=>.i (g i)) b (.i x)))]) bs.length (λx=>(0,[.l (gU bs),.i (b:Int),.i (bs.length:Int),.l (aK bs.length (fS (λi=>.i (g i)) b (.i x)))])) (λc x=>B1 bs c b x) (λj x v hx=>?_) (λx hx=>?_) (s0:=-1) ⟨.inl ⟨rfl,λi h=>absurd h (by omega)⟩⟩
 ·have hd:∀{a c:Nat},a<bs.length->c<bs.length->D.toB (gE (gD (gU bs) a) c)=dM bs a c:=λ{a c}f s=>by
   rw[YA f];exact congrArg D.toB (kN _ s)
  have a3:∀{a:Nat},a<bs.length->nE (gD (gU bs) a)=bs.length:=λ{a}f=>by rw[YA f];exact fH _ _
  have T:∀V:Int,[D.l (gU bs),.i (b:Int),.i ((j+1:Nat):Int),.i (b:Int),.i (bs.length:Int),.i ((gU bs).length:Int),.l (aK bs.length (fS (λi=>.i (g i)) b (.i V)))]=[D.l (gU bs),.i (b:Int),.i (bJ .i64 (j:Int) 1),.i (b:Int),.i (bs.length:Int),.i ((gU bs).length:Int),.l (aK bs.length (fS (λi=>.i (g i)) b (.i V)))]:=λV=>nx v hT.1.sane [_,_] _;have G:aQ (j:Int) ((gU bs).length:Int)=true:=by rw[BD];exact aV v
  have H:aA (j:Int) (gU bs).length=true:=by rw[BD];exact aE v
  have J:aA (b:Int) (nE (gD (gU bs) j))=true:=by rw[a3 v];exact aE P
  have W:((aD (j:Int) (b:Int))||(!(D.toB (gE (gD (gU bs) j) b))))=(decide (j=b)||!(dM bs j b)):=by
   rw[hd v P];by_cases e:j=b
   ·subst e;rw[qF,decide_eq_true rfl]
   ·rw[gR (by omega),decide_eq_false e]
  cases e:(decide (j=b)||!(dM bs j b))with
  |true=>
   refine⟨x,⟨?_⟩,?_⟩
   ·have key:∀i,i<j+1->i≠b->dM bs i b=true->i<j:=λi f s F=>by
     by_cases m:i=j
     ·subst m;rw[decide_eq_false s,F]at e;cases e
     ·omega
    rcases hx.or with⟨f,s⟩ |⟨d,f,s,F,K,L⟩
    ·refine .inl ⟨f,λi C l=>?_⟩;cases r:dM bs i b with
     |false=>rfl
     |true=>have:=s i (key i C l r) l;rw[this]at r;cases r
    ·exact .inr ⟨d,f,by omega,F,K,λi C l t=>L i (key i C l t) l t⟩
   ·exact aC G (aC (aH H) (aC (aH J) (aC (W.trans e) (aO (T x)))))
  |false=>
   have a5:=e;rw[Bool.or_eq_false_iff,decide_eq_false_iff_not]at e;have Q:dM bs j b=true:=by
    cases m:dM bs j b with
    |true=>rfl
    |false=>rw[m]at e;cases e.2
   have a2:=(CL.1 Q).1;have hg:(gD (aK bs.length (fS (λi=>.i (g i)) b (.i x))) b).toI=x:=congrArg D.toI ((eB _ P).trans (fK _ _ _));have u:aA (b:Int) (aK bs.length (fS (λi=>.i (g i)) b (.i x))).length=true:=by rw[dA];exact aE P
   have a4:(aK bs.length (fS (λi=>.i (g i)) b (.i x))).set b (.i (j:Int))=aK bs.length (fS (λi=>.i (g i)) b (.i (j:Int))):=by rw[nY,HZ]
   have U:((aD (j:Int) (b:Int))||(!(D.toB (gE (gD (gU bs) j) b))))=false:=W.trans a5;rcases hx.or with⟨f,s⟩ |⟨d,f,s,F,K,L⟩
   ·have y:aQ (gD (aK bs.length (fS (λi=>.i (g i)) b (.i x))) b).toI 0=true:=by rw[hg,f];rfl
    refine⟨(j:Int),⟨.inr ⟨j,rfl,by omega,e.1,Q,λi C l t=>?_⟩⟩,?_⟩
    ·by_cases m:i=j
     ·subst m;exact OQ a2
     ·rw[s i (by omega) l]at t;cases t
    ·refine aC G (aC (aH H) (aC (aH J) (aJ U (aC u (aC (aH u) (aC (UO (j7 y)) (aC (UO (j7 y)) (aC (UO y) (aC u (aO ((T _).trans ?_)))))))))));rw[<-a4];rfl
   ·have y:aA (gD (aK bs.length (fS (λi=>.i (g i)) b (.i x))) b).toI (gU bs).length=true:=by rw[hg,f,BD];exact aE (by omega)
    have a1:Int.toNat (gD (aK bs.length (fS (λi=>.i (g i)) b (.i x))) b).toI=d:=by rw[hg,f];rfl
    have Y:aA (j:Int) (nE (gD (gU bs) (Int.toNat (gD (aK bs.length (fS (λi=>.i (g i)) b (.i x))) b).toI)))=true:=by rw[a1,a3 (by omega)];exact aE v
    have a0:((aQ (gD (aK bs.length (fS (λi=>.i (g i)) b (.i x))) b).toI 0)||(D.toB (gE (gD (gU bs) (Int.toNat (gD (aK bs.length (fS (λi=>.i (g i)) b (.i x))) b).toI)) j)))=dM bs d j:=by rw[a1,hd (by omega) v,hg,f,KR (by omega)];rfl
    cases r:dM bs d j with
    |true=>
     refine⟨(j:Int),⟨.inr ⟨j,rfl,by omega,e.1,Q,λi C l t=>?_⟩⟩,?_⟩
     ·by_cases m:i=j
      ·subst m;exact OQ a2
      ·exact QL (L i (by omega) l t) r
     ·refine aC G (aC (aH H) (aC (aH J) (aJ U (aC u (aC (aH u) (aC (aH y) (aC (aH Y) (aC (a0.trans r) (aC u (aO ((T _).trans ?_)))))))))));rw[<-a4];rfl
    |false=>
     refine⟨x,⟨.inr ⟨d,f,by omega,F,K,λi C l t=>?_⟩⟩,?_⟩
     ·by_cases m:i=j
      ·subst m;rcases aD9 K Q with h |h
       ·rw[h]at r;cases r
       ·exact h
      ·exact L i (by omega) l t
     ·exact aC G (aC (aH H) (aC (aH J) (aJ U (aC u (aC (aH u) (aC (aH y) (aC (aH Y) (aJ (a0.trans r) (aO (T x))))))))))
 ·refine aJ ?_ (bH rfl);show aQ (bs.length:Int) ((gU bs).length:Int)=false;rw[BD];exact aX _
omit h0 in
theorem S3(s:∀b,b<bs.length->RA bs 0 (-1) b):∃g:Nat->Int,(∀b,b<bs.length->B1 bs bs.length b (g b))/\iQ E aW sites NL [.l (gU bs)] (.l (aK bs.length λb=>.i (g b))) []:=by
 have t:=hT.1;unfold fF at t;have u:∃g:Nat->Int,(∀b,b<bs.length->B1 bs bs.length b (g b))/\fV tC 0 [.l (gU bs),.i 0,.i (bs.length:Int),.l (aK bs.length λ_=>.i 0)] (0,[.l (aK bs.length λb=>.i (g b))]):=by
  refine EP zO (λj(g:Nat->Int)=>[.l (gU bs),.i (j:Int),.i (bs.length:Int),.l (aK bs.length λb=>.i (g b))]) bs.length (λg=>(0,[.l (aK bs.length λb=>.i (g b))])) (λc g=>∀b,b<c->B1 bs bs.length b (g b)) (λj g d hg=>?_) (λg hg=>?_) (s0:=λ_=>0) (λb m=>absurd m (by omega))
  ·obtain⟨x,l,f⟩:=aAN bs hT j d (s j d) g;have e1:aK bs.length (fS (λi=>.i (g i)) j (.i x))=aK bs.length λi=>.i ((λi=>if i=j then x else g i) i):=dV λi _=>by
    by_cases e:i=j
    ·subst e;rw[fK];simp
    ·rw[nW _ _ e];simp[e]
   have h:(aK bs.length λb=>.i (g b)).set j (.i (-1))=aK bs.length (fS (λi=>.i (g i)) j (.i (-1))):=nY _ _;have v:(List.replicate bs.length (D.i 0)).length=bs.length:=List.length_replicate;rw[<-h]at f;refine⟨λi=>if i=j then x else g i,λb m=>?_,?_⟩
   ·by_cases e:b=j
    ·subst e;simpa using l
    ·simpa[e]using hg b (by omega)
   ·refine aC (aV d) (aC ?_ (aP f (bG (aO ((nx d hT.1.sane [_] _).trans ?_)))))
    ·show aA (j:Int) (aK bs.length _).length=true;rw[dA];exact aE d
    ·show[D.l (gU bs),.i (bJ .i64 (j:Int) 1),.i (bs.length:Int),.l (aK bs.length λi=>.i ((λi=>if i=j then x else g i) i))]=_;rw[<-e1];rfl
  ·exact aJ (aX _) (bH rfl)
 obtain⟨g,l,f⟩:=u;refine⟨g,l,bA zO (by rfl) rfl ?_⟩;show Ev _ _ (GW _) _;unfold GW;have e1:(aK bs.length λ_=>D.i 0)=List.replicate (gU bs).length (D.i 0):=by rw[BD,rY]
 have h:(List.replicate (gU bs).length (D.i 0)).length=bs.length:=by rw[List.length_replicate,BD]
 have r:fV tC 0 [.l (gU bs),.i 0,.i ((List.replicate (gU bs).length (D.i 0)).length:Int),.l (List.replicate (gU bs).length (D.i 0))] (0,[.l (aK bs.length λb=>.i (g b))]):=by rw[h,<-e1];exact f
 refine aC ?_ (aP r (bG (bI rfl rfl)));show(cK 0 ((gU bs).length:Int)&&(aD ((gU bs).length:Int) ((gU bs).length:Int)&&jP (Int.toNat ((gU bs).length:Int)) 8))=true;rw[BD,jK (by omega),qF];exact fG (by show bs.length<=_;omega) (by omega)
theorem B3(e:∀b,b<bs.length->RA bs 0 (-1) b):∃g:Nat->Int,(∀b,b<bs.length->B1 bs bs.length b (g b))/\iQ E aW sites Kf [oK nm o ps r bs] (.l (aK bs.length λb=>.i (g b))) []:=by obtain⟨g,c,d⟩:=S3 bs hT e;refine⟨g,c,bA Kl (by rfl) rfl ?_⟩;exact bK (B2 nm o ps r bs hT h0) rfl (bK d rfl (bI rfl rfl))
end
end Go.Eng.Q

namespace Go.Eng.Q
open Go.Eng
theorem B4(n:Nat)(f:Nat->D):aK n f++[f n]=aK (n+1) f:=by simp[aK,List.range_succ]
theorem aCT{l:LD}{n k:Nat}(h:k<n):gD (l.take n) k=gD l k:=by simp[gD,List.getD,List.getElem?_take,h]
noncomputable def QV(np:Nat)(bs:LD)(v:Nat):D:=.i (bif Nat.ble v np then 0 else(Vt np bs v).1)
theorem aCU{np:Nat}{bs:LD}{v:Nat}(h:v<=np):QV np bs v=.i 0:=by unfold QV;rw[Nat.ble_eq_true_of_le h];rfl
theorem Mb{np:Nat}{bs:LD}{v:Nat}(h:np<v):QV np bs v=.i (Vt np bs v).1 :=by
 unfold QV;have:Nat.ble v np=false:=by
  cases e:Nat.ble v np with
  |false=>rfl
  |true=>have:=Nat.le_of_ble_eq_true e;omega
 rw[this];rfl
theorem Vh(np:Nat)(bs:LD)(b k:Nat):np<lQ np bs b k:=by have:=ON np bs b;unfold lQ;omega
section
variable(nm:List UInt8)(o:Bool)(ps:LD)(r:Int)(bs:LD)(hp:fF ps)(hT:fZ bs)
include hp hT
theorem aEa(n b:Nat)(j:n<=bs.length)(f:b<n):
  fV KJ 2 [.l (gD (bs.take n) b).els,.i (aM ps.length bs b:Int),.i ((bs.take n).length:Int),.i 0,.l (bs.take n),.i ((gD (bs.take n) b).els.length:Int),.i (b:Int)] (0,[.i (aM ps.length bs (b+1):Int),.i ((bs.take n).length:Int),.l (bs.take n),.i (b:Int)]):=by
 have g:=hT.1;unfold fF at g;rw[aCT f];have d:=(hT.2 b (by omega)).ins.sane;have h:=IC ps bs hp hT;refine cI KK (λk=>[.l (gD bs b).els,.i ((aM ps.length bs b+eF (gD bs b).els k:Nat):Int),.i ((bs.take n).length:Int),.i (k:Int),.l (bs.take n),.i ((gD bs b).els.length:Int),.i (b:Int)]) (gD bs b).els.length (λk c=>?_) ?_
 ·have l:=Lz (np:=ps.length) (show b<bs.length by omega) (Nat.le_of_lt c);refine aC (aV c) (aC (aE c) ?_);cases e:eJ (gD (gD bs b).els k)with
  |true=>
   have e1:((aM ps.length bs b+eF (gD bs b).els (k+1):Nat):Int)=bJ .i64 ((aM ps.length bs b+eF (gD bs b).els k:Nat):Int) 1:=by rw[Vd (by omega),Es e];rfl
   refine aC e (aO ((nx c d [_,_,_] _).trans ?_));show[D.l (gD bs b).els,.i ((aM ps.length bs b+eF (gD bs b).els (k+1):Nat):Int),.i ((bs.take n).length:Int),.i (bJ .i64 (k:Int) 1),.l (bs.take n),.i ((gD bs b).els.length:Int),.i (b:Int)]=_;rw[e1];rfl
  |false=>refine aJ e (aO ((nx c d [_,_,_] _).trans ?_));show[D.l (gD bs b).els,.i ((aM ps.length bs b+eF (gD bs b).els (k+1):Nat):Int),.i ((bs.take n).length:Int),.i (bJ .i64 (k:Int) 1),.l (bs.take n),.i ((gD bs b).els.length:Int),.i (b:Int)]=_;rw[Ly e];rfl
 ·exact aJ (aX _) (bH rfl)
theorem B5(n:Nat)(g:n<=bs.length):iQ E aW sites Kg [oK nm o ps r bs,.i (n:Int)] (.i (aM ps.length bs n:Int)) []:=by
 refine bA KK (by rfl) rfl ?_;show Ev _ _ (TT _) _;unfold TT;have e:=hT.1;unfold fF at e;have d:(bs.take n).length=n:=by rw[List.length_take];omega
 have f:fV KJ 0 [.i (ps.length:Int),.i ((bs.take n).length:Int),.l (bs.take n),.i 0] (0,[.i (aM ps.length bs n:Int)]):=by
  refine cI KK (λj=>[.i (aM ps.length bs j:Int),.i ((bs.take n).length:Int),.l (bs.take n),.i (j:Int)]) n (λj c=>?_) ?_
  ·refine aC ?_ (aC ?_ (aP (aEa ps bs hp hT n j g c) (bG (aO (nx c (by omega) [_,_,_] [])))))
   ·show aQ (j:Int) ((bs.take n).length:Int)=true;rw[d];exact aV c
   ·show aA (j:Int) (bs.take n).length=true;rw[d];exact aE c
  ·refine aJ ?_ (bH rfl);show aQ (n:Int) ((bs.take n).length:Int)=false;rw[d];exact aX _
 refine aC ?_ (aP f (bG (bI rfl rfl)));show kP 0 (n:Int) (bs.length:Int)=true;unfold kP;rw[jK (by omega),jK (by omega),jK (by omega)];rfl
theorem D7(b k:Nat)(d:b<bs.length)(c:k<(gD bs b).els.length)(ht:Et ps.length bs b k=false):
  rO E aW sites rU (rU.F.lp 2 [.i ((aM ps.length bs b+eF (gD bs b).els k:Nat):Int),.i (b:Int),.i ((gD bs b).els.length:Int),.i (bs.length:Int),.l (gD bs b).els,.l bs,.i (k:Int),.i (b:Int),.s nm,.b o,.l ps,.i r,.l bs,.l (aK (aM ps.length bs b+eF (gD bs b).els k+1) (QV ps.length bs))]) (.again [.i ((aM ps.length bs b+eF (gD bs b).els (k+1):Nat):Int),.i (b:Int),.i ((gD bs b).els.length:Int),.i (bs.length:Int),.l (gD bs b).els,.l bs,.i ((k+1:Nat):Int),.i (b:Int),.s nm,.b o,.l ps,.i r,.l bs,.l (aK (aM ps.length bs b+eF (gD bs b).els (k+1)+1) (QV ps.length bs))]):=by
 have m:=(hT.2 b d).ins.sane;have s:=IC ps bs hp hT;have t:=Lz (np:=ps.length) d (Nat.le_of_lt c);have hx:∀n h,[D.i n,.i (b:Int),.i ((gD bs b).els.length:Int),.i (bs.length:Int),.l (gD bs b).els,.l bs,.i ((k+1:Nat):Int),.i (b:Int),.s nm,.b o,.l ps,.i r,.l bs,.l h]=[D.i n,.i (b:Int),.i ((gD bs b).els.length:Int),.i (bs.length:Int),.l (gD bs b).els,.l bs,.i (bJ .i64 (k:Int) 1),.i (b:Int),.s nm,.b o,.l ps,.i r,.l bs,.l h]:=λn h=>nx c m [_,_,_,_,_,_] _;refine aC (aV c) (aC (aE c) ?_);cases e:eJ (gD (gD bs b).els k)with
 |false=>
  have f:aD (vI (gD (gD bs b).els k) 1) 0=true:=by
   unfold eJ at e;cases g:aD (vI (gD (gD bs b).els k) 1) 0 with
   |true=>rfl
   |false=>rw[g]at e;cases e
  refine aC f (aO ?_);show[D.i ((aM ps.length bs b+eF (gD bs b).els (k+1):Nat):Int),.i (b:Int),.i ((gD bs b).els.length:Int),.i (bs.length:Int),.l (gD bs b).els,.l bs,.i ((k+1:Nat):Int),.i (b:Int),.s nm,.b o,.l ps,.i r,.l bs,.l (aK (aM ps.length bs b+eF (gD bs b).els (k+1)+1) (QV ps.length bs))]=_;rw[Ly e];exact hx _ _
 |true=>
  have f:aD (vI (gD (gD bs b).els k) 1) 0=false:=qG.1 e;unfold Et at ht;rw[e,Bool.true_and]at ht;have e1:bJ .i64 ((aM ps.length bs b+eF (gD bs b).els k:Nat):Int) 1=((lQ ps.length bs b k:Nat):Int):=Vd (by omega);have j:aM ps.length bs b+eF (gD bs b).els (k+1)=lQ ps.length bs b k:=by rw[Es e];rfl
  have l:QV ps.length bs (lQ ps.length bs b k)=.i (b:Int):=by rw[Mb (Vh _ _ _ _),GH (q:=(b,k)) ⟨d,c,e,rfl⟩]
  have hv:=Ve (np:=ps.length) d c e;refine aJ f (aJ ((congrArg (λn=>!(aD (vI (gD (gD bs b).els k) 2) n)) e1).trans ht) (aC ?_ (aO ?_)))
  ·show jP ((aK _ _).length+1) 8=true;rw[dA];exact fG (by omega) (by omega)
  ·show[D.i ((aM ps.length bs b+eF (gD bs b).els (k+1):Nat):Int),.i (b:Int),.i ((gD bs b).els.length:Int),.i (bs.length:Int),.l (gD bs b).els,.l bs,.i ((k+1:Nat):Int),.i (b:Int),.s nm,.b o,.l ps,.i r,.l bs,.l (aK (aM ps.length bs b+eF (gD bs b).els (k+1)+1) (QV ps.length bs))]=_;rw[j,<-B4,l,<-e1];exact hx _ _
theorem aFH(b:Nat)(c:b<bs.length)(e:KU ps.length bs b=false):
  fV rU 2 [.i (aM ps.length bs b:Int),.i (b:Int),.i ((gD bs b).els.length:Int),.i (bs.length:Int),.l (gD bs b).els,.l bs,.i 0,.i (b:Int),.s nm,.b o,.l ps,.i r,.l bs,.l (aK (aM ps.length bs b+1) (QV ps.length bs))]
   (1,[.i (aM ps.length bs (b+1):Int),.i (bs.length:Int),.l bs,.i (b:Int),.s nm,.b o,.l ps,.i r,.l bs,.l (aK (aM ps.length bs (b+1)+1) (QV ps.length bs))]):=by
 have g:=(hT.2 b c).ins.sane;have f:=IC ps bs hp hT;refine cI rV (λk=>[.i ((aM ps.length bs b+eF (gD bs b).els k:Nat):Int),.i (b:Int),.i ((gD bs b).els.length:Int),.i (bs.length:Int),.l (gD bs b).els,.l bs,.i (k:Int),.i (b:Int),.s nm,.b o,.l ps,.i r,.l bs,.l (aK (aM ps.length bs b+eF (gD bs b).els k+1) (QV ps.length bs))]) (gD bs b).els.length (λk d=>D7 nm o ps r bs hp hT b k c d (bQ.1 e k d)) ?_
 ·exact aJ (aX _) (bH rfl)
theorem aCh(b:Nat)(e:b<bs.length)(f:KU ps.length bs b=true):
  ∃z L,fV rU 2 [.i (aM ps.length bs b:Int),.i (b:Int),.i ((gD bs b).els.length:Int),.i (bs.length:Int),.l (gD bs b).els,.l bs,.i 0,.i (b:Int),.s nm,.b o,.l ps,.i r,.l bs,.l (aK (aM ps.length bs b+1) (QV ps.length bs))] (0,[.i z,.i (bs.length:Int),.b false,.l bs,.i (b:Int),.s nm,.b o,.l ps,.i r,.l bs,.l L]):=by
 unfold KU at f;obtain⟨k,d,c,g⟩:=yR f;have j:=IC ps bs hp hT;have l:=Lz (np:=ps.length) e (Nat.le_of_lt d);refine⟨bJ .i64 ((aM ps.length bs b+eF (gD bs b).els k:Nat):Int) 1,aK (aM ps.length bs b+eF (gD bs b).els k+1) (QV ps.length bs),cI rV (λk=>[.i ((aM ps.length bs b+eF (gD bs b).els k:Nat):Int),.i (b:Int),.i ((gD bs b).els.length:Int),.i (bs.length:Int),.l (gD bs b).els,.l bs,.i (k:Int),.i (b:Int),.s nm,.b o,.l ps,.i r,.l bs,.l (aK (aM ps.length bs b+eF (gD bs b).els k+1) (QV ps.length bs))]) k (λi h=>D7 nm o ps r bs hp hT b i e (by omega) (g i h)) ?_⟩;show Ev _ _ (AV _) _;unfold AV;unfold Et at c;rw[Bool.and_eq_true]at c;have e1:bJ .i64 ((aM ps.length bs b+eF (gD bs b).els k:Nat):Int) 1=((lQ ps.length bs b k:Nat):Int):=Vd (by omega);exact aC (aV d) (aC (aE d) (aJ (qG.1 c.1) (aC ((congrArg (λn=>!(aD (vI (gD (gD bs b).els k) 2) n)) e1).trans c.2) (bH rfl))))
theorem aFI(d:eD bs.length (KU ps.length bs)=false):
  fV rU 0 [.i (ps.length:Int),.i (bs.length:Int),.l bs,.i 0,.s nm,.b o,.l ps,.i r,.l bs,.l (aK (ps.length+1) (QV ps.length bs))]
   (1,[.i (aM ps.length bs bs.length:Int),.s nm,.b o,.l ps,.i r,.l bs,.l (aK (aM ps.length bs bs.length+1) (QV ps.length bs))]):=by
 refine cI rV (λj=>[.i (aM ps.length bs j:Int),.i (bs.length:Int),.l bs,.i (j:Int),.s nm,.b o,.l ps,.i r,.l bs,.l (aK (aM ps.length bs j+1) (QV ps.length bs))]) bs.length (λj c=>?_) ?_
 ·exact aC (aV c) (aC (aE c) (aP (aFH nm o ps r bs hp hT j c (bQ.1 d j c)) (eO (bG (aO (nx c hT.1.sane [_,_,_] _))))))
 ·exact aJ (aX _) (bH rfl)
theorem aCn(h:eD bs.length (KU ps.length bs)=true):
  ∃z L,fV rU 0 [.i (ps.length:Int),.i (bs.length:Int),.l bs,.i 0,.s nm,.b o,.l ps,.i r,.l bs,.l (aK (ps.length+1) (QV ps.length bs))] (0,[.i z,.b false,.s nm,.b o,.l ps,.i r,.l bs,.l L]):=by
 obtain⟨j,c,d,e⟩:=yR h;obtain⟨z,L,f⟩:=aCh nm o ps r bs hp hT j c d;refine⟨z,L,cI rV (λj=>[.i (aM ps.length bs j:Int),.i (bs.length:Int),.l bs,.i (j:Int),.s nm,.b o,.l ps,.i r,.l bs,.l (aK (aM ps.length bs j+1) (QV ps.length bs))]) j (λi g=>?_) ?_⟩
 ·exact aC (aV (show i<bs.length by omega)) (aC (aE (show i<bs.length by omega)) (aP (aFH nm o ps r bs hp hT i (by omega) (e i g)) (eO (bG (aO (nx (show i<bs.length by omega) hT.1.sane [_,_,_] _))))))
 ·exact aC (aV c) (aC (aE c) (aP f (bG (bH rfl))))
structure Up(bs:LD)(b:Nat)(q:Int×(Nat->Bool)):Prop where
 or:(q.1=-1/\∀i,q.2 i=dM bs i b)\/∃d:Nat,q.1=d/\dM bs d b=true/\(∀i,q.2 i=true->dM bs i b=true/\dM bs d i=true/\i≠d)/\∀i,dM bs i b=true->q.2 i=true\/dM bs i d=true
omit hp hT in
theorem aFJ(b:Nat)(Q:b<bs.length)(a3:RA bs 0 (-1) b)(g:Nat->Int)(hg:∀i,i<bs.length->B1 bs bs.length i (g i))(t:Nat->D)(n:Int)(v:LD):
  fV rU 6 [.i n,.i (b:Int),.i (b:Int),.i (bs.length:Int),.i (b:Int),.s nm,.b o,.l ps,.i r,.l bs,.l (aK bs.length (fS t b (.l (List.replicate bs.length (.b false))))),.l v,.l (aK bs.length λi=>.i (g i))]
   (0,[.i n,.i (b:Int),.i (bs.length:Int),.s nm,.b o,.l ps,.i r,.l bs,.l (aK bs.length (fS t b (.l (aZ bs.length λi=>dM bs i b)))),.l v,.l (aK bs.length λi=>.i (g i))]):=by
 rw[<-mY];have h:=HU rV (b:=6) (λ(q:Int×(Nat->Bool))=>[.i n,.i (b:Int),.i (b:Int),.i (bs.length:Int),.i q.1,.s nm,.b o,.l ps,.i r,.l bs,.l (aK bs.length (fS t b (.l (aZ bs.length q.2)))),.l v,.l (aK bs.length λi=>.i (g i))]) (Up bs b) (λq=>tE bs.length q.2)
  (λu=>u=(0,[.i n,.i (b:Int),.i (bs.length:Int),.s nm,.b o,.l ps,.i r,.l bs,.l (aK bs.length (fS t b (.l (aZ bs.length λi=>dM bs i b)))),.l v,.l (aK bs.length λi=>.i (g i))])) (λq a2=>?_) (s0:=((b:Int),λ_=>false))
  ⟨.inr ⟨b,rfl,OQ a3,λi h=>(by cases h),λi h=>.inr h⟩⟩
 ·obtain⟨u,m,j⟩:=h;subst m;exact j
 ·obtain⟨x,f⟩:=q;rcases a2.or with⟨m,j⟩ |⟨d,m,j,s,H⟩
  ·simp only at m j;subst m;refine .inl ⟨_,rfl,?_⟩;show Ev _ _ (AX _) _;unfold AX;have e:f=λi=>dM bs i b:=funext j;rw[e];exact aJ rfl (bH rfl)
  ·simp only at m s H;subst m;have hd:=(S2 j).1;have a0:f d=false:=by
    cases e:f d with
    |false=>rfl
    |true=>exact absurd rfl (s d e).2.2
   have T:=HV f d;have a1:Up bs b (g d,tD f d):=by
    rcases(hg d hd).or with⟨G,P⟩ |⟨e,G,P,W,y,Y⟩
    ·refine⟨.inl ⟨G,λi=>?_⟩⟩;show tD f d i=dM bs i b;by_cases c:i=d
     ·subst c;rw[kO,j]
     ·rw[CI f c];cases F:f i with
      |true=>rw[(s i F).1]
      |false=>
       cases L:dM bs i b with
       |false=>rfl
       |true=>
        rcases H i L with l |l
        ·rw[l]at F;cases F
        ·have:=P i (S2 L).1 c;rw[this]at l;cases l
    ·refine⟨.inr ⟨e,G,QL y j,λi C=>?_,λi C=>?_⟩⟩
     ·by_cases c:i=d
      ·subst c;exact⟨j,y,λh=>W h.symm⟩
      ·have J:f i=true:=by rw[<-CI f c];exact C
       refine⟨(s i J).1,QL y (s i J).2.1,λh=>?_⟩;subst h;exact c (A9 y (s i J).2.1)
     ·by_cases c:i=d
      ·left;subst c;exact kO f i
      ·rcases H i C with l |l
       ·exact .inl (T i l)
       ·exact .inr (Y i (S2 C).1 c l)
   refine .inr ⟨(g d,tD f d),a1,KS bs.length T hd a0 (kO f d),?_⟩;have K:gD (aK bs.length (fS t b (.l (aZ bs.length f)))) b=.l (aZ bs.length f):=(eB _ Q).trans (fK _ _ _);have U:(gD (aK bs.length λi=>.i (g i)) d).toI=g d:=congrArg D.toI (eB (λi=>D.i (g i)) hd);have V:(aK bs.length (fS t b (.l (aZ bs.length f)))).set b (.l ((D.els (gD (aK bs.length (fS t b (.l (aZ bs.length f)))) b)).set d (.b true)))=aK bs.length (fS t b (.l (aZ bs.length (tD f d)))):=by rw[K,nY,HZ];show aK bs.length (fS t b (.l ((aZ bs.length f).set d (.b true))))=_;rw[zC f hd]
   refine aC (jK (by show(0:Int)<=(d:Int);omega)) (aC ?_ (aC ?_ (aC ?_ (aO ?_))))
   ·show aA (b:Int) (aK bs.length _).length=true;rw[dA];exact aE Q
   ·show aA (d:Int) (D.els (gD (aK bs.length (fS t b (.l (aZ bs.length f)))) b)).length=true;rw[K];show aA (d:Int) (aZ bs.length f).length=true;rw[fH];exact aE hd
   ·show aA (d:Int) (aK bs.length _).length=true;rw[dA];exact aE hd
   ·show[D.i n,.i (b:Int),.i (b:Int),.i (bs.length:Int),.i (g d),.s nm,.b o,.l ps,.i r,.l bs,.l (aK bs.length (fS t b (.l (aZ bs.length (tD f d))))),.l v,.l (aK bs.length λi=>.i (g i))]=_;rw[<-V,<-U];rfl
noncomputable def oI(bs:LD):LD:=aK bs.length λb=>.l (aZ bs.length λi=>dM bs i b)
omit hp in
theorem aFK(l:∀b,b<bs.length->RA bs 0 (-1) b)(g:Nat->Int)(hg:∀i,i<bs.length->B1 bs bs.length i (g i))(n:Int)(d:LD):
  fV rU 4 [.i n,.i 0,.i ((List.replicate bs.length (D.l [])).length:Int),.s nm,.b o,.l ps,.i r,.l bs,.l (List.replicate bs.length (D.l [])),.l d,.l (aK bs.length λi=>.i (g i))]
   (0,[.i n,.s nm,.b o,.l ps,.i r,.l bs,.l (oI bs),.l d]):=by
 have m:=hT.1;unfold fF at m;have t:(List.replicate bs.length (D.l [])).length=bs.length:=List.length_replicate;rw[t,Vg bs.length (λb=>.l (aZ bs.length λi=>dM bs i b)) (.l [])];have s:oI bs=aK bs.length (gT (λb=>.l (aZ bs.length λi=>dM bs i b)) (.l []) bs.length):=(R9 _ _ _).symm;rw[s];refine cI rV (λj=>[.i n,.i (j:Int),.i (bs.length:Int),.s nm,.b o,.l ps,.i r,.l bs,.l (aK bs.length (gT (λb=>.l (aZ bs.length λi=>dM bs i b)) (.l []) j)),.l d,.l (aK bs.length λi=>.i (g i))]) bs.length (λj c=>?_) ?_
 ·have e:=aFJ nm o ps r bs j c (l j c) g hg (gT (λb=>.l (aZ bs.length λi=>dM bs i b)) (.l []) j) n d;have f:(aK bs.length (gT (λb=>.l (aZ bs.length λi=>dM bs i b)) (.l []) j)).set j (.l (List.replicate bs.length (.b false)))=aK bs.length (fS (gT (λb=>.l (aZ bs.length λi=>dM bs i b)) (.l []) j) j (.l (List.replicate bs.length (.b false)))):=nY _ _;have h:aK bs.length (fS (gT (λb=>.l (aZ bs.length λi=>dM bs i b)) (.l []) j) j (.l (aZ bs.length λi=>dM bs i j)))=aK bs.length (gT (λb=>.l (aZ bs.length λi=>dM bs i b)) (.l []) (j+1)):=(nY _ _).symm.trans (Vf rfl);rw[h,<-f]at e;refine aC (aV c) (aC ?_ (aC ?_ (aP e (bG (aO (nx c hT.1.sane [_] _))))))
  ·show(cK 0 (bs.length:Int)&&(aD (bs.length:Int) (bs.length:Int)&&jP (Int.toNat (bs.length:Int)) 1))=true;rw[jK (by omega),qF];exact fG (by show bs.length<=_;omega) (by omega)
  ·show aA (j:Int) (aK bs.length _).length=true;rw[dA];exact aE c
 ·exact aJ (aX _) (bH rfl)
end
end Go.Eng.Q

namespace Go.Eng.Q
open Go.Eng
theorem Qm(bs:LD):(oI bs).length=bs.length:=dA _ _
theorem Qn{bs:LD}{b:Nat}(h:b<bs.length):gD (oI bs) b=.l (aZ bs.length λi=>dM bs i b):=eB _ h
section
variable(nm:List UInt8)(o:Bool)(ps:LD)(r:Int)(bs:LD)(hp:fF ps)(hT:fZ bs)
noncomputable abbrev oU(np:Nat)(bs:LD):LD:=aK (aM np bs bs.length+1) (QV np bs)
theorem B6{np:Nat}{b k:Nat}{x:D}{j:Nat}(W:bs.length<=10000)(L:b<bs.length)(Y:k<=(gD bs b).els.length)(h:aAG (aM np bs bs.length:Int) (FH np bs) (gU bs) b k x j=false)(P:vI x 0=26->∃p:Nat,OP x j=p/\p<bs.length):
  ∃v:Nat,pP x j=v/\1<=v/\v<=aM np bs bs.length/\(v<=np\/np<v/\∃d:Nat,d<bs.length/\gD (oU np bs) v=.i (d:Int)/\(vI x 0=26->∃p:Nat,OP x j=p/\dM bs d p=true)/\(vI x 0≠26->d≠b/\dM bs d b=true\/d=b/\v<=aM np bs b+eF (gD bs b).els k)):=by
 unfold aAG at h;rw[Bool.or_eq_false_iff,Bool.or_eq_false_iff]at h;obtain⟨⟨H,J⟩,c⟩:=h;have T:=qH H;have U:=qH J;have hv:pP x j=((pP x j).toNat:Int):=by omega
 generalize(pP x j).toNat=v at hv;refine⟨v,hv,by omega,by omega,?_⟩;have C:v<=aM np bs bs.length:=by omega
 have hg:gD (FH np bs) (Int.toNat (pP x j))=Gp np bs v:=by rw[hv];exact j5 C
 rcases Qj C with⟨l,g⟩ |⟨l,q,g,r⟩
 ·exact .inl l
 ·right;refine⟨l,q.1,g.b,?_,?_⟩
  ·exact(eB _ (by omega)).trans ((Mb l).trans (by rw[r]))
  ·have F:wv (FH np bs) (pP x j) 0=(q.1:Int):=by unfold wv;rw[hg];show(Vt np bs v).1 =_;rw[r]
   have e1:wv (FH np bs) (pP x j) 1=(q.2:Int):=by unfold wv;rw[hg];show(Vt np bs v).2 =_;rw[r]
   have u:∀{p:Nat},p<bs.length->dt (gU bs) (q.1:Int) (p:Int)=dM bs q.1 p:=λ{p}hp=>by show D.toB (gE (gD (gU bs) q.1) p)=_;rw[YA g.b];exact congrArg D.toB (kN _ hp)
   rw[F,e1,KR (by omega)]at c;simp only[cond_false]at c;refine⟨λm=>?_,λm=>?_⟩
   ·obtain⟨p,y,Q⟩:=P m;rw[m,qF,cond_true,y,u Q]at c;exact⟨p,y,by cases e:dM bs q.1 p with|true=>rfl |false=>rw[e]at c;cases c⟩
   ·rw[gR m,cond_false,Bool.or_eq_false_iff,u L]at c;by_cases e:q.1=b
    ·right;refine⟨e,?_⟩;have f:=c.1;rw[e,qF,Bool.true_and]at f;have K:q.2<k:=by
      have:¬((k:Int)<=(q.2:Int)):=λh=>by rw[jK h]at f;cases f
      omega
     have s:=g.t;rw[e]at s;have V:=Gn K s;have t:=g.v;unfold lQ at t;rw[e]at t;omega
    ·left;refine⟨e,?_⟩;have f:=c.2;rw[gR (by omega)]at f;cases G:dM bs q.1 b with
     |true=>rfl
     |false=>rw[G]at f;cases f
include hT
theorem aEb(b0:nS bs)(hf:mL bs=true)(b k:Nat)(c:b<bs.length)(C:k<(gD bs b).els.length):
  fV rU 12 [.i (aM ps.length bs bs.length:Int),.i ((aM ps.length bs b+eF (gD bs b).els k:Nat):Int),.l (eX (gD (gD bs b).els k) 5),.i (bs.length:Int),.i (b:Int),.i 0,.i ((gD bs b).els.length:Int),.i ((eX (gD (gD bs b).els k) 5).length:Int),.l (gD bs b).els,.i (b:Int),.l bs,.i (k:Int),.s nm,.b o,.l ps,.i r,.l bs,.i (vI (gD (gD bs b).els k) 0),.i (vI (gD (gD bs b).els k) 1),.i (vI (gD (gD bs b).els k) 2),.i (vI (gD (gD bs b).els k) 3),.i (vI (gD (gD bs b).els k) 4),.l (eX (gD (gD bs b).els k) 5),.l (eX (gD (gD bs b).els k) 6),.l (oI bs),.l (oU ps.length bs)] (bif Fo ps.length bs b k then(0,[.i (aM ps.length bs bs.length:Int),.i ((aM ps.length bs b+eF (gD bs b).els k:Nat):Int),.i (bs.length:Int),.i (b:Int),.i ((gD bs b).els.length:Int),.b false,.l (gD bs b).els,.i (b:Int),.l bs,.i (k:Int),.s nm,.b o,.l ps,.i r,.l bs,.i (vI (gD (gD bs b).els k) 0),.i (vI (gD (gD bs b).els k) 1),.i (vI (gD (gD bs b).els k) 2),.i (vI (gD (gD bs b).els k) 3),.i (vI (gD (gD bs b).els k) 4),.l (eX (gD (gD bs b).els k) 5),.l (eX (gD (gD bs b).els k) 6),.l (oI bs),.l (oU ps.length bs)])else(1,[.i (aM ps.length bs bs.length:Int),.i ((aM ps.length bs b+eF (gD bs b).els k:Nat):Int),.i (bs.length:Int),.i (b:Int),.i ((gD bs b).els.length:Int),.l (gD bs b).els,.i (b:Int),.l bs,.i (k:Int),.s nm,.b o,.l ps,.i r,.l bs,.i (vI (gD (gD bs b).els k) 0),.i (vI (gD (gD bs b).els k) 1),.i (vI (gD (gD bs b).els k) 2),.i (vI (gD (gD bs b).els k) 3),.i (vI (gD (gD bs b).els k) 4),.l (eX (gD (gD bs b).els k) 5),.l (eX (gD (gD bs b).els k) 6),.l (oI bs),.l (oU ps.length bs)])):=by
 have b2:=hT.1;unfold fF at b2;have b5:=b0 b c k C;have has:=((hT.2 b c).i k C).as1;have b6:=Ma hf c C;have b3:Fo ps.length bs b k=eD (eX (gD (gD bs b).els k) 5).length (aAG (aM ps.length bs bs.length:Int) (FH ps.length bs) (gU bs) b k (gD (gD bs b).els k)):=rfl;rw[b3];generalize gD (gD bs b).els k=x at*;have b1:(oU ps.length bs).length=aM ps.length bs bs.length+1:=dA _ _;refine yC rV (λj=>[.i (aM ps.length bs bs.length:Int),.i ((aM ps.length bs b+eF (gD bs b).els k:Nat):Int),.l (eX x 5),.i (bs.length:Int),.i (b:Int),.i (j:Int),.i ((gD bs b).els.length:Int),.i ((eX x 5).length:Int),.l (gD bs b).els,.i (b:Int),.l bs,.i (k:Int),.s nm,.b o,.l ps,.i r,.l bs,.i (vI x 0),.i (vI x 1),.i (vI x 2),.i (vI x 3),.i (vI x 4),.l (eX x 5),.l (eX x 6),.l (oI bs),.l (oU ps.length bs)]) (eX x 5).length (aAG (aM ps.length bs bs.length:Int) (FH ps.length bs) (gU bs) b k x) (λj y=>?_) ?_
 ·have F:=nx y has.sane [.i (aM ps.length bs bs.length:Int),.i ((aM ps.length bs b+eF (gD bs b).els k:Nat):Int),.l (eX x 5),.i (bs.length:Int),.i (b:Int)] [.i ((gD bs b).els.length:Int),.i ((eX x 5).length:Int),.l (gD bs b).els,.i (b:Int),.l bs,.i (k:Int),.s nm,.b o,.l ps,.i r,.l bs,.i (vI x 0),.i (vI x 1),.i (vI x 2),.i (vI x 3),.i (vI x 4),.l (eX x 5),.l (eX x 6),.l (oI bs),.l (oU ps.length bs)];refine oT (aV y) (oT (aE y) (oO rfl rfl (λb4=>?_)));have hv:∃n:Nat,pP x j=(n:Int)/\n<=aM ps.length bs bs.length:=by
   have u:((aQ (pP x j) 1)||(aQ (aM ps.length bs bs.length:Int) (pP x j)))=false:=b4;rw[Bool.or_eq_false_iff]at u;have c1:=qH u.1;have h:=qH u.2;exact⟨(pP x j).toNat,by omega,by omega⟩
  obtain⟨v,hv,W⟩:=hv;have hg:gD (FH ps.length bs) (Int.toNat (pP x j))=Gp ps.length bs v:=by rw[hv];exact j5 W
  rcases Qj W with⟨J,d⟩ |⟨J,q,d,t⟩
  ·have s:wv (FH ps.length bs) (pP x j) 0=-1:=by unfold wv;rw[hg];show(Vt ps.length bs v).1 =_;rw[d]
   refine oT ?_ (aGv (by rw[s];rfl) F);show cK (pP x j) (ps.length:Int)=true;rw[hv];exact jK (by omega)
  ·have s:wv (FH ps.length bs) (pP x j) 0=(q.1:Int):=by unfold wv;rw[hg];show(Vt ps.length bs v).1 =_;rw[t]
   have e1:wv (FH ps.length bs) (pP x j) 1=(q.2:Int):=by unfold wv;rw[hg];show(Vt ps.length bs v).2 =_;rw[t]
   have P:∀{p:Nat},p<bs.length->dt (gU bs) (q.1:Int) (p:Int)=dM bs q.1 p:=λ{p}hp=>by show D.toB (gE (gD (gU bs) q.1) p)=_;rw[YA d.b];exact congrArg D.toB (kN _ hp)
   have a6:gD (oU ps.length bs) v=.i (q.1:Int):=(eB _ (by omega)).trans ((Mb J).trans (by rw[t]));have h:=d.b;have Y:cK (pP x j) (ps.length:Int)=false:=by rw[hv];exact Uw (by omega)
   have f:aA (pP x j) (oU ps.length bs).length=true:=by rw[hv,b1];exact aE (by omega)
   have g:(gD (oU ps.length bs) (Int.toNat (pP x j))).toI=(q.1:Int):=by rw[hv];show(gD (oU ps.length bs) v).toI=_;rw[a6];rfl
   have a0:aA (b:Int) (oI bs).length=true:=by rw[Qm];exact aE c
   have U:∀{p:Nat},p<bs.length->nE (gD (oI bs) p)=bs.length:=λ{p}hp=>by show(D.els (gD (oI bs) p)).length=_;rw[Qn hp];exact fH _ _
   have V:∀{p:Nat},p<bs.length->D.toB (gE (gD (oI bs) p) (Int.toNat (gD (oU ps.length bs) (Int.toNat (pP x j))).toI))=dM bs q.1 p:=λ{p}hp=>by rw[g];show D.toB (gE (gD (oI bs) p) q.1)=_;rw[Qn hp];exact congrArg D.toB (kN (λi=>dM bs i p) h)
   have a1:aA (gD (oU ps.length bs) (Int.toNat (pP x j))).toI (nE (gD (oI bs) b))=true:=by rw[U c,g];exact aE h
   rw[s,e1,KR (show(0:Int)<=(q.1:Int)by omega),cond_false];refine oF Y (oT f (oT (aH a0) (oT (aH f) (oT (aH a1) (oT (aH f) ?_)))));refine oX (λ(l:aD (vI x 0) 26=true)=>?_) (λ(l:aD (vI x 0) 26=false)=>?_)
   ·have T:vI x 0=26:=(bT _ _).1 l;obtain⟨b7,a4⟩:=b6 T;have c0:=(b5.ap T).2;have Q:j<(iP bs b).length:=by omega
    have a5:j<(eX x 6).length:=by omega
    obtain⟨p,G,m⟩:∃p:Nat,OP x j=p/\p<bs.length:=⟨_,a4 j Q,j6 (List.getElem_mem Q)⟩;have a2:aA (OP x j) (oI bs).length=true:=by rw[G,Qm];exact aE m
    have H:Int.toNat (OP x j)=p:=by rw[G];rfl
    have a3:aA (gD (oU ps.length bs) (Int.toNat (pP x j))).toI (nE (gD (oI bs) (Int.toNat (OP x j))))=true:=by rw[H,U m,g];exact aE h
    rw[l,cond_true];refine oT (aE a5) (oT a2 (oT f (oT a3 (oE ?_ rfl F))));show(!(D.toB (gE (gD (oI bs) (Int.toNat (OP x j))) (Int.toNat (gD (oU ps.length bs) (Int.toNat (pP x j))).toI))))=!(dt (gU bs) (q.1:Int) (OP x j));rw[H,V m,G,P m]
   ·rw[l,cond_false];refine oE ?_ rfl F;show(!(((!(aD (gD (oU ps.length bs) (Int.toNat (pP x j))).toI (b:Int)))&&(D.toB (gE (gD (oI bs) b) (Int.toNat (gD (oU ps.length bs) (Int.toNat (pP x j))).toI))))||((aD (gD (oU ps.length bs) (Int.toNat (pP x j))).toI (b:Int))&&(cK (pP x j) ((aM ps.length bs b+eF (gD bs b).els k:Nat):Int)))))=_;rw[V c,g,hv,P c];by_cases e:q.1=b
    ·have K:=d.v;have L:=d.t;unfold lQ at K;rw[e]at K L;rw[e,qF];by_cases a7:q.2<k
     ·have a9:=Gn a7 L;rw[jK (show(v:Int)<=((aM ps.length bs b+eF (gD bs b).els k:Nat):Int)by omega),Uw (show(q.2:Int)<(k:Int)by omega)];rfl
     ·have a9:=QK (gD bs b).els (show k<=q.2 by omega);rw[Uw (show((aM ps.length bs b+eF (gD bs b).els k:Nat):Int)<(v:Int)by omega),jK (show(k:Int)<=(q.2:Int)by omega)];rfl
    ·rw[gR (show(q.1:Int)≠(b:Int)by omega)];cases dM bs q.1 b<;>rfl
 ·exact aJ (aX _) (bH rfl)
theorem aEc(j:nS bs)(hf:mL bs=true)(b:Nat)(f:b<bs.length)(l:KU ps.length bs b=false):
  fV rU 10 [.i (aM ps.length bs bs.length:Int),.i (aM ps.length bs b:Int),.i (bs.length:Int),.i (b:Int),.i ((gD bs b).els.length:Int),.l (gD bs b).els,.i (b:Int),.l bs,.i 0,.s nm,.b o,.l ps,.i r,.l bs,.l (oI bs),.l (oU ps.length bs)]
   (bif eD (gD bs b).els.length (Fo ps.length bs b)then(0,[.i (aM ps.length bs bs.length:Int),.i (bs.length:Int),.b false,.i (b:Int),.l bs,.s nm,.b o,.l ps,.i r,.l bs,.l (oI bs),.l (oU ps.length bs)])else(1,[.i (aM ps.length bs bs.length:Int),.i (bs.length:Int),.i (b:Int),.l bs,.s nm,.b o,.l ps,.i r,.l bs,.l (oI bs),.l (oU ps.length bs)])):=by
 have s:=(hT.2 b f).ins.sane;refine yC rV (λk=>[.i (aM ps.length bs bs.length:Int),.i ((aM ps.length bs b+eF (gD bs b).els k:Nat):Int),.i (bs.length:Int),.i (b:Int),.i ((gD bs b).els.length:Int),.l (gD bs b).els,.i (b:Int),.l bs,.i (k:Int),.s nm,.b o,.l ps,.i r,.l bs,.l (oI bs),.l (oU ps.length bs)]) (gD bs b).els.length (Fo ps.length bs b) (λk c=>?_) ?_
 ·have g:∀m,[D.i (aM ps.length bs bs.length:Int),.i m,.i (bs.length:Int),.i (b:Int),.i ((gD bs b).els.length:Int),.l (gD bs b).els,.i (b:Int),.l bs,.i ((k+1:Nat):Int),.s nm,.b o,.l ps,.i r,.l bs,.l (oI bs),.l (oU ps.length bs)]=[D.i (aM ps.length bs bs.length:Int),.i m,.i (bs.length:Int),.i (b:Int),.i ((gD bs b).els.length:Int),.l (gD bs b).els,.i (b:Int),.l bs,.i (bJ .i64 (k:Int) 1),.s nm,.b o,.l ps,.i r,.l bs,.l (oI bs),.l (oU ps.length bs)]:=λm=>nx c s [_,_,_,_,_,_,_,_] _;refine oT (aV c) (oT (aE c) (oLO (b2:=false) (Bool.or_false _).symm (aEb nm o ps r bs hT j hf b k f c) rfl (λ_=>?_)));cases e:eJ (gD (gD bs b).els k)with
  |true=>
   have ht:=bQ.1 l k c;unfold Et at ht;rw[e,Bool.true_and]at ht;have t:vI (gD (gD bs b).els k) 2=(lQ ps.length bs b k:Int):=by
    cases d:aD (vI (gD (gD bs b).els k) 2) (lQ ps.length bs b k:Int)with
    |true=>exact(bT _ _).1 d
    |false=>rw[d]at ht;cases ht
   refine oT e (aGv rfl ?_);show[D.i (aM ps.length bs bs.length:Int),.i ((aM ps.length bs b+eF (gD bs b).els (k+1):Nat):Int),.i (bs.length:Int),.i (b:Int),.i ((gD bs b).els.length:Int),.l (gD bs b).els,.i (b:Int),.l bs,.i ((k+1:Nat):Int),.s nm,.b o,.l ps,.i r,.l bs,.l (oI bs),.l (oU ps.length bs)]=_;have h:((aM ps.length bs b+eF (gD bs b).els (k+1):Nat):Int)=vI (gD (gD bs b).els k) 2:=by rw[t,Es e];rfl
   rw[h];exact g _
  |false=>refine oF e (aGv rfl ?_);show[D.i (aM ps.length bs bs.length:Int),.i ((aM ps.length bs b+eF (gD bs b).els (k+1):Nat):Int),.i (bs.length:Int),.i (b:Int),.i ((gD bs b).els.length:Int),.l (gD bs b).els,.i (b:Int),.l bs,.i ((k+1:Nat):Int),.s nm,.b o,.l ps,.i r,.l bs,.l (oI bs),.l (oU ps.length bs)]=_;rw[Ly e];exact g _
 ·exact aJ (aX _) (bH rfl)
include hp
theorem aFL(g:nS bs)(hf:mL bs=true)(h:eD bs.length (KU ps.length bs)=false):
  fV rU 8 [.i (aM ps.length bs bs.length:Int),.i (bs.length:Int),.i 0,.l bs,.s nm,.b o,.l ps,.i r,.l bs,.l (oI bs),.l (oU ps.length bs)] (bif (eD bs.length λb=>eD (gD bs b).els.length (Fo ps.length bs b))then(0,[.b false])else(1,[])):=by
 refine yC rV (λj=>[.i (aM ps.length bs bs.length:Int),.i (bs.length:Int),.i (j:Int),.l bs,.s nm,.b o,.l ps,.i r,.l bs,.l (oI bs),.l (oU ps.length bs)]) bs.length (λb=>eD (gD bs b).els.length (Fo ps.length bs b)) (λj c=>?_) ?_
 ·have l:0<(gD bs j).els.length:=by
   unfold mL at hf;rw[Bool.and_eq_true,qG,qG]at hf;have d:=lG.1 hf.1 j c;unfold Q0 at d;rw[Bool.or_eq_false_iff]at d;rcases Nat.eq_zero_or_pos (gD bs j).els.length with e |e
   ·rw[e]at d;cases d.1
   ·exact e
  have f:=aEc nm o ps r bs hT g hf j c (bQ.1 h j c);exact oT (aV c) (oT (aE c) (oT (Np (by show(0:Int)<((gD bs j).els.length:Int);omega)) (oC (B5 nm o ps r bs hp hT j (by omega)) rfl (oL f rfl (congrArg _ (nx c hT.1.sane [_,_] _).symm)))))
 ·exact aJ (aX _) (bH rfl)
omit hp hT in
theorem OR{bs:LD}(hf:mL bs=true):∀b,b<bs.length->RA bs 0 (-1) b:=λb d=>by
 unfold mL at hf;rw[Bool.and_eq_true,qG,qG]at hf;have c:=bQ.1 hf.2 b d;unfold SS at c;rw[Bool.or_eq_false_iff]at c;cases e:Fm bs 0 (-1) b with
 |true=>exact zR.1 e
 |false=>rw[e]at c;cases c.1
theorem S4(s:0<bs.length)(t:nS bs)(hf:mL bs=true):iQ E aW sites Ud [oK nm o ps r bs] (.b (GI ps.length bs)) []:=by
 refine bA rV (by rfl) rfl ?_;show Ev _ _ (Au _) _;unfold Au;have y:=hp;have u:=hT.1;unfold fF at y u;have e1:bJ .i64 (ps.length:Int) 1=((ps.length+1:Nat):Int):=Vd (by omega);have j:Int.toNat (bJ .i64 (ps.length:Int) 1)=ps.length+1:=by rw[e1];rfl
 have l:aK (ps.length+1) (QV ps.length bs)=List.replicate (Int.toNat (bJ .i64 (ps.length:Int) 1)) (D.i 0):=by rw[j,dV (n:=ps.length+1) (f:=QV ps.length bs) (g:=λ_=>.i 0) λi C=>aCU (by omega),rY]
 have h:(cK 0 (bJ .i64 (ps.length:Int) 1)&&(aD (bJ .i64 (ps.length:Int) 1) (bJ .i64 (ps.length:Int) 1)&&jP (Int.toNat (bJ .i64 (ps.length:Int) 1)) 8))=true:=by rw[j,e1,jK (by omega),qF,fG (by omega) (by omega)];rfl
 unfold GI;cases e:eD bs.length (KU ps.length bs)with
 |true=>obtain⟨z,L,c⟩:=aCn nm o ps r bs hp hT e;rw[l]at c;exact aC h (aP c (bG (bI rfl rfl)))
 |false=>
 have c:=aFI nm o ps r bs hp hT e;rw[l]at c;have d:=aFL nm o ps r bs hp hT t hf e;obtain⟨g,hg,v⟩:=B3 nm o ps r bs hT s (OR hf);have m:(cK 0 (bs.length:Int)&&(aD (bs.length:Int) (bs.length:Int)&&jP (Int.toNat (bs.length:Int)) 24))=true:=by rw[jK (by omega),qF];exact fG (by show bs.length<=_;omega) (by omega)
 refine aC h (aP c (eO (bG (aC m (bK v rfl (aP (aFK nm o ps r bs hT (OR hf) g hg _ _) (bG ?_)))))));cases hx:(eD bs.length λb=>eD (gD bs b).els.length (Fo ps.length bs b))with
 |true=>rw[hx]at d;exact aP d (bG (bI rfl rfl))
 |false=>rw[hx]at d;exact aP d (eO (bG (bI rfl rfl)))
end
end Go.Eng.Q

namespace Go.Eng.Q
open Go.Eng
def kG(T as1:LD):LD:=as1.map λa=>.i (gD T a.toI.toNat).toI
theorem ID(T as1:LD):(kG T as1).length=as1.length:=List.length_map ..
theorem OS{T as1:LD}{j:Nat}(h:j<as1.length):gD (kG T as1) j=.i (gD T (gD as1 j).toI.toNat).toI:=by simp[kG,gD,List.getD,h]
abbrev g'(c:LD)(j:Nat):Int:=(gD c j).toI
def Bs(c:LD)(t:Int):Bool:=!(c.any λd=>!(aD d.toI t))
def LP(xs fs:LD)(d op ty sym num:Int)(c:LD):Bool:=
 bif aD op 1 then aD ty 1||(aD ty 2&&(aD num 0||aD num 1))else
 bif aD op 2 then aD ty 4 else
 bif aD op 3||aD op 18 then aD ty 3 else
 bif cK 4 op&&cK op 13 then(aD ty 1&&aD (g' c 0) 1)&&aD (g' c 1) 1 else
 bif aD op 14||aD op 15 then(aD ty 2&&aD (g' c 0) 1)&&aD (g' c 1) 1 else
 bif aD op 16 then aD ty 2&&aD (g' c 0) 2 else
 bif aD op 17 then(aD (g' c 0) 2&&aD (g' c 1) ty)&&aD (g' c 2) ty else
 bif aD op 19 then(aD ty 3&&aD (g' c 0) 3)&&aD (g' c 1) 1 else
 bif aD op 20 then aD ty 1&&aD (g' c 0) 3 else
 bif aD op 21 then aD (g' c 0) 3&&aD (g' c 1) 1 else
 bif aD op 22 then nU c (eX (gD fs sym.toNat) 2)&&aD ty (vI (gD fs sym.toNat) 3)else
 bif aD op 23 then nU c (eX (gD xs sym.toNat) 1)&&aD ty (vI (gD xs sym.toNat) 2)else
 bif aD op 24 then aD ty 4&&aD (g' c 0) 1 else
 bif aD op 25 then aD (g' c 0) 4&&!(aD ty 3)else
 bif aD op 26 then Bs c ty else
 bif aD op 28 then aD (g' c 0) 2 else
 bif aD op 29 then(bif aD d 0 then aD (c.length:Int) 0 else aD (c.length:Int) 1&&aD (g' c 0) d)else true
theorem ops{op:Int}(c:1<=op)(d:op<=30):op=1\/op=2\/op=3\/op=4\/op=5\/op=6\/op=7\/op=8\/op=9\/op=10\/op=11\/op=12\/op=13\/op=14\/op=15\/op=16\/op=17\/op=18\/op=19\/op=20\/op=21\/op=22\/op=23\/op=24\/op=25\/op=26\/op=27\/op=28\/op=29\/op=30:=by omega
section
variable(xs gs ts fs:LD)(nm:List UInt8)(o:Bool)(ps:LD)(r:Int)(bs:LD)
theorem aFM(c:LD)(f:cE c)(op ty to sym num:Int)(as1 is1:LD):
  fV Bd 1 [.l c,.i 0,.i op,.i ty,.i to,.i sym,.i num,.l as1,.l is1] (bif c.any (λe=>!(aD e.toI ty))then(0,[.b false])else(1,[])):=by
 refine HT Be (λj=>[.l c,.i (j:Int),.i op,.i ty,.i to,.i sym,.i num,.l as1,.l is1]) c (λe=>!(aD e.toI ty)) (λj d=>?_) ?_
 ·exact oT (aV d) (oT (aE d) (oE rfl rfl (nx d f [_] _)))
 ·exact aJ (aX _) (bH rfl)
set_option maxHeartbeats 4000000 in
theorem r3_fits_ok(op ty to sym num:Int)(as1 is1 d:LD)(g:cE d)(hg:d.length=as1.length)(f:d9 op ty to sym num as1.length is1.length)
  (m:op=22->aA sym fs.length=true)(s:op=23->aA sym xs.length=true):
  iQ E aW sites Gd [.l [.l xs,.l gs,.l ts,.l fs],oK nm o ps r bs,.l [.i op,.i ty,.i to,.i sym,.i num,.l as1,.l is1],.l d] (.b (LP xs fs r op ty sym num d)) []:=by
 refine bA Be (by rfl) rfl ?_;show Ev _ _ (Pm _) _;have w:∀{j:Nat},j<d.length->aA (j:Int) d.length=true:=λh=>aE h;have u:=f.a1;have v:=f.a2;have y:=f.a3;have nv:=f.av;rcases ops f.o1 f.o2 with rfl |rfl |rfl |rfl |rfl |rfl |rfl |rfl |rfl |rfl |rfl |rfl |rfl |rfl |rfl |rfl |rfl |rfl |rfl |rfl |rfl |rfl |rfl |rfl |rfl |rfl |rfl |rfl |rfl |rfl;case inr.inr.inr.inr.inr.inr.inr.inr.inr.inr.inr.inr.inr.inr.inr.inr.inr.inr.inr.inr.inr.inl=>
  repeat(first|refine aJ rfl ?_ |refine aC rfl ?_)
  exact aC (m rfl) (bK (UN d _ g) rfl (aC (aH (m rfl)) (bI rfl rfl)))
 case inr.inr.inr.inr.inr.inr.inr.inr.inr.inr.inr.inr.inr.inr.inr.inr.inr.inr.inr.inr.inr.inr.inl=>
  repeat(first|refine aJ rfl ?_ |refine aC rfl ?_)
  exact aC (s rfl) (bK (UN d _ g) rfl (aC (aH (s rfl)) (bI rfl rfl)))
 case inr.inr.inr.inr.inr.inr.inr.inr.inr.inr.inr.inr.inr.inr.inr.inr.inr.inr.inr.inr.inr.inr.inr.inr.inr.inl=>
  repeat(first|refine aJ rfl ?_ |refine aC rfl ?_)
  have h:=aFM d g 26 ty to sym num as1 is1;cases e:d.any (λt=>!(aD t.toI ty))with
  |true=>rw[e]at h;exact aP h (bG (bI (congrArg D.b (by show Bs d ty=false;unfold Bs;rw[e];rfl)) rfl))
  |false=>rw[e]at h;exact aP h (eO (bG (bI (congrArg D.b (by show Bs d ty=true;unfold Bs;rw[e];rfl)) rfl)))
 case inr.inr.inr.inr.inr.inr.inr.inr.inr.inr.inr.inr.inr.inr.inr.inr.inr.inr.inr.inr.inr.inr.inr.inr.inr.inr.inr.inr.inl=>
  repeat(first|refine aJ rfl ?_ |refine aC rfl ?_)
  cases e:aD r 0 with
  |true=>exact aC e (bI (congrArg D.b (by show(bif aD r 0 then _ else _)=_;rw[e];rfl)) rfl)
  |false=>
   refine aJ e (aC ?_ (bI (congrArg D.b (by show(bif aD r 0 then _ else _)=_;rw[e];rfl)) rfl));cases l:aD (d.length:Int) 1 with
   |false=>exact congrArg (λc=>(!(c&&true))||aA 0 d.length) l
   |true=>have:=(bT _ _).1 l;exact aH (w (j:=0) (by omega))
 all_goals(repeat(first|exact bI rfl rfl |refine aJ rfl ?_ |refine aC rfl ?_ |refine aC (aH (w (j:=0) (by omega))) ?_ |refine aC (aH (w (j:=1) (by omega))) ?_ |refine aC (aH (w (j:=2) (by omega))) ?_ |refine aC (w (j:=0) (by omega)) ?_))
end
end Go.Eng.Q

namespace Go.Eng.Q
open Go.Eng
theorem oL0{d:FD}{b:Bool}{l:Nat}{s f:LD}{e:LD->Sh}{ks:Tg (LD) (Nat×LD)}{o:Nat×LD}{a:LD}(c:fV d l s (0,f))(h:O2 d b (e f) o a):O2 d b (.loop l s (.cons e ks)) o a:=
 h.elim (λh=>.inl ⟨h.1,aP c (bG h.2)⟩) (λh=>.inr ⟨h.1,aP c (bG h.2)⟩)
def rH(xs fs:LD)(c:Int)(T:LD)(x:D):Bool:=LP xs fs c (vI x 0) (vI x 1) (vI x 3) (vI x 4) (kG T (eX x 5))
def KV(xs fs:LD)(c:Int)(ps bs:LD):Bool:=!(eD bs.length λb=>eD (gD bs b).els.length λk=>!rH xs fs c (bB ps bs) (gD (gD bs b).els k))
def Mc(n:Nat)(bs:LD):Prop:=∀b,b<bs.length->∀k,k<(gD bs b).els.length->∀j,j<(eX (gD (gD bs b).els k) 5).length->∃v:Nat,pP (gD (gD bs b).els k) j=v/\1<=v/\v<=n
theorem Vi{np:Nat}{bs:LD}(h:GI np bs=true):Mc (aM np bs bs.length) bs:=λb e k g j f=>by unfold GI at h;rw[Bool.and_eq_true,qG,qG]at h;have d:=bQ.1 (bQ.1 h.2 b e) k g;have c:=bQ.1 d j f;unfold aAG at c;rw[Bool.or_eq_false_iff,Bool.or_eq_false_iff]at c;have l:=qH c.1.1;have m:=qH c.1.2;exact⟨(pP (gD (gD bs b).els k) j).toNat,by omega,by omega,by omega⟩
def Bt(nx nf:Nat)(bs:LD):Prop:=∀b,b<bs.length->∀k,k<(gD bs b).els.length->(vI (gD (gD bs b).els k) 0=22->aA (vI (gD (gD bs b).els k) 3) nf=true)/\(vI (gD (gD bs b).els k) 0=23->aA (vI (gD (gD bs b).els k) 3) nx=true)
theorem Vj{xs gs ts fs:LD}(h:GF xs gs ts fs=true):∀j,j<fs.length->Bt xs.length fs.length (eX (gD fs j) 4):=λj f b e k g=>by
 unfold GF at h;rw[Bool.and_eq_true,qG,qG]at h;have d:=lG.1 (lG.1 (lG.1 h.2 j f) b e) k g;unfold ER at d;rw[Bool.or_eq_false_iff]at d;have m:=qH d.1;have key:∀n:Nat,uL xs.length gs.length ts.length fs.length (vI (gD (gD (eX (gD fs j) 4) b).els k) 0)=n->aA (vI (gD (gD (eX (gD fs j) 4) b).els k) 3) n=true:=λn l=>by have c:=d.2;rw[l]at c;unfold aA aQ;rw[c,jK (by omega)];rfl
 exact⟨λc=>key _ (by rw[c];rfl),λc=>key _ (by rw[c];rfl)⟩
theorem aAO{T as1:LD}{j:Nat}(h:j<as1.length):kG T (as1.take (j+1))=kG T (as1.take j)++[.i (gD T (gD as1 j).toI.toNat).toI]:=by
 have hg:gD as1 j=as1[j]:=by simp[gD,List.getD,h]
 unfold kG;rw[List.take_succ_eq_append_getElem h,List.map_append,hg];rfl
section
variable(xs gs ts fs:LD)(nm:List UInt8)(o:Bool)(ps:LD)(r:Int)(bs:LD)
theorem aEd(kk b:Int)(x:D)(T:LD)(has:fF (eX x 5))(e:∀j,j<(eX x 5).length->aA (pP x j) T.length=true):
  fV EN 4 [.i kk,.i b,.i 0,.l xs,.l gs,.l ts,.l fs,.s nm,.b o,.l ps,.i r,.l bs,.i (vI x 0),.i (vI x 1),.i (vI x 2),.i (vI x 3),.i (vI x 4),.l (eX x 5),.l (eX x 6),.l [],.l T]
   (0,[.i kk,.i b,.l xs,.l gs,.l ts,.l fs,.s nm,.b o,.l ps,.i r,.l bs,.i (vI x 0),.i (vI x 1),.i (vI x 2),.i (vI x 3),.i (vI x 4),.l (eX x 5),.l (eX x 6),.l (kG T (eX x 5)),.l T]):=by
 have ht:=has;unfold fF at ht;have d:kG T (eX x 5)=kG T ((eX x 5).take (eX x 5).length):=by rw[List.take_length]
 rw[d];refine cI EO (λj=>[.i kk,.i b,.i (j:Int),.l xs,.l gs,.l ts,.l fs,.s nm,.b o,.l ps,.i r,.l bs,.i (vI x 0),.i (vI x 1),.i (vI x 2),.i (vI x 3),.i (vI x 4),.l (eX x 5),.l (eX x 6),.l (kG T ((eX x 5).take j)),.l T]) (eX x 5).length (λj c=>?_) ?_
 ·have f:=nx c has.sane [.i kk,.i b] [.l xs,.l gs,.l ts,.l fs,.s nm,.b o,.l ps,.i r,.l bs,.i (vI x 0),.i (vI x 1),.i (vI x 2),.i (vI x 3),.i (vI x 4),.l (eX x 5),.l (eX x 6),.l (kG T ((eX x 5).take (j+1))),.l T];refine aC (aV c) (aC (aE c) (aC (e j c) (aC ?_ (aO (f.trans ?_)))))
  ·show jP ((kG T ((eX x 5).take j)).length+1) 8=true;rw[ID,List.length_take];exact fG (by omega) (by omega)
  ·rw[aAO c];rfl
 ·exact aJ (aX _) (bH rfl)
theorem aEe(m:fZ bs)(l:nS bs)(T:LD)(n:Nat)(s:T.length=n+1)(y:Mc n bs)(f:Bt xs.length fs.length bs)(b:Nat)(c:b<bs.length):
  fV EN 2 [.i 0,.i (b:Int),.l xs,.l gs,.l ts,.l fs,.s nm,.b o,.l ps,.i r,.l bs,.l T]
   (bif eD (gD bs b).els.length (λk=>!rH xs fs r T (gD (gD bs b).els k))then(0,[.b false,.i (b:Int),.l xs,.l gs,.l ts,.l fs,.s nm,.b o,.l ps,.i r,.l bs,.l T])else(1,[.i (b:Int),.l xs,.l gs,.l ts,.l fs,.s nm,.b o,.l ps,.i r,.l bs,.l T])):=by
 have e:=m.2 b c;refine yC EO (λk=>[.i (k:Int),.i (b:Int),.l xs,.l gs,.l ts,.l fs,.s nm,.b o,.l ps,.i r,.l bs,.l T]) (gD bs b).els.length (λk=>!rH xs fs r T (gD (gD bs b).els k)) (λk d=>?_) ?_
 ·have u:=l b c k d;have has:=(e.i k d).as1;have F:∀j,j<(eX (gD (gD bs b).els k) 5).length->aA (pP (gD (gD bs b).els k) j) T.length=true:=λj C=>by
   obtain⟨v,g,G,H⟩:=y b c k d j C;rw[g,s];exact aE (by omega)
  have h:=aEd xs gs ts fs nm o ps r bs (k:Int) (b:Int) (gD (gD bs b).els k) T has F;have t:iQ E aW sites Gd [.l [.l xs,.l gs,.l ts,.l fs],oK nm o ps r bs,.l [.i (vI (gD (gD bs b).els k) 0),.i (vI (gD (gD bs b).els k) 1),.i (vI (gD (gD bs b).els k) 2),.i (vI (gD (gD bs b).els k) 3),.i (vI (gD (gD bs b).els k) 4),.l (eX (gD (gD bs b).els k) 5),.l (eX (gD (gD bs b).els k) 6)],.l (kG T (eX (gD (gD bs b).els k) 5))] (.b (rH xs fs r T (gD (gD bs b).els k))) []:=
   r3_fits_ok xs gs ts fs nm o ps r bs _ _ _ _ _ _ _ _ (by unfold cE;rw[ID];exact has.sane) (ID _ _) u (f b c k d).1 (f b c k d).2
  exact oT (aE c) (oT (aV d) (oT (aE c) (oT (aE d) (oL0 h (oC t rfl (oE rfl rfl (nx d e.ins.sane [] _)))))))
 ·exact aC (aE c) (aJ (aX _) (bH rfl))
theorem B7(l:fF ps)(c:fZ bs)(f:nS bs)(g:Mc (aM ps.length bs bs.length) bs)(m:Bt xs.length fs.length bs):iQ E aW sites Jy [.l [.l xs,.l gs,.l ts,.l fs],oK nm o ps r bs] (.b (KV xs fs r ps bs)) []:=by
 refine bA EO (by rfl) rfl ?_;show Ev _ _ (UD _) _;unfold UD KV;have h:fV EN 0 [.i 0,.l xs,.l gs,.l ts,.l fs,.s nm,.b o,.l ps,.i r,.l bs,.l (bB ps bs)] (bif eD bs.length (λb=>eD (gD bs b).els.length λk=>!rH xs fs r (bB ps bs) (gD (gD bs b).els k))then(0,[.b false])else(1,[])):=by
  refine yC EO (λj=>[.i (j:Int),.l xs,.l gs,.l ts,.l fs,.s nm,.b o,.l ps,.i r,.l bs,.l (bB ps bs)]) bs.length _ (λj d=>?_) ?_
  ·exact oT (aV d) (oL (aEe xs gs ts fs nm o ps r bs c f (bB ps bs) _ (zD ps bs) g m j d) rfl (congrArg IX.again (nx d c.1.sane [] _).symm))
  ·exact aJ (aX _) (bH rfl)
 refine bK (OO nm o ps r bs l c) rfl ?_;cases e:eD bs.length (λb=>eD (gD bs b).els.length λk=>!rH xs fs r (bB ps bs) (gD (gD bs b).els k))with
 |true=>rw[e]at h;exact aP h (bG (bI rfl rfl))
 |false=>rw[e]at h;exact aP h (eO (bG (bI rfl rfl)))
end
end Go.Eng.Q

namespace Go.Eng.Q
open Go.Eng
theorem Md{n:Nat}{P Q:Nat->Bool}(h:∀j,j<n->P j=Q j):eD n P=eD n Q:=by rw[Bool.eq_iff_iff,<-Bool.not_eq_false,<-Bool.not_eq_false,bQ,bQ];exact not_congr ⟨λd j c=>(h j c)▸d j c,λd j c=>(h j c).symm▸d j c⟩
theorem aGB(l:LD)(p:D->Bool):l.any p=eD l.length λj=>p (gD l j):=by rw[Bool.eq_iff_iff,<-Bool.not_eq_false,<-Bool.not_eq_false,bQ,lG]
theorem aGC(T as1:LD)(t:Int):Bs (kG T as1) t=!(eD as1.length λj=>!(aD (gD T (gD as1 j).toI.toNat).toI t)):=by unfold Bs;rw[aGB,ID];congr 1;exact Md λj c=>by rw[OS c];rfl
theorem aFN(T as1 c:LD):nU (kG T as1) c=(aD (as1.length:Int) c.length&&!(eD as1.length λj=>!(aD (gD T (gD as1 j).toI.toNat).toI (gD c j).toI))):=by unfold nU;rw[ID];congr 2;exact Md λj d=>by rw[OS d];rfl
theorem aAP(T as1:LD)(t:Int)(has:cE as1)(d:∀j,j<as1.length->aA (gD as1 j).toI T.length=true):iQ E aW sites Ah [.l T,.l as1,.i t] (.b (Bs (kG T as1) t)) []:=by
 refine bA Kr (by rfl) rfl ?_;show Ev _ _ (Ki _) _;unfold Ki;have h:fV Kq 0 [.l T,.i 0,.l as1,.i t,.i (as1.length:Int)] (bif eD as1.length (λj=>!(aD (gD T (gD as1 j).toI.toNat).toI t))then(0,[.b false])else(1,[])):=by
  refine yC Kr (λj=>[.l T,.i (j:Int),.l as1,.i t,.i (as1.length:Int)]) as1.length _ (λj c=>?_) ?_
  ·exact oT (aV c) (oT (aE c) (oT (d j c) (oE rfl rfl (nx c has [_] _))))
  ·exact aJ (aX _) (bH rfl)
 rw[aGC];cases e:eD as1.length (λj=>!(aD (gD T (gD as1 j).toI.toNat).toI t))with
 |true=>rw[e]at h;exact aP h (bG (bI rfl rfl))
 |false=>rw[e]at h;exact aP h (eO (bG (bI rfl rfl)))
theorem S5(T as1 c:LD)(has:cE as1)(f:∀j,j<as1.length->aA (gD as1 j).toI T.length=true):iQ E aW sites vP [.l T,.l as1,.l c] (.b (nU (kG T as1) c)) []:=by
 refine bA Bi (by rfl) rfl ?_;show Ev _ _ (At _) _;unfold At;rw[aFN];cases el:aD (as1.length:Int) c.length with
 |false=>exact aC (congrArg Bool.not el) (bI rfl rfl)
 |true=>
  have l:as1.length=c.length:=by have:=(bT _ _).1 el;omega
  have h:fV Bh 0 [.l T,.i (as1.length:Int),.l c,.i 0,.l as1] (bif eD as1.length (λj=>!(aD (gD T (gD as1 j).toI.toNat).toI (gD c j).toI))then(0,[.b false])else(1,[])):=by
   refine yC Bi (λj=>[.l T,.i (as1.length:Int),.l c,.i (j:Int),.l as1]) as1.length _ (λj d=>?_) ?_
   ·have g:j<c.length:=by omega
    exact oT (aV d) (oT (aE d) (oT (f j d) (oT (aE g) (oE rfl rfl (nx d has [_,_,_] _)))))
   ·exact aJ (aX _) (bH rfl)
  refine aJ (congrArg Bool.not el) ?_;cases e:eD as1.length (λj=>!(aD (gD T (gD as1 j).toI.toNat).toI (gD c j).toI))with
  |true=>rw[e]at h;exact aP h (bG (bI rfl rfl))
  |false=>rw[e]at h;exact aP h (eO (bG (bI rfl rfl)))
theorem B8{d:FD}{c x:Bool}{m:Nat}{xs:LD}(h:iQ E aW sites m xs (.b x) []):rO E aW sites d (.ask (c&&true) (.call m xs 0 λr _=>.ret (.b (c&&D.toB r)) []) (.ret (.b (c&&D.toB (.i 0))) [])) (.ret (.b (c&&x)) []):=by
 cases c with
 |true=>exact aC rfl (bK h rfl (bI rfl rfl))
 |false=>exact aJ rfl (bI rfl rfl)
theorem aGD{l:LD}(h:l.length=1):∃a,l=[a]:=List.length_eq_one_iff.1 h
theorem aGE{l:LD}(h:l.length=2):∃a b,l=[a,b]:=by
 match l,h with
 |[a,b],_=>exact⟨a,b,rfl⟩
theorem aHE{l:LD}(h:l.length=3):∃a b c,l=[a,b,c]:=by
 match l,h with
 |[a,b,c],_=>exact⟨a,b,c,rfl⟩
theorem aHF{c:LD}(h:c.length=1)(t:Int):Bs c t=aD (g' c 0) t:=by obtain⟨a,rfl⟩:=aGD h;show(!((!(aD a.toI t))||false))=aD a.toI t;cases aD a.toI t<;>rfl
theorem aGF{c:LD}(h:c.length=2)(t:Int):Bs c t=(aD (g' c 0) t&&aD (g' c 1) t):=by obtain⟨a,b,rfl⟩:=aGE h;show(!((!(aD a.toI t))||((!(aD b.toI t))||false)))=(aD a.toI t&&aD b.toI t);cases aD a.toI t<;>cases aD b.toI t<;>rfl
theorem j8{c:LD}(h:c.length=1)(t:Int):nU c [.i t]=aD (g' c 0) t:=by obtain⟨a,rfl⟩:=aGD h;show(true&&!(false||!(aD a.toI t)))=aD a.toI t;cases aD a.toI t<;>rfl
theorem aEY{c:LD}(h:c.length=2)(t u:Int):nU c [.i t,.i u]=(aD (g' c 0) t&&aD (g' c 1) u):=by obtain⟨a,b,rfl⟩:=aGE h;show(true&&!((false||!(aD a.toI t))||!(aD b.toI u)))=(aD a.toI t&&aD b.toI u);cases aD a.toI t<;>cases aD b.toI u<;>rfl
theorem aGG{d:LD}(h:d.length=3)(t u v:Int):nU d [.i t,.i u,.i v]=((aD (g' d 0) t&&aD (g' d 1) u)&&aD (g' d 2) v):=by obtain⟨a,b,c,rfl⟩:=aHE h;show(true&&!(((false||!(aD a.toI t))||!(aD b.toI u))||!(aD c.toI v)))=((aD a.toI t&&aD b.toI u)&&aD c.toI v);cases aD a.toI t<;>cases aD b.toI u<;>cases aD c.toI v<;>rfl
theorem aEf{xs fs:LD}{f op ty sym num:Int}{c:LD}(d:4<=op)(e:op<=13)(h:c.length=2):LP xs fs f op ty sym num c=(aD ty 1&&Bs c 1):=by rw[aGF h 1,<-Bool.and_assoc];unfold LP;rw[gR (show op≠1 by omega),gR (show op≠2 by omega),gR (show op≠3 by omega),gR (show op≠18 by omega),jK d,jK e];rfl
theorem aEg{xs fs:LD}{e op ty sym num:Int}{c:LD}(d:op=14\/op=15)(h:c.length=2):LP xs fs e op ty sym num c=(aD ty 2&&Bs c 1):=by rw[aGF h,<-Bool.and_assoc];rcases d with rfl |rfl<;>rfl
section
variable(xs gs ts fs:LD)(nm:List UInt8)(o:Bool)(ps:LD)(r:Int)(bs:LD)
set_option maxHeartbeats 4000000 in
theorem wf_fitting_ok(T:LD)(op ty to sym num:Int)(as1 is1:LD)(has:cE as1)(h:∀j,j<as1.length->aA (gD as1 j).toI T.length=true)(d:d9 op ty to sym num as1.length is1.length)
  (s:op=22->aA sym fs.length=true)(u:op=23->aA sym xs.length=true):
  iQ E aW sites JV [.l [.l xs,.l gs,.l ts,.l fs],oK nm o ps r bs,.l T,.l [.i op,.i ty,.i to,.i sym,.i num,.l as1,.l is1]] (.b (LP xs fs r op ty sym num (kG T as1))) []:=by
 refine bA XQ (by rfl) rfl ?_;show Ev _ _ (XN _) _;have l:(kG T as1).length=as1.length:=ID T as1;have G:=d.a1;have H:=d.a2;have J:=d.a3;have nv:=d.av;have f:=λt=>aAP T as1 t has h;have c:=λy=>S5 T as1 y has h;rcases ops d.o1 d.o2 with rfl |rfl |rfl |rfl |rfl |rfl |rfl |rfl |rfl |rfl |rfl |rfl |rfl |rfl |rfl |rfl |rfl |rfl |rfl |rfl |rfl |rfl |rfl |rfl |rfl |rfl |rfl |rfl |rfl |rfl;all_goals(repeat(first|exact bI rfl rfl |refine aJ rfl ?_ |refine aC rfl ?_))
 all_goals(first|(rw[aEf (by omega) (by omega) (by omega)];exact B8 (f 1)) |(rw[aEg (by omega) (by omega)];exact B8 (f 1)) |skip)
 ·rw[show LP xs fs r 16 ty sym num (kG T as1)=(aD ty 2&&Bs (kG T as1) 2)from by rw[aHF (by omega)];rfl];exact B8 (f 2)
 ·rw[show LP xs fs r 17 ty sym num (kG T as1)=nU (kG T as1) [.i 2,.i ty,.i ty]from(aGG (by omega) 2 ty ty).symm];exact bK (c _) rfl (bI rfl rfl)
 ·rw[show LP xs fs r 19 ty sym num (kG T as1)=(aD ty 3&&nU (kG T as1) [.i 3,.i 1])from by rw[aEY (by omega),<-Bool.and_assoc];rfl];exact B8 (c _)
 ·rw[show LP xs fs r 20 ty sym num (kG T as1)=(aD ty 1&&nU (kG T as1) [.i 3])from by rw[j8 (by omega)];rfl];exact B8 (c _)
 ·rw[show LP xs fs r 21 ty sym num (kG T as1)=nU (kG T as1) [.i 3,.i 1]from(aEY (by omega) 3 1).symm];exact bK (c _) rfl (bI rfl rfl)
 ·refine aC (s rfl) ?_;rw[show LP xs fs r 22 ty sym num (kG T as1)=(aD ty (vI (gD fs sym.toNat) 3)&&nU (kG T as1) (eX (gD fs sym.toNat) 2))from Bool.and_comm _ _];exact B8 (c _)
 ·refine aC (u rfl) ?_;rw[show LP xs fs r 23 ty sym num (kG T as1)=(aD ty (vI (gD xs sym.toNat) 2)&&nU (kG T as1) (eX (gD xs sym.toNat) 1))from Bool.and_comm _ _];exact B8 (c _)
 ·rw[show LP xs fs r 24 ty sym num (kG T as1)=(aD ty 4&&nU (kG T as1) [.i 1])from by rw[j8 (by omega)];rfl];exact B8 (c _)
 ·have g:0<as1.length:=by have:=(nv rfl).1;omega
  have e:g' (kG T as1) 0=(gD T (gD as1 0).toI.toNat).toI:=by unfold g';rw[OS g];rfl
  rw[show LP xs fs r 25 ty sym num (kG T as1)=(aD (gD T (gD as1 0).toI.toNat).toI 4&&!(aD ty 3))from by rw[<-e];rfl];exact aC (aE (j:=0) g) (aC (h 0 g) (bI rfl rfl))
 ·exact bK (f ty) rfl (bI rfl rfl)
 ·rw[show LP xs fs r 28 ty sym num (kG T as1)=nU (kG T as1) [.i 2]from(j8 (by omega) 2).symm];exact bK (c _) rfl (bI rfl rfl)
 ·cases e:aD r 0 with
  |true=>
   rw[show LP xs fs r 29 ty sym num (kG T as1)=aD (as1.length:Int) 0 from by
    show(bif aD r 0 then aD ((kG T as1).length:Int) 0 else _)=_;rw[e,l];rfl]
   exact aC e (bI rfl rfl)
  |false=>
   rw[show LP xs fs r 29 ty sym num (kG T as1)=nU (kG T as1) [.i r]from by
    show(bif aD r 0 then _ else aD ((kG T as1).length:Int) 1&&aD (g' (kG T as1) 0) r)=_;rw[e,cond_false];have C:=d.ar rfl;by_cases m:as1.length=1
    ·rw[j8 (by omega),l,m];rfl
    ·have F:as1.length=0:=by omega
     have v:kG T as1=[]:=List.length_eq_zero_iff.1 (by omega);rw[v];rfl]
   exact aJ e (bK (c _) rfl (bI rfl rfl))
theorem aFO(f:fZ bs)(b:Nat)(h:b<bs.length)(q:LD)(s:q.length<=100000+b*10000):
  fV KF 2 [.i (b:Int),.l bs,.i ((gD bs b).els.length:Int),.l (gD bs b).els,.i (bs.length:Int),.i 0,.l q] (0,[.i (b:Int),.l bs,.i (bs.length:Int),.l (CK q (gD bs b).els)]):=by
 have d:=(f.2 b h).ins;have m:=f.1;have g:=d.sane;unfold fF at d m;refine GC KG (λj(q:LD)=>[.i (b:Int),.l bs,.i ((gD bs b).els.length:Int),.l (gD bs b).els,.i (bs.length:Int),.i (j:Int),.l q]) (gD bs b).els (λq x=>bif eJ x then q++[.i (vI x 1)]else q) (λq=>(0,[.i (b:Int),.l bs,.i (bs.length:Int),.l q])) (λj p=>p.length<=q.length+j) (λj p c r=>⟨?_,?_⟩) (λp r=>?_) (s0:=q) (Nat.le_refl _)
 ·cases eJ (gD (gD bs b).els j)<;>simp<;>omega
 ·refine aC (aV c) (aC (aE c) ?_);cases e:eJ (gD (gD bs b).els j)with
  |true=>
   have l:p.length+1<=1000000000:=by have:=Nat.mul_le_mul (show b<=10000 by omega) (Nat.le_refl 10000);omega
   exact aC e (aC (fG l (by omega)) (aO (nx c g [_,_,_,_,_] _)))
  |false=>exact aJ e (aO (nx c g [_,_,_,_,_] _))
 ·exact aJ (aX _) (bH rfl)
theorem Eu(d:fF ps)(e:fZ bs):iQ E aW sites XL [oK nm o ps r bs] (.l (bB ps bs)) []:=by
 refine bA KG (by rfl) rfl ?_;show Ev _ _ (TR _) _;unfold TR;unfold fF at d;have g:fV KF 0 [.i 0,.l bs,.i (bs.length:Int),.l ([.i 0]++ps)] (0,[.l (bB ps bs)]):=by
  refine GC KG (λj(q:LD)=>[.i (j:Int),.l bs,.i (bs.length:Int),.l q]) bs (λq b=>CK q b.els) (λq=>(0,[.l q])) (λj p=>p.length<=100000+j*10000) (λj p c d=>⟨?_,?_⟩) (λp d=>?_) (s0:=[.i 0]++ps) (by simp;omega)
  ·have f:=(e.2 j c).ins;unfold fF at f;rw[IB,<-YD];have:=YB (gD bs j).els (gD bs j).els.length;omega
  ·exact aC (aV c) (aC (aE c) (aP (aFO bs e j c p d) (bG (aO (nx c e.1.sane [] _)))))
  ·exact aJ (aX _) (bH rfl)
 refine aC ?_ (aP g (bG (bI rfl rfl)));show jP (1+ps.length) 8=true;exact fG (by omega) (by omega)
theorem aEh(l:fZ bs)(h:nS bs)(T:LD)(n:Nat)(m:T.length=n+1)(t:Mc n bs)(f:Bt xs.length fs.length bs)(b:Nat)(d:b<bs.length):
  fV KC 2 [.i (b:Int),.l bs,.i ((gD bs b).els.length:Int),.l (gD bs b).els,.i (bs.length:Int),.i 0,.l xs,.l gs,.l ts,.l fs,.s nm,.b o,.l ps,.i r,.l bs,.l T]
   (bif eD (gD bs b).els.length (λk=>!rH xs fs r T (gD (gD bs b).els k))then(0,[.i (b:Int),.l bs,.b false,.i (bs.length:Int),.l xs,.l gs,.l ts,.l fs,.s nm,.b o,.l ps,.i r,.l bs,.l T])else(1,[.i (b:Int),.l bs,.i (bs.length:Int),.l xs,.l gs,.l ts,.l fs,.s nm,.b o,.l ps,.i r,.l bs,.l T])):=by
 have e:=l.2 b d;refine yC KD (λk=>[.i (b:Int),.l bs,.i ((gD bs b).els.length:Int),.l (gD bs b).els,.i (bs.length:Int),.i (k:Int),.l xs,.l gs,.l ts,.l fs,.s nm,.b o,.l ps,.i r,.l bs,.l T]) (gD bs b).els.length (λk=>!rH xs fs r T (gD (gD bs b).els k)) (λk c=>?_) ?_
 ·have y:∀j,j<(eX (gD (gD bs b).els k) 5).length->aA (pP (gD (gD bs b).els k) j) T.length=true:=λj u=>by
   obtain⟨v,g,C,F⟩:=t b d k c j u;rw[g,m];exact aE (by omega)
  have s:iQ E aW sites JV [.l [.l xs,.l gs,.l ts,.l fs],oK nm o ps r bs,.l T,.l [.i (vI (gD (gD bs b).els k) 0),.i (vI (gD (gD bs b).els k) 1),.i (vI (gD (gD bs b).els k) 2),.i (vI (gD (gD bs b).els k) 3),.i (vI (gD (gD bs b).els k) 4),.l (eX (gD (gD bs b).els k) 5),.l (eX (gD (gD bs b).els k) 6)]] (.b (rH xs fs r T (gD (gD bs b).els k))) []:=
   wf_fitting_ok xs gs ts fs nm o ps r bs T _ _ _ _ _ _ _ (e.i k c).as1.sane y (h b d k c) (f b d k c).1 (f b d k c).2
  exact oT (aV c) (oT (aE c) (oC s rfl (oE rfl rfl (nx c e.ins.sane [_,_,_,_,_] _))))
 ·exact aJ (aX _) (bH rfl)
theorem B9(l:fF ps)(d:fZ bs)(f:nS bs)(g:Mc (aM ps.length bs bs.length) bs)(m:Bt xs.length fs.length bs):iQ E aW sites Kc [.l [.l xs,.l gs,.l ts,.l fs],oK nm o ps r bs] (.b (KV xs fs r ps bs)) []:=by
 refine bA KD (by rfl) rfl ?_;show Ev _ _ (TJ _) _;unfold TJ KV;have h:fV KC 0 [.i 0,.l bs,.i (bs.length:Int),.l xs,.l gs,.l ts,.l fs,.s nm,.b o,.l ps,.i r,.l bs,.l (bB ps bs)] (bif eD bs.length (λb=>eD (gD bs b).els.length λk=>!rH xs fs r (bB ps bs) (gD (gD bs b).els k))then(0,[.b false])else(1,[])):=by
  refine yC KD (λj=>[.i (j:Int),.l bs,.i (bs.length:Int),.l xs,.l gs,.l ts,.l fs,.s nm,.b o,.l ps,.i r,.l bs,.l (bB ps bs)]) bs.length _ (λj c=>?_) ?_
  ·exact oT (aV c) (oT (aE c) (oL (aEh xs gs ts fs nm o ps r bs d f (bB ps bs) _ (zD ps bs) g m j c) rfl (congrArg IX.again (nx c d.1.sane [] _).symm)))
  ·exact aJ (aX _) (bH rfl)
 refine bK (Eu nm o ps r bs l d) rfl ?_;cases e:eD bs.length (λb=>eD (gD bs b).els.length λk=>!rH xs fs r (bB ps bs) (gD (gD bs b).els k))with
 |true=>rw[e]at h;exact aP h (bG (bI rfl rfl))
 |false=>rw[e]at h;exact aP h (eO (bG (bI rfl rfl)))
end
end Go.Eng.Q

namespace Go.Eng.Q
open Go.Eng
structure RX(xs gs ts fs:LD):Prop where
 n:xs.length+gs.length+ts.length+fs.length<=10000
 x:∀j,j<xs.length->fF (eX (gD xs j) 1)
 g:∀j,j<gs.length->fF (eX (gD gs j) 1)
 t:∀j,j<ts.length->fF (eX (gD ts j) 1)
 f:∀j,j<fs.length->Ln (gD fs j)
theorem RX.sane{xs gs ts fs:LD}(h:RX xs gs ts fs):Zi xs gs ts fs:=by have d:=h.n;exact⟨by unfold cE;omega,by unfold cE;omega,by unfold cE;omega,by unfold cE;omega,λj c=>(h.x j c).sane,λj c=>(h.t j c).sane,λj c=>(h.f j c).sane⟩
abbrev fR(f:D):LD:=eX f 4
abbrev npF(f:D):Nat:=(eX f 2).length
noncomputable def flB(f:D):Bool:=!mL (fR f)
noncomputable def usB(f:D):Bool:=!GI (npF f) (fR f)
noncomputable def tyB(xs fs:LD)(f:D):Bool:=!KV xs fs (vI f 3) (eX f 2) (fR f)
noncomputable def Me(xs gs ts fs:LD):Int:=
 bif !jD xs gs ts fs then 2 else bif !mC xs fs then 1 else bif !OI xs gs ts fs then 3 else bif !GF xs gs ts fs then 4 else
 bif fs.any flB then 5 else bif fs.any usB then 6 else bif fs.any (tyB xs fs)then 7 else 0
structure OkM(xs gs ts fs:LD):Prop where
 sm:jD xs gs ts fs=true
 fm:mC xs fs=true
 nm:OI xs gs ts fs=true
 sy:GF xs gs ts fs=true
 fl:∀j,j<fs.length->mL (fR (gD fs j))=true
 us:∀j,j<fs.length->GI (npF (gD fs j)) (fR (gD fs j))=true
 ty:∀j,j<fs.length->KV xs fs (vI (gD fs j) 3) (eX (gD fs j) 2) (fR (gD fs j))=true
theorem aCV{xs gs ts fs:LD}(h:Me xs gs ts fs=0):OkM xs gs ts fs:=by
 unfold Me at h;cases c:jD xs gs ts fs with
 |false=>rw[c]at h;cases h
 |true=>
 cases d:mC xs fs with
 |false=>rw[c,d]at h;cases h
 |true=>
 cases e:OI xs gs ts fs with
 |false=>rw[c,d,e]at h;cases h
 |true=>
 cases f:GF xs gs ts fs with
 |false=>rw[c,d,e,f]at h;cases h
 |true=>
 cases l:fs.any flB with
 |true=>rw[c,d,e,f,l]at h;cases h
 |false=>
 cases m:fs.any usB with
 |true=>rw[c,d,e,f,l,m]at h;cases h
 |false=>
 cases r:fs.any (tyB xs fs)with
 |true=>rw[c,d,e,f,l,m,r]at h;cases h
 |false=>
 have nn:∀{b:Bool},(!b)=false->b=true:=λ{b}h=>by cases b with|true=>rfl |false=>cases h
 exact⟨c,d,e,f,λj g=>nn (lG.1 l j g),λj g=>nn (lG.1 m j g),λj g=>nn (lG.1 r j g)⟩
theorem YF{xs gs ts fs:LD}(h:jD xs gs ts fs=true):∀j,j<fs.length->0<(fR (gD fs j)).length:=λj d=>by unfold jD at h;rw[Bool.and_eq_true,Bool.and_eq_true,Bool.and_eq_true,Bool.and_eq_true]at h;have c:=lG.1 (qG.1 h.2.2.2.2) j d;unfold EQ at c;rw[Bool.or_eq_false_iff,Bool.or_eq_false_iff,Bool.or_eq_false_iff]at c;have e:¬(((eX (gD fs j) 4).length:Int)<1):=qH c.1.1.2;show 0<(eX (gD fs j) 4).length;omega
section
variable(xs gs ts fs:LD)(hM:RX xs gs ts fs)
include hM
theorem aEi(d:∀j,j<fs.length->nS (fR (gD fs j))):fV EH 0 [.i 0,.l xs,.l gs,.l ts,.l fs] (bif fs.any flB then(0,[.i 5,.l xs,.l gs,.l ts,.l fs])else(1,[.l xs,.l gs,.l ts,.l fs])):=by
 refine HT EI (λj=>[.i (j:Int),.l xs,.l gs,.l ts,.l fs]) fs flB (λj c=>?_) ?_
 ·exact oT (aV c) (oT (aE c) (oC (A0 _ _ _ _ _ (hM.f j c).bbs (d j c)) rfl (oE rfl rfl (nx c hM.sane.hf [] _))))
 ·exact aJ (aX _) (bH rfl)
theorem aEj(d:∀j,j<fs.length->nS (fR (gD fs j)))(e:∀j,j<fs.length->mL (fR (gD fs j))=true):fV EH 2 [.i 0,.l xs,.l gs,.l ts,.l fs] (bif fs.any usB then(0,[.i 6,.l xs,.l gs,.l ts,.l fs])else(1,[.l xs,.l gs,.l ts,.l fs])):=by
 refine HT EI (λj=>[.i (j:Int),.l xs,.l gs,.l ts,.l fs]) fs usB (λj c=>?_) ?_
 ·exact oT (aV c) (oT (aE c) (oC (R8 _ _ _ _ _ (hM.f j c).ps (hM.f j c).bbs (d j c) (e j c)) rfl (oE rfl rfl (nx c hM.sane.hf [] _))))
 ·exact aJ (aX _) (bH rfl)
theorem aEk(d:∀j,j<fs.length->nS (fR (gD fs j)))(e:GF xs gs ts fs=true)(f:∀j,j<fs.length->GI (npF (gD fs j)) (fR (gD fs j))=true):fV EH 4 [.i 0,.l xs,.l gs,.l ts,.l fs] (bif fs.any (tyB xs fs)then(0,[.i 7])else(1,[])):=by
 refine HT EI (λj=>[.i (j:Int),.l xs,.l gs,.l ts,.l fs]) fs (tyB xs fs) (λj c=>?_) ?_
 ·exact oT (aV c) (oT (aE c) (oC (B7 xs gs ts fs _ _ _ _ _ (hM.f j c).ps (hM.f j c).bbs (d j c) (Vi (f j c)) (Vj e j c)) rfl (oE rfl rfl (nx c hM.sane.hf [] _))))
 ·exact aJ (aX _) (bH rfl)
theorem C0:iQ E aW sites Jr [.l [.l xs,.l gs,.l ts,.l fs]] (.i (Me xs gs ts fs)) []:=by
 refine bA EI (by rfl) rfl ?_;show Ev _ _ (TO _) _;unfold TO Me;have nn:∀{b:Bool},(!b)=false->b=true:=λ{b}h=>by cases b with|true=>rfl |false=>cases h
 have F:=hM.n;refine bK (Us xs gs ts fs) rfl ?_;cases y:jD xs gs ts fs with
 |false=>exact aC rfl (bI rfl rfl)
 |true=>
 refine aJ rfl (bK (Zj xs gs ts fs hM.sane) rfl ?_);cases s:mC xs fs with
 |false=>exact aC rfl (bI rfl rfl)
 |true=>
 refine aJ rfl (bK (Zo xs gs ts fs (by omega)) rfl ?_);cases C:OI xs gs ts fs with
 |false=>exact aC rfl (bI rfl rfl)
 |true=>
 refine aJ rfl (bK (N8 xs gs ts fs hM.sane) rfl ?_);cases t:GF xs gs ts fs with
 |false=>exact aC rfl (bI rfl rfl)
 |true=>
 have l:=Bq s;have c:=aEi xs gs ts fs hM l;refine aJ rfl ?_;cases f:fs.any flB with
 |true=>rw[f]at c;exact aP c (bG (bI rfl rfl))
 |false=>
 rw[f]at c;have u:=λj m=>nn (lG.1 f j m);have d:=aEj xs gs ts fs hM l u;refine aP c (eO (bG ?_));cases g:fs.any usB with
 |true=>rw[g]at d;exact aP d (bG (bI rfl rfl))
 |false=>
 rw[g]at d;have v:=λj m=>nn (lG.1 g j m);have e:=aEk xs gs ts fs hM l t v;refine aP d (eO (bG ?_));cases r:fs.any (tyB xs fs)with
 |true=>rw[r]at e;exact aP e (bG (bI rfl rfl))
 |false=>rw[r]at e;exact aP e (eO (bG (bI rfl rfl)))
theorem n8(d:∀j,j<fs.length->nS (fR (gD fs j)))(e:∀j,j<fs.length->0<(fR (gD fs j)).length):fV EL 1 [.i (fs.length:Int),.i 0,.l fs,.l xs,.l gs,.l ts,.l fs] (bif fs.any flB then(0,[.i 5,.l xs,.l gs,.l ts,.l fs])else(1,[.l xs,.l gs,.l ts,.l fs])):=by
 refine HT EM (λj=>[.i (fs.length:Int),.i (j:Int),.l fs,.l xs,.l gs,.l ts,.l fs]) fs flB (λj c=>?_) ?_
 ·exact oT (aV c) (oT (aE c) (oC (A2 _ _ _ _ _ (hM.f j c).bbs (d j c) (e j c)) rfl (oE rfl rfl (nx c hM.sane.hf [_] _))))
 ·exact aJ (aX _) (bH rfl)
theorem n9(d:∀j,j<fs.length->nS (fR (gD fs j)))(e:∀j,j<fs.length->0<(fR (gD fs j)).length)(f:∀j,j<fs.length->mL (fR (gD fs j))=true):fV EL 3 [.i 0,.l fs,.i (fs.length:Int),.l xs,.l gs,.l ts,.l fs] (bif fs.any usB then(0,[.i 6,.l xs,.l gs,.l ts,.l fs])else(1,[.l xs,.l gs,.l ts,.l fs])):=by
 refine HT EM (λj=>[.i (j:Int),.l fs,.i (fs.length:Int),.l xs,.l gs,.l ts,.l fs]) fs usB (λj c=>?_) ?_
 ·exact oT (aV c) (oT (aE c) (oC (S4 _ _ _ _ _ (hM.f j c).ps (hM.f j c).bbs (e j c) (d j c) (f j c)) rfl (oE rfl rfl (nx c hM.sane.hf [] _))))
 ·exact aJ (aX _) (bH rfl)
theorem o7(d:∀j,j<fs.length->nS (fR (gD fs j)))(e:GF xs gs ts fs=true)(f:∀j,j<fs.length->GI (npF (gD fs j)) (fR (gD fs j))=true):fV EL 5 [.i (fs.length:Int),.l fs,.i 0,.l xs,.l gs,.l ts,.l fs] (bif fs.any (tyB xs fs)then(0,[.i 7])else(1,[])):=by
 refine HT EM (λj=>[.i (fs.length:Int),.l fs,.i (j:Int),.l xs,.l gs,.l ts,.l fs]) fs (tyB xs fs) (λj c=>?_) ?_
 ·exact oT (aV c) (oT (aE c) (oC (B9 xs gs ts fs _ _ _ _ _ (hM.f j c).ps (hM.f j c).bbs (d j c) (Vi (f j c)) (Vj e j c)) rfl (oE rfl rfl (nx c hM.sane.hf [_,_] _))))
 ·exact aJ (aX _) (bH rfl)
theorem NV:iQ E aW sites Js [.l [.l xs,.l gs,.l ts,.l fs]] (.i (Me xs gs ts fs)) []:=by
 refine bA EM (by rfl) rfl ?_;show Ev _ _ (TU _) _;unfold TU Me;have nn:∀{b:Bool},(!b)=false->b=true:=λ{b}h=>by cases b with|true=>rfl |false=>cases h
 refine bK (Zh xs gs ts fs) rfl ?_;cases u:jD xs gs ts fs with
 |false=>exact aC rfl (bI rfl rfl)
 |true=>
 refine aJ rfl (bK (Uu xs gs ts fs hM.sane) rfl ?_);cases r:mC xs fs with
 |false=>exact aC rfl (bI rfl rfl)
 |true=>
 refine aJ rfl (bK (Zp xs gs ts fs hM.n) rfl ?_);cases F:OI xs gs ts fs with
 |false=>exact aC rfl (bI rfl rfl)
 |true=>
 refine aJ rfl (bK (Zl xs gs ts fs hM.sane r) rfl ?_);cases v:GF xs gs ts fs with
 |false=>exact aC rfl (bI rfl rfl)
 |true=>
 have l:=Bq r;have t:=YF u;have c:=n8 xs gs ts fs hM l t;refine aJ rfl ?_;cases f:fs.any flB with
 |true=>rw[f]at c;exact aP c (bG (bI rfl rfl))
 |false=>
 rw[f]at c;have y:=λj m=>nn (lG.1 f j m);have d:=n9 xs gs ts fs hM l t y;refine aP c (eO (bG ?_));cases g:fs.any usB with
 |true=>rw[g]at d;exact aP d (bG (bI rfl rfl))
 |false=>
 rw[g]at d;have C:=λj m=>nn (lG.1 g j m);have e:=o7 xs gs ts fs hM l v C;refine aP d (eO (bG ?_));cases s:fs.any (tyB xs fs)with
 |true=>rw[s]at e;exact aP e (bG (bI rfl rfl))
 |false=>rw[s]at e;exact aP e (eO (bG (bI rfl rfl)))
omit hM in
theorem o8(h:OkM xs gs ts fs):Me xs gs ts fs=0:=by
 unfold Me;have d:fs.any flB=false:=lG.2 λj c=>by unfold flB;rw[h.fl j c];rfl
 have e:fs.any usB=false:=lG.2 λj c=>by unfold usB;rw[h.us j c];rfl
 have f:fs.any (tyB xs fs)=false:=lG.2 λj c=>by unfold tyB;rw[h.ty j c];rfl
 rw[h.sm,h.fm,h.nm,h.sy,d,e,f];rfl
theorem C1(h:OkM xs gs ts fs):iQ E aW sites Js [.l [.l xs,.l gs,.l ts,.l fs]] (.i 0) []:=by have:=NV xs gs ts fs hM;rw[o8 xs gs ts fs h]at this;exact this
end
end Go.Eng.Q

namespace Go.Eng.Q
open Go.Eng Go.Proofs
theorem EA(x:D)(l:LD):∃st,eY E 0 (Tu Jn 53).ps [.l (x::l)] {sl:=.nil,bx:=[],ar:=[],ctr:=1}=some st/\∀g,Rs g st (st.sl.get 0)=g st:=
 ⟨(eY E 0 (Tu Jn 53).ps [.l (x::l)] {sl:=.nil,bx:=[],ar:=[],ctr:=1}).getD uV,by kernel_rfl,λg=>by kernel_rfl⟩
theorem ED:iQ E aW sites kQ [.l []] (.l []) []:=
 ⟨1,λk n L e f d=>by obtain⟨k,rfl⟩:∃c,k=c+1:=⟨k-1,by omega⟩;obtain⟨n,rfl⟩:∃c,n=c+1:=⟨n-1,by omega⟩;obtain⟨L,rfl⟩:∃c,L=c+1:=⟨L-1,by omega⟩;exact(show qN (tJ E (k+1) sites (L+1)) aW (Dq E) (k+1) (n+1) kQ [.l []]=some (.l [],[])by kernel_rfl)⟩
theorem EK(l:LD)(h:jP l.length 8=true):iQ E aW sites kQ [.l l] (.l l) []:=by
 cases l with
 |nil=>exact ED
 |cons x l=>
  refine aDR KE rfl rfl rfl (λst f g=>?_) ?_
  ·obtain⟨st',c,d⟩:=EA x l;have e:st'=st:=Option.some.inj (c.symm.trans f);subst e;exact d g
  ·refine aJ rfl (aJ rfl (aC ?_ (bI rfl rfl)));show jP (0+(x::l).length) 8=true;rw[Nat.zero_add];exact h
theorem BQ(x:D)(l:LD):∃st,eY E 0 (Tu Jn 54).ps [.l (x::l)] {sl:=.nil,bx:=[],ar:=[],ctr:=1}=some st/\∀g,Rs g st (st.sl.get 0)=g st:=
 ⟨(eY E 0 (Tu Jn 54).ps [.l (x::l)] {sl:=.nil,bx:=[],ar:=[],ctr:=1}).getD uV,by kernel_rfl,λg=>by kernel_rfl⟩
theorem CA:iQ E aW sites hJ [.l []] (.l []) []:=
 ⟨1,λk n L e f d=>by obtain⟨k,rfl⟩:∃c,k=c+1:=⟨k-1,by omega⟩;obtain⟨n,rfl⟩:∃c,n=c+1:=⟨n-1,by omega⟩;obtain⟨L,rfl⟩:∃c,L=c+1:=⟨L-1,by omega⟩;exact(show qN (tJ E (k+1) sites (L+1)) aW (Dq E) (k+1) (n+1) hJ [.l []]=some (.l [],[])by kernel_rfl)⟩
theorem CP(l:LD)(h:jP l.length 8=true):iQ E aW sites hJ [.l l] (.l l) []:=by
 cases l with
 |nil=>exact CA
 |cons x l=>
  refine aDR DY rfl rfl rfl (λst f g=>?_) ?_
  ·obtain⟨st',c,d⟩:=BQ x l;have e:st'=st:=Option.some.inj (c.symm.trans f);subst e;exact d g
  ·refine aJ rfl (aJ rfl (aC ?_ (bI rfl rfl)));show jP (0+(x::l).length) 8=true;rw[Nat.zero_add];exact h
theorem tF(x:D)(l:LD):∃st,eY E 0 (Tu Jn 88).ps [.l (x::l)] {sl:=.nil,bx:=[],ar:=[],ctr:=1}=some st/\∀g,Rs g st (st.sl.get 0)=g st:=
 ⟨(eY E 0 (Tu Jn 88).ps [.l (x::l)] {sl:=.nil,bx:=[],ar:=[],ctr:=1}).getD uV,by kernel_rfl,λg=>by kernel_rfl⟩
theorem tG:iQ E aW sites bP [.l []] (.l []) []:=
 ⟨1,λk n L e f d=>by obtain⟨k,rfl⟩:∃c,k=c+1:=⟨k-1,by omega⟩;obtain⟨n,rfl⟩:∃c,n=c+1:=⟨n-1,by omega⟩;obtain⟨L,rfl⟩:∃c,L=c+1:=⟨L-1,by omega⟩;exact(show qN (tJ E (k+1) sites (L+1)) aW (Dq E) (k+1) (n+1) bP [.l []]=some (.l [],[])by kernel_rfl)⟩
theorem mD(l:LD)(h:jP l.length 16=true):iQ E aW sites bP [.l l] (.l l) []:=by
 cases l with
 |nil=>exact tG
 |cons x l=>
  refine aDR uX rfl rfl rfl (λst f g=>?_) ?_
  ·obtain⟨st',c,d⟩:=tF x l;have e:st'=st:=Option.some.inj (c.symm.trans f);subst e;exact d g
  ·refine aJ rfl (aJ rfl (aC ?_ (bI rfl rfl)));show jP (0+(x::l).length) 16=true;rw[Nat.zero_add];exact h
def aCW:List (Nat×Nat):=[(53,8),(54,8),(88,16)]
def S6:Cl:=λm xs=>
 match look aCW m with
 |some w=>(match xs with
  |[.l l]=>bif jP l.length w then some (.l l,[])else none
  |_=>none)
 |none=>none
theorem aAQ:∀m xs r,S6 m xs=some r->iQ E aW sites m xs r.1 r.2:=λm xs r h=>by
 unfold S6 at h;split at h
 ·rename_i w c;split at h
  ·rename_i l;cases d:jP l.length w with
   |false=>rw[d]at h;simp at h
   |true=>
    rw[d]at h;simp only[cond_true,Option.some.injEq]at h;subst h;simp only[aCW,look]at c;cases e:Nat.beq 53 m with
    |true=>rw[e]at c;simp only[cond_true,Option.some.injEq]at c;subst c;rw[<-Nat.eq_of_beq_eq_true e];exact EK l d
    |false=>
    rw[e]at c;simp only[cond_false]at c;cases f:Nat.beq 54 m with
    |true=>rw[f]at c;simp only[cond_true,Option.some.injEq]at c;subst c;rw[<-Nat.eq_of_beq_eq_true f];exact CP l d
    |false=>
    rw[f]at c;simp only[cond_false]at c;cases g:Nat.beq 88 m with
    |true=>rw[g]at c;simp only[cond_true,Option.some.injEq]at c;subst c;rw[<-Nat.eq_of_beq_eq_true g];exact mD l d
    |false=>
    rw[g]at c;simp only[cond_false]at c;simp at c
  ·simp at h
 ·simp at h
end Go.Eng.Q

namespace Go.Eng
theorem IE(a b:SP):tN a b=true<->a.1.val<b.1.val\/a.1.val=b.1.val/\a.2.val<b.2.val:=by
 unfold tN;cases e:Nat.beq a.1.val b.1.val with
 |true=>have:=Nat.eq_of_beq_eq_true e;simp;omega
 |false=>
  have:a.1.val≠b.1.val:=λh=>by rw[h,Nat.beq_refl]at e;cases e
  simp;omega
theorem aCX{a b:SP}(c:a.1.val=b.1.val)(d:a.2.val=b.2.val):a=b:=Prod.ext (Fin.ext c) (Fin.ext d)
theorem EV(a:SP):tN a a=false:=by
 cases e:tN a a with
 |false=>rfl
 |true=>rw[IE]at e;omega
theorem KW{a b c:SP}(d:tN a b=true)(e:tN b c=true):tN a c=true:=by rw[IE]at*;omega
theorem OT{a b:SP}:tN a b=false<->b=a\/tN b a=true:=by
 rw[<-Bool.not_eq_true,IE,IE];constructor
 ·intro h;by_cases e:b.1.val=a.1.val/\b.2.val=a.2.val
  ·exact .inl (aCX e.1 e.2)
  ·right;omega
 ·rintro(rfl |h)<;>omega
def IF(l:List SP):Prop:=l.Pairwise λa b=>tN a b=true
theorem IF.nodup{l:List SP}(h:IF l):l.Nodup:=List.Pairwise.imp (λ{a b}c e=>by subst e;rw[EV]at c;cases c) h
theorem Mf:∀{l m:List SP},IF l->IF m->(∀x,x∈l<->x∈m)->l=m
 |[],[],_,_,_=>rfl
 |[],d::m,_,_,h=>by have:=(h d).2 (by simp);simp at this
 |x::l,[],_,_,h=>by have:=(h x).1 (by simp);simp at this
 |x::l,d::m,t,v,h=>by
  obtain⟨g,u⟩:=List.pairwise_cons.1 t;obtain⟨j,y⟩:=List.pairwise_cons.1 v;have C:x=d:=by
   rcases List.mem_cons.1 ((h x).1 (by simp))with e |e
   ·exact e
   ·rcases List.mem_cons.1 ((h d).2 (by simp))with f |f
    ·exact f.symm
    ·have r:=j x e;have s:=g d f;have:=KW r s;rw[EV]at this;cases this
  subst C;have nx:x∉l:=λhx=>by have:=g x hx;rw[EV]at this;cases this
  have F:x∉m:=λhx=>by have:=j x hx;rw[EV]at this;cases this
  congr 1;refine Mf u y λz=>?_;constructor
  ·intro c;rcases List.mem_cons.1 ((h z).1 (List.mem_cons_of_mem _ c))with e |e
   ·subst e;exact absurd c nx
   ·exact e
  ·intro c;rcases List.mem_cons.1 ((h z).2 (List.mem_cons_of_mem _ c))with e |e
   ·subst e;exact absurd c F
   ·exact e
theorem aCY{l m:List SP}(f:l.Nodup)(g:∀x,x∈l->x∈m)(s:m.length<=l.length):∀x,x∈m->x∈l:=λx hx=>by
 by_cases h:x∈l
 ·exact h
 ·have c:(x::l).Nodup:=List.nodup_cons.2 ⟨h,f⟩;have d:(x::l).length<=m.length:=c.length_le_of_subset λr j=>by
   rcases List.mem_cons.1 j with e |e
   ·rw[e];exact hx
   ·exact g r e
  simp at d;omega
def qO(s:List SP):List SP:=match s with
 |[]=>[]
 |[x]=>[x]
 |_=>aBr s
theorem Qo(s:List SP):(qO s).Perm s:=by
 unfold qO;split
 ·exact List.Perm.refl _
 ·exact List.Perm.refl _
 ·exact List.mergeSort_perm _ _
theorem BE(s:List SP):(qO s).length=s.length:=(Qo s).length_eq
theorem C3{s:List SP}{x:SP}:x∈qO s<->x∈s:=(Qo s).mem_iff
theorem C4(s:List SP):(qO s).Pairwise λa b=>tN b a=false:=by
 unfold qO;split
 ·exact List.Pairwise.nil
 ·exact List.pairwise_singleton _ _
 ·have h:=List.pairwise_mergeSort (le:=λx l=>!tN l x) (λa b c d f=>?_) (λa b=>?_) s
  ·exact h.imp λ{a b}j=>by simpa using j
  ·simp only[Bool.not_eq_true']at*;rw[OT]at*;rcases d with rfl |d
   ·exact f
   ·rcases f with rfl |f
    ·exact .inr d
    ·exact .inr (KW d f)
  ·cases e:tN b a with
   |false=>rfl
   |true=>
    cases g:tN a b with
    |false=>rfl
    |true=>have:=KW e g;rw[EV]at this;cases this
theorem aFP(a:SP):q7 (eS a)=some a:=by
 obtain⟨⟨x,hx⟩,⟨c,d⟩⟩:=a;have e:VL ((x:Nat):Int)=some ⟨x,hx⟩:=by unfold VL;rw[dif_pos ⟨by omega,by simpa using hx⟩];rfl
 have f:VL ((c:Nat):Int)=some ⟨c,d⟩:=by unfold VL;rw[dif_pos ⟨by omega,by simpa using d⟩];rfl
 show((VL ((x:Nat):Int)).bind λa=>(VL ((c:Nat):Int)).bind λb=>some (a,b))=_;rw[e,f];rfl
theorem j9:∀s:List SP,Cm (s.map eS)=some s
 |[]=>rfl
 |x::s=>by show((q7 (eS x)).bind λx=>(Cm (s.map eS)).bind λl=>some (x::l))=_;rw[aFP,j9 s];rfl
theorem k9(s:List SP):Wn (s.map eS) s=(qO s).map eS:=by
 match s with
 |[]=>rfl
 |[x]=>rfl
 |x::c::s=>rfl
theorem aEl(s:List SP)(h:s.length<=1000000000):Cn [.l (s.map eS),.l []]=some (.l [],[.l ((qO s).map eS)]):=by show(bif Nat.ble (s.map eS).length 1000000000 then(Cm (s.map eS)).bind λl=>some (D.l [],[D.l (Wn (s.map eS) l)])else none)=_;rw[List.length_map,Nat.ble_eq_true_of_le h,cond_true];rw[j9];show some (D.l [],[D.l (Wn (s.map eS) s)])=_;rw[k9]
abbrev sp0:SP:=(0,0)
abbrev gP(s:List SP)(i:Nat):SP:=s.getD i sp0
def oJ(s:List SP)(n:Nat):Bool:=Nat.beq n 0||!(decide (gP s n=gP s (n-1)))
def fO(s:List SP):Nat->List SP
 |0=>[]
 |n+1=>fO s n++(bif oJ s n then[gP s n]else[])
def Nq(s:List SP):List SP:=fO s s.length
theorem KX{s:List SP}{n:Nat}(h:oJ s n=true):fO s (n+1)=fO s n++[gP s n]:=by rw[fO,h];rfl
theorem KY{s:List SP}{n:Nat}(h:oJ s n=false):fO s (n+1)=fO s n:=by rw[fO,h];simp
theorem QM(s:List SP):∀n,(fO s n).length<=n
 |0=>Nat.le_refl _
 |n+1=>by
  have:=QM s n;cases e:oJ s n with
  |true=>rw[KX e];simp;omega
  |false=>rw[KY e];omega
theorem QN(s:List SP):∀n x,x∈fO s n<->∃i,i<n/\x=gP s i
 |0,x=>by simp[fO]
 |n+1,x=>by
  cases e:oJ s n with
  |true=>
   rw[KX e,List.mem_append,QN s n,List.mem_singleton];constructor
   ·rintro(⟨i,d,c⟩ |h)
    ·exact⟨i,by omega,c⟩
    ·exact⟨n,by omega,h⟩
   ·rintro⟨i,d,c⟩;by_cases f:i=n
    ·subst f;exact .inr c
    ·exact .inl ⟨i,by omega,c⟩
  |false=>
   rw[KY e,QN s n];unfold oJ at e;rw[Bool.or_eq_false_iff]at e;have j:n≠0:=λh=>by rw[h]at e;cases e.1
   have g:gP s n=gP s (n-1):=by simpa using e.2
   constructor
   ·rintro⟨i,d,c⟩;exact⟨i,by omega,c⟩
   ·rintro⟨i,d,c⟩;by_cases f:i=n
    ·subst f;exact⟨i-1,by omega,by rw[c,g]⟩
    ·exact⟨i,by omega,c⟩
theorem Mh{s:List SP}(g:s.Pairwise λa b=>tN b a=false){i j:Nat}(l:i<=j)(c:j<s.length):tN (gP s j) (gP s i)=false:=by
 by_cases e:i=j
 ·subst e;exact EV _
 ·have h:=List.pairwise_iff_getElem.1 g i j (by omega) c (by omega);have d:gP s i=s[i]:=by simp[gP,List.getD,show i<s.length by omega]
  have f:gP s j=s[j]:=by simp[gP,List.getD,c]
  rw[d,f];exact h
theorem Mi{s:List SP}(c:s.Pairwise λa b=>tN b a=false):∀n,n<=s.length->IF (fO s n)
 |0,_=>List.Pairwise.nil
 |n+1,j=>by
  have d:=Mi c n (by omega);cases e:oJ s n with
  |false=>rw[KY e];exact d
  |true=>
   rw[KX e];refine List.pairwise_append.2 ⟨d,List.pairwise_singleton _ _,λx hx l g=>?_⟩;rw[List.mem_singleton.1 g];obtain⟨i,h,rfl⟩:=(QN s n x).1 hx;unfold oJ at e;rw[Bool.or_eq_true]at e;rcases e with e |e
   ·have:=Nat.eq_of_beq_eq_true e;omega
   ·have f:gP s n≠gP s (n-1):=by simpa using e
    have a1:=OT.1 (Mh c (show i<=n-1 by omega) (by omega));have a2:=OT.1 (Mh c (show n-1<=n by omega) (by omega));rcases a2 with a2 |a2
    ·exact absurd a2.symm f
    ·rcases a1 with a1 |a1
     ·rw[a1];exact a2
     ·exact KW a1 a2
def yD(s:List SP):List SP:=Nq (qO s)
theorem Mj(s:List SP):IF (yD s):=Mi (C4 s) _ (Nat.le_refl _)
theorem GJ{s:List SP}{x:SP}:x∈yD s<->x∈s:=by
 unfold yD Nq;rw[QN];constructor
 ·rintro⟨i,c,rfl⟩;have:gP (qO s) i=(qO s)[i]:=by simp[gP,List.getD,c]
  rw[this,<-C3 (s:=s)];exact List.getElem_mem c
 ·intro h;obtain⟨i,c,d⟩:=List.mem_iff_getElem.1 (C3.2 h);exact⟨i,c,by rw[<-d];simp[gP,List.getD,c]⟩
theorem aG7(s:List SP):(yD s).length<=s.length:=by have:=QM (qO s) (qO s).length;rw[BE]at this;unfold yD Nq;rw[BE];exact this
end Go.Eng

namespace Go.Eng.Q
open Go.Eng
abbrev eW(s:List SP):D:=.l (s.map eS)
theorem OU{s:List SP}{i:Nat}(h:i<s.length):gD (s.map eS) i=eS (gP s i):=by simp[gD,List.getD,gP,h]
theorem aCZ(s:List SP)(c:s.length<=1000000000):iQ E aW sites bD [eW s,.l []] (.l []) [eW (qO s)]:=by refine⟨0,λk n L _ _ _=>?_⟩;have h:(Dq E) bD=some Cn:=rfl;cases n<;>simp only[qN,h,aEl s c]
theorem eqS(a b:SP):(aD (a.1.val:Int) (b.1.val:Int)&&(aD (a.2.val:Int) (b.2.val:Int)&&true))=decide (a=b):=by
 rw[Bool.eq_iff_iff];simp only[Bool.and_eq_true,bT,decide_eq_true_eq,and_true];constructor
 ·rintro⟨c,d⟩;exact aCX (by omega) (by omega)
 ·rintro rfl;exact⟨rfl,rfl⟩
def mM(s:List SP)(n:Nat):List SP:=fO s n++s.drop (fO s n).length
theorem C5{s:List SP}{n:Nat}(h:n<=s.length):(mM s n).length=s.length:=by have:=QM s n;unfold mM;rw[List.length_append,List.length_drop];omega
theorem C6{s:List SP}{n i:Nat}(h:(fO s n).length<=i)(c:i<s.length):gP (mM s n) i=gP s i:=by unfold mM gP;simp only[List.getD];rw[List.getElem?_append_right h,List.getElem?_drop];congr 2;omega
theorem Mk{s:List SP}:∀n,n<=s.length->(∀i,i<n->oJ s i=true)->fO s n=s.take n
 |0,_,_=>by simp[fO]
 |n+1,e,h=>by
  have c:gP s n=s[n]:=by simp[gP,List.getD,show n<s.length by omega]
  rw[KX (h n (by omega)),Mk n (by omega) λi d=>h i (by omega),c,List.take_succ_eq_append_getElem (by omega)]
theorem aC0{s:List SP}{n:Nat}(f:n<s.length)(c:oJ s n=true)(d:(fO s n).length<s.length):((mM s n).map eS).set (fO s n).length (eS (gP s n))=(mM s (n+1)).map eS:=by
 have e:(mM s n).set (fO s n).length (gP s n)=mM s (n+1):=by unfold mM;rw[KX c,List.set_append_right _ _ (Nat.le_refl _),Nat.sub_self];have hd:s.drop (fO s n).length=s[(fO s n).length]::s.drop ((fO s n).length+1):=List.drop_eq_getElem_cons d;rw[hd,List.set_cons_zero,List.length_append,List.append_assoc];rfl
 rw[<-e,List.map_set]
theorem aAR(s:List SP)(c:Nat)(a1:0<c)(a3:c<s.length)(a5:s.length<=1000000)(L:∀i,i<c->oJ s i=true)(hd:oJ s c=false):
  fV cB 2 [.i (c:Int),.i 1,.i (Int.ofNat (s.length-c)),.i (Int.ofNat c),eW s] (0,[.i ((fO s s.length).length:Int),eW (mM s s.length)]):=by
 have h:fO s (c+1)=s.take c:=by rw[KY hd,Mk c (by omega) L]
 have l:(fO s (c+1)).length=c:=by rw[h,List.length_take];omega
 have J:mM s (c+1)=s:=by unfold mM;rw[l,h,List.take_append_drop]
 have V:∀j,c+1<=j->j<=s.length->(fO s j).length+1<=j:=λj Q=>by
  induction j with
  |zero=>omega
  |succ j Y=>
   intro a2;by_cases e:j=c
   ·subst e;omega
   ·have:=Y (by omega) (by omega);cases d:oJ s j with
    |true=>rw[KX d];simp;omega
    |false=>rw[KY d];omega
 have r:fV cB 2 [.i ((fO s (c+1+0)).length:Int),.i ((0+1:Nat):Int),.i (Int.ofNat (s.length-c)),.i (Int.ofNat c),eW (mM s (c+1+0))] (0,[.i ((fO s s.length).length:Int),eW (mM s s.length)]):=by
  refine cI dY (λq=>[.i ((fO s (c+1+q)).length:Int),.i ((q+1:Nat):Int),.i (Int.ofNat (s.length-c)),.i (Int.ofNat c),eW (mM s (c+1+q))]) (s.length-c-1) (λq a4=>?_) ?_
  ·have Q:=V (c+1+q) (by omega) (by omega);have t:=C5 (s:=s) (n:=c+1+q) (by omega);have v:bE .i64 (((q+1:Nat):Int)-1)=(q:Int):=ES (by omega) (by omega);have g:gD ((mM s (c+1+q)).map eS) (c+Int.toNat ((q+1:Nat):Int))=eS (gP s (c+1+q)):=by
    show gD ((mM s (c+1+q)).map eS) (c+(q+1))=_;rw[OU (by omega),C6 (by omega) (by omega),show c+(q+1)=c+1+q by omega]
   have H:gD ((mM s (c+1+q)).map eS) (c+Int.toNat (bE .i64 (((q+1:Nat):Int)-1)))=eS (gP s (c+q)):=by rw[v];show gD ((mM s (c+1+q)).map eS) (c+q)=_;rw[OU (by omega),C6 (by omega) (by omega)]
   have T:oJ s (c+1+q)=!(decide (gP s (c+1+q)=gP s (c+q))):=by
    unfold oJ;rw[show c+1+q-1=c+q by omega];have:Nat.beq (c+1+q) 0=false:=by
     cases e:Nat.beq (c+1+q) 0 with
     |false=>rfl
     |true=>have:=Nat.eq_of_beq_eq_true e;omega
    rw[this];rfl
   have m:(!((aD (vI (gD ((mM s (c+1+q)).map eS) (c+Int.toNat ((q+1:Nat):Int))) 0) (vI (gD ((mM s (c+1+q)).map eS) (c+Int.toNat (bE .i64 (((q+1:Nat):Int)-1)))) 0))&&((aD (vI (gD ((mM s (c+1+q)).map eS) (c+Int.toNat ((q+1:Nat):Int))) 1) (vI (gD ((mM s (c+1+q)).map eS) (c+Int.toNat (bE .i64 (((q+1:Nat):Int)-1)))) 1))&&true)))=oJ s (c+1+q):=by rw[g,H,T];exact congrArg Bool.not (eqS _ _)
   have f:aA ((q+1:Nat):Int) (s.length-c)=true:=aE (by omega);have y:aA (bE .i64 (((q+1:Nat):Int)-1)) (s.length-c)=true:=by rw[v];exact aE (by omega)
   have u:∀K M,[D.i K,.i ((q+1+1:Nat):Int),.i (Int.ofNat (s.length-c)),.i (Int.ofNat c),.l M]=[D.i K,.i (bJ .i64 ((q+1:Nat):Int) 1),.i (Int.ofNat (s.length-c)),.i (Int.ofNat c),.l M]:=λK M=>nx (j:=q+1) (n:=s.length) (by omega) (by omega) [_] _;show Ev _ _ (dS _) _;unfold dS;cases e:oJ s (c+1+q)with
   |false=>
    refine aC (aV (by omega:q+1<s.length-c)) (aC f (aC y (aJ (m.trans e) (aO ?_))));show[D.i ((fO s (c+1+q+1)).length:Int),.i ((q+1+1:Nat):Int),.i (Int.ofNat (s.length-c)),.i (Int.ofNat c),.l ((mM s (c+1+q+1)).map eS)]=_;have d:mM s (c+1+q+1)=mM s (c+1+q):=by unfold mM;rw[KY e]
    rw[d,KY e];exact u _ _
   |true=>
    have W:=aC0 (s:=s) (n:=c+1+q) (by omega) e (by omega);have P:∃x:SP,gD ((mM s (c+1+q)).map eS) (fO s (c+1+q)).length=eS x:=⟨_,OU (by omega)⟩;obtain⟨x,hx⟩:=P;have a0:aA ((fO s (c+1+q)).length:Int) ((mM s (c+1+q)).map eS).length=true:=by rw[List.length_map,t];exact aE (by omega)
    have F:(let z0:=((mM s (c+1+q)).map eS).set (fO s (c+1+q)).length (D.l (cN (D.els (gD ((mM s (c+1+q)).map eS) (fO s (c+1+q)).length)) 0 (D.i (vI (gD ((mM s (c+1+q)).map eS) (c+Int.toNat ((q+1:Nat):Int))) 0))));z0.set (fO s (c+1+q)).length (D.l (cN (D.els (gD z0 (fO s (c+1+q)).length)) 1 (D.i (vI (gD ((mM s (c+1+q)).map eS) (c+Int.toNat ((q+1:Nat):Int))) 1)))))=(mM s (c+1+q+1)).map eS:=by
     rw[<-W,g,hx];dsimp only;have U:(fO s (c+1+q)).length<((mM s (c+1+q)).map eS).length:=by rw[List.length_map,t];omega
     have:gD (((mM s (c+1+q)).map eS).set (fO s (c+1+q)).length (D.l (cN (D.els (eS x)) 0 (D.i (vI (eS (gP s (c+1+q))) 0))))) (fO s (c+1+q)).length=D.l (cN (D.els (eS x)) 0 (D.i (vI (eS (gP s (c+1+q))) 0))):=by unfold gD;simp only[List.getD];rw[List.getElem?_set_self U];rfl
     rw[this,List.set_set];rfl
    refine aC (aV (by omega:q+1<s.length-c)) (aC f (aC y (aC (m.trans e) (aC f (aC a0 (aO ?_))))));show[D.i ((fO s (c+1+q+1)).length:Int),.i ((q+1+1:Nat):Int),.i (Int.ofNat (s.length-c)),.i (Int.ofNat c),.l ((mM s (c+1+q+1)).map eS)]=_;have G:((fO s (c+1+q+1)).length:Int)=bJ .i64 ((fO s (c+1+q)).length:Int) 1:=by rw[Vd (by omega),KX e,List.length_append];rfl
    rw[<-F,G];exact u _ _
  ·show Ev _ _ (dS _) _;unfold dS;have e1:c+1+(s.length-c-1)=s.length:=by omega
   have d:s.length-c-1+1=s.length-c:=by omega
   dsimp only;rw[e1,d];exact aJ (aX _) (bH rfl)
 have C:c+1+0=c+1:=rfl;rw[C,l,J]at r;exact r
theorem Qp{s:List SP}{q:Nat}(c:q+1<s.length)(h:s.length<=1000000):
  aA ((q+1:Nat):Int) (s.map eS).length=true/\aA (bE .i64 (((q+1:Nat):Int)-1)) (s.map eS).length=true/\
  ((aD (vI (gD (s.map eS) (Int.toNat ((q+1:Nat):Int))) 0) (vI (gD (s.map eS) (Int.toNat (bE .i64 (((q+1:Nat):Int)-1)))) 0))&&((aD (vI (gD (s.map eS) (Int.toNat ((q+1:Nat):Int))) 1) (vI (gD (s.map eS) (Int.toNat (bE .i64 (((q+1:Nat):Int)-1)))) 1))&&true))=!(oJ s (q+1)):=by
 have g:bE .i64 (((q+1:Nat):Int)-1)=(q:Int):=ES (by omega) (by omega);have f:oJ s (q+1)=!(decide (gP s (q+1)=gP s q)):=rfl;rw[List.length_map,g];refine⟨aE c,aE (by omega),?_⟩;have d:gD (s.map eS) (Int.toNat ((q+1:Nat):Int))=eS (gP s (q+1)):=OU c;have e:gD (s.map eS) (Int.toNat (q:Int))=eS (gP s q):=OU (by omega);rw[d,e,f,Bool.not_not];exact eqS _ _
theorem aAS(s:List SP)(r:s.length<=1000000)(P:2<=s.length):
  (fV cB 0 [.i 1,eW s] (0,[eW (Nq s)]))\/(Nq s=s/\fV cB 0 [.i 1,eW s] (1,[eW s])):=by
 have v:∀q,q+1<s.length->oJ s (q+1)=true->rO E aW sites cB (cB.F.lp 0 [.i ((q+1:Nat):Int),eW s]) (.again [.i ((q+1+1:Nat):Int),eW s]):=λq f e=>by
  obtain⟨h,l,m⟩:=Qp f r;have g:aQ ((q+1:Nat):Int) (((s.map eS).length:Nat):Int)=true:=by rw[List.length_map];exact aV f
  exact aC g (aC h (aC l (aJ (m.trans (by rw[e];rfl)) (aO (nx (j:=q+1) (n:=s.length) f (by omega) [] _)))))
 cases e:eD (s.length-1) λq=>!(oJ s (q+1))with
 |true=>
  left;obtain⟨j,Q,u,H⟩:=yR e;have d:∀i,i<j+1->oJ s i=true:=λi J=>by
   cases i with
   |zero=>rfl
   |succ i=>have:=H i (by omega);cases c:oJ s (i+1)with|true=>rfl |false=>rw[c]at this;cases this
  have y:oJ s (j+1)=false:=by cases c:oJ s (j+1)with|false=>rfl |true=>rw[c]at u;cases u
  refine cI dY (λq=>[.i ((q+1:Nat):Int),eW s]) j (λq f=>v q (by omega) (d (q+1) (by omega))) ?_;obtain⟨h,l,m⟩:=Qp (s:=s) (q:=j) (by omega) r;have g:aQ ((j+1:Nat):Int) (((s.map eS).length:Nat):Int)=true:=by rw[List.length_map];exact aV (by omega)
  have G:(cK 0 ((j+1:Nat):Int)&&cK ((j+1:Nat):Int) (((s.map eS).length:Nat):Int))=true:=by rw[List.length_map,jK (by omega),jK (by omega)];rfl
  have t:=aAR s (j+1) (by omega) (by omega) r d y;have K:=C5 (s:=s) (n:=s.length) (Nat.le_refl _);have T:=QM s s.length;have C:((mM s s.length).map eS).length=s.length:=by rw[List.length_map,K]
  have L:((mM s s.length).map eS).take (fO s s.length).length=(Nq s).map eS:=by rw[<-List.map_take];unfold mM Nq;rw[List.take_left]
  have F:(s.map eS).length=s.length:=List.length_map ..;rw[<-F]at t;refine aC g (aC h (aC l (aC (m.trans (by rw[y];rfl)) (aC G (aP t (bG ?_))))));rw[F];refine aC ?_ (aC ?_ (bH ?_))
  ·show(cK 0 ((fO s s.length).length:Int)&&cK ((fO s s.length).length:Int) ((((mM s s.length).map eS).length:Nat):Int))=true;rw[C,jK (by omega),jK (by omega)];rfl
  ·show kP 0 ((fO s s.length).length:Int) ((((((mM s s.length).map eS).take (fO s s.length).length)++List.replicate (((mM s s.length).map eS).length-(fO s s.length).length) (D.l [.i 0,.i 0])).length:Nat):Int)=true;rw[List.length_append,List.length_take,List.length_replicate,C];unfold kP;rw[jK (by omega),jK (by omega),jK (by omega)];rfl
  ·show(0,[eW (Nq s)])=(0,[D.l (List.drop 0 (List.take (fO s s.length).length ((((mM s s.length).map eS).take (fO s s.length).length)++List.replicate (((mM s s.length).map eS).length-(fO s s.length).length) (D.l [.i 0,.i 0]))))]);rw[List.drop_zero,L,List.take_left' (by rw[List.length_map];rfl)]
 |false=>
  right;have d:∀i,i<s.length->oJ s i=true:=λi J=>by
   cases i with
   |zero=>rfl
   |succ i=>have:=bQ.1 e i (by omega);cases c:oJ s (i+1)with|true=>rfl |false=>rw[c]at this;cases this
  refine⟨by unfold Nq;rw[Mk s.length (Nat.le_refl _) d,List.take_length],cI dY (λq=>[.i ((q+1:Nat):Int),eW s]) (s.length-1) (λq f=>v q (by omega) (d (q+1) (by omega))) ?_⟩;show Ev _ _ (cF _) _;unfold cF;dsimp only;have e1:s.length-1+1=(s.map eS).length:=by rw[List.length_map];omega
  rw[e1];exact aJ (aX _) (bH rfl)
theorem S7(s:List SP)(f:s.length<=1000000):iQ E aW sites bV [eW s] (eW (Nq s)) []:=by
 refine bA dY (by rfl) rfl ?_;show Ev _ _ (hZ _) _;unfold hZ;have d:(s.map eS).length=s.length:=List.length_map ..;by_cases h:s.length<2
 ·refine aC ?_ (bI ?_ rfl)
  ·show aQ (((s.map eS).length:Nat):Int) 2=true;rw[d];exact Np (by omega)
  ·match s,h with
   |[],_=>rfl
   |[x],_=>rfl
 ·refine aJ ?_ ?_
  ·show aQ (((s.map eS).length:Nat):Int) 2=false;rw[d];exact KR (by omega)
  ·rcases aAS s f (by omega)with c |⟨c,e⟩
   ·exact aP c (bG (bI rfl rfl))
   ·rw[c];exact aP e (eO (bG (bI rfl rfl)))
theorem aAT(a b:LD)(h:a.length<=1000000)(j:b.length<=1000000):iQ E aW sites jA [.l [.l a,.l b]] (.l (a++b)) []:=by
 refine bA cD (by rfl) rfl ?_;show Ev _ _ (iJ _) _;unfold iJ;have s1:bJ .i64 0 (a.length:Int)=(a.length:Int):=by rw[BU _ _ _ (by simp[UU,UV];omega),vM (by omega) (by omega)];omega
 have e:bJ .i64 (a.length:Int) (b.length:Int)=((a.length+b.length:Nat):Int):=by rw[BU _ _ _ (by simp[UU,UV];omega),vM (by omega) (by omega)];omega
 have f:fV fN 0 [.l [.l a,.l b],.i 0,.i 0,.l [.l a,.l b],.i 2] (0,[.l [.l a,.l b],.i ((a.length+b.length:Nat):Int)]):=by
  refine sR cD (ps':=[.l [.l a,.l b],.i (a.length:Int),.i 1,.l [.l a,.l b],.i 2]) ?_ (sR cD (ps':=[.l [.l a,.l b],.i ((a.length+b.length:Nat):Int),.i 2,.l [.l a,.l b],.i 2]) ?_ (yQ cD ?_))
  ·refine aC rfl (aC rfl (aJ ?_ (aO ?_)))
   ·show aQ (bJ .i64 0 (a.length:Int)) 0=false;rw[s1];exact KR (by omega)
   ·show _=[D.l [.l a,.l b],.i (bJ .i64 0 (a.length:Int)),.i (bJ .i64 0 1),.l [.l a,.l b],.i 2];rw[s1];rfl
  ·refine aC rfl (aC rfl (aJ ?_ (aO ?_)))
   ·show aQ (bJ .i64 (a.length:Int) (b.length:Int)) 0=false;rw[e];exact KR (by omega)
   ·show _=[D.l [.l a,.l b],.i (bJ .i64 (a.length:Int) (b.length:Int)),.i (bJ .i64 1 1),.l [.l a,.l b],.i 2];rw[e];rfl
  ·exact aJ rfl (bH rfl)
 have c:fV fN 2 [.i 0,.l [.l a,.l b],.i 2,.l []] (0,[.l (a++b)]):=by
  refine sR cD (ps':=[.i 1,.l [.l a,.l b],.i 2,.l a]) ?_ (sR cD (ps':=[.i 2,.l [.l a,.l b],.i 2,.l (a++b)]) ?_ (yQ cD ?_))
  ·refine aC rfl (aC rfl (aC ?_ (aO rfl)));show jP (0+a.length) 16=true;exact fG (by omega) (by omega)
  ·refine aC rfl (aC rfl (aC ?_ (aO rfl)));show jP (a.length+b.length) 16=true;exact fG (by omega) (by omega)
  ·exact aJ rfl (bH rfl)
 refine aP f (bG (aJ (KR (by show(0:Int)<=((a.length+b.length:Nat):Int);omega)) ?_));have w:bE .i64 (((a.length+b.length:Nat):Int)-(bE .i64 (0-0)))=((a.length+b.length:Nat):Int):=by have:bE .i64 (0-0)=0:=rfl;rw[this,vM (by omega) (by omega)];omega
 by_cases l:a.length+b.length=0
 ·refine aJ ?_ (aP c (bG (bI rfl rfl)));show aQ 0 (bE .i64 (((a.length+b.length:Nat):Int)-(bE .i64 (0-0))))=false;rw[w];exact KR (by omega)
 ·have d:aQ 0 (bE .i64 (((a.length+b.length:Nat):Int)-(bE .i64 (0-0))))=true:=by rw[w];exact Np (by omega)
  refine aC d (aC ?_ (aC ?_ (aP c (bG (bI rfl rfl)))))
  ·show(aQ 0 (bE .i64 (((a.length+b.length:Nat):Int)-(bE .i64 (0-0))))&&jP (Int.toNat (bE .i64 (((a.length+b.length:Nat):Int)-(bE .i64 (0-0))))) 16)=true;rw[d,w];exact fG (by show a.length+b.length<=_;omega) (by omega)
  ·have g:∀n:Nat,kP 0 0 (n:Int)=true:=λn=>by unfold kP;rw[jK (show(0:Int)<=(n:Int)by omega)];rfl
   exact g _
end Go.Eng.Q

namespace Go.Eng.Q
open Go.Eng
def RY(k n:Nat):SP:=(⟨k%1000000000,by omega⟩,⟨n%1000000000,by omega⟩)
theorem Qq{k n:Nat}(c:k<1000000000)(d:n<1000000000):eS (RY k n)=.l [.i (k:Int),.i (n:Int)]:=by show D.l [.i ((k%1000000000:Nat):Int),.i ((n%1000000000:Nat):Int)]=_;rw[Nat.mod_eq_of_lt c,Nat.mod_eq_of_lt d]
def Ml:List SP:=(List.range 4).flatMap λk=>(List.range 400).map λn=>RY k n
theorem Mm:Ml.length=1600:=by unfold Ml;rw[List.length_flatMap];simp only[List.length_map,List.length_range];rfl
theorem Mo{k n:Nat}(c:k<4)(d:n<400):RY k n∈Ml:=by unfold Ml;rw[List.mem_flatMap];exact⟨k,List.mem_range.2 c,List.mem_map.2 ⟨n,List.mem_range.2 d,rfl⟩⟩
abbrev dW(x:D)(j:Nat):Nat:=(pP x j).toNat
structure aHI(n:Nat)(x:D):Prop where
 a:∀j,j<(eX x 5).length->∃u:Nat,pP x j=u/\u<n
 at':vI x 0=19->(eX x 5).length=2
 sel:vI x 0=17->(eX x 5).length=3
 phi:vI x 0=26->(eX x 5).length<=40
 glo:vI x 0=3->∃g:Nat,vI x 3=g/\g<400
def FI(b:Nat->List SP)(as1:LD):List SP:=as1.flatMap λa=>b a.toI.toNat
def bF(df:Nat->D)(b:Nat->List SP)(v:Nat):List SP:=
 if vI (df v) 0=18 then[RY 2 v]else if vI (df v) 0=3 then[RY 3 (vI (df v) 3).toNat]else if vI (df v) 0=19 then b (dW (df v) 0)else
 if vI (df v) 0=17 then b (dW (df v) 1)++b (dW (df v) 2)else if vI (df v) 0=26 then FI b (eX (df v) 5)else[]
def xW(df:Nat->D)(v:Nat):Bool:=aD (vI (df v) 1) 3
def rI(ps:LD)(v:Nat):List SP:=if 0<v/\v<=ps.length/\(gD ps (v-1)).toI=3 then[RY 1 v]else[]
structure EW(n:Nat)(ps:LD)(df:Nat->D)(b:Nat->List SP):Prop where
 rise:∀v,v<n->IF (b v)
 uni:∀v,v<n->∀x,x∈b v->x∈Ml
 sub:∀v,v<n->xW df v=true->∀x,x∈b v->x∈bF df b v
 ini:∀v,v<n->xW df v=false->b v=rI ps v
structure l5(n:Nat)(ps:LD)(df:Nat->D):Prop where
 n400:n<=400
 d:∀v,v<n->xW df v=true->aHI n (df v)
 par:∀v,v<=ps.length->xW df v=false
 pn:ps.length<n
section
variable{n:Nat}{ps:LD}{df:Nat->D}(hD:l5 n ps df)
include hD
theorem aEm{b b':Nat->List SP}{v:Nat}(hv:v<n)(l:xW df v=true)(h:∀u,u<n->∀x,x∈b u->x∈b' u):∀x,x∈bF df b v->x∈bF df b' v:=λx hx=>by
 have hd:=hD.d v hv l;have d:∀j,j<(eX (df v) 5).length->dW (df v) j<n:=λj f=>by obtain⟨u,c,g⟩:=hd.a j f;show(pP (df v) j).toNat<n;rw[c];exact g
 unfold bF at hx⊢;split at hx
 ·rename_i e;rw[if_pos e];exact hx
 ·rename_i e;rw[if_neg e];split at hx
  ·rename_i e;rw[if_pos e];exact hx
  ·rename_i e;rw[if_neg e];split at hx
   ·rename_i e;rw[if_pos e];exact h _ (d 0 (by rw[hd.at' e];omega)) x hx
   ·rename_i e;rw[if_neg e];split at hx
    ·rename_i e;rw[if_pos e];rcases List.mem_append.1 hx with c |c
     ·exact List.mem_append_left _ (h _ (d 1 (by rw[hd.sel e];omega)) x c)
     ·exact List.mem_append_right _ (h _ (d 2 (by rw[hd.sel e];omega)) x c)
    ·rename_i e;rw[if_neg e];split at hx
     ·rename_i e;rw[if_pos e];unfold FI at hx⊢;rw[List.mem_flatMap]at hx⊢;obtain⟨a,c,g⟩:=hx;obtain⟨j,f,rfl⟩:=List.mem_iff_getElem.1 c;have hg:gD (eX (df v) 5) j=(eX (df v) 5)[j]:=by simp[gD,List.getD,f]
      have:=d j f;unfold dW pP at this;rw[hg]at this;exact⟨_,c,h _ this x g⟩
     ·cases hx
theorem aC1{b:Nat->List SP}(h:EW n ps df b){v:Nat}(hv:v<n)(m:xW df v=true):∀x,x∈bF df b v->x∈Ml:=λx hx=>by
 have hd:=hD.d v hv m;have r:=hD.n400;have f:∀j,j<(eX (df v) 5).length->dW (df v) j<n:=λj l=>by obtain⟨u,c,d⟩:=hd.a j l;show(pP (df v) j).toNat<n;rw[c];exact d
 unfold bF at hx;split at hx
 ·rw[List.mem_singleton.1 hx];exact Mo (by omega) (by omega)
 ·split at hx
  ·rename_i e;obtain⟨g,c,d⟩:=hd.glo e;rw[List.mem_singleton.1 hx,c];exact Mo (by omega) (by simpa using d)
  ·split at hx
   ·rename_i e;exact h.uni _ (f 0 (by rw[hd.at' e];omega)) x hx
   ·split at hx
    ·rename_i e;rcases List.mem_append.1 hx with c |c
     ·exact h.uni _ (f 1 (by rw[hd.sel e];omega)) x c
     ·exact h.uni _ (f 2 (by rw[hd.sel e];omega)) x c
    ·split at hx
     ·unfold FI at hx;rw[List.mem_flatMap]at hx;obtain⟨a,c,d⟩:=hx;obtain⟨j,l,rfl⟩:=List.mem_iff_getElem.1 c;have hg:gD (eX (df v) 5) j=(eX (df v) 5)[j]:=by simp[gD,List.getD,l]
      have:=f j l;unfold dW pP at this;rw[hg]at this;exact h.uni _ this x d
     ·cases hx
omit hD in
theorem EW.len{b:Nat->List SP}(c:EW n ps df b){v:Nat}(hv:v<n):(b v).length<=1600:=by rw[<-Mm];exact(c.rise v hv).nodup.length_le_of_subset (λx hx=>c.uni v hv x hx)
omit hD in
theorem Mp{b:Nat->List SP}:∀(l:LD),(∀a,a∈l->(b a.toI.toNat).length<=1600)->(FI b l).length<=l.length*1600
 |[],_=>by simp[FI]
 |a::l,h=>by have c:=Mp l λx hx=>h x (List.mem_cons_of_mem _ hx);have d:=h a (by simp);unfold FI at c⊢;rw[List.flatMap_cons,List.length_append,List.length_cons,Nat.add_mul];omega
theorem aFQ{b:Nat->List SP}(f:EW n ps df b){v:Nat}(hv:v<n)(l:xW df v=true):(bF df b v).length<=64000:=by
 have hd:=hD.d v hv l;have d:∀j,j<(eX (df v) 5).length->dW (df v) j<n:=λj g=>by obtain⟨u,c,h⟩:=hd.a j g;show(pP (df v) j).toNat<n;rw[c];exact h
 unfold bF;split
 ·simp
 ·split
  ·simp
  ·split
   ·rename_i e;have:=f.len (d 0 (by rw[hd.at' e];omega));omega
   ·split
    ·rename_i e;have c:=f.len (d 1 (by rw[hd.sel e];omega));have h:=f.len (d 2 (by rw[hd.sel e];omega));rw[List.length_append];omega
    ·split
     ·rename_i e;have c:=Mp (b:=b) (eX (df v) 5) λa c=>by
       obtain⟨j,g,rfl⟩:=List.mem_iff_getElem.1 c;have hg:gD (eX (df v) 5) j=(eX (df v) 5)[j]:=by simp[gD,List.getD,g]
       have:=d j g;unfold dW pP at this;rw[hg]at this;exact f.len this
      have:=hd.phi e;have:=Nat.mul_le_mul_right 1600 this;omega
     ·simp
def iH(b:Nat->List SP)(v:Nat)(l:List SP):Nat->List SP:=λu=>if u=v then l else b u
theorem C7{b:Nat->List SP}(d:EW n ps df b){v:Nat}(hv:v<n)(g:xW df v=true):EW n ps df (iH b v (yD (bF df b v))):=by
 have h:∀u,u<n->∀x,x∈b u->x∈iH b v (yD (bF df b v)) u:=λu c x hx=>by
  unfold iH;by_cases e:u=v
  ·subst e;rw[if_pos rfl];exact GJ.2 (d.sub u c g x hx)
  ·rw[if_neg e];exact hx
 refine⟨λu c=>?_,λu c x hx=>?_,λu c f x hx=>?_,λu c f=>?_⟩
 ·unfold iH;by_cases e:u=v
  ·rw[if_pos e];exact Mj _
  ·rw[if_neg e];exact d.rise u c
 ·unfold iH at hx;by_cases e:u=v
  ·rw[if_pos e]at hx;exact aC1 hD d hv g x (GJ.1 hx)
  ·rw[if_neg e]at hx;exact d.uni u c x hx
 ·refine aEm hD c f h x ?_;unfold iH at hx;by_cases e:u=v
  ·subst e;rw[if_pos rfl]at hx;exact GJ.1 hx
  ·rw[if_neg e]at hx;exact d.sub u c f x hx
 ·unfold iH;by_cases e:u=v
  ·subst e;rw[g]at f;cases f
  ·rw[if_neg e];exact d.ini u c f
def nD(b:Nat->List SP):Nat->Nat
 |0=>0
 |n+1=>nD b n+(1600-(b n).length)
omit hD in
theorem Mq{b:Nat->List SP}{v:Nat}{l:List SP}(d:(b v).length<l.length)(f:l.length<=1600):∀n,v<n->nD (iH b v l) n<nD b n
 |0,h=>absurd h (by omega)
 |n+1,h=>by
  unfold nD;by_cases e:v=n
  ·subst e;have key:∀m,m<=v->nD (iH b v l) m=nD b m:=λm=>by
    induction m with
    |zero=>intro _;rfl
    |succ m g=>intro j;unfold nD;rw[g (by omega)];congr 2;unfold iH;rw[if_neg (by omega)]
   rw[key v (Nat.le_refl _)];have:(iH b v l v)=l:=by unfold iH;rw[if_pos rfl]
   rw[this];omega
  ·have:=Mq d f n (by omega);have c:iH b v l n=b n:=by unfold iH;rw[if_neg (by omega)]
   rw[c];omega
omit hD in
theorem Bu{b:Nat->List SP}(c:EW n ps df b){v:Nat}(hv:v<n)(d:xW df v=true)(g:(yD (bF df b v)).length=(b v).length):∀x,x∈b v<->x∈bF df b v:=λx=>by
 constructor
 ·exact c.sub v hv d x
 ·intro hx;exact aCY (c.rise v hv).nodup (λf e=>GJ.2 (c.sub v hv d f e)) (by omega) x (GJ.2 hx)
theorem Qr{b:Nat->List SP}(c:EW n ps df b){v:Nat}(hv:v<n)(d:xW df v=true)(j:(yD (bF df b v)).length≠(b v).length):(b v).length<(yD (bF df b v)).length/\(yD (bF df b v)).length<=1600:=by
 have g:(b v).length<=(yD (bF df b v)).length:=(c.rise v hv).nodup.length_le_of_subset λf e=>GJ.2 (c.sub v hv d f e);have h:(yD (bF df b v)).length<=1600:=by rw[<-Mm];exact(Mj _).nodup.length_le_of_subset λx hx=>aC1 hD c hv d x (GJ.1 hx)
 omega
end
end Go.Eng.Q

namespace Go.Eng.Q
open Go.Eng
abbrev cC(n:Nat)(b:Nat->List SP):LD:=aK n λv=>eW (b v)
theorem OV(n:Nat)(b:Nat->List SP)(v:Nat)(l:List SP):(cC n b).set v (eW l)=cC n (iH b v l):=by
 unfold cC;rw[nY];refine dV λi _=>?_;by_cases e:i=v
 ·subst e;rw[fK];unfold iH;rw[if_pos rfl]
 ·rw[nW _ _ e];unfold iH;rw[if_neg e]
abbrev st4(n:Nat)(df:Nat->D)(T O:LD)(j:Nat)(q:Bool×(Nat->List SP)):LD:=[.i (j:Int),.i (n:Int),.b q.1,.l (cC n q.2),.l T,.l O,.l (aK n df)]
theorem zE{n:Nat}{df:Nat->D}(T O:LD){v:Nat}(hv:v<n)(s:n<=400)(t:Bool)(b:Nat->List SP){x:D}{l:List SP}(hx:x=eW l)(r:l.length<=64000){d:Bool×(Nat->List SP)}
  (h:((yD l).length=(b v).length/\d=(t,b))\/((yD l).length≠(b v).length/\d=(true,iH b v (yD l)))):
  rO E aW sites eQ (.call bP [x] 0 λm _=>.call bD [.l (D.els m),.l []] 1 λu j=>.call bV [.l (D.els (gD j 0))] 0 λg _=>
   .ask (aA (v:Int) (cC n b).length) (.ask (!(aD (iE g) (iE (gD (cC n b) v)))) (.ask (aA (v:Int) (cC n b).length) (.again [.i (bJ .i64 (v:Int) 1),.i (n:Int),.b true,.l (List.set (cC n b) v (D.l (D.els g))),.l T,.l O,.l (aK n df)]) .bad) (.again [.i (bJ .i64 (v:Int) 1),.i (n:Int),.b t,.l (cC n b),.l T,.l O,.l (aK n df)])) .bad)
   (.again (st4 n df T O (v+1) d)):=by
 subst hx;have f:aA (v:Int) (cC n b).length=true:=by rw[dA];exact aE hv
 have hg:gD (cC n b) v=eW (b v):=eB _ hv;have e:(!(aD (iE (eW (yD l))) (iE (gD (cC n b) v))))=!(decide ((yD l).length=(b v).length)):=by rw[hg];congr 1;rw[Bool.eq_iff_iff,bT,decide_eq_true_eq];show((((yD l).map eS).length:Nat):Int)=((((b v).map eS).length:Nat):Int)<->_;rw[List.length_map,List.length_map];omega
 refine bK (mD (l.map eS) (fG (by rw[List.length_map];omega) (by omega))) rfl (bK (aCZ l (by omega)) rfl (bK (S7 (qO l) (by rw[BE];omega)) rfl (aC f ?_)));rcases h with⟨c,rfl⟩ |⟨c,rfl⟩
 ·exact aJ (e.trans (by rw[decide_eq_true c];rfl)) (aO (nx hv (by omega) [] _))
 ·refine aC (e.trans (by rw[decide_eq_false c];rfl)) (aC f (aO ((nx hv (by omega) [] _).trans ?_)));show[D.i (bJ .i64 (v:Int) 1),.i (n:Int),.b true,.l (cC n (iH b v (yD l))),.l T,.l O,.l (aK n df)]=_;rw[<-OV];rfl
section
variable{n:Nat}{ps:LD}{df:Nat->D}(hD:l5 n ps df)(T O:LD)
theorem aEn(v:Nat)(t:Bool)(b:Nat->List SP)(l:EW n ps df b)(as1:LD)(g:∀j,j<as1.length->∃u:Nat,(gD as1 j).toI=u/\u<n)(J:as1.length<=40):
  fV eQ 7 [.i (v:Int),.i 0,.i (v:Int),.l as1,.i (n:Int),.b t,.i (as1.length:Int),.l (cC n b),.l [],.l T,.l O,.l (aK n df)]
   (0,[.i (v:Int),.i (v:Int),.i (n:Int),.b t,.l (cC n b),eW (FI b as1),.l T,.l O,.l (aK n df)]):=by
 have y:FI b as1=FI b (as1.take as1.length):=by rw[List.take_length]
 rw[y];refine cI jS (λj=>[.i (v:Int),.i (j:Int),.i (v:Int),.l as1,.i (n:Int),.b t,.i (as1.length:Int),.l (cC n b),eW (FI b (as1.take j)),.l T,.l O,.l (aK n df)]) as1.length (λj c=>?_) ?_
 ·obtain⟨u,d,e⟩:=g j c;have hg:gD (cC n b) (Int.toNat (gD as1 j).toI)=eW (b u):=by rw[d];exact eB _ e
  have G:FI b (as1.take (j+1))=FI b (as1.take j)++b u:=by
   have F:gD as1 j=as1[j]:=by simp[gD,List.getD,c]
   rw[F]at d;unfold FI;rw[List.take_succ_eq_append_getElem c,List.flatMap_append];simp[d]
  have K:=Mp (b:=b) (as1.take j) λa h=>by
   obtain⟨i,m,rfl⟩:=List.mem_iff_getElem.1 (List.mem_of_mem_take h);obtain⟨P,f,s⟩:=g i m;have C:gD as1 i=as1[i]:=by simp[gD,List.getD,m]
   rw[C]at f;rw[f];exact l.len s
  have L:=l.len e;have H:(as1.take j).length<=40:=by rw[List.length_take];omega
  have:=Nat.mul_le_mul_right 1600 H;refine aC (aV c) (aC (aE c) (aC ?_ (aC ?_ (aO ((nx c (by omega) [_] _).trans ?_)))))
  ·show aA (gD as1 j).toI (cC n b).length=true;rw[d,dA];exact aE e
  ·show jP (((FI b (as1.take j)).map eS).length+nE (gD (cC n b) (Int.toNat (gD as1 j).toI))) 16=true;rw[hg,List.length_map];show jP ((FI b (as1.take j)).length+((b u).map eS).length) 16=true;rw[List.length_map];exact fG (by omega) (by omega)
  ·have r:(FI b (as1.take (j+1))).map eS=(FI b (as1.take j)).map eS++D.els (gD (cC n b) (Int.toNat (gD as1 j).toI)):=by rw[hg,G,List.map_append];rfl
   show[D.i (v:Int),.i (bJ .i64 (j:Int) 1),.i (v:Int),.l as1,.i (n:Int),.b t,.i (as1.length:Int),.l (cC n b),.l ((FI b (as1.take (j+1))).map eS),.l T,.l O,.l (aK n df)]=_;rw[r];rfl
 ·exact aJ (aX _) (bH rfl)
include hD
theorem Ew{v:Nat}(hv:v<n)(H:xW df v=true)(t:Bool)(b:Nat->List SP)(Y:EW n ps df b){K:Bool×(Nat->List SP)}
  (d:((yD (bF df b v)).length=(b v).length/\K=(t,b))\/((yD (bF df b v)).length≠(b v).length/\K=(true,iH b v (yD (bF df b v))))):
  rO E aW sites eQ (eQ.F.lp 4 (st4 n df T O v (t,b))) (.again (st4 n df T O (v+1) K)):=by
 have hd:=hD.d v hv H;have y:=hD.n400;have c:=aFQ hD Y hv H;have hg:gD (aK n df) v=df v:=eB _ hv;have a6:(cC n b).length=n:=dA _ _;have h:∀k:Int,aD (vI (gD (aK n df) v) 0) k=aD (vI (df v) 0) k:=λk=>by rw[hg]
 have J:∀j,j<(eX (df v) 5).length->aA (gD (eX (gD (aK n df) v) 5) j).toI (cC n b).length=true/\D.l (D.els (gD (cC n b) (Int.toNat (gD (eX (gD (aK n df) v) 5) j).toI)))=eW (b (dW (df v) j)):=λj a7=>by
  obtain⟨u,U,V⟩:=hd.a j a7;have a5:(gD (eX (df v) 5) j).toI=u:=U;have e:dW (df v) j=u:=by unfold dW;rw[U];rfl
  rw[hg,a5,a6,e];refine⟨aE V,?_⟩;show D.l (D.els (gD (cC n b) u))=_;rw[eB _ V];rfl
 have G:nX (gD (aK n df) v) 5=(eX (df v) 5).length:=by rw[hg]
 have a1:aA (v:Int) (aK n df).length=true:=by rw[dA];exact aE hv
 have a2:(!(aD (vI (gD (aK n df) v) 1) 3))=false:=by rw[hg];have:aD (vI (df v) 1) 3=true:=H;rw[this];rfl
 refine aC (aV hv) (aC a1 (aJ a2 ?_));by_cases l:vI (df v) 0=18
 ·have f:bF df b v=[RY 2 v]:=by unfold bF;rw[if_pos l]
  rw[f]at d c;exact aC ((h 18).trans ((bT _ _).2 l)) (zE T O hv y t b (congrArg (λQ=>D.l [Q]) (Qq (k:=2) (n:=v) (by omega) (by omega)).symm) c d)
 refine aJ ((h 18).trans (gR l)) ?_;by_cases m:vI (df v) 0=3
 ·have f:bF df b v=[RY 3 (vI (df v) 3).toNat]:=by unfold bF;rw[if_neg l,if_pos m]
  rw[f]at d c;obtain⟨g,a4,b1⟩:=hd.glo m;refine aC ((h 3).trans ((bT _ _).2 m)) (zE T O hv y t b ?_ c d);show D.l [.l [.i 3,.i (vI (gD (aK n df) v) 3)]]=eW [RY 3 (vI (df v) 3).toNat];rw[hg,a4];exact congrArg (λQ=>D.l [Q]) (Qq (k:=3) (n:=g) (by omega) (by omega)).symm
 refine aJ ((h 3).trans (gR m)) ?_;by_cases r:vI (df v) 0=19
 ·have f:bF df b v=b (dW (df v) 0):=by unfold bF;rw[if_neg l,if_neg m,if_pos r]
  have F:=hd.at' r;rw[f]at d c;obtain⟨L,P⟩:=J 0 (by omega);refine aC ((h 19).trans ((bT _ _).2 r)) (aC ?_ (aC L (zE T O hv y t b P c d)));show aA 0 (nX (gD (aK n df) v) 5)=true;rw[G,F];rfl
 refine aJ ((h 19).trans (gR r)) ?_;by_cases s:vI (df v) 0=17
 ·have f:bF df b v=b (dW (df v) 1)++b (dW (df v) 2):=by unfold bF;rw[if_neg l,if_neg m,if_neg r,if_pos s]
  have F:=hd.sel s;rw[f]at d c;obtain⟨L,P⟩:=J 1 (by omega);obtain⟨a9,b0⟩:=J 2 (by omega);rw[List.length_append]at c;have a0:=aAT ((b (dW (df v) 1)).map eS) ((b (dW (df v) 2)).map eS) (by rw[List.length_map];omega) (by rw[List.length_map];omega);have a3:D.l [D.l (D.els (gD (cC n b) (Int.toNat (gD (eX (gD (aK n df) v) 5) 1).toI))),D.l (D.els (gD (cC n b) (Int.toNat (gD (eX (gD (aK n df) v) 5) 2).toI)))]=D.l [.l ((b (dW (df v) 1)).map eS),.l ((b (dW (df v) 2)).map eS)]:=by rw[P,b0]
  rw[<-a3]at a0;refine aC ((h 17).trans ((bT _ _).2 s)) (aC ?_ (aC L (aC ?_ (aC a9 (bK a0 rfl (zE T O hv y t b ?_ (by rw[List.length_append];omega) d))))))
  ·show aA 1 (nX (gD (aK n df) v) 5)=true;rw[G,F];rfl
  ·show aA 2 (nX (gD (aK n df) v) 5)=true;rw[G,F];rfl
  ·show D.l ((b (dW (df v) 1)).map eS++(b (dW (df v) 2)).map eS)=eW (b (dW (df v) 1)++b (dW (df v) 2));rw[<-List.map_append]
 refine aJ ((h 17).trans (gR s)) ?_;by_cases C:vI (df v) 0=26
 ·have f:bF df b v=FI b (eX (df v) 5):=by unfold bF;rw[if_neg l,if_neg m,if_neg r,if_neg s,if_pos C]
  rw[f]at d c;have W:=aEn T O v t b Y (eX (df v) 5) hd.a (hd.phi C);rw[<-hg]at W;refine aC ((h 26).trans ((bT _ _).2 C)) (aP W (bG (zE T O hv y t b ?_ c d)));rw[hg];rfl
 refine aJ ((h 26).trans (gR C)) ?_;have f:bF df b v=[]:=by unfold bF;rw[if_neg l,if_neg m,if_neg r,if_neg s,if_neg C]
 rw[f]at d c;exact zE T O hv y t b rfl c d
structure UP(n:Nat)(ps:LD)(df:Nat->D)(b0:Nat->List SP)(j:Nat)(q:Bool×(Nat->List SP)):Prop where
 g:EW n ps df q.2
 t:q.1=true->nD q.2 n<nD b0 n
 f:q.1=false->q.2=b0/\∀v,v<j->xW df v=true->(yD (bF df b0 v)).length=(b0 v).length
 le:nD q.2 n<=nD b0 n
theorem aEo(b0:Nat->List SP)(y:EW n ps df b0):∃q,UP n ps df b0 n q/\fV eQ 4 (st4 n df T O 0 (false,b0)) (0,[.b q.1,.l (cC n q.2),.l T,.l O,.l (aK n df)]):=by
 have G:=hD.n400;refine EP jS (λj q=>st4 n df T O j q) n (λq=>(0,[.b q.1,.l (cC n q.2),.l T,.l O,.l (aK n df)])) (UP n ps df b0) (λj q d c=>?_) (λq c=>?_) (s0:=(false,b0)) ⟨y,λh=>(by cases h),λ_=>⟨rfl,λv hv=>absurd hv (by omega)⟩,Nat.le_refl _⟩
 ·obtain⟨t,b⟩:=q;cases f:xW df j with
  |false=>
   refine⟨(t,b),⟨c.g,c.t,λh=>⟨(c.f h).1,λv hv g=>?_⟩,c.le⟩,?_⟩
   ·by_cases e:v=j
    ·subst e;rw[f]at g;cases g
    ·exact(c.f h).2 v (by omega) g
   ·have hg:gD (aK n df) j=df j:=eB _ d;have m:aA (j:Int) (aK n df).length=true:=by rw[dA];exact aE d
    have r:(!(aD (vI (gD (aK n df) j) 1) 3))=true:=by rw[hg];have:aD (vI (df j) 1) 3=false:=f;rw[this];rfl
    exact aC (aV d) (aC m (aC r (aO (nx d (by omega) [] _))))
  |true=>
   by_cases l:(yD (bF df b j)).length=(b j).length
   ·refine⟨(t,b),⟨c.g,c.t,λh=>⟨(c.f h).1,λv hv g=>?_⟩,c.le⟩,Ew hD T O d f t b c.g (.inl ⟨l,rfl⟩)⟩;by_cases e:v=j
    ·subst e;have:=(c.f h).1;simp only at this;subst this;exact l
    ·exact(c.f h).2 v (by omega) g
   ·obtain⟨s,u⟩:=Qr hD c.g d f l;have C:nD (iH b j (yD (bF df b j))) n<nD b n:=Mq s u n d;have F:nD b n<=nD b0 n:=c.le;refine⟨(true,iH b j (yD (bF df b j))),⟨C7 hD c.g d f,λ_=>?_,λh=>(by cases h),?_⟩,Ew hD T O d f t b c.g (.inr ⟨l,rfl⟩)⟩
    ·show nD (iH b j (yD (bF df b j))) n<_;omega
    ·show nD (iH b j (yD (bF df b j))) n<=_;omega
 ·exact aJ (aX _) (bH rfl)
structure l7(n:Nat)(ps:LD)(df:Nat->D)(b:Nat->List SP):Prop where
 g:EW n ps df b
 iff:∀v,v<n->xW df v=true->∀x,x∈b v<->x∈bF df b v
theorem aEp(b0:Nat->List SP)(s:EW n ps df b0):∃b,l7 n ps df b/\fV eQ 2 [.b true,.l (cC n b0),.l T,.l O,.l (aK n df)] (0,[.l (cC n b),.l T,.l O,.l (aK n df)]):=by
 have h:=HU jS (b:=2) (λ(q:Bool×(Nat->List SP))=>[.b q.1,.l (cC n q.2),.l T,.l O,.l (aK n df)]) (λq=>EW n ps df q.2/\(q.1=false->l7 n ps df q.2)) (λq=>2*nD q.2 n+bif q.1 then 1 else 0) (λu=>∃b,l7 n ps df b/\u=(0,[.l (cC n b),.l T,.l O,.l (aK n df)])) (λq d=>?_) (s0:=(true,b0)) ⟨s,λh=>(by cases h)⟩
 ·obtain⟨u,⟨b,c,rfl⟩,f⟩:=h;exact⟨b,c,f⟩
 ·obtain⟨t,b⟩:=q;cases t with
  |false=>refine .inl ⟨_,⟨b,d.2 rfl,rfl⟩,?_⟩;exact aJ rfl (bH rfl)
  |true=>
   obtain⟨e,c,f⟩:=aEo hD T O b d.1;have y:(aK n df).length=n:=dA _ _;refine .inr ⟨e,⟨c.g,λg=>?_⟩,?_,?_⟩
   ·obtain⟨l,m⟩:=c.f g;rw[l];exact⟨d.1,λv hv j=>Bu d.1 hv j (m v hv j)⟩
   ·cases g:e.1 with
    |true=>have:=c.t g;simp only[cond_true];omega
    |false=>have:=c.le;simp only[cond_false,cond_true];omega
   ·have r:fV eQ 4 [.i 0,.i (((aK n df).length:Nat):Int),.b false,.l (cC n b),.l T,.l O,.l (aK n df)] (0,[.b e.1,.l (cC n e.2),.l T,.l O,.l (aK n df)]):=by rw[y];exact f
    exact aC rfl (aP r (bG (aO rfl)))
theorem aEq:fV eQ 0 [.i (ps.length:Int),.i 0,.l ps,.l (List.replicate n (D.l [])),.l T,.l O,.l (aK n df)] (0,[.l (cC n (rI ps)),.l T,.l O,.l (aK n df)]):=by
 have t:=hD.n400;have u:=hD.pn;let g:Nat->Nat->List SP:=λj v=>if v<=j then rI ps v else[]
 have r:List.replicate n (D.l [])=cC n (g 0):=by
  rw[<-rY];refine dV λi _=>?_;show D.l []=eW (if i<=0 then rI ps i else[]);by_cases h:i<=0
  ·have:i=0:=by omega
   subst this;rfl
  ·rw[if_neg h];rfl
 have e1:cC n (rI ps)=cC n (g ps.length):=by
  refine dV λi _=>?_;show eW (rI ps i)=eW (if i<=ps.length then rI ps i else[]);by_cases h:i<=ps.length
  ·rw[if_pos h]
  ·rw[if_neg h];have:rI ps i=[]:=by unfold rI;rw[if_neg (by omega)]
   rw[this]
 rw[r,e1];refine cI jS (λj=>[.i (ps.length:Int),.i (j:Int),.l ps,.l (cC n (g j)),.l T,.l O,.l (aK n df)]) ps.length (λj d=>?_) ?_
 ·have m:=Vd (n:=j) (by omega);refine aC (aV d) (aC (aE d) ?_);cases e:aD (gD ps j).toI 3 with
  |true=>
   have f:rI ps (j+1)=[RY 1 (j+1)]:=by unfold rI;rw[if_pos ⟨by omega,by omega,(bT _ _).1 e⟩]
   have l:cC n (g (j+1))=(cC n (g j)).set (Int.toNat (bJ .i64 (j:Int) 1)) (D.l [.l [.i 1,.i (bJ .i64 (j:Int) 1)]]):=by
    rw[m];have:D.l [.l [.i 1,.i ((j+1:Nat):Int)]]=eW [RY 1 (j+1)]:=congrArg (λs=>D.l [s]) (Qq (k:=1) (n:=j+1) (by omega) (by omega)).symm;rw[this];show _=(cC n (g j)).set (j+1) _;rw[OV];refine dV λi _=>?_;show eW (if i<=j+1 then rI ps i else[])=eW (iH (g j) (j+1) [RY 1 (j+1)] i);unfold iH;by_cases h:i=j+1
    ·subst h;rw[if_pos (Nat.le_refl _),if_pos rfl,f]
    ·rw[if_neg h];show _=eW (if i<=j then rI ps i else[]);by_cases c:i<=j
     ·rw[if_pos c,if_pos (by omega)]
     ·rw[if_neg c,if_neg (by omega)]
   refine aC e (aC ?_ (aO ((nx d (by omega) [_] _).trans ?_)))
   ·show aA (bJ .i64 (j:Int) 1) (cC n (g j)).length=true;rw[m,dA];exact aE (by omega)
   ·show[D.i (ps.length:Int),.i (bJ .i64 (j:Int) 1),.l ps,.l (cC n (g (j+1))),.l T,.l O,.l (aK n df)]=_;rw[l];rfl
  |false=>
   have f:rI ps (j+1)=[]:=by unfold rI;rw[if_neg];rintro⟨_,_,h⟩;have h:(gD ps j).toI=3:=h;rw[h]at e;cases e
   have l:cC n (g (j+1))=cC n (g j):=dV λi _=>by
    show eW (if i<=j+1 then rI ps i else[])=eW (if i<=j then rI ps i else[]);by_cases h:i=j+1
    ·subst h;rw[if_pos (Nat.le_refl _),if_neg (by omega),f]
    ·by_cases c:i<=j
     ·rw[if_pos c,if_pos (by omega)]
     ·rw[if_neg c,if_neg (by omega)]
   refine aJ e (aO ((nx d (by omega) [_] _).trans ?_));show[D.i (ps.length:Int),.i (bJ .i64 (j:Int) 1),.l ps,.l (cC n (g (j+1))),.l T,.l O,.l (aK n df)]=_;rw[l];rfl
 ·exact aJ (aX _) (bH rfl)
theorem C8:EW n ps df (rI ps):=by
 have d:=hD.n400;have e:=hD.pn;refine⟨λv _=>?_,λv hv x hx=>?_,λv hv c x hx=>?_,λ_ _ _=>rfl⟩
 ·unfold rI;split
  ·exact List.pairwise_singleton _ _
  ·exact List.Pairwise.nil
 ·unfold rI at hx;split at hx
  ·rw[List.mem_singleton.1 hx];exact Mo (by omega) (by omega)
  ·cases hx
 ·unfold rI at hx;split at hx
  ·rename_i h;rw[hD.par v h.2.1]at c;cases c
  ·cases hx
theorem aC2(j d:LD)(h:T.length=n)(nm:List UInt8)(o:Bool)(r:Int)(bs:LD):∃b,l7 n ps df b/\iQ E aW sites yT [.l [.l T,.l d,.l O,.l (aK n df)],oK nm o ps r bs] (.l []) [.l [.l T,.l (cC n b),.l O,.l (aK n df)]]:=by
 have l:=hD.n400;obtain⟨b,f,g⟩:=aEp hD T O (rI ps) (C8 hD);refine⟨b,f,bA jS (by rfl) rfl ?_⟩;show Ev _ _ (tW _) _;unfold tW;have c:=aEq hD T O;have e:List.replicate n (D.l [])=List.replicate T.length (D.l []):=by rw[h]
 rw[e]at c;refine aC ?_ (aP c (bG (aP g (bG (bI rfl rfl)))));show(cK 0 (T.length:Int)&&(aD (T.length:Int) (T.length:Int)&&jP (Int.toNat (T.length:Int)) 24))=true;rw[jK (by omega),qF];exact fG (by show T.length<=_;omega) (by omega)
end
end Go.Eng.Q

namespace Go.Eng.Q
open Go.Eng
open Classical in
noncomputable def dD(np:Nat)(bs:LD)(v:Nat):D:=if h:∃q,LQ np bs v q then .l (LO (gD (gD bs (Classical.choose h).1).els (Classical.choose h).2))else RV
theorem BJ{np:Nat}{bs:LD}{v:Nat}{q:Nat×Nat}(h:LQ np bs v q):dD np bs v=.l (LO (gD (gD bs q.1).els q.2)):=by have c:∃q,LQ np bs v q:=⟨q,h⟩;unfold dD;rw[dif_pos c,YC (Classical.choose_spec c) h]
theorem OW{np:Nat}{bs:LD}{v:Nat}(h:v<=np):dD np bs v=RV:=by unfold dD;rw[dif_neg];rintro⟨q,c⟩;have d:=c.v;have e:=Vh np bs q.1 q.2;omega
theorem YG:∀(l q:LD),CK q l=q++CK [] l
 |[],q=>by simp[CK]
 |x::l,q=>by show CK (bif eJ x then q++[.i (vI x 1)]else q) l=q++CK (bif eJ x then[]++[.i (vI x 1)]else[]) l;rw[YG l,YG l (bif eJ x then[]++[D.i (vI x 1)]else[])];cases eJ x<;>simp
theorem aC3:∀(l:LD)(k:Nat),k<l.length->eJ (gD l k)=true->gD (CK [] l) (eF l k)=.i (vI (gD l k) 1):=by
 intro l k c ht;have f:l=l.take k++gD l k::l.drop (k+1):=by
  have:gD l k=l[k]:=by simp[gD,List.getD,c]
  rw[this,<-List.drop_eq_getElem_cons c,List.take_append_drop]
 have d:CK [] l=CK [] (l.take k)++.i (vI (gD l k) 1)::CK [] (l.drop (k+1)):=by
  conv=>lhs;rw[f]
  unfold CK;rw[List.foldl_append,List.foldl_cons,ht,cond_true];have:=YG (l.drop (k+1)) (List.foldl (λq x=>bif eJ x then q++[.i (vI x 1)]else q) [] (l.take k)++[.i (vI (gD l k) 1)]);unfold CK at this;rw[this];simp
 have e:(CK [] (l.take k)).length=eF l k:=by rw[IB,Br l k (by omega)];simp
 rw[d,<-e];simp[gD,List.getD]
def rJ(ps bs:LD)(b:Nat):LD:=(bs.take b).foldl (λq b=>CK q b.els) ([.i 0]++ps)
theorem zF(ps bs:LD):∀b,b<=bs.length->(rJ ps bs b).length=aM ps.length bs b+1
 |0,_=>by simp[rJ,aM]
 |b+1,h=>by
  have c:b<bs.length:=by omega
  have d:gD bs b=bs[b]:=by simp[gD,List.getD,c]
  have:=zF ps bs b (by omega);unfold rJ at this⊢;rw[List.take_succ_eq_append_getElem c,List.foldl_append,aM,d,YD];show(CK _ bs[b].els).length=_;rw[IB,this];omega
theorem Ey(ps bs:LD)(b:Nat)(c:b<bs.length):rJ ps bs (b+1)=rJ ps bs b++CK [] (gD bs b).els:=by
 have d:gD bs b=bs[b]:=by simp[gD,List.getD,c]
 unfold rJ;rw[List.take_succ_eq_append_getElem c,List.foldl_append,d];exact YG _ _
theorem UQ(ps bs:LD):∀(c b:Nat),b+c<=bs.length->∀i,i<(rJ ps bs b).length->gD (rJ ps bs (b+c)) i=gD (rJ ps bs b) i
 |0,_,_,_,_=>rfl
 |c+1,b,h,i,d=>by
  have f:=UQ ps bs c b (by omega) i d;have e:i<(rJ ps bs (b+c)).length:=by rw[zF ps bs _ (by omega)];rw[zF ps bs _ (by omega)]at d;have:=EU ps.length bs (show b<=b+c by omega);omega
  rw[<-f,<-Nat.add_assoc,Ey ps bs (b+c) (by omega)];simp only[gD,List.getD];rw[List.getElem?_append_left e]
theorem aAU{ps bs:LD}{v:Nat}{q:Nat×Nat}(h:LQ ps.length bs v q):gD (bB ps bs) v=.i (vI (gD (gD bs q.1).els q.2) 1):=by
 have e:=h.b;have e1:bB ps bs=rJ ps bs bs.length:=by unfold rJ;rw[List.take_length];rfl
 have g:=zF ps bs q.1 (by omega);have hv:=h.v;unfold lQ at hv;have f:v<(rJ ps bs (q.1+1)).length:=by rw[zF ps bs _ (by omega),Qi];have:=Gn h.k h.t;omega
 have c:=UQ ps bs (bs.length-(q.1+1)) (q.1+1) (by omega) v f;rw[show q.1+1+(bs.length-(q.1+1))=bs.length by omega]at c;rw[e1,c,Ey ps bs q.1 e];have d:=aC3 (gD bs q.1).els q.2 h.k h.t;simp only[gD,List.getD]at d⊢;rw[List.getElem?_append_right (by omega)];rw[show v-(rJ ps bs q.1).length=eF (gD bs q.1).els q.2 by omega];exact d
theorem aAV{ps bs:LD}{v:Nat}(h:v<=ps.length):gD (bB ps bs) v=gD ([.i 0]++ps) v:=by
 have e1:bB ps bs=rJ ps bs bs.length:=by unfold rJ;rw[List.take_length];rfl
 have c:=UQ ps bs bs.length 0 (by omega) v (by rw[zF ps bs 0 (by omega)];unfold aM;omega);rw[Nat.zero_add]at c;rw[e1,c];unfold rJ;simp
def KZ(df:Nat->D)(v:Nat):Option Int:=if vI (df v) 0=1 then some (vI (df v) 4)else none
def aAW(df:Nat->D):Nat->Nat->Option Int
 |0,_=>none
 |k+1,v=>if vI (df v) 0=18\/vI (df v) 0=3 then some 0 else if vI (df v) 0=19 then(aAW df k (dW (df v) 0)).bind λa=>(KZ df (dW (df v) 1)).bind λm=>some (bJ .i64 a m)else none
structure Rk(n:Nat)(df:Nat->D)(rk:Nat->Nat):Prop where
 fall:∀v,v<n->vI (df v) 0=19->(eX (df v) 5).length=2/\∃u w:Nat,pP (df v) 0=u/\pP (df v) 1=w/\u<n/\w<n/\rk u<rk v
def iU(df:Nat->D)(rk:Nat->Nat)(v:Nat):Option Int:=aAW df (rk v+1) v
theorem QO{n:Nat}{df:Nat->D}{rk:Nat->Nat}(h:Rk n df rk):∀(k v:Nat),v<n->rk v<k->aAW df k v=iU df rk v
 |0,v,_,e=>absurd e (by omega)
 |k+1,v,hv,e=>by
  unfold iU aAW;by_cases e1:vI (df v) 0=18\/vI (df v) 0=3
  ·rw[if_pos e1,if_pos e1]
  ·rw[if_neg e1,if_neg e1];by_cases c:vI (df v) 0=19
   ·rw[if_pos c,if_pos c];obtain⟨_,u,w,f,m,d,s,t⟩:=h.fall v hv c;have g:dW (df v) 0=u:=by unfold dW;rw[f];rfl
    rw[g,QO h k u d (by omega)];by_cases j:rk v=0
    ·omega
    ·obtain⟨r,y⟩:∃r,rk v=r+1:=⟨rk v-1,by omega⟩;by_cases l:rk v<k+1/\rk v<k
     ·rw[QO h (rk v) u d (by omega)]
     ·have:rk v=k:=by omega
      rw[this,QO h k u d (by omega)]
   ·rw[if_neg c,if_neg c]
theorem LA{n:Nat}{df:Nat->D}{rk:Nat->Nat}(h:Rk n df rk){v:Nat}(hv:v<n):iU df rk v=if vI (df v) 0=18\/vI (df v) 0=3 then some 0 else if vI (df v) 0=19 then(iU df rk (dW (df v) 0)).bind λa=>(KZ df (dW (df v) 1)).bind λm=>some (bJ .i64 a m)else none:=by
 show aAW df (rk v+1) v=_;rw[aAW];by_cases e1:vI (df v) 0=18\/vI (df v) 0=3
 ·rw[if_pos e1,if_pos e1]
 ·rw[if_neg e1,if_neg e1];by_cases c:vI (df v) 0=19
  ·rw[if_pos c,if_pos c];obtain⟨_,u,w,d,j,e,l,f⟩:=h.fall v hv c;have g:dW (df v) 0=u:=by unfold dW;rw[d];rfl
   rw[g,QO h (rk v) u e f]
  ·rw[if_neg c,if_neg c]
end Go.Eng.Q

namespace Go.Eng.Q
open Go.Eng
def BK:Option Int->D
 |some a=>.l [.i 1,.i a]
 |none=>.l [.i 2,.i 0]
abbrev z2:D:=.l [.i 0,.i 0]
structure C9(n:Nat)(T:LD)(df:Nat->D)(rk:Nat->Nat)(O:Nat->D):Prop where
 or:∀u,u<n->O u=z2\/((gD T u).toI=3/\O u=BK (iU df rk u))
theorem C9.upd{n:Nat}{T:LD}{df:Nat->D}{rk:Nat->Nat}{O:Nat->D}(h:C9 n T df rk O){v:Nat}(c:(gD T v).toI=3):C9 n T df rk (fS O v (BK (iU df rk v))):=
 ⟨λu d=>by
  by_cases e:u=v
  ·subst e;rw[fK];exact .inr ⟨c,rfl⟩
  ·rw[nW _ _ e];exact h.or u d⟩
abbrev fnD(T B:LD)(O:LD)(c:LD):D:=.l [.l T,.l B,.l O,.l c]
structure aFS(n:Nat)(T:LD)(df:Nat->D)(rk:Nat->Nat):Prop where
 rk:Rk n df rk
 tl:T.length=n
 ty:∀v,v<n->(gD T v).toI=3->vI (df v) 0=19->(gD T (dW (df v) 0)).toI=3
section
variable{n:Nat}{T:LD}{df:Nat->D}{rk:Nat->Nat}(hP:aFS n T df rk)(B:LD)
theorem aC5(O:LD)(v:Nat)(hv:v<n):iQ E aW sites lT [fnD T B O (aK n df),.i (v:Int)] (.l [.i (vI (df v) 4),.b (aD (vI (df v) 0) 1)]) []:=by
 refine bA HP (by rfl) rfl ?_;show Ev _ _ (yV _) _;unfold yV;have hg:gD (aK n df) v=df v:=eB _ hv;refine aC ?_ (bI ?_ rfl)
 ·show aA (v:Int) (aK n df).length=true;rw[dA];exact aE hv
 ·show D.l [.i (vI (df v) 4),.b (aD (vI (df v) 0) 1)]=D.l [.i (vI (gD (aK n df) v) 4),.b (aD (vI (gD (aK n df) v) 0) 1)];rw[hg]
theorem Gq(O:Nat->D){v:Nat}(hv:v<n)(c:O v=z2)(x:Option Int)(a b:Int)(hx:BK x=.l [.i a,.i b])(d:D):
  (let z0:=(aK n O).set v (D.l (cN (D.els (gD (aK n O) v)) 0 (D.i a)));z0.set v (D.l (cN (D.els (gD z0 v)) 1 (D.i b))))=aK n (fS O v (BK x)):=by
 rw[hx];exact aCS (.i a) (.i b) hv c
include hP
theorem aC6:∀(k v:Nat),rk v<k->v<n->∀(O:Nat->D),C9 n T df rk O->
  ∃d,C9 n T df rk d/\(∀u,u<n->O u≠z2->d u=O u)/\((gD T v).toI=3->d v=BK (iU df rk v))/\
   iQ E aW sites vO [fnD T B (aK n O) (aK n df),.i (v:Int)] (if(gD T v).toI=3 then BK (iU df rk v)else z2) [fnD T B (aK n d) (aK n df)]
 |0,_,a4,_,_,_=>absurd a4 (by omega)
 |k+1,v,a4,hv,O,t=>by
  have b5:=hP.tl;have C:aA (v:Int) T.length=true:=by rw[b5];exact aE hv
  have j:aA (v:Int) (aK n O).length=true:=by rw[dA];exact aE hv
  have H:gD (aK n O) v=O v:=eB _ hv;have F:gD (aK n df) v=df v:=eB _ hv;have d1:BK (iU df rk v)≠z2:=by cases iU df rk v<;>simp[BK]
  by_cases g:(gD T v).toI=3
  ·rw[if_pos g];have b4:aD (gD T v).toI 3=true:=(bT _ _).2 g;rcases t.or v hv with f |⟨_,f⟩
   ·
    have s:((!(aD (gD T v).toI 3))||(!(aD (vI (gD (aK n O) v) 0) 0)))=false:=by rw[b4,H,f];rfl
    have cd:aA (v:Int) (aK n df).length=true:=by rw[dA];exact aE hv
    have r:∀q:Int,aD (vI (gD (aK n df) v) 0) q=aD (vI (df v) 0) q:=λq=>by rw[F]
    have c:=LA hP.rk hv;by_cases e1:vI (df v) 0=18\/vI (df v) 0=3
    ·rw[if_pos e1]at c;refine⟨fS O v (BK (iU df rk v)),t.upd g,λu c1 m=>nW _ _ (λe=>m (by rw[e];exact f)),λ_=>fK _ _ _,bA lP (by rfl) rfl ?_⟩;have G:=Gq (n:=n) O hv f (iU df rk v) 1 0 (by rw[c];rfl) z2;refine aC C (aC (aH j) (aJ s (aC cd ?_)));rcases e1 with e1 |e1
     ·refine aC ((r 18).trans ((bT _ _).2 e1)) (aC ((r 18).trans ((bT _ _).2 e1)) (aC j (bI ?_ ?_)))
      ·rw[c];rfl
      ·rw[<-G];rfl
     ·refine aJ ((r 18).trans (gR (by omega))) (aC ((r 3).trans ((bT _ _).2 e1)) (aC j (bI ?_ ?_)))
      ·rw[c];rfl
      ·rw[<-G];rfl
    ·rw[if_neg e1]at c;have V:=(r 18).trans (gR (show vI (df v) 0≠18 fromλh=>e1 (.inl h)));have W:=(r 3).trans (gR (show vI (df v) 0≠3 fromλh=>e1 (.inr h)));by_cases y:vI (df v) 0=19
     ·rw[if_pos y]at c;obtain⟨a2,u,w,Y,a0,b1,b2,b3⟩:=hP.rk.fall v hv y;have a3:dW (df v) 0=u:=by unfold dW;rw[Y];rfl
      have b6:dW (df v) 1=w:=by unfold dW;rw[a0];rfl
      have c0:(gD T u).toI=3:=by have:=hP.ty v hv g y;rw[a3]at this;exact this
      obtain⟨l,L,b0,c8,P⟩:=aC6 k u (by omega) b1 O t;rw[if_pos c0]at P;rw[a3,b6]at c;have a5:=aC5 (n:=n) (T:=T) (df:=df) B (aK n l) w b2;have c9:gD (aK n l) v=l v:=eB _ hv;have d0:v≠u:=λe=>by rw[e]at b3;omega
      have c2:aA 0 (nX (gD (aK n df) v) 5)=true:=by rw[F];show aA 0 (eX (df v) 5).length=true;rw[a2];rfl
      have c3:aA 1 (nX (gD (aK n df) v) 5)=true:=by rw[F];show aA 1 (eX (df v) 5).length=true;rw[a2];rfl
      have a7:(gD (eX (gD (aK n df) v) 5) 0).toI=(u:Int):=by rw[F];exact Y
      have a9:(gD (eX (gD (aK n df) v) 5) 1).toI=(w:Int):=by rw[F];exact a0
      have K:aA (v:Int) (aK n l).length=true:=by rw[dA];exact aE hv
      rw[<-a7]at P;rw[<-a9]at a5;have b7:∃d,C9 n T df rk d/\(∀q,q<n->l q≠z2->d q=l q)/\d v=BK (iU df rk v)/\(∀a b:Int,BK (iU df rk v)=.l [.i a,.i b]->(let z0:=(aK n l).set v (D.l (cN (D.els (gD (aK n l) v)) 0 (D.i a)));z0.set v (D.l (cN (D.els (gD z0 v)) 1 (D.i b))))=aK n d):=by
       refine⟨fS l v (BK (iU df rk v)),L.upd g,λq J m=>?_,fK _ _ _,λa b a1=>?_⟩
       ·by_cases e:q=v
        ·subst e;rw[fK];rcases L.or q J with h |⟨_,h⟩
         ·exact absurd h m
         ·exact h.symm
        ·exact nW _ _ e
       ·rw[a1];rcases L.or v hv with h |⟨_,h⟩
        ·exact aCS (.i a) (.i b) hv h
        ·exact aCS (.i a) (.i b) hv (h.trans a1)
      obtain⟨d,c4,c5,c6,U⟩:=b7;refine⟨d,c4,λq J m=>?_,λ_=>c6,bA lP (by rfl) rfl ?_⟩
      ·have:=b0 q J m;rw[c5 q J (by rw[this];exact m),this]
      refine aC C (aC (aH j) (aJ s (aC cd (aJ V (aJ W ?_)))));unfold pH;refine aC ((r 19).trans ((bT _ _).2 y)) (aC c2 (bK P rfl (aC c3 (bK a5 rfl ?_))));cases a6:iU df rk u with
      |none=>
       rw[a6]at c;refine aJ rfl (aC K (bI ?_ ?_))
       ·rw[c];rfl
       ·rw[<-U 2 0 (by rw[c];rfl)];rfl
      |some a=>
       rw[a6]at c;cases Q:aD (vI (df w) 0) 1 with
       |false=>
        have:KZ df w=none:=by unfold KZ;rw[if_neg (λh=>by rw[h,qF]at Q;cases Q)]
        rw[this]at c;refine aJ rfl (aC K (bI ?_ ?_))
        ·rw[c];rfl
        ·rw[<-U 2 0 (by rw[c];rfl)];rfl
       |true=>
        have:KZ df w=some (vI (df w) 4):=by unfold KZ;rw[if_pos ((bT _ _).1 Q)]
        rw[this]at c;refine aC rfl (aC K (bI ?_ ?_))
        ·rw[c];rfl
        ·rw[<-U 1 (bJ .i64 a (vI (df w) 4)) (by rw[c];rfl)];rfl
     ·rw[if_neg y]at c;refine⟨fS O v (BK (iU df rk v)),t.upd g,λu c1 m=>nW _ _ (λe=>m (by rw[e];exact f)),λ_=>fK _ _ _,bA lP (by rfl) rfl ?_⟩;have G:=Gq (n:=n) O hv f (iU df rk v) 2 0 (by rw[c];rfl) z2;refine aC C (aC (aH j) (aJ s (aC cd (aJ V (aJ W ?_)))));unfold pH;refine aJ ((r 19).trans (gR y)) (aC j (bI ?_ ?_))
      ·rw[c];rfl
      ·rw[<-G];rfl
   ·refine⟨O,t,λ_ _ _=>rfl,λ_=>f,bA lP (by rfl) rfl ?_⟩;have s:((!(aD (gD T v).toI 3))||(!(aD (vI (gD (aK n O) v) 0) 0)))=true:=by
     rw[H,f];cases iU df rk v<;>exact Bool.or_true _
    refine aC C (aC (aH j) (aC s (aC j (bI ?_ rfl))));show BK (iU df rk v)=D.l [.i (vI (gD (aK n O) v) 0),.i (vI (gD (aK n O) v) 1)];rw[H,f];cases iU df rk v<;>rfl
  ·rw[if_neg g];refine⟨O,t,λ_ _ _=>rfl,λh=>absurd h g,bA lP (by rfl) rfl ?_⟩;have f:O v=z2:=by
    rcases t.or v hv with h |⟨h,_⟩
    ·exact h
    ·exact absurd h g
   have s:((!(aD (gD T v).toI 3))||(!(aD (vI (gD (aK n O) v) 0) 0)))=true:=by rw[gR g];rfl
   have c7:(!(!(!(aD (gD T v).toI 3))))=true:=by rw[gR g];rfl
   refine aC C (aC (aH j) (aC s (aC j (bI ?_ rfl))));show z2=D.l [.i (vI (gD (aK n O) v) 0),.i (vI (gD (aK n O) v) 1)];rw[H,f];rfl
def qP(n:Nat)(T:LD)(df:Nat->D)(rk:Nat->Nat):LD:=aK n λv=>if(gD T v).toI=3 then BK (iU df rk v)else z2
theorem aEr(s:LD)(J:n<=400):iQ E aW sites BH [fnD T B s (aK n df)] (.l []) [fnD T B (qP n T df rk) (aK n df)]:=by
 have l:=hP.tl;refine bA xV (by rfl) rfl ?_;show Ev _ _ (xT _) _;unfold xT;have h:∃O,(C9 n T df rk O/\∀u,u<n->(gD T u).toI=3->O u=BK (iU df rk u))/\fV xU 0 [.i 0,.i (T.length:Int),.l T,.l B,.l (aK n λ_=>z2),.l (aK n df)] (0,[.l T,.l B,.l (aK n O),.l (aK n df)]):=by
  refine EP xV (λj(O:Nat->D)=>[.i (j:Int),.i (T.length:Int),.l T,.l B,.l (aK n O),.l (aK n df)]) n (λO=>(0,[.l T,.l B,.l (aK n O),.l (aK n df)])) (λj O=>C9 n T df rk O/\∀u,u<j->(gD T u).toI=3->O u=BK (iU df rk u)) (λj O m g=>?_) (λO g=>?_) (s0:=λ_=>z2) ⟨⟨λ_ _=>.inl rfl⟩,λu d=>absurd d (by omega)⟩
  ·obtain⟨r,v,y,C,F⟩:=aC6 hP B (rk j+1) j (by omega) m O g.1;refine⟨r,⟨v,λu d c=>?_⟩,?_⟩
   ·by_cases e:u=j
    ·subst e;exact C c
    ·have:=g.2 u (by omega) c;rw[y u (by omega) (by rw[this];cases iU df rk u<;>simp[BK]),this]
   ·refine aC ?_ (bK F rfl (aO (nx m (by omega) [] _)));show aQ (j:Int) (T.length:Int)=true;rw[l];exact aV m
  ·refine aJ ?_ (bH rfl);show aQ (n:Int) (T.length:Int)=false;rw[l];exact aX _
 obtain⟨O,⟨G,H⟩,f⟩:=h;have e1:aK n O=qP n T df rk:=dV λu d=>by
  by_cases c:(gD T u).toI=3
  ·rw[if_pos c];exact H u d c
  ·rw[if_neg c];rcases G.or u d with h |⟨h,_⟩
   ·exact h
   ·exact absurd h c
 rw[e1,rY]at f;have t:List.replicate n z2=List.replicate T.length (D.l [.i 0,.i 0]):=by rw[l]
 rw[t]at f;refine aC ?_ (aP f (bG (bI rfl rfl)));show(cK 0 (T.length:Int)&&(aD (T.length:Int) (T.length:Int)&&jP (Int.toNat (T.length:Int)) 16))=true;rw[jK (by omega),qF];exact fG (by show T.length<=_;omega) (by omega)
end
end Go.Eng.Q

namespace Go.Eng.Q
open Go.Eng
theorem l8(bs:LD)(c:fZ bs):∀b,b<=bs.length->∃s:Nat,(bs.take b).foldl (λa x=>bJ .i64 a (iE x)) 0=(s:Int)/\s<=b*10000/\∀np,aM np bs b<=np+s
 |0,_=>⟨0,rfl,Nat.zero_le _,λnp=>Nat.le_refl _⟩
 |b+1,h=>by
  obtain⟨s,e,l,f⟩:=l8 bs c b (by omega);have d:b<bs.length:=by omega
  have hg:gD bs b=bs[b]:=by simp[gD,List.getD,d]
  have g:=(c.2 b d).ins;have j:=c.1;unfold fF at g j;have:=Nat.mul_le_mul (show b<=10000 by omega) (Nat.le_refl 10000);refine⟨s+(gD bs b).els.length,?_,?_,λnp=>?_⟩
  ·rw[List.take_succ_eq_append_getElem d,List.foldl_append,e,<-hg];show bJ .i64 (s:Int) ((gD bs b).els.length:Int)=_;rw[BU _ _ _ (by simp[UU,UV];omega),vM (by omega) (by omega)];omega
  ·rw[Nat.add_mul];omega
  ·have:=f np;have m:=YB (gD bs b).els (gD bs b).els.length;rw[aM];omega
theorem EX{xs gs ts fs:LD}(h:jD xs gs ts fs=true):xs.length<=12/\gs.length<=12/\ts.length<=6/\fs.length<=24/\∀j,j<fs.length->(eX (gD fs j) 2).length<=5/\(eX (gD fs j) 4).length<=40/\uG (eX (gD fs j) 4)<=300:=by unfold jD at h;rw[Bool.and_eq_true,qG,Bool.or_eq_false_iff,Bool.or_eq_false_iff,Bool.or_eq_false_iff,Bool.and_eq_true,Bool.and_eq_true,Bool.and_eq_true]at h;obtain⟨⟨⟨⟨g,l⟩,m⟩,r⟩,K,L,P,s⟩:=h;have F:¬((24:Int)<(fs.length:Int)):=qH g;have G:¬((12:Int)<(xs.length:Int)):=qH l;have H:¬((12:Int)<(gs.length:Int)):=qH m;have J:¬((6:Int)<(ts.length:Int)):=qH r;refine⟨by omega,by omega,by omega,by omega,λj t=>?_⟩;have c:=lG.1 (qG.1 s) j t;unfold EQ at c;rw[Bool.or_eq_false_iff,Bool.or_eq_false_iff,Bool.or_eq_false_iff]at c;obtain⟨⟨⟨d,v⟩,e⟩,f⟩:=c;have u:¬((5:Int)<((eX (gD fs j) 2).length:Int)):=qH d;have y:¬((40:Int)<((eX (gD fs j) 4).length:Int)):=qH e;have C:=qH f;exact⟨by omega,by omega,by omega⟩
structure Nr(nx ng nf:Nat)(xs fs:LD)(ps bs:LD)(r:Int):Prop where
 tp:fF ps
 tb:fZ bs
 b0:0<bs.length
 b40:bs.length<=40
 n:aM ps.length bs bs.length<400
 fm:nS bs
 fl:mL bs=true
 us:GI ps.length bs=true
 ty:KV xs fs r ps bs=true
 sy:Bt nx nf bs
 gl:∀b,b<bs.length->∀k,k<(gD bs b).els.length->vI (gD (gD bs b).els k) 0=3->∃g:Nat,vI (gD (gD bs b).els k) 3=g/\g<ng
 fo:∀b,b<bs.length->∀k,k<(gD bs b).els.length->vI (gD (gD bs b).els k) 0=2->∃g:Nat,vI (gD (gD bs b).els k) 3=g/\g<nf
theorem Vl{xs gs ts fs:LD}(h:GF xs gs ts fs=true){j b k:Nat}(f:j<fs.length)(e:b<(eX (gD fs j) 4).length)(l:k<(gD (eX (gD fs j) 4) b).els.length){n:Nat}
  (m:uL xs.length gs.length ts.length fs.length (vI (gD (gD (eX (gD fs j) 4) b).els k) 0)=n):∃g:Nat,vI (gD (gD (eX (gD fs j) 4) b).els k) 3=g/\g<n:=by
 unfold GF at h;rw[Bool.and_eq_true,qG,qG]at h;have c:=lG.1 (lG.1 (lG.1 h.2 j f) b e) k l;unfold ER at c;rw[Bool.or_eq_false_iff,m]at c;have r:=qH c.1;have s:¬((n:Int)<=vI (gD (gD (eX (gD fs j) 4) b).els k) 3):=λd=>by rw[jK d]at c;cases c.2
 exact⟨(vI (gD (gD (eX (gD fs j) 4) b).els k) 3).toNat,by omega,by omega⟩
theorem QP{xs gs ts fs:LD}(m:RX xs gs ts fs)(h:OkM xs gs ts fs){j:Nat}(c:j<fs.length):Nr xs.length gs.length fs.length xs fs (eX (gD fs j) 2) (fR (gD fs j)) (vI (gD fs j) 3):=by
 have hf:=m.f j c;obtain⟨s1,F,G,H,r⟩:=EX h.sm;obtain⟨y,l,C⟩:=r j c;obtain⟨s,e1,u,g⟩:=l8 (eX (gD fs j) 4) hf.bbs _ (Nat.le_refl _);rw[List.take_length]at e1;have t:uG (eX (gD fs j) 4)=(s:Int):=e1;have v:=g (eX (gD fs j) 2).length;exact⟨hf.ps,hf.bbs,YF h.sm j c,l,by show aM (eX (gD fs j) 2).length (eX (gD fs j) 4) (eX (gD fs j) 4).length<400;omega,Bq h.fm j c,h.fl j c,h.us j c,h.ty j c,Vj h.sy j c,
  λb d k e f=>Vl h.sy c d e (by rw[f];rfl),λb d k e f=>Vl h.sy c d e (by rw[f];rfl)⟩
abbrev nv(ps bs:LD):Nat:=aM ps.length bs bs.length+1
section
variable{nx ng nf:Nat}{xs fs ps bs:LD}{r:Int}(h:Nr nx ng nf xs fs ps bs r)(hng:ng<=12)
include h
omit h in
theorem UR{v:Nat}(hv:v<nv ps bs)(c:ps.length<v):∃q,LQ ps.length bs v q:=by obtain⟨q,_,d⟩:=Lx bs.length (Nat.le_refl _) v c (by unfold nv at hv;omega);exact⟨q,d⟩
theorem Mr{v:Nat}{q:Nat×Nat}(d:LQ ps.length bs v q):vI (gD (gD bs q.1).els q.2) 2=(v:Int):=by
 have f:=h.us;unfold GI at f;rw[Bool.and_eq_true,qG,qG]at f;have c:=bQ.1 (bQ.1 f.1 q.1 d.b) q.2 d.k;unfold Et at c;rw[d.t,Bool.true_and]at c;have g:aD (vI (gD (gD bs q.1).els q.2) 2) (lQ ps.length bs q.1 q.2:Int)=true:=by
  cases e:aD (vI (gD (gD bs q.1).els q.2) 2) (lQ ps.length bs q.1 q.2:Int)with
  |true=>rfl
  |false=>rw[e]at c;cases c
 rw[(bT _ _).1 g,d.v]
omit h in
theorem aEs{v:Nat}(hv:v<nv ps bs)(c:xW (dD ps.length bs) v=true):∃q,LQ ps.length bs v q:=by
 by_cases e:v<=ps.length
 ·unfold xW at c;rw[OW e]at c;cases c
 ·exact UR hv (by omega)
theorem Bv{b k:Nat}(e:b<bs.length)(g:k<(gD bs b).els.length){j:Nat}(f:j<(eX (gD (gD bs b).els k) 5).length):∃u:Nat,pP (gD (gD bs b).els k) j=u/\1<=u/\u<nv ps bs:=by obtain⟨u,c,d,l⟩:=Vi h.us b e k g j f;exact⟨u,c,d,by unfold nv;omega⟩
include hng in
theorem Ms:l5 (nv ps bs) ps (dD ps.length bs):=by
 have C:=h.n;refine⟨by unfold nv;omega,λv hv s=>?_,λv hv=>?_,?_⟩
 ·obtain⟨q,c⟩:=aEs hv s;rw[BJ c];have hf:=h.fm q.1 c.b q.2 c.k;refine⟨λj r=>?_,λe=>hf.a2 (.inr (.inl e)),λe=>hf.a3 e,λe=>?_,λe=>?_⟩
  ·obtain⟨u,l,y,m⟩:=Bv h c.b c.k r;exact⟨u,l,m⟩
  ·obtain⟨d,_⟩:=Ma h.fl c.b c.k e;have f:=(hf.ap e).2;have t:(iP bs q.1).length<=bs.length:=Bp bs bs.length q.1;have:=h.b40;show(eX (gD (gD bs q.1).els q.2) 5).length<=40;omega
  ·obtain⟨g,d,f⟩:=h.gl q.1 c.b q.2 c.k e;exact⟨g,d,by omega⟩
 ·unfold xW;rw[OW hv];rfl
 ·have:=ON ps.length bs bs.length;unfold nv;omega
open Classical in
noncomputable def mN(np:Nat)(bs:LD)(v:Nat):Nat:=if c:∃q,LQ np bs v q then(bs.length-tE bs.length (λi=>dM bs i (Classical.choose c).1))*20000+(Classical.choose c).2 +1 else 0
omit h in
theorem l9{np v:Nat}{q:Nat×Nat}(d:LQ np bs v q):mN np bs v=(bs.length-tE bs.length (λi=>dM bs i q.1))*20000+q.2+1:=by have c:∃q,LQ np bs v q:=⟨q,d⟩;unfold mN;rw[dif_pos c,YC (Classical.choose_spec c) d]
omit h in
theorem aEt{np v:Nat}(hv:v<=np):mN np bs v=0:=by unfold mN;rw[dif_neg];rintro⟨q,c⟩;have d:=c.v;have e:=Vh np bs q.1 q.2;omega
omit h in
theorem n5(f:Nat->Bool):∀n,tE n f<=n
 |0=>Nat.le_refl _
 |n+1=>by have:=n5 f n;unfold tE;cases f n<;>simp<;>omega
theorem aEu{v:Nat}{q:Nat×Nat}(c:LQ ps.length bs v q)(t:vI (gD (gD bs q.1).els q.2) 0≠26){j:Nat}(H:j<(eX (gD (gD bs q.1).els q.2) 5).length){u:Nat}(L:pP (gD (gD bs q.1).els q.2) j=u):mN ps.length bs u<mN ps.length bs v:=by
 have W:=h.b40;have s:=h.us;unfold GI at s;rw[Bool.and_eq_true,qG,qG]at s;have hx:=bQ.1 (bQ.1 s.2 q.1 c.b) q.2 c.k;have Q:=bQ.1 hx j H;obtain⟨w,C,T,U,f⟩:=B6 bs (np:=ps.length) (by omega) c.b (Nat.le_of_lt c.k) Q (λe=>absurd e t);have P:w=u:=by rw[C]at L;omega
 subst P;rw[l9 c];rcases f with f |⟨f,d,V,r,_,F⟩
 ·rw[aEt f];omega
 ·obtain⟨p,g⟩:=UR (ps:=ps) (bs:=bs) (v:=w) (by unfold nv;omega) f;have hd:p.1=d:=by
   have e1:gD (oU ps.length bs) w=.i (Vt ps.length bs w).1 :=(eB _ (by omega)).trans (Mb f);rw[e1,GH g]at r;injection r with r;omega
  subst hd;rw[l9 g];have K:=(h.tb.2 p.1 g.b).ins;unfold fF at K;have a0:=g.k;rcases F t with⟨l,m⟩ |⟨l,m⟩
  ·have Y:tE bs.length (λi=>dM bs i q.1)<tE bs.length (λi=>dM bs i p.1):=by
    have J:=OR h.fl q.1 c.b;refine KS bs.length (i:=q.1) (λi G=>QL G m) c.b ?_ (OQ J);cases e:dM bs q.1 p.1 with
    |false=>rfl
    |true=>exact absurd (A9 m e) l
   have a1:=n5 (λi=>dM bs i p.1) bs.length;have:(bs.length-tE bs.length (λi=>dM bs i p.1))+1<=bs.length-tE bs.length (λi=>dM bs i q.1):=by omega
   have:=Nat.mul_le_mul_right 20000 this;rw[Nat.add_mul]at this;omega
  ·have y:=g.v;unfold lQ at y;rw[l]at y⊢;have:p.2<q.2:=by
    by_cases e:p.2<q.2
    ·exact e
    ·have:=QK (gD bs q.1).els (show q.2<=p.2 by omega);omega
   omega
theorem Bw:aFS (nv ps bs) (bB ps bs) (dD ps.length bs) (mN ps.length bs):=by
 refine⟨⟨λv hv e=>?_⟩,zD ps bs,λv hv J e=>?_⟩
 ·by_cases s:v<=ps.length
  ·rw[OW s]at e;cases e
  ·obtain⟨q,c⟩:=UR hv (by omega);rw[BJ c]at e⊢;have f:vI (gD (gD bs q.1).els q.2) 0=19:=e;have hf:=h.fm q.1 c.b q.2 c.k;have y:(eX (gD (gD bs q.1).els q.2) 5).length=2:=hf.a2 (.inr (.inl f));obtain⟨u,d,g,l⟩:=Bv h c.b c.k (j:=0) (by omega);obtain⟨w,F,H,G⟩:=Bv h c.b c.k (j:=1) (by omega);exact⟨y,u,w,d,F,l,G,aEu h c (by omega) (j:=0) (by omega) d⟩
 ·by_cases s:v<=ps.length
  ·rw[OW s]at e;cases e
  ·obtain⟨q,c⟩:=UR hv (by omega);rw[BJ c]at e⊢;have f:vI (gD (gD bs q.1).els q.2) 0=19:=e;have t:=h.ty;unfold KV at t;rw[qG]at t;have d:=bQ.1 (bQ.1 t q.1 c.b) q.2 c.k;have g:rH xs fs r (bB ps bs) (gD (gD bs q.1).els q.2)=true:=by
    cases C:rH xs fs r (bB ps bs) (gD (gD bs q.1).els q.2)with
    |true=>rfl
    |false=>rw[C]at d;cases d
   unfold rH at g;rw[f]at g;have l:((aD (vI (gD (gD bs q.1).els q.2) 1) 3&&aD (g' (kG (bB ps bs) (eX (gD (gD bs q.1).els q.2) 5)) 0) 3)&&aD (g' (kG (bB ps bs) (eX (gD (gD bs q.1).els q.2) 5)) 1) 1)=true:=g;rw[Bool.and_eq_true,Bool.and_eq_true]at l;have hf:=h.fm q.1 c.b q.2 c.k;have y:(eX (gD (gD bs q.1).els q.2) 5).length=2:=hf.a2 (.inr (.inl f));have m:=(bT _ _).1 l.1.2;unfold g' at m;rw[OS (by omega)]at m;exact m
end
end Go.Eng.Q

namespace Go.Eng.Q
open Go.Eng
theorem S8{n k:Nat}(g:Nat->D)(c:k<n)(i:Nat)(a:D):(aK n g).set k (D.l (cN (D.els (gD (aK n g) k)) i a))=aK n (fS g k (.l (cN (D.els (g k)) i a))):=by rw[eB _ c,nY]
theorem aHJ{n k:Nat}{g:Nat->D}(c:k<n)(hg:g k=RV)(a0 a1 a2 a3 a4 a5 d:D):
  (let z0:=(aK n g).set k (D.l (cN (D.els (gD (aK n g) k)) 0 a0));let e:=z0.set k (D.l (cN (D.els (gD z0 k)) 1 a1));let z2:=e.set k (D.l (cN (D.els (gD e k)) 2 a2));let z3:=z2.set k (D.l (cN (D.els (gD z2 k)) 3 a3));
   let z4:=z3.set k (D.l (cN (D.els (gD z3 k)) 4 a4));let z5:=z4.set k (D.l (cN (D.els (gD z4 k)) 5 a5));z5.set k (D.l (cN (D.els (gD z5 k)) 6 d)))=aK n (fS g k (.l [a0,a1,a2,a3,a4,a5,d])):=by
 dsimp only;rw[S8 g c,S8 _ c,S8 _ c,S8 _ c,S8 _ c,S8 _ c,S8 _ c];simp only[fK,HZ];rw[hg];rfl
def Ef(t0:Nat->Bool)(R:Nat->Nat->Prop)(n:Nat)(s:Nat->Bool):Prop:=∀g,s g=true<->t0 g=true\/∃i,i<n/\R i g
theorem Ef.zero{t0:Nat->Bool}{R:Nat->Nat->Prop}:Ef t0 R 0 t0:=λg=>⟨.inl,λh=>h.elim id λ⟨i,c,_⟩=>absurd c (by omega)⟩
theorem Ef.succ{t0:Nat->Bool}{R:Nat->Nat->Prop}{n:Nat}{s d:Nat->Bool}(h:Ef t0 R n s)(f:∀g,d g=true<->s g=true\/R n g):Ef t0 R (n+1) d:=λg=>by
 rw[f,h g];constructor
 ·rintro((c |⟨i,j,c⟩) |c)
  ·exact .inl c
  ·exact .inr ⟨i,by omega,c⟩
  ·exact .inr ⟨n,by omega,c⟩
 ·rintro(c |⟨i,j,c⟩)
  ·exact .inl (.inl c)
  ·by_cases e:i=n
   ·subst e;exact .inr c
   ·exact .inl (.inr ⟨i,by omega,c⟩)
theorem Al(s:Nat->Bool)(k g:Nat):tD s k g=true<->s g=true\/g=k:=by
 by_cases e:g=k
 ·subst e;rw[kO];simp
 ·rw[CI _ e];simp[e]
abbrev Ab(x:D)(g:Nat):Prop:=vI x 0=2/\vI x 3=(g:Int)
abbrev Eg(bs:LD)(g:Nat):Prop:=∃b,b<bs.length/\∃k,k<(gD bs b).els.length/\Ab (gD (gD bs b).els k) g
def aGK(ps bs:LD)(x:D):Prop:=∃b,l7 (nv ps bs) ps (dD ps.length bs) b/\x=fnD (bB ps bs) (cC (nv ps bs) b) (qP (nv ps bs) (bB ps bs) (dD ps.length bs) (mN ps.length bs)) (aK (nv ps bs) (dD ps.length bs))
section
variable{n1 n2 nf:Nat}{xs fs ps bs:LD}{r:Int}(h:Nr n1 n2 nf xs fs ps bs r)(gs ts:LD)(nm:List UInt8)(o:Bool)(j:Nat)(out:LD)
noncomputable abbrev Vm(np:Nat)(bs:LD)(c:Nat):Nat->D:=gT (dD np bs) RV c
include h
theorem aHK(b:Nat)(y:b<bs.length)(F:Nat->Bool):∃C:Nat->Bool,Ef F (λk g=>Ab (gD (gD bs b).els k) g) (gD bs b).els.length C/\fV uE 8
  [.i (bs.length:Int),.l fs,.i 0,.i (j:Int),.l (gD bs b).els,.i (b:Int),.i (fs.length:Int),.i ((gD bs b).els.length:Int),.l bs,.s nm,.b o,.l ps,.i r,.l bs,.l xs,.l gs,.l ts,.l fs,.l (aZ nf F),.l (aK (nv ps bs) (Vm ps.length bs (aM ps.length bs b+1))),.l out,.l (bB ps bs)]
  (0,[.i (bs.length:Int),.l fs,.i (j:Int),.i (b:Int),.i (fs.length:Int),.l bs,.s nm,.b o,.l ps,.i r,.l bs,.l xs,.l gs,.l ts,.l fs,.l (aZ nf C),.l (aK (nv ps bs) (Vm ps.length bs (aM ps.length bs (b+1)+1))),.l out,.l (bB ps bs)]):=by
 have a4:=(h.tb.2 b y).ins.sane;have a3:=EP uF (b:=8) (λk(d:Nat->Bool)=>[.i (bs.length:Int),.l fs,.i (k:Int),.i (j:Int),.l (gD bs b).els,.i (b:Int),.i (fs.length:Int),.i ((gD bs b).els.length:Int),.l bs,.s nm,.b o,.l ps,.i r,.l bs,.l xs,.l gs,.l ts,.l fs,.l (aZ nf d),.l (aK (nv ps bs) (Vm ps.length bs (aM ps.length bs b+eF (gD bs b).els k+1))),.l out,.l (bB ps bs)]) (gD bs b).els.length
  (λd=>(0,[.i (bs.length:Int),.l fs,.i (j:Int),.i (b:Int),.i (fs.length:Int),.l bs,.s nm,.b o,.l ps,.i r,.l bs,.l xs,.l gs,.l ts,.l fs,.l (aZ nf d),.l (aK (nv ps bs) (Vm ps.length bs (aM ps.length bs (b+1)+1))),.l out,.l (bB ps bs)])) (λk s=>Ef F (λk g=>Ab (gD (gD bs b).els k) g) k s) (λk d f P=>?_) (λd _=>?_) (s0:=F) Ef.zero
 ·obtain⟨C,W,Y⟩:=a3;exact⟨C,W,Y⟩
 ·have hx:∀(u v:D),[D.i (bs.length:Int),.l fs,.i ((k+1:Nat):Int),.i (j:Int),.l (gD bs b).els,.i (b:Int),.i (fs.length:Int),.i ((gD bs b).els.length:Int),.l bs,.s nm,.b o,.l ps,.i r,.l bs,.l xs,.l gs,.l ts,.l fs,u,v,.l out,.l (bB ps bs)]=[D.i (bs.length:Int),.l fs,.i (bJ .i64 (k:Int) 1),.i (j:Int),.l (gD bs b).els,.i (b:Int),.i (fs.length:Int),.i ((gD bs b).els.length:Int),.l bs,.s nm,.b o,.l ps,.i r,.l bs,.l xs,.l gs,.l ts,.l fs,u,v,.l out,.l (bB ps bs)]:=λu v=>nx f a4 [_,_] _;have L:(eJ (gD (gD bs b).els k)=false/\aK (nv ps bs) (Vm ps.length bs (aM ps.length bs b+eF (gD bs b).els (k+1)+1))=aK (nv ps bs) (Vm ps.length bs (aM ps.length bs b+eF (gD bs b).els k+1)))\/
    (eJ (gD (gD bs b).els k)=true/\aA (vI (gD (gD bs b).els k) 2) (aK (nv ps bs) (Vm ps.length bs (aM ps.length bs b+eF (gD bs b).els k+1))).length=true/\(let z0:=(aK (nv ps bs) (Vm ps.length bs (aM ps.length bs b+eF (gD bs b).els k+1))).set (Int.toNat (vI (gD (gD bs b).els k) 2)) (D.l (cN (D.els (gD (aK (nv ps bs) (Vm ps.length bs (aM ps.length bs b+eF (gD bs b).els k+1))) (Int.toNat (vI (gD (gD bs b).els k) 2)))) 0 (.i (vI (gD (gD bs b).els k) 0))));let T:=z0.set (Int.toNat (vI (gD (gD bs b).els k) 2)) (D.l (cN (D.els (gD z0 (Int.toNat (vI (gD (gD bs b).els k) 2)))) 1 (.i (vI (gD (gD bs b).els k) 1))));let z2:=T.set (Int.toNat (vI (gD (gD bs b).els k) 2)) (D.l (cN (D.els (gD T (Int.toNat (vI (gD (gD bs b).els k) 2)))) 2 (.i (vI (gD (gD bs b).els k) 2))));let z3:=z2.set (Int.toNat (vI (gD (gD bs b).els k) 2)) (D.l (cN (D.els (gD z2 (Int.toNat (vI (gD (gD bs b).els k) 2)))) 3 (.i (vI (gD (gD bs b).els k) 3))));let z4:=z3.set (Int.toNat (vI (gD (gD bs b).els k) 2)) (D.l (cN (D.els (gD z3 (Int.toNat (vI (gD (gD bs b).els k) 2)))) 4 (.i (vI (gD (gD bs b).els k) 4))));let z5:=z4.set (Int.toNat (vI (gD (gD bs b).els k) 2)) (D.l (cN (D.els (gD z4 (Int.toNat (vI (gD (gD bs b).els k) 2)))) 5 (.l (eX (gD (gD bs b).els k) 5))));z5.set (Int.toNat (vI (gD (gD bs b).els k) 2)) (D.l (cN (D.els (gD z5 (Int.toNat (vI (gD (gD bs b).els k) 2)))) 6 (.l (eX (gD (gD bs b).els k) 6)))))=aK (nv ps bs) (Vm ps.length bs (aM ps.length bs b+eF (gD bs b).els (k+1)+1))):=by
   cases e:eJ (gD (gD bs b).els k)with
   |false=>left;exact⟨rfl,by rw[Ly e]⟩
   |true=>
    right;have Q:LQ ps.length bs (lQ ps.length bs b k) (b,k):=⟨y,f,e,rfl⟩;have a5:=Mr h Q;have hv:=Ve (np:=ps.length) y f e;have J:vI (gD (gD bs b).els k) 2=(lQ ps.length bs b k:Int):=a5;refine⟨rfl,?_,?_⟩
    ·rw[J,dA];exact aE (by unfold nv;omega)
    ·rw[J];have a1:aM ps.length bs b+eF (gD bs b).els k+1=lQ ps.length bs b k:=rfl;have a2:aM ps.length bs b+eF (gD bs b).els (k+1)+1=lQ ps.length bs b k+1:=by rw[Es e];rfl
     rw[a2,a1];have a0:=aHJ (n:=nv ps bs) (k:=lQ ps.length bs b k) (g:=Vm ps.length bs (lQ ps.length bs b k)) (by unfold nv;omega) (A8 (by omega)) (.i (vI (gD (gD bs b).els k) 0)) (.i (vI (gD (gD bs b).els k) 1)) (.i (lQ ps.length bs b k:Int)) (.i (vI (gD (gD bs b).els k) 3)) (.i (vI (gD (gD bs b).els k) 4)) (.l (eX (gD (gD bs b).els k) 5)) (.l (eX (gD (gD bs b).els k) 6));refine a0.trans ?_;have hd:D.l [.i (vI (gD (gD bs b).els k) 0),.i (vI (gD (gD bs b).els k) 1),.i (lQ ps.length bs b k:Int),.i (vI (gD (gD bs b).els k) 3),.i (vI (gD (gD bs b).els k) 4),.l (eX (gD (gD bs b).els k) 5),.l (eX (gD (gD bs b).els k) 6)]=dD ps.length bs (lQ ps.length bs b k):=by rw[BJ Q,<-J];rfl
     rw[hd,<-nY];exact Vf rfl
  have t:∀{c:Bool},eJ (gD (gD bs b).els k)=c->(!(aD (vI (gD (gD bs b).els k) 1) 0))=c:=λh=>h;cases m:aD (vI (gD (gD bs b).els k) 0) 2 with
  |true=>
   obtain⟨g,H,K⟩:=h.fo b y k f ((bT _ _).1 m);have U:aA (vI (gD (gD bs b).els k) 3) (aZ nf d).length=true:=by rw[H,fH];exact aE K
   have cs:(aZ nf d).set (Int.toNat (vI (gD (gD bs b).els k) 3)) (.b true)=aZ nf (tD d g):=by rw[H];exact zC d K
   refine⟨tD d g,P.succ λg'=>?_,?_⟩
   ·rw[Al];exact or_congr Iff.rfl ⟨λh=>⟨(bT _ _).1 m,by rw[H,h]⟩,λh=>by have:=h.2;omega⟩
   refine aC (aV f) (aC (aE f) (aC m (aC U ?_)));rcases L with⟨d1,l⟩ |⟨d1,l,G⟩
   ·refine aJ (t d1) (aO ?_);show[D.i (bs.length:Int),.l fs,.i ((k+1:Nat):Int),.i (j:Int),.l (gD bs b).els,.i (b:Int),.i (fs.length:Int),.i ((gD bs b).els.length:Int),.l bs,.s nm,.b o,.l ps,.i r,.l bs,.l xs,.l gs,.l ts,.l fs,.l (aZ nf (tD d g)),.l (aK (nv ps bs) (Vm ps.length bs (aM ps.length bs b+eF (gD bs b).els (k+1)+1))),.l out,.l (bB ps bs)]=_;rw[l,<-cs];exact hx _ _
   ·refine aC (t d1) (aC l (aO ?_));show[D.i (bs.length:Int),.l fs,.i ((k+1:Nat):Int),.i (j:Int),.l (gD bs b).els,.i (b:Int),.i (fs.length:Int),.i ((gD bs b).els.length:Int),.l bs,.s nm,.b o,.l ps,.i r,.l bs,.l xs,.l gs,.l ts,.l fs,.l (aZ nf (tD d g)),.l (aK (nv ps bs) (Vm ps.length bs (aM ps.length bs b+eF (gD bs b).els (k+1)+1))),.l out,.l (bB ps bs)]=_;rw[<-G,<-cs];exact hx _ _
  |false=>
   refine⟨d,P.succ λg'=>⟨.inl,λh=>h.elim id λh=>absurd h.1 λV=>by rw[(bT _ _).2 V]at m;cases m⟩,?_⟩;refine aC (aV f) (aC (aE f) (aJ m ?_));rcases L with⟨d1,l⟩ |⟨d1,l,G⟩
   ·refine aJ (t d1) (aO ?_);show[D.i (bs.length:Int),.l fs,.i ((k+1:Nat):Int),.i (j:Int),.l (gD bs b).els,.i (b:Int),.i (fs.length:Int),.i ((gD bs b).els.length:Int),.l bs,.s nm,.b o,.l ps,.i r,.l bs,.l xs,.l gs,.l ts,.l fs,.l (aZ nf d),.l (aK (nv ps bs) (Vm ps.length bs (aM ps.length bs b+eF (gD bs b).els (k+1)+1))),.l out,.l (bB ps bs)]=_;rw[l];exact hx _ _
   ·refine aC (t d1) (aC l (aO ?_));show[D.i (bs.length:Int),.l fs,.i ((k+1:Nat):Int),.i (j:Int),.l (gD bs b).els,.i (b:Int),.i (fs.length:Int),.i ((gD bs b).els.length:Int),.l bs,.s nm,.b o,.l ps,.i r,.l bs,.l xs,.l gs,.l ts,.l fs,.l (aZ nf d),.l (aK (nv ps bs) (Vm ps.length bs (aM ps.length bs b+eF (gD bs b).els (k+1)+1))),.l out,.l (bB ps bs)]=_;rw[<-G];exact hx _ _
 ·exact aJ (aX _) (bH rfl)
theorem aHL(l:Nat->Bool):∃d:Nat->Bool,(∀g,d g=true<->l g=true\/Eg bs g)/\fV uE 6
  [.i (bs.length:Int),.l fs,.i (j:Int),.i 0,.i (fs.length:Int),.l bs,.s nm,.b o,.l ps,.i r,.l bs,.l xs,.l gs,.l ts,.l fs,.l (aZ nf l),.l (List.replicate (nv ps bs) RV),.l out,.l (bB ps bs)]
  (0,[.l fs,.i (j:Int),.i (fs.length:Int),.s nm,.b o,.l ps,.i r,.l bs,.l xs,.l gs,.l ts,.l fs,.l (aZ nf d),.l (aK (nv ps bs) (dD ps.length bs)),.l out,.l (bB ps bs)]):=by
 have t:List.replicate (nv ps bs) RV=aK (nv ps bs) (Vm ps.length bs (aM ps.length bs 0+1)):=by
  rw[<-rY];refine dV λi f=>?_;by_cases m:i<aM ps.length bs 0+1
  ·exact((Qk m).trans (OW (by unfold aM at m;omega))).symm
  ·exact(A8 m).symm
 have e1:aK (nv ps bs) (dD ps.length bs)=aK (nv ps bs) (Vm ps.length bs (aM ps.length bs bs.length+1)):=dV λi f=>(Qk f).symm;rw[t,e1];have F:=EP uF (b:=6) (λb(c:Nat->Bool)=>[.i (bs.length:Int),.l fs,.i (j:Int),.i (b:Int),.i (fs.length:Int),.l bs,.s nm,.b o,.l ps,.i r,.l bs,.l xs,.l gs,.l ts,.l fs,.l (aZ nf c),.l (aK (nv ps bs) (Vm ps.length bs (aM ps.length bs b+1))),.l out,.l (bB ps bs)]) bs.length
  (λc=>(0,[.l fs,.i (j:Int),.i (fs.length:Int),.s nm,.b o,.l ps,.i r,.l bs,.l xs,.l gs,.l ts,.l fs,.l (aZ nf c),.l (aK (nv ps bs) (Vm ps.length bs (aM ps.length bs bs.length+1))),.l out,.l (bB ps bs)])) (λb s=>Ef l (λb g=>∃k,k<(gD bs b).els.length/\Ab (gD (gD bs b).els k) g) b s) (λb c e f=>?_) (λc _=>?_) (s0:=l) Ef.zero
 ·obtain⟨d,u,v⟩:=F;exact⟨d,u,v⟩
 ·obtain⟨d,y,C⟩:=aHK h gs ts nm o j out b e c;refine⟨d,f.succ y,?_⟩;exact aC (aV e) (aC (aE e) (aP C (bG (aO (nx e h.tb.1.sane [_,_,_] _)))))
 ·exact aJ (aX _) (bH rfl)
end
end Go.Eng.Q

namespace Go.Eng.Q
open Go.Eng
abbrev Ac(t:D)(g:Nat):Prop:=∃e,e<(eX t 1).length/\(gD (eX t 1) e).toI=(g:Int)
abbrev v6(ts fs:LD)(g:Nat):Prop:=(∃j,j<ts.length/\Ac (gD ts j) g)\/∃j,j<fs.length/\Eg (fR (gD fs j)) g
noncomputable def kB(ts fs:LD)(g:Nat):Bool:=@decide (v6 ts fs g) (Classical.propDecidable _)
theorem Zf{ts fs:LD}{c:Nat->Bool}(h:∀g,c g=true<->v6 ts fs g):c=kB ts fs:=funext λg=>by
 unfold kB;cases e:c g with
 |true=>exact(@decide_eq_true _ (Classical.propDecidable _) ((h g).1 e)).symm
 |false=>exact(@decide_eq_false _ (Classical.propDecidable _) λd=>by rw[(h g).2 d]at e;cases e).symm
section
variable(xs gs ts fs:LD)(hM:RX xs gs ts fs)(hO:OkM xs gs ts fs)
include hM hO
theorem aHM(j:Nat)(H:j<ts.length)(r:Nat->Bool):∃m:Nat->Bool,(∀g,m g=true<->r g=true\/Ac (gD ts j) g)/\fV uE 2
  [.i ((eX (gD ts j) 1).length:Int),.l ts,.i (j:Int),.i 0,.i (ts.length:Int),.l (eX (gD ts j) 1),.l xs,.l gs,.l ts,.l fs,.l xs,.l gs,.l ts,.l fs,.l (aZ fs.length r)]
  (0,[.l ts,.i (j:Int),.i (ts.length:Int),.l xs,.l gs,.l ts,.l fs,.l xs,.l gs,.l ts,.l fs,.l (aZ fs.length m)]):=by
 have P:=(hM.t j H).sane;have v:=hO.sy;unfold GF at v;rw[Bool.and_eq_true,qG,qG]at v;have F:=lG.1 v.1 j H;unfold CG at F;have L:=EP uF (b:=2) (λe(c:Nat->Bool)=>[.i ((eX (gD ts j) 1).length:Int),.l ts,.i (j:Int),.i (e:Int),.i (ts.length:Int),.l (eX (gD ts j) 1),.l xs,.l gs,.l ts,.l fs,.l xs,.l gs,.l ts,.l fs,.l (aZ fs.length c)]) (eX (gD ts j) 1).length
  (λc=>(0,[.l ts,.i (j:Int),.i (ts.length:Int),.l xs,.l gs,.l ts,.l fs,.l xs,.l gs,.l ts,.l fs,.l (aZ fs.length c)])) (λe s=>Ef r (λe g=>(gD (eX (gD ts j) 1) e).toI=(g:Int)) e s) (λe c d G=>?_) (λc _=>?_) (s0:=r) Ef.zero
 ·obtain⟨m,C,K⟩:=L;exact⟨m,C,K⟩
 ·have hx:∀(u:D),[D.i ((eX (gD ts j) 1).length:Int),.l ts,.i (j:Int),.i ((e+1:Nat):Int),.i (ts.length:Int),.l (eX (gD ts j) 1),.l xs,.l gs,.l ts,.l fs,.l xs,.l gs,.l ts,.l fs,u]=[D.i ((eX (gD ts j) 1).length:Int),.l ts,.i (j:Int),.i (bJ .i64 (e:Int) 1),.i (ts.length:Int),.l (eX (gD ts j) 1),.l xs,.l gs,.l ts,.l fs,.l xs,.l gs,.l ts,.l fs,u]:=λu=>nx d P [_,_,_] _;have l:=lG.1 F e d;unfold Ll at l;rw[Bool.or_eq_false_iff]at l;cases f:cK 0 (gD (eX (gD ts j) 1) e).toI with
  |false=>refine⟨c,G.succ λg'=>⟨.inl,λh=>h.elim id λh=>absurd f (by rw[h,jK (by omega)];exactλh=>by cases h)⟩,?_⟩;exact aC (aV d) (aC (aE d) (aJ f (aO (hx _))))
  |true=>
   have Q:=(fM _ _).1 f;have C:¬((fs.length:Int)<=(gD (eX (gD ts j) 1) e).toI):=λh=>by rw[jK h]at l;cases l.2
   obtain⟨g,t⟩:∃g:Nat,(gD (eX (gD ts j) 1) e).toI=(g:Int):=⟨(gD (eX (gD ts j) 1) e).toI.toNat,by omega⟩;have y:g<fs.length:=by omega
   have J:aA (gD (eX (gD ts j) 1) e).toI (aZ fs.length c).length=true:=by rw[t,fH];exact aE y
   have cs:(aZ fs.length c).set (Int.toNat (gD (eX (gD ts j) 1) e).toI) (.b true)=aZ fs.length (tD c g):=by rw[t];exact zC c y
   refine⟨tD c g,G.succ λg'=>?_,?_⟩
   ·rw[Al];exact or_congr Iff.rfl ⟨λh=>by rw[t,h],λh=>by have h:(gD (eX (gD ts j) 1) e).toI=(g':Int):=h;omega⟩
   refine aC (aV d) (aC (aE d) (aC f (aC J (aO ?_))));rw[<-cs];exact hx _
 ·exact aJ (aX _) (bH rfl)
theorem aHN:∃d:Nat->Bool,(∀g,d g=true<->∃j,j<ts.length/\Ac (gD ts j) g)/\fV uE 0 [.l ts,.i 0,.i (ts.length:Int),.l xs,.l gs,.l ts,.l fs,.l xs,.l gs,.l ts,.l fs,.l (List.replicate fs.length (D.b false))]
  (0,[.l xs,.l gs,.l ts,.l fs,.l xs,.l gs,.l ts,.l fs,.l (aZ fs.length d)]):=by
 rw[<-mY];have r:=EP uF (b:=0) (λj(c:Nat->Bool)=>[.l ts,.i (j:Int),.i (ts.length:Int),.l xs,.l gs,.l ts,.l fs,.l xs,.l gs,.l ts,.l fs,.l (aZ fs.length c)]) ts.length
  (λc=>(0,[.l xs,.l gs,.l ts,.l fs,.l xs,.l gs,.l ts,.l fs,.l (aZ fs.length c)])) (λj s=>Ef (λ_=>false) (λj g=>Ac (gD ts j) g) j s) (λj c e m=>?_) (λc _=>?_) (s0:=λ_=>false) Ef.zero
 ·obtain⟨d,f,l⟩:=r;exact⟨d,λg=>(f g).trans ⟨λh=>h.elim (λh=>by cases h) id,.inr⟩,l⟩
 ·obtain⟨d,f,l⟩:=aHM xs gs ts fs hM hO j e c;refine⟨d,m.succ f,?_⟩;exact aC (aV e) (aC (aE e) (aP l (bG (aO (nx e hM.sane.ht [_] _)))))
 ·exact aJ (aX _) (bH rfl)
abbrev Qs(fs:LD)(j:Nat)(x:D):Prop:=aGK (eX (gD fs j) 2) (fR (gD fs j)) x
theorem aHO(f:Nat->Bool):∃(c:Nat->Bool)(F:Nat->D),(∀i,i<fs.length->Qs fs i (F i))/\(∀g,c g=true<->f g=true\/∃j,j<fs.length/\Eg (fR (gD fs j)) g)/\fV uE 4 [.l fs,.i 0,.i (fs.length:Int),.l xs,.l gs,.l ts,.l fs,.l (aZ fs.length f),.l []]
  (0,[.l xs,.l gs,.l ts,.l fs,.l (aZ fs.length c),.l (aK fs.length F)]):=by
 have P:=EP uF (b:=4) (λj(q:(Nat->Bool)×(Nat->D))=>[.l fs,.i (j:Int),.i (fs.length:Int),.l xs,.l gs,.l ts,.l fs,.l (aZ fs.length q.1),.l (aK j q.2)]) fs.length
  (λq=>(0,[.l xs,.l gs,.l ts,.l fs,.l (aZ fs.length q.1),.l (aK fs.length q.2)])) (λj q=>(∀i,i<j->Qs fs i (q.2 i))/\Ef f (λj g=>Eg (fR (gD fs j)) g) j q.1) (λj q d r=>?_) (λq _=>?_) (s0:=(f,λ_=>.i 0)) ⟨λi h=>absurd h (by omega),Ef.zero⟩
 ·obtain⟨q,l,y⟩:=P;exact⟨q.1,q.2,l.1,l.2,y⟩
 ·have hf:=QP hM hO d;have s:=EX hO.sm;have Q:=hf.n;have G:=Ms hf s.2.1;have H:=Bw hf;obtain⟨c,C,m⟩:=aHL hf gs ts (D.toS (D.fld (gD fs j) 0)) (vB (gD fs j) 1) j (aK j q.2) q.1;obtain⟨b,J,K⟩:=aC2 G (bB (eX (gD fs j) 2) (fR (gD fs j))) [] [] [] (zD _ _) (D.toS (D.fld (gD fs j) 0)) (vB (gD fs j) 1) (vI (gD fs j) 3) (fR (gD fs j));have L:=aEr H (cC (nv (eX (gD fs j) 2) (fR (gD fs j))) b) [] (by unfold nv;omega);have t:(bB (eX (gD fs j) 2) (fR (gD fs j))).length=nv (eX (gD fs j) 2) (fR (gD fs j)):=zD _ _;have u:List.replicate (nv (eX (gD fs j) 2) (fR (gD fs j))) RV=List.replicate (bB (eX (gD fs j) 2) (fR (gD fs j))).length (D.l [.i 0,.i 0,.i 0,.i 0,.i 0,.l [],.l []]):=by rw[t];rfl
  rw[u]at m;refine⟨(c,fS q.2 j (fnD (bB (eX (gD fs j) 2) (fR (gD fs j))) (cC (nv (eX (gD fs j) 2) (fR (gD fs j))) b) (qP (nv (eX (gD fs j) 2) (fR (gD fs j))) (bB (eX (gD fs j) 2) (fR (gD fs j))) (dD (eX (gD fs j) 2).length (fR (gD fs j))) (mN (eX (gD fs j) 2).length (fR (gD fs j)))) (aK (nv (eX (gD fs j) 2) (fR (gD fs j))) (dD (eX (gD fs j) 2).length (fR (gD fs j)))))),⟨λi h=>?_,r.2.succ C⟩,?_⟩
  ·show Qs fs i (fS q.2 j _ i);by_cases e:i=j
   ·subst e;rw[fK];exact⟨b,J,rfl⟩
   ·rw[nW _ _ e];exact r.1 i (by omega)
  ·have v:aK (j+1) (fS q.2 j (fnD (bB (eX (gD fs j) 2) (fR (gD fs j))) (cC (nv (eX (gD fs j) 2) (fR (gD fs j))) b) (qP (nv (eX (gD fs j) 2) (fR (gD fs j))) (bB (eX (gD fs j) 2) (fR (gD fs j))) (dD (eX (gD fs j) 2).length (fR (gD fs j))) (mN (eX (gD fs j) 2).length (fR (gD fs j)))) (aK (nv (eX (gD fs j) 2) (fR (gD fs j))) (dD (eX (gD fs j) 2).length (fR (gD fs j))))))=aK j q.2++[fnD (bB (eX (gD fs j) 2) (fR (gD fs j))) (cC (nv (eX (gD fs j) 2) (fR (gD fs j))) b) (qP (nv (eX (gD fs j) 2) (fR (gD fs j))) (bB (eX (gD fs j) 2) (fR (gD fs j))) (dD (eX (gD fs j) 2).length (fR (gD fs j))) (mN (eX (gD fs j) 2).length (fR (gD fs j)))) (aK (nv (eX (gD fs j) 2) (fR (gD fs j))) (dD (eX (gD fs j) 2).length (fR (gD fs j))))]:=by
    rw[<-B4,fK];congr 1;exact dV λi h=>nW _ _ (by omega)
   refine aC (aV d) (aC (aE d) (bK (Eu (D.toS (D.fld (gD fs j) 0)) (vB (gD fs j) 1) (eX (gD fs j) 2) (vI (gD fs j) 3) (fR (gD fs j)) hf.tp hf.tb) rfl (aC ?_ (aP m (bG (bK K rfl (bK L rfl (aC ?_ (aO ((nx d hM.sane.hf [_] _).trans ?_))))))))))
   ·show(cK 0 ((bB (eX (gD fs j) 2) (fR (gD fs j))).length:Int)&&(aD ((bB (eX (gD fs j) 2) (fR (gD fs j))).length:Int) ((bB (eX (gD fs j) 2) (fR (gD fs j))).length:Int)&&jP (Int.toNat ((bB (eX (gD fs j) 2) (fR (gD fs j))).length:Int)) 88))=true;rw[t,jK (by omega),qF];exact fG (by show nv (eX (gD fs j) 2) (fR (gD fs j))<=_;unfold nv;omega) (by omega)
   ·show jP ((aK j q.2).length+1) 96=true;have:=s.2.2.2.1;rw[dA];exact fG (by omega) (by omega)
   ·show[D.l fs,.i (bJ .i64 (j:Int) 1),.i (fs.length:Int),.l xs,.l gs,.l ts,.l fs,.l (aZ fs.length c),.l (aK (j+1) _)]=_;rw[v];rfl
 ·exact aJ (aX _) (bH rfl)
abbrev By(xs gs ts fs:LD)(c:Nat->Bool)(F:Nat->D):D:=.l [.l xs,.l gs,.l ts,.l fs,.l (aZ fs.length c),.l (aK fs.length F)]
theorem D0:∃F:Nat->D,(∀i,i<fs.length->Qs fs i (F i))/\iQ E aW sites Jt [.l [.l xs,.l gs,.l ts,.l fs]] (.l [By xs gs ts fs (kB ts fs) F]) []:=by obtain⟨m,d,h⟩:=aHN xs gs ts fs hM hO;obtain⟨l,F,j,f,c⟩:=aHO xs gs ts fs hM hO m;have e:l=kB ts fs:=Zf λg=>(f g).trans (or_congr (d g) Iff.rfl);rw[e]at c;refine⟨F,j,bA uF (by rfl) rfl ?_⟩;show Ev _ _ (UB _) _;unfold UB;have r:=hM.n;refine aC ?_ (aP h (bG (aP c (bG (bI rfl rfl)))));show(cK 0 (fs.length:Int)&&(aD (fs.length:Int) (fs.length:Int)&&jP (Int.toNat (fs.length:Int)) 1))=true;rw[jK (by omega),qF];exact fG (by show fs.length<=_;omega) (by omega)
end
end Go.Eng.Q
