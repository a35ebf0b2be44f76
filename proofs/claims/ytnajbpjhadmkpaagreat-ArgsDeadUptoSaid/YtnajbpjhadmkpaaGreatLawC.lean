/- The law ArgsDead answers true for every module that may be handed in: ArgsDeadUptoSaid. Conditions: none beside the statement's own. -/
import Derived.Test.YtnajbpjhadmkpaaGreatLawB
import Derived.Shelf.SlSortCmp.NoneTotal
import Derived.WalkKit
import Derived.Test.YtnajbpjhadmkpaaGreatRows
import Derived.ProofKit
import Derived.JoinedCond
set_option linter.unusedSimpArgs false
set_option linter.unusedVariables false
namespace Go.Eng.Q
open Go.Eng
abbrev dC(bs:LD)(B k:Nat):D:=gE (gD bs B) k
theorem Cb{m:Nat}{d:FD}(F:BY E aW sites m d){b:Nat}{l:Type}(f:Nat->l->LD)(n:Nat)(c:Nat->l->Prop)(Q:Nat×LD->Prop)
  (y:∀j s,j<n->c j s->(∃t,Q t/\rO E aW sites d (d.F.lp b (f j s)) (.out t))\/∃g,c (j+1) g/\rO E aW sites d (d.F.lp b (f j s)) (.again (f (j+1) g)))
  (C:∀s,c n s->∃t,Q t/\rO E aW sites d (d.F.lp b (f n s)) (.out t)){s0:l}(G:c 0 s0):∃t,Q t/\QS E aW sites d b (f 0 s0) t.1 t.2:=by
 refine HU F (λq:Nat×l=>f q.1 q.2) (λq=>q.1<=n/\c q.1 q.2) (λq=>n-q.1) Q (λq J=>?_) (s0:=(0,s0)) ⟨Nat.zero_le _,G⟩;obtain⟨j,s⟩:=q;obtain⟨H,r⟩:=J;simp only at H r;by_cases e:j<n
 ·rcases y j s e r with h |⟨g,u,v⟩
  ·exact .inl h
  ·exact .inr ⟨(j+1,g),⟨e,u⟩,by show n-(j+1)<n-j;omega,v⟩
 ·have:j=n:=by omega
  subst this;exact .inl (C s r)
theorem BL{a b:Int}(h:aQ a b=false):b<=a:=by have:=qH h;omega
theorem Vp{a b:Bool}(h:(a||b)=false):a=false/\b=false:=by cases a<;>cases b<;>simp_all
def aGP(bs:LD):Prop:=∀b,b<bs.length->(gD bs b).els.length<=1048576
section
variable(nm:List UInt8)(o:Bool)(ps:LD)(r:Int)(bs:LD)
abbrev aG8(bs:LD)(B:Nat)(a:Int)(nm:List UInt8)(o:Bool)(ps:LD)(r:Int)(t:Nat×LD):Prop:=
 t=(0,[.i a,.b false,.i (B:Int),.s nm,.b o,.l ps,.i r,.l bs])\/(t=(1,[.i a,.i (B:Int),.s nm,.b o,.l ps,.i r,.l bs])/\Zr (gD bs B))
theorem aEx(a:Int){B:Nat}(l:B<bs.length)(u:(gD bs B).els.length<=1048576):
  ∃t,((t=(0,[.i a,.b false,.i (B:Int),.s nm,.b o,.l ps,.i r,.l bs]))\/(t=(1,[.i a,.i (B:Int),.s nm,.b o,.l ps,.i r,.l bs])/\∀i,i<(gD bs B).els.length->Zq (gD (gD bs B).els i)))/\
   fV CE 2 [.i a,.i 0,.i (B:Int),.s nm,.b o,.l ps,.i r,.l bs] t:=by
 have c:aA (B:Int) bs.length=true:=aE l;refine Cb rT (λk(_:Unit)=>[.i a,.i (k:Int),.i (B:Int),.s nm,.b o,.l ps,.i r,.l bs]) (gD bs B).els.length (λk _=>∀i,i<k->Zq (gD (gD bs B).els i)) _ (λk _ f d=>?_) (λ_ d=>?_) (s0:=()) (λi d=>absurd d (by omega))
 ·have g:aQ (k:Int) (iE (gD bs B))=true:=aV f;have wk:aA (k:Int) (nE (gD bs B))=true:=aE f;cases e:(aQ 20 (iX (dC bs B k) 5)||aQ 20 (iX (dC bs B k) 6))with
  |true=>refine .inl ⟨_,.inl rfl,?_⟩;exact aC c (aC g (aC c (aC wk (aC (aH c) (aC (aH wk) (aC e (bH rfl)))))))
  |false=>
   obtain⟨e1,h⟩:=Vp e;have m:((eX (dC bs B k) 5).length:Int)<=20:=BL e1;have s:((eX (dC bs B k) 6).length:Int)<=20:=BL h;refine .inr ⟨(),λi v=>?_,?_⟩
   ·by_cases j:i=k
    ·subst j;exact⟨by unfold fF;show(eX (dC bs B i) 5).length<=_;omega,by unfold fF;show(eX (dC bs B i) 6).length<=_;omega⟩
    ·exact d i (by omega)
   ·exact aC c (aC g (aC c (aC wk (aC (aH c) (aC (aH wk) (aJ e (aO (nx f (by omega) [_] _))))))))
 ·refine⟨_,.inr ⟨rfl,d⟩,?_⟩;exact aC c (aJ (aX _) (bH rfl))
theorem Nu(y:aGP bs):∃t,iQ E aW sites TF [oK nm o ps r bs] (.b t) []/\(t=true->fF ps/\fZ bs):=by
 cases e:((aQ 40 (nm.length:Int)||aQ 8 (ps.length:Int))||aQ 16 (bs.length:Int))with
 |true=>refine⟨false,bA rT (by rfl) rfl ?_,λh=>(by cases h)⟩;exact aC e (bI rfl rfl)
 |false=>
  obtain⟨e1,l⟩:=Vp e;have e1:=BL (Vp e1).2;have l:=BL l;have g:∃t,((t=(0,[.b false]))\/(t=(1,[])/\∀i,i<bs.length->Zr (gD bs i)))/\fV CE 0 [.i 0,.i 0,.s nm,.b o,.l ps,.i r,.l bs] t:=by
   refine Cb rT (λj(a:Nat)=>[.i (a:Int),.i (j:Int),.s nm,.b o,.l ps,.i r,.l bs]) bs.length (λj a=>a<=90/\∀i,i<j->Zr (gD bs i)) _ (λj a c d=>?_) (λa d=>?_) (s0:=0) ⟨by omega,λi d=>absurd d (by omega)⟩
   ·have C:=y j c;have m:bJ .i64 (a:Int) (iE (gD bs j))=((a+(gD bs j).els.length:Nat):Int):=by
     show bJ .i64 (a:Int) ((gD bs j).els.length:Int)=_;rw[BU _ _ _ (by simp[UU,UV];omega),vM (by omega) (by omega)];omega
    cases f:aQ 90 (bJ .i64 (a:Int) (iE (gD bs j)))with
    |true=>refine .inl ⟨_,.inl rfl,?_⟩;exact aC (aV c) (aC (aE c) (aC f (bH rfl)))
    |false=>
     have v:=BL f;rw[m]at v;obtain⟨t,ht,s⟩:=aEx nm o ps r bs (bJ .i64 (a:Int) (iE (gD bs j))) c C;rcases ht with rfl |⟨rfl,ht⟩
     ·refine .inl ⟨_,.inl rfl,?_⟩;exact aC (aV c) (aC (aE c) (aJ f (aP s (bG (bH rfl)))))
     ·refine .inr ⟨a+(gD bs j).els.length,⟨by omega,λi F=>?_⟩,?_⟩
      ·by_cases u:i=j
       ·subst u;exact⟨by unfold fF;omega,ht⟩
       ·exact d.2 i (by omega)
      ·refine aC (aV c) (aC (aE c) (aJ f (aP s (eO (bG (aO ((nx c (by omega) [_] _).trans ?_)))))));show[D.i ((a+(gD bs j).els.length:Nat):Int),.i (bJ .i64 (j:Int) 1),.s nm,.b o,.l ps,.i r,.l bs]=_;rw[<-m];rfl
   ·refine⟨_,.inr ⟨rfl,d.2⟩,?_⟩;exact aJ (aX _) (bH rfl)
  obtain⟨t,ht,g⟩:=g;rcases ht with rfl |⟨rfl,ht⟩
  ·refine⟨false,bA rT (by rfl) rfl ?_,λh=>(by cases h)⟩;exact aJ e (aP g (bG (bI rfl rfl)))
  ·refine⟨true,bA rT (by rfl) rfl ?_,λ_=>⟨by unfold fF;omega,by unfold fF;omega,ht⟩⟩;exact aJ e (aP g (eO (bG (bI rfl rfl))))
end
section
variable(xs gs ts fs:LD)
abbrev smQ(xs gs ts fs l:LD)(t:Nat×LD):Prop:=t=(0,[.b false,.l xs,.l gs,.l ts,.l fs])\/(t=(1,[.l xs,.l gs,.l ts,.l fs])/\∀i,i<l.length->fF (eX (gD l i) 1))
theorem aEy(hx:xs.length<=1000000):∃t,smQ xs gs ts fs xs t/\fV pL 0 [.i 0,.l xs,.l gs,.l ts,.l fs] t:=by
 refine Cb pM (λj(_:Unit)=>[.i (j:Int),.l xs,.l gs,.l ts,.l fs]) xs.length (λj _=>∀i,i<j->fF (eX (gD xs i) 1)) _ (λj _ c d=>?_) (λ_ d=>?_) (s0:=()) (λi d=>absurd d (by omega))
 ·cases e:(aQ 40 (iL (D.toS (D.fld (gD xs j) 0)))||aQ 10 (iX (gD xs j) 1))with
  |true=>refine .inl ⟨_,.inl rfl,?_⟩;exact aC (aV c) (aC (aE c) (aC (aH (aE c)) (aC e (bH rfl))))
  |false=>
   have e1:((eX (gD xs j) 1).length:Int)<=10:=BL (Vp e).2;refine .inr ⟨(),λi g=>?_,?_⟩
   ·by_cases f:i=j
    ·subst f;unfold fF;omega
    ·exact d i (by omega)
   ·exact aC (aV c) (aC (aE c) (aC (aH (aE c)) (aJ e (aO (nx c (by omega) [] _)))))
 ·refine⟨_,.inr ⟨rfl,d⟩,?_⟩;exact aJ (aX _) (bH rfl)
theorem aEz(hx:gs.length<=1000000):∃t,smQ xs gs ts fs gs t/\fV pL 2 [.i 0,.l xs,.l gs,.l ts,.l fs] t:=by
 refine Cb pM (λj(_:Unit)=>[.i (j:Int),.l xs,.l gs,.l ts,.l fs]) gs.length (λj _=>∀i,i<j->fF (eX (gD gs i) 1)) _ (λj _ c d=>?_) (λ_ d=>?_) (s0:=()) (λi d=>absurd d (by omega))
 ·cases e:(aQ 40 (iL (D.toS (D.fld (gD gs j) 0)))||aQ 20 (iX (gD gs j) 1))with
  |true=>refine .inl ⟨_,.inl rfl,?_⟩;exact aC (aV c) (aC (aE c) (aC (aH (aE c)) (aC e (bH rfl))))
  |false=>
   have e1:((eX (gD gs j) 1).length:Int)<=20:=BL (Vp e).2;refine .inr ⟨(),λi g=>?_,?_⟩
   ·by_cases f:i=j
    ·subst f;unfold fF;omega
    ·exact d i (by omega)
   ·exact aC (aV c) (aC (aE c) (aC (aH (aE c)) (aJ e (aO (nx c (by omega) [] _)))))
 ·refine⟨_,.inr ⟨rfl,d⟩,?_⟩;exact aJ (aX _) (bH rfl)
theorem aEA(hx:ts.length<=1000000):∃t,smQ xs gs ts fs ts t/\fV pL 4 [.i 0,.l xs,.l gs,.l ts,.l fs] t:=by
 refine Cb pM (λj(_:Unit)=>[.i (j:Int),.l xs,.l gs,.l ts,.l fs]) ts.length (λj _=>∀i,i<j->fF (eX (gD ts i) 1)) _ (λj _ c d=>?_) (λ_ d=>?_) (s0:=()) (λi d=>absurd d (by omega))
 ·cases e:(aQ 40 (iL (D.toS (D.fld (gD ts j) 0)))||aQ 16 (iX (gD ts j) 1))with
  |true=>refine .inl ⟨_,.inl rfl,?_⟩;exact aC (aV c) (aC (aE c) (aC (aH (aE c)) (aC e (bH rfl))))
  |false=>
   have e1:((eX (gD ts j) 1).length:Int)<=16:=BL (Vp e).2;refine .inr ⟨(),λi g=>?_,?_⟩
   ·by_cases f:i=j
    ·subst f;unfold fF;omega
    ·exact d i (by omega)
   ·exact aC (aV c) (aC (aE c) (aC (aH (aE c)) (aJ e (aO (nx c (by omega) [] _)))))
 ·refine⟨_,.inr ⟨rfl,d⟩,?_⟩;exact aJ (aX _) (bH rfl)
def SzM(fs:LD):Prop:=∀j,j<fs.length->aGP (eX (gD fs j) 4)
theorem aEB(hf:fs.length<=1000000)(r:SzM fs):∃t,((∃a:Int,t=(0,[.b false,.i a]))\/((∃a:Int,t=(1,[.i a]))/\∀i,i<fs.length->Ln (gD fs i)))/\fV pL 6 [.i 0,.i 0,.l xs,.l gs,.l ts,.l fs] t:=by
 refine Cb pM (λj(a:Int)=>[.i (j:Int),.i a,.l xs,.l gs,.l ts,.l fs]) fs.length (λj _=>∀i,i<j->Ln (gD fs i)) _ (λj a c d=>?_) (λa d=>?_) (s0:=0) (λi d=>absurd d (by omega))
 ·obtain⟨t,f,l⟩:=Nu (D.toS (D.fld (gD fs j) 0)) (vB (gD fs j) 1) (eX (gD fs j) 2) (vI (gD fs j) 3) (eX (gD fs j) 4) (r j c);cases t with
  |false=>refine .inl ⟨_,.inl ⟨a,rfl⟩,?_⟩;exact aC (aV c) (aC (aE c) (bK f rfl (aC rfl (bH rfl))))
  |true=>
   obtain⟨h,e⟩:=l rfl;have m:=UI (D.toS (D.fld (gD fs j) 0)) (vB (gD fs j) 1) (eX (gD fs j) 2) (vI (gD fs j) 3) (eX (gD fs j) 4) (by have:=e.1;unfold fF at this;omega);refine .inr ⟨bJ .i64 a (uG (eX (gD fs j) 4)),λi s=>?_,?_⟩
   ·by_cases g:i=j
    ·subst g;exact⟨h,e.1,e.2⟩
    ·exact d i (by omega)
   ·exact aC (aV c) (aC (aE c) (bK f rfl (aJ rfl (aC (aE c) (bK m rfl (aO (nx c (by omega) [] _)))))))
 ·refine⟨_,.inr ⟨⟨a,rfl⟩,d⟩,?_⟩;exact aJ (aX _) (bH rfl)
theorem Nv(y:SzM fs):∃t,iQ E aW sites JT [.l [.l xs,.l gs,.l ts,.l fs]] (.b t) []/\(t=true->RX xs gs ts fs):=by
 cases c:(((aQ 14 (xs.length:Int)||aQ 14 (gs.length:Int))||aQ 8 (ts.length:Int))||aQ 26 (fs.length:Int))with
 |true=>refine⟨false,bA pM (by rfl) rfl ?_,λh=>(by cases h)⟩;exact aC c (bI rfl rfl)
 |false=>
  obtain⟨e1,r⟩:=Vp c;obtain⟨e1,s⟩:=Vp e1;obtain⟨e1,u⟩:=Vp e1;have e1:=BL e1;have r:=BL r;have s:=BL s;have u:=BL u;obtain⟨t0,g,d⟩:=aEy xs gs ts fs (by omega);obtain⟨t2,j,e⟩:=aEz xs gs ts fs (by omega);obtain⟨t4,l,f⟩:=aEA xs gs ts fs (by omega);obtain⟨C,m,v⟩:=aEB xs gs ts fs (by omega) y;have key:∀{t:Bool},Ev (iQ E aW sites) (QS E aW sites pL) (lD [.l [.l xs,.l gs,.l ts,.l fs]]) (.ret (.b t) [])->iQ E aW sites JT [.l [.l xs,.l gs,.l ts,.l fs]] (.b t) []:=λ{t}h=>bA pM (by rfl) rfl h;rcases g with rfl |⟨rfl,g⟩
  ·refine⟨false,key ?_,λh=>(by cases h)⟩;unfold lD;exact aJ c (aP d (bG (bI rfl rfl)))
  rcases j with rfl |⟨rfl,j⟩
  ·refine⟨false,key ?_,λh=>(by cases h)⟩;unfold lD;exact aJ c (aP d (eO (bG (aP e (bG (bI rfl rfl))))))
  rcases l with rfl |⟨rfl,l⟩
  ·refine⟨false,key ?_,λh=>(by cases h)⟩;unfold lD;exact aJ c (aP d (eO (bG (aP e (eO (bG (aP f (bG (bI rfl rfl)))))))))
  rcases m with⟨a,rfl⟩ |⟨⟨a,rfl⟩,m⟩
  ·refine⟨false,key ?_,λh=>(by cases h)⟩;unfold lD;exact aJ c (aP d (eO (bG (aP e (eO (bG (aP f (eO (bG (aP v (bG (bI rfl rfl))))))))))))
  ·refine⟨cK a 160,key ?_,λ_=>⟨by omega,g,j,l,m⟩⟩;unfold lD;exact aJ c (aP d (eO (bG (aP e (eO (bG (aP f (eO (bG (aP v (eO (bG (bI rfl rfl)))))))))))))
end
end Go.Eng.Q

namespace Go.Eng.Q
open Go.Eng
def T6:Cl:=λm xs=>bif Nat.beq m bD then Cn xs else S6 m xs
theorem aA3:∀m xs r,T6 m xs=some r->iQ E aW sites m xs r.1 r.2:=λm xs r h=>by
 unfold T6 at h;cases e:Nat.beq m bD with
 |true=>rw[e]at h;have d:Cn xs=some (r.1,r.2):=h;have c:m=bD:=Nat.eq_of_beq_eq_true e;subst c;refine⟨0,λk n L _ _ _=>?_⟩;have f:(Dq E) bD=some Cn:=rfl;cases n<;>simp only[qN,f,d]
 |false=>rw[e]at h;exact aAQ m xs r h
def aGz:List Nat:=[4,13,14,30,31,55,76]
noncomputable def R28(n:Nat):Cl:=N0 aET T6 E aW sites 300 aGz 300 n
theorem aA4:R28 40 yS []=some (.b true,[]):=by kernel_rfl
theorem E1:iQ E aW sites yS [] (.b true) []:=aCy (TE aAk) aA3 300 40 yS [] _ aA4
end Go.Eng.Q

namespace Go.Eng.Q
open Go.Eng
def KN(u:LD)(a:D):LD:=bif cK 0 a.toI&&aQ a.toI (u.length:Int)then u.set (Int.toNat a.toI) (.i (bJ .i64 (gD u (Int.toNat a.toI)).toI 1))else u
theorem w4(u:LD)(a:D):(KN u a).length=u.length:=by
 unfold KN;cases(cK 0 a.toI&&aQ a.toI (u.length:Int))with
 |true=>exact List.length_set
 |false=>rfl
def Gr(u:LD)(x:D):LD:=(eX x 5).foldl KN u
def YK(u:LD)(b:D):LD:=b.els.foldl Gr u
def XJ(np:Nat)(bs:LD):LD:=bs.foldl YK (List.replicate (aM np bs bs.length+1) (.i 0))
theorem YJ{α:Type}(f:LD->α->LD)(h:∀u a,(f u a).length=u.length):∀(l:List α)(u:LD),(l.foldl f u).length=u.length
 |[],_=>rfl
 |a::l,u=>(YJ f h l (f u a)).trans (h u a)
theorem K3(u:LD)(x:D):(Gr u x).length=u.length:=YJ _ w4 _ _
theorem S9(u:LD)(b:D):(YK u b).length=u.length:=YJ _ K3 _ _
theorem D1(np:Nat)(bs:LD):(XJ np bs).length=aM np bs bs.length+1:=(YJ _ S9 _ _).trans List.length_replicate
theorem aC7{a:Int}{n:Nat}(e:(cK 0 a&&aQ a (n:Int))=true):aA a n=true:=by
 rw[Bool.and_eq_true]at e;have c:=(fM _ _).1 e.1;have d:a<n:=by have h:=e.2;rw[eN]at h;simpa using h
 obtain⟨k,rfl⟩:∃k:Nat,a=k:=⟨a.toNat,by omega⟩;exact aE (by omega)
section
variable(nm:List UInt8)(o:Bool)(ps:LD)(r:Int)(bs:LD)(hp:fF ps)(hT:fZ bs)
include hp hT
theorem Qu:iQ E aW sites Ca [oK nm o ps r bs] (.i (aM ps.length bs bs.length:Int)) []:=by refine bA Fa (by rfl) rfl ?_;refine bK (Eu nm o ps r bs hp hT) rfl (bI (congrArg D.i ?_) rfl);have c:=IC ps bs hp hT;show _=bE .i64 (((bB ps bs).length:Int)-1);rw[zD,vM (by omega) (by omega)];omega
omit hp in
theorem T1(b k:Nat)(c:b<bs.length)(v:k<(gD bs b).els.length)(s:LD)(f g m r:Int):
  fV IG 4 [.l bs,.i 0,.i f,.i g,.l (eX (gD (gD bs b).els k) 5),.i m,.i r,.l (gD bs b).els,.i ((eX (gD (gD bs b).els k) 5).length:Int),.l s]
   (0,[.l bs,.i f,.i g,.i m,.i r,.l (gD bs b).els,.l (Gr s (gD (gD bs b).els k))]):=by
 have t:=((hT.2 b c).i k v).as1.sane;unfold Gr;generalize eX (gD (gD bs b).els k) 5=l at*;have h:=GC II (b:=4) (λj(u:LD)=>[.l bs,.i (j:Int),.i f,.i g,.l l,.i m,.i r,.l (gD bs b).els,.i (l.length:Int),.l u]) l KN (λu=>(0,[.l bs,.i f,.i g,.i m,.i r,.l (gD bs b).els,.l u])) (λ_ _=>True) (λj u d _=>⟨trivial,?_⟩) (λu _=>?_) (s0:=s) trivial
 ·exact h
 ·refine aC (aV d) (aC (aE d) ?_);cases e:(cK 0 (gD l j).toI&&aQ (gD l j).toI (u.length:Int))with
  |true=>
   have c:KN u (gD l j)=u.set (Int.toNat (gD l j).toI) (.i (bJ .i64 (gD u (Int.toNat (gD l j).toI)).toI 1)):=by unfold KN;rw[e];rfl
   rw[c];exact aC e (aC (aC7 e) (aC (aC7 e) (aO (nx d t [_] _))))
  |false=>
   have c:KN u (gD l j)=u:=by unfold KN;rw[e];rfl
   rw[c];exact aJ e (aO (nx d t [_] _))
 ·exact aJ (aX _) (bH rfl)
omit hp in
theorem T2(b:Nat)(g:b<bs.length)(f:LD)(d e:Int):
  fV IG 2 [.l bs,.i ((gD bs b).els.length:Int),.i d,.i e,.i 0,.l (gD bs b).els,.l f] (0,[.l bs,.i d,.i e,.l (YK f (gD bs b))]):=by
 have j:=(hT.2 b g).ins.sane;have h:=GC II (b:=2) (λk(u:LD)=>[.l bs,.i ((gD bs b).els.length:Int),.i d,.i e,.i (k:Int),.l (gD bs b).els,.l u]) (gD bs b).els Gr (λu=>(0,[.l bs,.i d,.i e,.l u])) (λ_ _=>True) (λk u c _=>⟨trivial,?_⟩) (λu _=>?_) (s0:=f) trivial
 ·exact h
 ·exact aC (aV c) (aC (aE c) (aP (T1 bs hT b k g c u _ _ _ _) (bG (aO (nx c j [_,_,_,_] _)))))
 ·exact aJ (aX _) (bH rfl)
theorem Ju:iQ E aW sites Jo [oK nm o ps r bs] (.l (XJ ps.length bs)) []:=by
 refine bA II (by rfl) rfl ?_;show Ev _ _ (Eb _) _;unfold Eb;have f:=IC ps bs hp hT;have e1:bJ .i64 (aM ps.length bs bs.length:Int) 1=((aM ps.length bs bs.length+1:Nat):Int):=Vd (by omega);have d:Int.toNat (bJ .i64 (aM ps.length bs bs.length:Int) 1)=aM ps.length bs bs.length+1:=by rw[e1];rfl
 have h:=GC II (b:=0) (λj(u:LD)=>[.l bs,.i (j:Int),.i (bs.length:Int),.l u]) bs YK (λu=>(0,[.l u])) (λ_ _=>True) (λj u c _=>⟨trivial,?_⟩) (λu _=>?_) (s0:=List.replicate (Int.toNat (bJ .i64 (aM ps.length bs bs.length:Int) 1)) (D.i 0)) trivial
 ·have e:fV IG 0 [.l bs,.i 0,.i (bs.length:Int),.l (List.replicate (Int.toNat (bJ .i64 (aM ps.length bs bs.length:Int) 1)) (D.i 0))] (0,[.l (bs.foldl YK (List.replicate (Int.toNat (bJ .i64 (aM ps.length bs bs.length:Int) 1)) (D.i 0)))]):=h;refine bK (Qu nm o ps r bs hp hT) rfl (aC ?_ (aP e (bG (bI ?_ rfl))))
  ·show(cK 0 (bJ .i64 (aM ps.length bs bs.length:Int) 1)&&(aD (bJ .i64 (aM ps.length bs bs.length:Int) 1) (bJ .i64 (aM ps.length bs bs.length:Int) 1)&&jP (Int.toNat (bJ .i64 (aM ps.length bs bs.length:Int) 1)) 8))=true;rw[d,e1,jK (by omega),qF,fG (by omega) (by omega)];rfl
  ·show D.l (XJ ps.length bs)=D.l (bs.foldl YK (List.replicate (Int.toNat (bJ .i64 (aM ps.length bs bs.length:Int) 1)) (D.i 0)));rw[d];rfl
 ·exact aC (aV c) (aC (aE c) (aP (T2 bs hT j c u _ _) (bG (aO (nx c hT.1.sane [_] _)))))
 ·exact aJ (aX _) (bH rfl)
omit hp in
theorem T3(b k:Nat)(d:b<bs.length)(t:k<(gD bs b).els.length)(m:LD)(f g:Int):
  fV IJ 4 [.i 0,.i f,.i g,.l (eX (gD (gD bs b).els k) 5),.s nm,.b o,.l ps,.i r,.l bs,.l m]
   (0,[.i f,.i g,.s nm,.b o,.l ps,.i r,.l bs,.l (Gr m (gD (gD bs b).els k))]):=by
 have s:=((hT.2 b d).i k t).as1.sane;unfold Gr;generalize eX (gD (gD bs b).els k) 5=l at*;have h:=GC JX (b:=4) (λj(u:LD)=>[.i (j:Int),.i f,.i g,.l l,.s nm,.b o,.l ps,.i r,.l bs,.l u]) l KN (λu=>(0,[.i f,.i g,.s nm,.b o,.l ps,.i r,.l bs,.l u])) (λ_ _=>True) (λj u c _=>⟨trivial,?_⟩) (λu _=>?_) (s0:=m) trivial
 ·exact h
 ·refine aC (aV c) (aC (aE c) (aC (aH (aE c)) ?_));cases e:(cK 0 (gD l j).toI&&aQ (gD l j).toI (u.length:Int))with
  |true=>
   have d:KN u (gD l j)=u.set (Int.toNat (gD l j).toI) (.i (bJ .i64 (gD u (Int.toNat (gD l j).toI)).toI 1)):=by unfold KN;rw[e];rfl
   rw[d];exact aC e (aC (aE c) (aC (aC7 e) (aC (aC7 e) (aO (nx c s [] _)))))
  |false=>
   have d:KN u (gD l j)=u:=by unfold KN;rw[e];rfl
   rw[d];exact aJ e (aO (nx c s [] _))
 ·exact aJ (aX _) (bH rfl)
omit hp in
theorem T4(b:Nat)(c:b<bs.length)(e:LD):
  fV IJ 2 [.i 0,.i (b:Int),.s nm,.b o,.l ps,.i r,.l bs,.l e] (0,[.i (b:Int),.s nm,.b o,.l ps,.i r,.l bs,.l (YK e (gD bs b))]):=by
 have f:=(hT.2 b c).ins.sane;have h:=GC JX (b:=2) (λk(u:LD)=>[.i (k:Int),.i (b:Int),.s nm,.b o,.l ps,.i r,.l bs,.l u]) (gD bs b).els Gr (λu=>(0,[.i (b:Int),.s nm,.b o,.l ps,.i r,.l bs,.l u])) (λ_ _=>True) (λk u d _=>⟨trivial,?_⟩) (λu _=>?_) (s0:=e) trivial
 ·exact h
 ·exact aC (aE c) (aC (aV d) (aC (aE c) (aC (aE d) (aP (T3 nm o ps r bs hT b k c d u _ _) (bG (aO (nx d f [] _)))))))
 ·exact aC (aE c) (aJ (aX _) (bH rfl))
theorem Km:iQ E aW sites Jp [oK nm o ps r bs] (.l (XJ ps.length bs)) []:=by
 refine bA JX (by rfl) rfl ?_;show Ev _ _ (Ec _) _;unfold Ec;have f:=IC ps bs hp hT;have e1:bJ .i64 (aM ps.length bs bs.length:Int) 1=((aM ps.length bs bs.length+1:Nat):Int):=Vd (by omega);have d:Int.toNat (bJ .i64 (aM ps.length bs bs.length:Int) 1)=aM ps.length bs bs.length+1:=by rw[e1];rfl
 have h:=GC JX (b:=0) (λj(u:LD)=>[.i (j:Int),.s nm,.b o,.l ps,.i r,.l bs,.l u]) bs YK (λu=>(0,[.l u])) (λ_ _=>True) (λj u c _=>⟨trivial,?_⟩) (λu _=>?_) (s0:=List.replicate (Int.toNat (bJ .i64 (aM ps.length bs bs.length:Int) 1)) (D.i 0)) trivial
 ·have e:fV IJ 0 [.i 0,.s nm,.b o,.l ps,.i r,.l bs,.l (List.replicate (Int.toNat (bJ .i64 (aM ps.length bs bs.length:Int) 1)) (D.i 0))] (0,[.l (bs.foldl YK (List.replicate (Int.toNat (bJ .i64 (aM ps.length bs bs.length:Int) 1)) (D.i 0)))]):=h;refine bK (YE nm o ps r bs hp hT) rfl (aC ?_ (aP e (bG (bI ?_ rfl))))
  ·show(cK 0 (bJ .i64 (aM ps.length bs bs.length:Int) 1)&&(aD (bJ .i64 (aM ps.length bs bs.length:Int) 1) (bJ .i64 (aM ps.length bs bs.length:Int) 1)&&jP (Int.toNat (bJ .i64 (aM ps.length bs bs.length:Int) 1)) 8))=true;rw[d,e1,jK (by omega),qF,fG (by omega) (by omega)];rfl
  ·show D.l (XJ ps.length bs)=D.l (bs.foldl YK (List.replicate (Int.toNat (bJ .i64 (aM ps.length bs bs.length:Int) 1)) (D.i 0)));rw[d];rfl
 ·exact aC (aV c) (aP (T4 nm o ps r bs hT j c u) (bG (aO (nx c hT.1.sane [] _))))
 ·exact aJ (aX _) (bH rfl)
end
end Go.Eng.Q

namespace Go.Eng.Q
open Go.Eng
noncomputable def sF(ts fs:LD)(k:Nat):Bool:=!(kB ts fs k)&&!(vB (gD fs k) 1)
def yK(f:Nat->Bool)(k:Nat)(b:Bool):Nat->Bool:=λi=>bif Nat.beq i k then b else f i
theorem Em(f:Nat->Bool)(k:Nat)(b:Bool):yK f k b k=b:=by simp[yK]
theorem Ua(f:Nat->Bool){i k:Nat}(b:Bool)(h:i≠k):yK f k b i=f i:=by
 have e:Nat.beq i k=false:=by
  cases e:Nat.beq i k with
  |false=>rfl
  |true=>exact absurd (Nat.eq_of_beq_eq_true e) h
 unfold yK;rw[e];rfl
theorem KO{n k:Nat}(f:Nat->Bool)(b:Bool):(aZ n f).set k (.b b)=aZ n (yK f k b):=by
 apply List.ext_getElem
 ·simp[aZ]
 ·intro i c d;by_cases e:i=k
  ·subst e;simp[aZ,Em]
  ·rw[List.getElem_set_ne (λh=>e h.symm)];simp[aZ,Ua f b e]
section
variable(xs gs ts fs:LD)(hM:RX xs gs ts fs)(hO:OkM xs gs ts fs)
include hM hO
theorem aC8(j:Nat)(f:j<ts.length)(t:Nat->Bool):∃r:Nat->Bool,(∀g,r g=true<->t g=true\/Ac (gD ts j) g)/\fV qW 2
  [.i 0,.i (j:Int),.l xs,.l gs,.l ts,.l fs,.l (aZ fs.length t)] (0,[.i (j:Int),.l xs,.l gs,.l ts,.l fs,.l (aZ fs.length r)]):=by
 have H:=(hM.t j f).sane;have v:=hO.sy;unfold GF at v;rw[Bool.and_eq_true,qG,qG]at v;have F:=lG.1 v.1 j f;unfold CG at F;have L:=EP qX (b:=2) (λe(c:Nat->Bool)=>[.i (e:Int),.i (j:Int),.l xs,.l gs,.l ts,.l fs,.l (aZ fs.length c)]) (eX (gD ts j) 1).length
  (λc=>(0,[.i (j:Int),.l xs,.l gs,.l ts,.l fs,.l (aZ fs.length c)])) (λe s=>Ef t (λe g=>(gD (eX (gD ts j) 1) e).toI=(g:Int)) e s) (λe c d G=>?_) (λc _=>?_) (s0:=t) Ef.zero
 ·obtain⟨r,C,K⟩:=L;exact⟨r,C,K⟩
 ·have m:=lG.1 F e d;unfold Ll at m;rw[Bool.or_eq_false_iff]at m;cases l:cK 0 (gD (eX (gD ts j) 1) e).toI with
  |false=>refine⟨c,G.succ λg'=>⟨.inl,λh=>h.elim id λh=>absurd l (by rw[h,jK (by omega)];exactλh=>by cases h)⟩,?_⟩;exact aC (aE f) (aC (aV d) (aC (aE f) (aC (aE d) (aJ l (aO (nx d H [] _))))))
  |true=>
   have P:=(fM _ _).1 l;have C:¬((fs.length:Int)<=(gD (eX (gD ts j) 1) e).toI):=λh=>by rw[jK h]at m;cases m.2
   obtain⟨g,u⟩:∃g:Nat,(gD (eX (gD ts j) 1) e).toI=(g:Int):=⟨(gD (eX (gD ts j) 1) e).toI.toNat,by omega⟩;have y:g<fs.length:=by omega
   have J:aA (gD (eX (gD ts j) 1) e).toI (aZ fs.length c).length=true:=by rw[u,fH];exact aE y
   have cs:(aZ fs.length c).set (Int.toNat (gD (eX (gD ts j) 1) e).toI) (.b true)=aZ fs.length (tD c g):=by rw[u];exact zC c y
   refine⟨tD c g,G.succ λg'=>?_,?_⟩
   ·rw[Al];exact or_congr Iff.rfl ⟨λh=>by rw[u,h],λh=>by have h:(gD (eX (gD ts j) 1) e).toI=(g':Int):=h;omega⟩
   refine aC (aE f) (aC (aV d) (aC (aE f) (aC (aE d) (aC l (aC J (aO ?_))))));rw[<-cs];exact nx d H [] _
 ·exact aC (aE f) (aJ (aX _) (bH rfl))
theorem aC9:∃d:Nat->Bool,(∀g,d g=true<->∃j,j<ts.length/\Ac (gD ts j) g)/\fV qW 0 [.i 0,.l xs,.l gs,.l ts,.l fs,.l (List.replicate fs.length (D.b false))]
  (0,[.l xs,.l gs,.l ts,.l fs,.l (aZ fs.length d)]):=by
 rw[<-mY];have r:=EP qX (b:=0) (λj(c:Nat->Bool)=>[.i (j:Int),.l xs,.l gs,.l ts,.l fs,.l (aZ fs.length c)]) ts.length
  (λc=>(0,[.l xs,.l gs,.l ts,.l fs,.l (aZ fs.length c)])) (λj s=>Ef (λ_=>false) (λj g=>Ac (gD ts j) g) j s) (λj c l m=>?_) (λc _=>?_) (s0:=λ_=>false) Ef.zero
 ·obtain⟨d,e,f⟩:=r;exact⟨d,λg=>(e g).trans ⟨λh=>h.elim (λh=>by cases h) id,.inr⟩,f⟩
 ·obtain⟨d,e,f⟩:=aC8 xs gs ts fs hM hO j l c;refine⟨d,m.succ e,?_⟩;exact aC (aV l) (aP f (bG (aO (nx l hM.sane.ht [] _))))
 ·exact aJ (aX _) (bH rfl)
theorem aDa(j b:Nat)(e:j<fs.length)(m:b<(fR (gD fs j)).length)(t:Nat->Bool):∃r:Nat->Bool,Ef t (λk g=>Ab (gD (gD (fR (gD fs j)) b).els k) g) (gD (fR (gD fs j)) b).els.length r/\fV qW 8
  [.i (j:Int),.i 0,.i (b:Int),.l xs,.l gs,.l ts,.l fs,.l (aZ fs.length t)] (0,[.i (j:Int),.i (b:Int),.l xs,.l gs,.l ts,.l fs,.l (aZ fs.length r)]):=by
 have hf:=QP hM hO e;have C:=(hf.tb.2 b m).ins.sane;have L:=EP qX (b:=8) (λk(c:Nat->Bool)=>[.i (j:Int),.i (k:Int),.i (b:Int),.l xs,.l gs,.l ts,.l fs,.l (aZ fs.length c)]) (gD (fR (gD fs j)) b).els.length
  (λc=>(0,[.i (j:Int),.i (b:Int),.l xs,.l gs,.l ts,.l fs,.l (aZ fs.length c)])) (λk s=>Ef t (λk g=>Ab (gD (gD (fR (gD fs j)) b).els k) g) k s) (λk c l y=>?_) (λc _=>?_) (s0:=t) Ef.zero
 ·obtain⟨r,J,K⟩:=L;exact⟨r,J,K⟩
 ·have f:aA (b:Int) (fR (gD fs j)).length=true:=aE m;have F:aQ (k:Int) (iE (gD (fR (gD fs j)) b))=true:=aV l;have wk:aA (k:Int) (nE (gD (fR (gD fs j)) b))=true:=aE l;cases d:aD (vI (gD (gD (fR (gD fs j)) b).els k) 0) 2 with
  |true=>
   obtain⟨g,u,v⟩:=hf.fo b m k l ((bT _ _).1 d);have G:aA (vI (gD (gD (fR (gD fs j)) b).els k) 3) (aZ fs.length c).length=true:=by rw[u,fH];exact aE v
   have cs:(aZ fs.length c).set (Int.toNat (vI (gD (gD (fR (gD fs j)) b).els k) 3)) (.b true)=aZ fs.length (tD c g):=by rw[u];exact zC c v
   refine⟨tD c g,y.succ λg'=>?_,?_⟩
   ·rw[Al];exact or_congr Iff.rfl ⟨λh=>⟨(bT _ _).1 d,by rw[u,h]⟩,λh=>by have:=h.2;omega⟩
   refine aC (aE e) (aC f (aC F (aC (aE e) (aC f (aC wk (aC d (aC G (aO ?_))))))));rw[<-cs];exact nx l C [_] _
  |false=>refine⟨c,y.succ λg'=>⟨.inl,λh=>h.elim id λh=>absurd h.1 λH=>by rw[(bT _ _).2 H]at d;cases d⟩,?_⟩;exact aC (aE e) (aC f (aC F (aC (aE e) (aC f (aC wk (aJ d (aO (nx l C [_] _))))))))
 ·have f:aA (b:Int) (fR (gD fs j)).length=true:=aE m;exact aC (aE e) (aC f (aJ (aX _) (bH rfl)))
theorem aDb(j:Nat)(e:j<fs.length)(f:Nat->Bool):∃d:Nat->Bool,(∀g,d g=true<->f g=true\/Eg (fR (gD fs j)) g)/\fV qW 6
  [.i (j:Int),.i 0,.l xs,.l gs,.l ts,.l fs,.l (aZ fs.length f)] (0,[.i (j:Int),.l xs,.l gs,.l ts,.l fs,.l (aZ fs.length d)]):=by
 have hf:=QP hM hO e;have v:=EP qX (b:=6) (λb(c:Nat->Bool)=>[.i (j:Int),.i (b:Int),.l xs,.l gs,.l ts,.l fs,.l (aZ fs.length c)]) (fR (gD fs j)).length
  (λc=>(0,[.i (j:Int),.l xs,.l gs,.l ts,.l fs,.l (aZ fs.length c)])) (λb s=>Ef f (λb g=>∃k,k<(gD (fR (gD fs j)) b).els.length/\Ab (gD (gD (fR (gD fs j)) b).els k) g) b s) (λb c h u=>?_) (λc _=>?_) (s0:=f) Ef.zero
 ·obtain⟨d,l,m⟩:=v;exact⟨d,l,m⟩
 ·obtain⟨d,r,t⟩:=aDa xs gs ts fs hM hO j b e h c;refine⟨d,u.succ r,?_⟩;exact aC (aE e) (aC (show aQ (b:Int) ((fR (gD fs j)).length:Int)=true from aV h) (aP t (bG (aO (nx h hf.tb.1.sane [_] _)))))
 ·exact aC (aE e) (aJ (aX _) (bH rfl))
theorem Am:iQ E aW sites YI [.l [.l xs,.l gs,.l ts,.l fs]] (.l (aZ fs.length (kB ts fs))) []:=by
 obtain⟨f,l,r⟩:=aC9 xs gs ts fs hM hO;have C:=EP qX (b:=4) (λj(c:Nat->Bool)=>[.i (j:Int),.l xs,.l gs,.l ts,.l fs,.l (aZ fs.length c)]) fs.length
  (λc=>(0,[.l (aZ fs.length c)])) (λj s=>Ef f (λj g=>Eg (fR (gD fs j)) g) j s) (λj c d y=>?_) (λc _=>?_) (s0:=f) Ef.zero
 ·obtain⟨c,m,t⟩:=C;have e:c=kB ts fs:=Zf λg=>(m g).trans (or_congr (l g) Iff.rfl);have h:fV qW 4 [.i 0,.l xs,.l gs,.l ts,.l fs,.l (aZ fs.length f)] (0,[.l (aZ fs.length c)]):=t;rw[e]at h;refine bA qX (by rfl) rfl ?_;show Ev _ _ (UE _) _;unfold UE;have G:=hM.n;refine aC ?_ (aP r (bG (aP h (bG (bI rfl rfl)))));show(cK 0 (fs.length:Int)&&(aD (fs.length:Int) (fs.length:Int)&&jP (Int.toNat (fs.length:Int)) 1))=true;rw[jK (by omega),qF];exact fG (by show fs.length<=_;omega) (by omega)
 ·obtain⟨F,u,v⟩:=aDb xs gs ts fs hM hO j d c;refine⟨F,y.succ u,?_⟩;exact aC (aV d) (aP v (bG (aO (nx d hM.sane.hf [] _))))
 ·exact aJ (aX _) (bH rfl)
theorem Ba:iQ E aW sites YH [.l [.l xs,.l gs,.l ts,.l fs]] (.l (aZ fs.length (sF ts fs))) []:=by
 obtain⟨F,u,t⟩:=D0 xs gs ts fs hM hO;have h:=EP UG (b:=0) (λj(s:Nat->Bool)=>[.i (fs.length:Int),.l fs,.i (j:Int),.l (aZ fs.length s)]) fs.length (λs=>(0,[.l (aZ fs.length s)])) (λj s=>∀i,s i=if i<j then sF ts fs i else kB ts fs i) (λj s c d=>?_) (λs _=>?_) (s0:=kB ts fs) (λi=>by rw[if_neg (by omega)])
 ·obtain⟨s,m,r⟩:=h;have e:aZ fs.length s=aZ fs.length (sF ts fs):=mZ λi d=>by rw[m i,if_pos d]
  have g:fV UF 0 [.i (fs.length:Int),.l fs,.i 0,.l (aZ fs.length (kB ts fs))] (0,[.l (aZ fs.length s)]):=r;rw[e]at g;refine bA UG (by rfl) rfl ?_;exact bK t rfl (aJ rfl (aP g (bG (bI rfl rfl))))
 ·have e:aZ fs.length (yK s j (sF ts fs j))=(aZ fs.length s).set j (.b (sF ts fs j)):=(KO s _).symm;have l:D.toB (gD (aZ fs.length s) j)=kB ts fs j:=by rw[kN s c,d j,if_neg (by omega)];rfl
  refine⟨yK s j (sF ts fs j),λi=>?_,?_⟩
  ·by_cases e:i=j
   ·subst e;rw[Em,if_pos (by omega)]
   ·rw[Ua _ _ e,d i];by_cases f:i<j
    ·rw[if_pos f,if_pos (by omega)]
    ·rw[if_neg f,if_neg (by omega)]
  ·have w:aA (j:Int) (aZ fs.length s).length=true:=by rw[fH];exact aE c
   refine aC (aV c) (aC (aE c) (aC w (aC w (aO ?_))));show[D.i (fs.length:Int),.l fs,.i ((j+1:Nat):Int),.l (aZ fs.length (yK s j (sF ts fs j)))]=[D.i (fs.length:Int),.l fs,.i (bJ .i64 (j:Int) 1),.l ((aZ fs.length s).set j (.b (!(D.toB (gD (aZ fs.length s) j))&&!(vB (gD fs j) 1))))];rw[e,l];exact nx c hM.sane.hf [_,_] _
 ·exact aJ (aX _) (bH rfl)
end
end Go.Eng.Q

namespace Go.Eng.Q
open Go.Eng
def Vn(u:LD):Nat->LD
 |0=>[]
 |p+1=>bif aD (gD u (p+1)).toI 0 then Vn u p++[.i ((p+1:Nat):Int)]else Vn u p
theorem aAh(u:LD):∀p,(Vn u p).length<=p
 |0=>Nat.le_refl _
 |p+1=>by
  have:=aAh u p;unfold Vn;cases aD (gD u (p+1)).toI 0 with
  |true=>rw[cond_true,List.length_append];show _+1<=_;omega
  |false=>rw[cond_false];omega
noncomputable abbrev eM(fs:LD)(k:Nat):LD:=XJ (eX (gD fs k) 2).length (fR (gD fs k))
noncomputable def CB(ts fs:LD)(k:Nat):D:=.l (bif sF ts fs k then Vn (eM fs k) (eX (gD fs k) 2).length else[])
noncomputable def sT(ts fs:LD)(k i:Nat):D:=if i<k then CB ts fs i else .l []
theorem OX{ts fs:LD}{k n:Nat}{x:D}(h:CB ts fs k=x):aK n (fS (sT ts fs k) k x)=aK n (sT ts fs (k+1)):=dV λi d=>by
 unfold sT;by_cases e:i=k
 ·subst e;rw[fK,if_pos (by omega),h]
 ·rw[nW _ _ e];by_cases c:i<k
  ·rw[if_pos c,if_pos (by omega)]
  ·rw[if_neg c,if_neg (by omega)]
theorem RQ{ts fs:LD}{k n:Nat}:aK n (sT ts fs k)=aK n (fS (sT ts fs k) k (.l [])):=dV λi c=>by
 by_cases e:i=k
 ·subst e;rw[fK];unfold sT;rw[if_neg (by omega)]
 ·rw[nW _ _ e]
theorem Kn{ts fs:LD}{n:Nat}:aK n (sT ts fs 0)=List.replicate n (.l []):=by rw[<-rY];exact dV λi c=>by unfold sT;rw[if_neg (by omega)]
theorem Nw{ts fs:LD}{n:Nat}:aK n (sT ts fs n)=aK n (CB ts fs):=dV λi c=>by unfold sT;rw[if_pos c]
theorem D2{n k p:Nat}{G:Nat->D}{u:LD}(c:k<n)(e:aD (gD u (p+1)).toI 0=true):(aK n (fS G k (.l (Vn u p)))).set k (.l (D.els (gD (aK n (fS G k (.l (Vn u p)))) k)++[.i ((p+1:Nat):Int)]))=aK n (fS G k (.l (Vn u (p+1)))):=by
 rw[eB _ c,fK,nY,HZ];have:Vn u (p+1)=Vn u p++[.i ((p+1:Nat):Int)]:=by rw[Vn,e];rfl
 rw[this];rfl
theorem D8{p:Nat}{u:LD}(e:aD (gD u (p+1)).toI 0=false):Vn u (p+1)=Vn u p:=by rw[Vn,e];rfl
section
variable(xs gs ts fs:LD)(hM:RX xs gs ts fs)(hO:OkM xs gs ts fs)
theorem D3{k n:Nat}(d:k<n)(np:Nat)(h:np<=100000000)(u:LD)(j:np<u.length)(G:Nat->D)(fr:LD)(z:Int):
  fV EJ 2 [.i z,.i (np:Int),.i (k:Int),.i (k:Int),.i 0,.l xs,.l gs,.l ts,.l fs,.l (aK n (fS G k (.l (Vn u 0)))),.l fr,.l u]
   (0,[.i z,.i (k:Int),.l xs,.l gs,.l ts,.l fs,.l (aK n (fS G k (.l (Vn u np)))),.l fr]):=by
 refine cI BN (λp=>[.i z,.i (np:Int),.i (k:Int),.i (k:Int),.i (p:Int),.l xs,.l gs,.l ts,.l fs,.l (aK n (fS G k (.l (Vn u p)))),.l fr,.l u]) np (λp f=>?_) ?_
 ·have e1:bJ .i64 (p:Int) 1=((p+1:Nat):Int):=Vd (by omega);have wk:aA (k:Int) (aK n (fS G k (.l (Vn u p)))).length=true:=by rw[dA];exact aE d
  have g:aA (bJ .i64 (p:Int) 1) u.length=true:=by rw[e1];exact aE (by omega)
  refine aC (aV f) (aC g ?_);cases e:aD (gD u (p+1)).toI 0 with
  |true=>
   have c:aD (gD u (Int.toNat (bJ .i64 (p:Int) 1))).toI 0=true:=by rw[e1];exact e
   refine aC c (aC wk (aC ?_ (aC wk (aC ?_ (aO ?_)))))
   ·show jP (((D.els (gD (aK n (fS G k (.l (Vn u p)))) k)).length)+1) 8=true;rw[eB _ d,fK];have:=aAh u p;exact fG (by show(Vn u p).length+1<=_;omega) (by omega)
   ·show(Nat.beq k k&&true)=true;rw[Nat.beq_refl];rfl
   ·show[D.i z,.i (np:Int),.i (k:Int),.i (k:Int),.i ((p+1:Nat):Int),.l xs,.l gs,.l ts,.l fs,.l (aK n (fS G k (.l (Vn u (p+1))))),.l fr,.l u]=[D.i z,.i (np:Int),.i (k:Int),.i (k:Int),.i (bJ .i64 (p:Int) 1),.l xs,.l gs,.l ts,.l fs,.l ((aK n (fS G k (.l (Vn u p)))).set k (.l (D.els (gD (aK n (fS G k (.l (Vn u p)))) k)++[.i (bJ .i64 (p:Int) 1)]))),.l fr,.l u];rw[e1,D2 d e]
  |false=>
   have c:aD (gD u (Int.toNat (bJ .i64 (p:Int) 1))).toI 0=false:=by rw[e1];exact e
   rw[D8 e];refine aJ c (aO ?_);show[D.i z,.i (np:Int),.i (k:Int),.i (k:Int),.i ((p+1:Nat):Int),.l xs,.l gs,.l ts,.l fs,.l (aK n (fS G k (.l (Vn u p)))),.l fr,.l u]=[D.i z,.i (np:Int),.i (k:Int),.i (k:Int),.i (bJ .i64 (p:Int) 1),.l xs,.l gs,.l ts,.l fs,.l (aK n (fS G k (.l (Vn u p)))),.l fr,.l u];rw[e1]
 ·exact aJ (aX _) (bH rfl)
theorem D6{k n:Nat}(d:k<n)(nm:List UInt8)(o:Bool)(ps:LD)(r:Int)(bs:LD)(h:ps.length<=100000000)(u:LD)(l:ps.length<u.length)(G:Nat->D)(c:LD):
  fV NN 2 [.i (k:Int),.i 1,.l xs,.l gs,.l ts,.l fs,.s nm,.b o,.l ps,.i r,.l bs,.l (aK n (fS G k (.l (Vn u 0)))),.l c,.l u]
   (0,[.i (k:Int),.l xs,.l gs,.l ts,.l fs,.l (aK n (fS G k (.l (Vn u ps.length)))),.l c]):=by
 refine cI NT (λp=>[.i (k:Int),.i ((p+1:Nat):Int),.l xs,.l gs,.l ts,.l fs,.s nm,.b o,.l ps,.i r,.l bs,.l (aK n (fS G k (.l (Vn u p)))),.l c,.l u]) ps.length (λp j=>?_) ?_
 ·have e1:bJ .i64 ((p+1:Nat):Int) 1=((p+1+1:Nat):Int):=Vd (by omega);have wk:aA (k:Int) (aK n (fS G k (.l (Vn u p)))).length=true:=by rw[dA];exact aE d
  have g:aA ((p+1:Nat):Int) u.length=true:=aE (by omega);have f:cK ((p+1:Nat):Int) (ps.length:Int)=true:=jK (by omega);refine aC f (aC g ?_);cases e:aD (gD u (p+1)).toI 0 with
  |true=>
   refine aC e (aC wk (aC ?_ (aC wk (aC ?_ (aO ?_)))))
   ·show jP (((D.els (gD (aK n (fS G k (.l (Vn u p)))) k)).length)+1) 8=true;rw[eB _ d,fK];have:=aAh u p;exact fG (by show(Vn u p).length+1<=_;omega) (by omega)
   ·show(Nat.beq k k&&true)=true;rw[Nat.beq_refl];rfl
   ·show[D.i (k:Int),.i ((p+1+1:Nat):Int),.l xs,.l gs,.l ts,.l fs,.s nm,.b o,.l ps,.i r,.l bs,.l (aK n (fS G k (.l (Vn u (p+1))))),.l c,.l u]=[D.i (k:Int),.i (bJ .i64 ((p+1:Nat):Int) 1),.l xs,.l gs,.l ts,.l fs,.s nm,.b o,.l ps,.i r,.l bs,.l ((aK n (fS G k (.l (Vn u p)))).set k (.l (D.els (gD (aK n (fS G k (.l (Vn u p)))) k)++[.i ((p+1:Nat):Int)]))),.l c,.l u];rw[e1,D2 d e]
  |false=>rw[D8 e];refine aJ e (aO ?_);show[D.i (k:Int),.i ((p+1+1:Nat):Int),.l xs,.l gs,.l ts,.l fs,.s nm,.b o,.l ps,.i r,.l bs,.l (aK n (fS G k (.l (Vn u p)))),.l c,.l u]=[D.i (k:Int),.i (bJ .i64 ((p+1:Nat):Int) 1),.l xs,.l gs,.l ts,.l fs,.s nm,.b o,.l ps,.i r,.l bs,.l (aK n (fS G k (.l (Vn u p)))),.l c,.l u];rw[e1]
 ·exact aJ (Uw (by show(ps.length:Int)<((ps.length+1:Nat):Int);omega)) (bH rfl)
theorem D9{np:Nat}{bs:LD}:np<(XJ np bs).length:=by have:=ON np bs bs.length;rw[D1];omega
include hM hO
theorem Vo:iQ E aW sites EY [.l [.l xs,.l gs,.l ts,.l fs]] (.l (aK fs.length (CB ts fs))) []:=by
 have g:(aZ fs.length (sF ts fs)).length=fs.length:=fH _ _;have hg:∀k,k<fs.length->gD (aZ fs.length (sF ts fs)) k=.b (sF ts fs k):=λk d=>kN _ d;have r:=Ba xs gs ts fs hM hO;generalize aZ fs.length (sF ts fs)=fr at*;have h:fV EJ 0 [.i (fr.length:Int),.i 0,.l xs,.l gs,.l ts,.l fs,.l (aK fs.length (sT ts fs 0)),.l fr] (0,[.l (aK fs.length (sT ts fs fs.length))]):=by
  refine cI BN (λk=>[.i (fr.length:Int),.i (k:Int),.l xs,.l gs,.l ts,.l fs,.l (aK fs.length (sT ts fs k)),.l fr]) fs.length (λk d=>?_) ?_
  ·have hf:=QP hM hO d;have s:=hf.n;have v:=ON (eX (gD fs k) 2).length (fR (gD fs k)) (fR (gD fs k)).length;have t:aQ (k:Int) (fr.length:Int)=true:=by rw[g];exact aV d
   have u:aA (k:Int) fr.length=true:=by rw[g];exact aE d
   have m:aA (k:Int) fs.length=true:=aE d;have l:∀q:D,[D.i (fr.length:Int),.i ((k+1:Nat):Int),.l xs,.l gs,.l ts,.l fs,q,.l fr]=[D.i (fr.length:Int),.i (bJ .i64 (k:Int) 1),.l xs,.l gs,.l ts,.l fs,q,.l fr]:=λq=>nx d hM.sane.hf [_] _;refine aC t (aC u ?_);cases e:sF ts fs k with
   |false=>
    have f:CB ts fs k=.l []:=by unfold CB;rw[e];rfl
    have c:(!(D.toB (gD fr k)))=true:=by rw[hg k d,e];rfl
    refine aC c (aO ?_);show[D.i (fr.length:Int),.i ((k+1:Nat):Int),.l xs,.l gs,.l ts,.l fs,.l (aK fs.length (sT ts fs (k+1))),.l fr]=_;rw[<-OX f,<-RQ];exact l _
   |true=>
    have f:CB ts fs k=.l (Vn (eM fs k) (eX (gD fs k) 2).length):=by unfold CB;rw[e];rfl
    have c:(!(D.toB (gD fr k)))=false:=by rw[hg k d,e];rfl
    have j:=D3 xs gs ts fs d (eX (gD fs k) 2).length (by omega) (eM fs k) D9 (sT ts fs k) fr (fr.length:Int);rw[OX f,show Vn (eM fs k) 0=[]from rfl,<-RQ]at j;exact aJ c (aC m (bK (Ju (D.toS (D.fld (gD fs k) 0)) (vB (gD fs k) 1) (eX (gD fs k) 2) (vI (gD fs k) 3) (fR (gD fs k)) hf.tp hf.tb) rfl (aC m (aP j (bG (aO (l _)))))))
  ·exact aJ (show aQ (fs.length:Int) (fr.length:Int)=false by rw[g];exact aX _) (bH rfl)
 rw[Kn,Nw]at h;refine bA BN (by rfl) rfl ?_;show Ev _ _ (AH _) _;unfold AH;have s:=hM.n;refine bK (C1 xs gs ts fs hM hO) rfl (aJ rfl (aC ?_ (bK r rfl (aP h (bG (bI rfl rfl))))));show(cK 0 (fs.length:Int)&&(aD (fs.length:Int) (fs.length:Int)&&jP (Int.toNat (fs.length:Int)) 24))=true;rw[jK (by omega),qF];exact fG (by show fs.length<=_;omega) (by omega)
theorem D4:iQ E aW sites Jq [.l [.l xs,.l gs,.l ts,.l fs]] (.l (aK fs.length (CB ts fs))) []:=by
 have l:(aZ fs.length (kB ts fs)).length=fs.length:=fH _ _;have hg:∀k,k<fs.length->gD (aZ fs.length (kB ts fs)) k=.b (kB ts fs k):=λk c=>kN _ c;have r:=Am xs gs ts fs hM hO;generalize aZ fs.length (kB ts fs)=tk at*;have f:fV NN 0 [.i 0,.l xs,.l gs,.l ts,.l fs,.l (aK fs.length (sT ts fs 0)),.l tk] (0,[.l (aK fs.length (sT ts fs fs.length))]):=by
  refine cI NT (λk=>[.i (k:Int),.l xs,.l gs,.l ts,.l fs,.l (aK fs.length (sT ts fs k)),.l tk]) fs.length (λk c=>?_) ?_
  ·have hf:=QP hM hO c;have m:=hf.n;have v:=ON (eX (gD fs k) 2).length (fR (gD fs k)) (fR (gD fs k)).length;have s:aQ (k:Int) ((aK fs.length (sT ts fs k)).length:Int)=true:=by rw[dA];exact aV c
   have t:aA (k:Int) tk.length=true:=by rw[l];exact aE c
   have u:aA (k:Int) fs.length=true:=aE c;have h:∀q:D,[D.i ((k+1:Nat):Int),.l xs,.l gs,.l ts,.l fs,q,.l tk]=[D.i (bJ .i64 (k:Int) 1),.l xs,.l gs,.l ts,.l fs,q,.l tk]:=λq=>nx c hM.sane.hf [] _;have j:(vB (gD fs k) 1||D.toB (gD tk k))=!(sF ts fs k):=by rw[hg k c];show(vB (gD fs k) 1||kB ts fs k)=!(!(kB ts fs k)&&!(vB (gD fs k) 1));cases kB ts fs k<;>cases vB (gD fs k) 1<;>rfl
   refine aC s (aC u (aC (aH t) ?_));cases e:sF ts fs k with
   |false=>
    have d:CB ts fs k=.l []:=by unfold CB;rw[e];rfl
    refine aC (j.trans (by rw[e];rfl)) (aO ?_);show[D.i ((k+1:Nat):Int),.l xs,.l gs,.l ts,.l fs,.l (aK fs.length (sT ts fs (k+1))),.l tk]=_;rw[<-OX d,<-RQ];exact h _
   |true=>
    have d:CB ts fs k=.l (Vn (eM fs k) (eX (gD fs k) 2).length):=by unfold CB;rw[e];rfl
    have g:=D6 xs gs ts fs c (D.toS (D.fld (gD fs k) 0)) (vB (gD fs k) 1) (eX (gD fs k) 2) (vI (gD fs k) 3) (fR (gD fs k)) (by omega) (eM fs k) D9 (sT ts fs k) tk;rw[OX d,show Vn (eM fs k) 0=[]from rfl,<-RQ]at g;exact aJ (j.trans (by rw[e];rfl)) (bK (Km (D.toS (D.fld (gD fs k) 0)) (vB (gD fs k) 1) (eX (gD fs k) 2) (vI (gD fs k) 3) (fR (gD fs k)) hf.tp hf.tb) rfl (aP g (bG (aO (h _)))))
  ·exact aJ (show aQ (fs.length:Int) ((aK fs.length (sT ts fs fs.length)).length:Int)=false by rw[dA];exact aX _) (bH rfl)
 rw[Kn,Nw]at f;refine bA NT (by rfl) rfl ?_;show Ev _ _ (YL _) _;unfold YL;have m:=hM.n;refine bK r rfl (aC ?_ (aP f (bG (bI rfl rfl))));show(cK 0 (fs.length:Int)&&(aD (fs.length:Int) (fs.length:Int)&&jP (Int.toNat (fs.length:Int)) 24))=true;rw[jK (by omega),qF];exact fG (by show fs.length<=_;omega) (by omega)
end
end Go.Eng.Q

namespace Go.Eng.Q
open Go.Eng
def D5(u:LD)(x:D):Bool:=(aD (vI x 0) 22&&!(aD (vI x 1) 0))&&aQ 0 (gD u (Int.toNat (vI x 2))).toI
def unI(u:LD)(s:Nat->Bool)(x:D):Nat->Bool:=bif D5 u x then yK s (Int.toNat (vI x 3)) false else s
def unB(u:LD)(s:Nat->Bool)(b:D):Nat->Bool:=b.els.foldl (unI u) s
noncomputable def unF(s:Nat->Bool)(f:D):Nat->Bool:=(fR f).foldl (unB (XJ (eX f 2).length (fR f))) s
noncomputable def un0(ts fs:LD)(k:Nat):Bool:=sF ts fs k&&!(aD (vI (gD fs k) 3) 0)
noncomputable def E0(ts fs:LD):Nat->Bool:=fs.foldl unF (un0 ts fs)
theorem K1{m s nf:Nat}{xs fs ps bs:LD}{r:Int}(h:Nr m s nf xs fs ps bs r){b k:Nat}(c:b<bs.length)(d:k<(gD bs b).els.length):
  (((!((aD (vI (gD (gD bs b).els k) 0) 22&&!(aD (vI (gD (gD bs b).els k) 1) 0))&&true))||aA (vI (gD (gD bs b).els k) 2) (XJ ps.length bs).length)=true)/\
  (D5 (XJ ps.length bs) (gD (gD bs b).els k)=true->aA (vI (gD (gD bs b).els k) 3) nf=true):=by
 have j:=(h.sy b c k d).1;have l:eJ (gD (gD bs b).els k)=true->aA (vI (gD (gD bs b).els k) 2) (XJ ps.length bs).length=true:=λe=>by have g:LQ ps.length bs (lQ ps.length bs b k) (b,k):=⟨c,d,e,rfl⟩;have f:vI (gD (gD bs b).els k) 2=(lQ ps.length bs b k:Int):=Mr h g;have hv:=Ve (np:=ps.length) c d e;rw[f,D1];exact aE (by omega)
 have ht:eJ (gD (gD bs b).els k)=!(aD (vI (gD (gD bs b).els k) 1) 0):=rfl;generalize gD (gD bs b).els k=x at*;refine⟨?_,λe=>?_⟩
 ·cases e:(!(aD (vI x 1) 0))with
  |true=>exact aH (l (ht.trans e))
  |false=>rw[Bool.and_false];rfl
 ·unfold D5 at e;rw[Bool.and_eq_true,Bool.and_eq_true]at e;exact j ((bT _ _).1 e.1.1)
section
variable(xs gs ts fs:LD)(hM:RX xs gs ts fs)(hO:OkM xs gs ts fs)
include hM hO
theorem Kt(k b:Nat)(r:k<fs.length)(j:b<(fR (gD fs k)).length)(s0:Nat->Bool)(c d:Int):
  fV pV 6 [.i (b:Int),.l (fR (gD fs k)),.i c,.i ((gD (fR (gD fs k)) b).els.length:Int),.l fs,.l (gD (fR (gD fs k)) b).els,.i d,.i (k:Int),.i 0,.l (aZ fs.length s0),.l (eM fs k)]
   (0,[.i (b:Int),.l (fR (gD fs k)),.i c,.l fs,.i d,.i (k:Int),.l (aZ fs.length (unB (eM fs k) s0 (gD (fR (gD fs k)) b))),.l (eM fs k)]):=by
 have hf:=QP hM hO r;have t:=(hf.tb.2 b j).ins.sane;have h:=GC mR (b:=6) (λi(s:Nat->Bool)=>[.i (b:Int),.l (fR (gD fs k)),.i c,.i ((gD (fR (gD fs k)) b).els.length:Int),.l fs,.l (gD (fR (gD fs k)) b).els,.i d,.i (k:Int),.i (i:Int),.l (aZ fs.length s),.l (eM fs k)]) (gD (fR (gD fs k)) b).els (unI (eM fs k))
  (λs=>(0,[.i (b:Int),.l (fR (gD fs k)),.i c,.l fs,.i d,.i (k:Int),.l (aZ fs.length s),.l (eM fs k)])) (λ_ _=>True) (λi s f _=>⟨trivial,?_⟩) (λs _=>?_) (s0:=s0) trivial
 ·exact h
 ·obtain⟨l,m⟩:=K1 hf j f;have hx:∀q:D,[D.i (b:Int),.l (fR (gD fs k)),.i c,.i ((gD (fR (gD fs k)) b).els.length:Int),.l fs,.l (gD (fR (gD fs k)) b).els,.i d,.i (k:Int),.i ((i+1:Nat):Int),q,.l (eM fs k)]=[D.i (b:Int),.l (fR (gD fs k)),.i c,.i ((gD (fR (gD fs k)) b).els.length:Int),.l fs,.l (gD (fR (gD fs k)) b).els,.i d,.i (k:Int),.i (bJ .i64 (i:Int) 1),q,.l (eM fs k)]:=λq=>nx f t [_,_,_,_,_,_,_,_] _;refine aC (aV f) (aC (aE f) (aC l ?_));cases e:D5 (eM fs k) (gD (gD (fR (gD fs k)) b).els i)with
  |true=>
   have g:unI (eM fs k) s (gD (gD (fR (gD fs k)) b).els i)=yK s (Int.toNat (vI (gD (gD (fR (gD fs k)) b).els i) 3)) false:=by unfold unI;rw[e];rfl
   have w:aA (vI (gD (gD (fR (gD fs k)) b).els i) 3) (aZ fs.length s).length=true:=by rw[fH];exact m e
   rw[g,<-KO];exact aC e (aC w (aO (hx _)))
  |false=>
   have g:unI (eM fs k) s (gD (gD (fR (gD fs k)) b).els i)=s:=by unfold unI;rw[e];rfl
   rw[g];exact aJ e (aO (hx _))
 ·exact aJ (aX _) (bH rfl)
theorem Mt(k:Nat)(e:k<fs.length)(s0:Nat->Bool)(c:Int):
  fV pV 4 [.i 0,.l (fR (gD fs k)),.i c,.l fs,.i ((fR (gD fs k)).length:Int),.i (k:Int),.l (aZ fs.length s0),.l (eM fs k)]
   (0,[.i c,.l fs,.i (k:Int),.l (aZ fs.length (unF s0 (gD fs k)))]):=by
 have hf:=QP hM hO e;have h:=GC mR (b:=4) (λb(s:Nat->Bool)=>[.i (b:Int),.l (fR (gD fs k)),.i c,.l fs,.i ((fR (gD fs k)).length:Int),.i (k:Int),.l (aZ fs.length s),.l (eM fs k)]) (fR (gD fs k)) (unB (eM fs k))
  (λs=>(0,[.i c,.l fs,.i (k:Int),.l (aZ fs.length s)])) (λ_ _=>True) (λb s d _=>⟨trivial,?_⟩) (λs _=>?_) (s0:=s0) trivial
 ·exact h
 ·exact aC (aV d) (aC (aE d) (aP (Kt xs gs ts fs hM hO k b e d s c _) (bG (aO (nx d hf.tb.1.sane [] _)))))
 ·exact aJ (aX _) (bH rfl)
theorem Mu(s0:Nat->Bool):fV pV 2 [.i (fs.length:Int),.l fs,.i 0,.l (aZ fs.length s0)] (0,[.l (aZ fs.length (fs.foldl unF s0))]):=by
 have h:=GC mR (b:=2) (λk(s:Nat->Bool)=>[.i (fs.length:Int),.l fs,.i (k:Int),.l (aZ fs.length s)]) fs unF (λs=>(0,[.l (aZ fs.length s)])) (λ_ _=>True) (λk s c _=>⟨trivial,?_⟩) (λs _=>?_) (s0:=s0) trivial
 ·exact h
 ·have hf:=QP hM hO c;exact aC (aV c) (aC (aE c) (bK (Ju (D.toS (D.fld (gD fs k) 0)) (vB (gD fs k) 1) (eX (gD fs k) 2) (vI (gD fs k) 3) (fR (gD fs k)) hf.tp hf.tb) rfl (aP (Mt xs gs ts fs hM hO k c s _) (bG (aO (nx c hM.sane.hf [_,_] _))))))
 ·exact aJ (aX _) (bH rfl)
omit hM hO in
theorem Qt{n j:Nat}{f g s:Nat->Bool}(h:j<n)(d:∀i,s i=if i<j then g i else f i):∀i,yK s j (g j) i=if i<j+1 then g i else f i:=λi=>by
 by_cases e:i=j
 ·subst e;rw[Em,if_pos (by omega)]
 ·rw[Ua _ _ e,d i];by_cases c:i<j
  ·rw[if_pos c,if_pos (by omega)]
  ·rw[if_neg c,if_neg (by omega)]
theorem Ks:iQ E aW sites yU [.l [.l xs,.l gs,.l ts,.l fs]] (.l (aZ fs.length (E0 ts fs))) []:=by
 have h:=EP mR (b:=0) (λk(s:Nat->Bool)=>[.l fs,.i (k:Int),.i (fs.length:Int),.l xs,.l gs,.l ts,.l fs,.l (aZ fs.length s)]) fs.length (λs=>(0,[.l xs,.l gs,.l ts,.l fs,.l (aZ fs.length s)])) (λj s=>∀i,s i=if i<j then un0 ts fs i else sF ts fs i) (λk s c d=>⟨yK s k (un0 ts fs k),Qt c d,?_⟩) (λs _=>?_) (s0:=sF ts fs) (λi=>by rw[if_neg (by omega)])
 ·obtain⟨s,l,m⟩:=h;have e:aZ fs.length s=aZ fs.length (un0 ts fs):=mZ λi d=>by rw[l i,if_pos d]
  have f:fV pV 0 [.l fs,.i 0,.i (fs.length:Int),.l xs,.l gs,.l ts,.l fs,.l (aZ fs.length (sF ts fs))] (0,[.l xs,.l gs,.l ts,.l fs,.l (aZ fs.length s)]):=m;rw[e]at f;refine bA mR (by rfl) rfl ?_;exact bK (C1 xs gs ts fs hM hO) rfl (aJ rfl (bK (Ba xs gs ts fs hM hO) rfl (aP f (bG (aP (Mu xs gs ts fs hM hO _) (bG (bI rfl rfl)))))))
 ·have g:D.toB (gD (aZ fs.length s) k)=sF ts fs k:=by rw[kN s c,d k,if_neg (by omega)];rfl
  have w:aA (k:Int) (aZ fs.length s).length=true:=by rw[fH];exact aE c
  refine aC (aV c) (aC (aE c) (aC w (aC w (aO ?_))));show[D.l fs,.i ((k+1:Nat):Int),.i (fs.length:Int),.l xs,.l gs,.l ts,.l fs,.l (aZ fs.length (yK s k (un0 ts fs k)))]=[D.l fs,.i (bJ .i64 (k:Int) 1),.i (fs.length:Int),.l xs,.l gs,.l ts,.l fs,.l ((aZ fs.length s).set k (.b (D.toB (gD (aZ fs.length s) k)&&!(aD (vI (gD fs k) 3) 0))))];rw[g,KO];exact nx c hM.sane.hf [_] _
 ·exact aJ (aX _) (bH rfl)
theorem Vq(k b:Nat)(d:k<fs.length)(f:b<(fR (gD fs k)).length)(s0:Nat->Bool):
  fV qY 6 [.i 0,.i (b:Int),.i (k:Int),.l xs,.l gs,.l ts,.l fs,.l (aZ fs.length s0),.l (eM fs k)]
   (0,[.i (b:Int),.i (k:Int),.l xs,.l gs,.l ts,.l fs,.l (aZ fs.length (unB (eM fs k) s0 (gD (fR (gD fs k)) b))),.l (eM fs k)]):=by
 have hf:=QP hM hO d;have r:=(hf.tb.2 b f).ins.sane;have j:aA (b:Int) (fR (gD fs k)).length=true:=aE f;have h:=GC rB (b:=6) (λi(s:Nat->Bool)=>[.i (i:Int),.i (b:Int),.i (k:Int),.l xs,.l gs,.l ts,.l fs,.l (aZ fs.length s),.l (eM fs k)]) (gD (fR (gD fs k)) b).els (unI (eM fs k))
  (λs=>(0,[.i (b:Int),.i (k:Int),.l xs,.l gs,.l ts,.l fs,.l (aZ fs.length s),.l (eM fs k)])) (λ_ _=>True) (λi s c _=>⟨trivial,?_⟩) (λs _=>?_) (s0:=s0) trivial
 ·exact h
 ·obtain⟨l,m⟩:=K1 hf f c;have t:aQ (i:Int) (iE (gD (fR (gD fs k)) b))=true:=aV c;have wi:aA (i:Int) (nE (gD (fR (gD fs k)) b))=true:=aE c;have hx:∀q:D,[D.i ((i+1:Nat):Int),.i (b:Int),.i (k:Int),.l xs,.l gs,.l ts,.l fs,q,.l (eM fs k)]=[D.i (bJ .i64 (i:Int) 1),.i (b:Int),.i (k:Int),.l xs,.l gs,.l ts,.l fs,q,.l (eM fs k)]:=λq=>nx c r [] _;refine aC (aE d) (aC j (aC t (aC (aE d) (aC j (aC wi (aC l ?_))))));cases e:D5 (eM fs k) (gD (gD (fR (gD fs k)) b).els i)with
  |true=>
   have g:unI (eM fs k) s (gD (gD (fR (gD fs k)) b).els i)=yK s (Int.toNat (vI (gD (gD (fR (gD fs k)) b).els i) 3)) false:=by unfold unI;rw[e];rfl
   have w:aA (vI (gD (gD (fR (gD fs k)) b).els i) 3) (aZ fs.length s).length=true:=by rw[fH];exact m e
   rw[g,<-KO];exact aC e (aC w (aO (hx _)))
  |false=>
   have g:unI (eM fs k) s (gD (gD (fR (gD fs k)) b).els i)=s:=by unfold unI;rw[e];rfl
   rw[g];exact aJ e (aO (hx _))
 ·exact aC (aE d) (aC j (aJ (aX _) (bH rfl)))
theorem Vr(k:Nat)(c:k<fs.length)(s0:Nat->Bool):
  fV qY 4 [.i 0,.i (k:Int),.l xs,.l gs,.l ts,.l fs,.l (aZ fs.length s0),.l (eM fs k)]
   (0,[.i (k:Int),.l xs,.l gs,.l ts,.l fs,.l (aZ fs.length (unF s0 (gD fs k)))]):=by
 have hf:=QP hM hO c;have h:=GC rB (b:=4) (λb(s:Nat->Bool)=>[.i (b:Int),.i (k:Int),.l xs,.l gs,.l ts,.l fs,.l (aZ fs.length s),.l (eM fs k)]) (fR (gD fs k)) (unB (eM fs k))
  (λs=>(0,[.i (k:Int),.l xs,.l gs,.l ts,.l fs,.l (aZ fs.length s)])) (λ_ _=>True) (λb s d _=>⟨trivial,?_⟩) (λs _=>?_) (s0:=s0) trivial
 ·exact h
 ·exact aC (aE c) (aC (show aQ (b:Int) ((fR (gD fs k)).length:Int)=true from aV d) (aP (Vq xs gs ts fs hM hO k b c d s) (bG (aO (nx d hf.tb.1.sane [] _)))))
 ·exact aC (aE c) (aJ (aX _) (bH rfl))
theorem Vs(s0:Nat->Bool):fV qY 2 [.i 0,.l xs,.l gs,.l ts,.l fs,.l (aZ fs.length s0)] (0,[.l (aZ fs.length (fs.foldl unF s0))]):=by
 have h:=GC rB (b:=2) (λk(s:Nat->Bool)=>[.i (k:Int),.l xs,.l gs,.l ts,.l fs,.l (aZ fs.length s)]) fs unF (λs=>(0,[.l (aZ fs.length s)])) (λ_ _=>True) (λk s c _=>⟨trivial,?_⟩) (λs _=>?_) (s0:=s0) trivial
 ·exact h
 ·have hf:=QP hM hO c;have d:aQ (k:Int) ((aZ fs.length s).length:Int)=true:=by rw[fH];exact aV c
  exact aC d (aC (aE c) (bK (Km (D.toS (D.fld (gD fs k) 0)) (vB (gD fs k) 1) (eX (gD fs k) 2) (vI (gD fs k) 3) (fR (gD fs k)) hf.tp hf.tb) rfl (aP (Vr xs gs ts fs hM hO k c s) (bG (aO (nx c hM.sane.hf [] _))))))
 ·exact aJ (show aQ (fs.length:Int) ((aZ fs.length s).length:Int)=false by rw[fH];exact aX _) (bH rfl)
theorem Mv:iQ E aW sites LB [.l [.l xs,.l gs,.l ts,.l fs]] (.l (aZ fs.length (E0 ts fs))) []:=by
 have t:(aZ fs.length (kB ts fs)).length=fs.length:=fH _ _;have hg:∀k,k<fs.length->gD (aZ fs.length (kB ts fs)) k=.b (kB ts fs k):=λk c=>kN _ c;have u:=Am xs gs ts fs hM hO;generalize aZ fs.length (kB ts fs)=tk at*;have h:=EP rB (b:=0) (λk(s:Nat->Bool)=>[.i (k:Int),.l xs,.l gs,.l ts,.l fs,.l (aZ fs.length s),.l tk]) fs.length (λs=>(0,[.l xs,.l gs,.l ts,.l fs,.l (aZ fs.length s)])) (λj s=>∀i,s i=if i<j then un0 ts fs i else false) (λk s c d=>⟨yK s k (un0 ts fs k),Qt c d,?_⟩) (λs _=>?_) (s0:=λ_=>false) (λi=>by rw[if_neg (by omega)])
 ·obtain⟨s,l,m⟩:=h;have e:aZ fs.length s=aZ fs.length (un0 ts fs):=mZ λi d=>by rw[l i,if_pos d]
  have f:fV qY 0 [.i 0,.l xs,.l gs,.l ts,.l fs,.l (aZ fs.length λ_=>false),.l tk] (0,[.l xs,.l gs,.l ts,.l fs,.l (aZ fs.length s)]):=m;rw[e,mY]at f;refine bA rB (by rfl) rfl ?_;show Ev _ _ (NJ _) _;unfold NJ;have C:=hM.n;refine bK u rfl (aC ?_ (aP f (bG (aP (Vs xs gs ts fs hM hO _) (bG (bI rfl rfl))))));show(cK 0 (fs.length:Int)&&(aD (fs.length:Int) (fs.length:Int)&&jP (Int.toNat (fs.length:Int)) 1))=true;rw[jK (by omega),qF];exact fG (by show fs.length<=_;omega) (by omega)
 ·have w:aA (k:Int) (aZ fs.length s).length=true:=by rw[fH];exact aE c
  have v:aQ (k:Int) ((aZ fs.length s).length:Int)=true:=by rw[fH];exact aV c
  have y:aA (k:Int) tk.length=true:=by rw[t];exact aE c
  have g:aA (k:Int) fs.length=true:=aE c;have r:((!(vB (gD fs k) 1))&&(!(D.toB (gD tk k))))=sF ts fs k:=by rw[hg k c];show((!(vB (gD fs k) 1))&&(!(kB ts fs k)))=(!(kB ts fs k)&&!(vB (gD fs k) 1));exact Bool.and_comm _ _
  refine aC v (aC g (aC (aH y) (aC (aH g) (aC w (aO ?_)))));show[D.i ((k+1:Nat):Int),.l xs,.l gs,.l ts,.l fs,.l (aZ fs.length (yK s k (un0 ts fs k))),.l tk]=[D.i (bJ .i64 (k:Int) 1),.l xs,.l gs,.l ts,.l fs,.l ((aZ fs.length s).set k (.b (((!(vB (gD fs k) 1))&&(!(D.toB (gD tk k))))&&(!(aD (vI (gD fs k) 3) 0))))),.l tk];rw[r,KO];exact nx c hM.sane.hf [] _
 ·exact aJ (show aQ (fs.length:Int) ((aZ fs.length s).length:Int)=false by rw[fH];exact aX _) (bH rfl)
end
end Go.Eng.Q

namespace Go.Eng.Q
open Go.Eng
theorem T5(a:LD):nU a a=true:=by unfold nU;rw[qF,Bool.true_and,bQ.2 λi c=>by rw[qF];rfl];rfl
theorem Ze(R:LD)(f:cE R)(h:∀j,j<R.length->cE (gD R j).els):iQ E aW sites Bz [.l R,.l R] (.b true) []:=by
 have e:fV US 0 [.l R,.l R,.i 0] (1,[]):=by
  refine cI UT (λj=>[.l R,.l R,.i (j:Int)]) R.length (λj c=>?_) ?_
  ·have d:=UN (gD R j).els (gD R j).els (h j c);rw[T5]at d;exact aC (aV c) (aC (aE c) (aC (aE c) (bK d rfl (aJ rfl (aO (nx c f [_,_] _))))))
  ·exact aJ (aX _) (bH rfl)
 refine bA UT (by rfl) rfl ?_;exact aJ (by show(!(aD (R.length:Int) (R.length:Int)))=false;rw[qF];rfl) (aP e (eO (bG (bI rfl rfl))))
theorem Ns(n:Nat)(f:Nat->Bool)(l:n<=100000):iQ E aW sites N2 [.l (aZ n f),.l (aZ n f)] (.b true) []:=by
 have d:(aZ n f).length=n:=fH _ _;have g:fV XO 0 [.l (aZ n f),.l (aZ n f),.i 0] (1,[]):=by
  refine cI Uq (λj=>[.l (aZ n f),.l (aZ n f),.i (j:Int)]) n (λj c=>?_) ?_
  ·have h:aQ (j:Int) ((aZ n f).length:Int)=true:=by rw[d];exact aV c
   have e:aA (j:Int) (aZ n f).length=true:=by rw[d];exact aE c
   refine aC h (aC e (aC e (aJ ?_ (aO (nx c (by omega) [_,_] _)))));show(!(bif D.toB (gD (aZ n f) j)then D.toB (gD (aZ n f) j)else !(D.toB (gD (aZ n f) j))))=false;cases D.toB (gD (aZ n f) j)<;>rfl
  ·exact aJ (show aQ (n:Int) ((aZ n f).length:Int)=false by rw[d];exact aX _) (bH rfl)
 refine bA Uq (by rfl) rfl ?_;exact aJ (by show(!(aD ((aZ n f).length:Int) ((aZ n f).length:Int)))=false;rw[qF];rfl) (aP g (eO (bG (bI rfl rfl))))
section
variable(xs gs ts fs:LD)(hM:RX xs gs ts fs)
include hM
theorem Nt(h:Me xs gs ts fs≠0):iQ E aW sites EY [.l [.l xs,.l gs,.l ts,.l fs]] (.l []) []:=by refine bA BN (by rfl) rfl ?_;exact bK (NV xs gs ts fs hM) rfl (aC (by show(!(aD (Me xs gs ts fs) 0))=true;rw[gR h];rfl) (bI rfl rfl))
theorem Gs(h:Me xs gs ts fs≠0):iQ E aW sites yU [.l [.l xs,.l gs,.l ts,.l fs]] (.l []) []:=by refine bA mR (by rfl) rfl ?_;exact bK (NV xs gs ts fs hM) rfl (aC (by show(!(aD (Me xs gs ts fs) 0))=true;rw[gR h];rfl) (bI rfl rfl))
end
theorem aFU(xs gs ts fs:LD)(m:SzM fs):iQ E aW sites TN [.l [.l xs,.l gs,.l ts,.l fs]] (.b true) []:=by
 obtain⟨t,f,g⟩:=Nv xs gs ts fs m;refine bA GT (by rfl) rfl ?_;refine bK E1 rfl (aJ rfl (bK f rfl ?_));cases t with
 |false=>exact aC rfl (bK E1 rfl (bI rfl rfl))
 |true=>
  have hM:=g rfl;refine aJ rfl (bK (C0 xs gs ts fs hM) rfl ?_);by_cases d:Me xs gs ts fs=0
  ·have c:=aCV d;have v:=hM.n;have h:∀j,j<(aK fs.length (CB ts fs)).length->cE (gD (aK fs.length (CB ts fs)) j).els:=λj e=>by
    rw[dA]at e;have hf:=QP hM c e;have r:=hf.n;have s:=ON (eX (gD fs j) 2).length (fR (gD fs j)) (fR (gD fs j)).length;have u:=aAh (eM fs j) (eX (gD fs j) 2).length;rw[eB _ e];unfold CB;cases sF ts fs j with
    |true=>unfold cE;show((Vn (eM fs j) (eX (gD fs j) 2).length).length:Int)<=_;omega
    |false=>unfold cE;show((0:Nat):Int)<=_;omega
   have l:cE (aK fs.length (CB ts fs)):=by unfold cE;rw[dA];omega
   refine aJ (by show(!(aD (Me xs gs ts fs) 0))=false;rw[d];rfl) ?_;exact bK (Vo xs gs ts fs hM c) rfl (bK (D4 xs gs ts fs hM c) rfl (bK (Ze _ l h) rfl (aC rfl (bK (Ks xs gs ts fs hM c) rfl (aC rfl (bK (Mv xs gs ts fs hM c) rfl (aC rfl (bK (Ns _ _ (by omega)) rfl (bI rfl rfl)))))))))
  ·refine aC (by show(!(aD (Me xs gs ts fs) 0))=true;rw[gR d];rfl) ?_;exact bK (Nt xs gs ts fs hM d) rfl (aC rfl (bK (Gs xs gs ts fs hM d) rfl (bI rfl rfl)))
end Go.Eng.Q

namespace Go.Eng.Q
open Go.Eng Go.Proofs
open Go.Shelf Go.RowKit Go.Lib Go.Sort
def Tryz.sortL_ren:Go.Shelf.Ren:=⟨λ|6=>89 |15=>98 |14=>97 |28=>109 |29=>110 |20=>101 |21=>102 |22=>103 |23=>104 |24=>105 |25=>106 |26=>107 |27=>108 |46=>111 |47=>112 |48=>113 |49=>114 |50=>115 |57=>116 |n=>n,λ|22=>119 |24=>118 |25=>123 |3=>3 |39=>132 |0=>0 |53=>144 |55=>146 |4=>4 |46=>138 |45=>137 |50=>89 |5=>5 |9=>9 |66=>147 |70=>151 |76=>153 |77=>154 |n=>n,λ|n=>n⟩
theorem Tryz.sortL:Go.Proofs.SlLaysF0.n6 Tryz.prog Tryz.sortL_ren:={
 mixed:=by kernel_rfl,
 f6:=⟨Tryz.f89.name,by decide,Tryz.func89.trans (congrArg some (by kernel_rfl))⟩,
 f14:=⟨Tryz.f97.name,by decide,Tryz.func97.trans (congrArg some (by kernel_rfl))⟩,
 f15:=Tryz.func98.trans (congrArg some (by kernel_rfl)),
 f20:=⟨Tryz.f101.name,by decide,Tryz.func101.trans (congrArg some (by kernel_rfl))⟩,
 f21:=⟨Tryz.f102.name,by decide,Tryz.func102.trans (congrArg some (by kernel_rfl))⟩,
 f22:=⟨Tryz.f103.name,by decide,Tryz.func103.trans (congrArg some (by kernel_rfl))⟩,
 f23:=⟨Tryz.f104.name,by decide,Tryz.func104.trans (congrArg some (by kernel_rfl))⟩,
 f24:=⟨Tryz.f105.name,by decide,Tryz.func105.trans (congrArg some (by kernel_rfl))⟩,
 f25:=⟨Tryz.f106.name,by decide,Tryz.func106.trans (congrArg some (by kernel_rfl))⟩,
 f26:=⟨Tryz.f107.name,by decide,Tryz.func107.trans (congrArg some (by kernel_rfl))⟩,
 f27:=⟨Tryz.f108.name,by decide,Tryz.func108.trans (congrArg some (by kernel_rfl))⟩,
 f28:=Tryz.func109.trans (congrArg some (by kernel_rfl)),
 f29:=Tryz.func110.trans (congrArg some (by kernel_rfl)),
 f46:=⟨Tryz.f111.name,by decide,Tryz.func111.trans (congrArg some (by kernel_rfl))⟩,
 f47:=Tryz.func112.trans (congrArg some (by kernel_rfl)),
 f48:=Tryz.func113.trans (congrArg some (by kernel_rfl)),
 f49:=⟨Tryz.f114.name,by decide,Tryz.func114.trans (congrArg some (by kernel_rfl))⟩,
 f50:=⟨Tryz.f115.name,by decide,Tryz.func115.trans (congrArg some (by kernel_rfl))⟩,
 f57:=⟨Tryz.f116.name,by decide,Tryz.func116.trans (congrArg some (by kernel_rfl))⟩,
 t0:=Tryz.underlying0,
 a0:=Tryz.isAgg0,
 z0:=Tryz.sizeOf0,
 v0:=Tryz.zeroValue0,
 t3:=Tryz.underlying3,
 a3:=Tryz.isAgg3,
 z3:=Tryz.sizeOf3,
 v3:=Tryz.zeroValue3,
 t4:=Tryz.underlying4,
 a4:=Tryz.isAgg4,
 z4:=Tryz.sizeOf4,
 v4:=Tryz.zeroValue4,
 t5:=Tryz.underlying5,
 a5:=Tryz.isAgg5,
 z5:=Tryz.sizeOf5,
 v5:=Tryz.zeroValue5,
 t9:=Tryz.underlying9,
 a9:=Tryz.isAgg9,
 z9:=Tryz.sizeOf9,
 v9:=Tryz.zeroValue9,
 t22:=Tryz.underlying119,
 a22:=Tryz.isAgg119,
 z22:=Tryz.sizeOf119,
 v22:=Tryz.zeroValue119,
 t25:=Tryz.underlying123,
 a25:=Tryz.isAgg123,
 z25:=Tryz.sizeOf123,
 v25:=Tryz.zeroValue123,
 t39:=Tryz.underlying132,
 a39:=Tryz.isAgg132,
 z39:=Tryz.sizeOf132,
 v39:=Tryz.zeroValue132,
 t45:=Tryz.underlying137,
 a45:=Tryz.isAgg137,
 z45:=Tryz.sizeOf137,
 v45:=Tryz.zeroValue137,
 t46:=Tryz.underlying138,
 a46:=Tryz.isAgg138,
 z46:=Tryz.sizeOf138,
 v46:=Tryz.zeroValue138,
 t50:=Tryz.underlying89,
 a50:=Tryz.isAgg89,
 z50:=Tryz.sizeOf89,
 v50:=Tryz.zeroValue89,
 t53:=Tryz.underlying144,
 a53:=Tryz.isAgg144,
 z53:=Tryz.sizeOf144,
 v53:=Tryz.zeroValue144,
 t55:=Tryz.underlying146,
 a55:=Tryz.isAgg146,
 z55:=Tryz.sizeOf146,
 v55:=Tryz.zeroValue146,
 t66:=Tryz.underlying147,
 a66:=Tryz.isAgg147,
 z66:=Tryz.sizeOf147,
 v66:=Tryz.zeroValue147,
 t70:=Tryz.underlying151,
 a70:=Tryz.isAgg151,
 z70:=Tryz.sizeOf151,
 v70:=Tryz.zeroValue151,
 t76:=Tryz.underlying153,
 a76:=Tryz.isAgg153,
 z76:=Tryz.sizeOf153,
 v76:=Tryz.zeroValue153,
 t77:=Tryz.underlying154,
 a77:=Tryz.isAgg154,
 z77:=Tryz.sizeOf154,
 v77:=Tryz.zeroValue154}
def cfZ(a b c d:Int):Int:=if a≠c then a-c else b-d
set_option maxHeartbeats 2000000 in
theorem lesser_z(a b c d:Int)(j:0<=a/\a<1000000000)(l:0<=b/\b<1000000000)(m:0<=c/\c<1000000000)(hd:0<=d/\d<1000000000)(f:World):
  Calls Tryz.prog 90 #[.agg #[.int .i64 a,.int .i64 b],.agg #[.int .i64 c,.int .i64 d]] f λe w'=>e=.returned (.int .i64 (cfZ a b c d))/\∃q g,w'=grow (f.drewN q) g:=by
 have r:IntKind.i64.wrap (a-c)=a-c:=by simp[IntKind.wrap,IntKind.bits,IntKind.signed];omega
 have s:IntKind.i64.wrap (b-d)=b-d:=by simp[IntKind.wrap,IntKind.bits,IntKind.signed];omega
 go_enter Tryz.func90,Tryz.ntmps90
 go_wp2
 all_goals go_ret
 ·rename_i h;have h:a≠c:=by simpa using h
  refine⟨?_,0,_,by rw[alloc_eq_grow,alloc_eq_grow,grow_grow];rfl⟩;unfold cfZ;rw[if_pos h];rfl
 ·rename_i h;have h:¬(a≠c):=by simpa using h
  refine⟨?_,0,_,by rw[alloc_eq_grow,alloc_eq_grow,grow_grow];rfl⟩;unfold cfZ;rw[if_neg h];rfl
def Fp(x:SP):List Value:=[.int .i64 x.1.val,.int .i64 x.2.val]
def cfS(x c:SP):Int:=cfZ x.1.val x.2.val c.1.val c.2.val
theorem Mw(x c:SP):Go.Proofs.ltOf cfS x c=tN x c:=by rw[Bool.eq_iff_iff,IE];unfold Go.Proofs.ltOf cfS cfZ;rw[decide_eq_true_eq];split<;>omega
theorem E2(d off size:Nat)(w:World):CmpLays Tryz.prog 90 #[] Fp 2 cfS d off size w:=λ_ _ _ _ x c=>
 lesser_z x.1.val x.2.val c.1.val c.2.val (by omega) (by omega) (by omega) (by omega) _
theorem aHR:SWO (Go.Proofs.ltOf cfS) where
 irrefl x:=by rw[Mw];exact EV x
 trans x y z h1 h2:=by rw[Mw]at*;exact KW h1 h2
 ntrans x y z h1 h2:=by
  rw[Mw]at*;rcases OT.1 h1 with e |e
  ·subst e;exact h2
  ·rcases OT.1 h2 with c |c
   ·subst c;exact h1
   ·exact OT.2 (.inr (KW c e))
theorem aHS(x c:SP)(f:Go.Proofs.ltOf cfS x c=false)(d:Go.Proofs.ltOf cfS c x=false):x=c:=by
 rw[Mw]at*;rcases OT.1 f with e |e
 ·exact e.symm
 ·rw[e]at d;cases d
theorem T7(c off h:Nat)(l:List SP)(w:World)(m:HoldsK Fp 2 w c off l.toArray)(r:c<w.heap.size)(s:l.length<4611686018427387904):
  Calls Tryz.prog 89 #[.slice (some ⟨c,off,none⟩) l.length h,.func (.func 90) #[] #[]] w λe w'=>e=.returned (.tuple #[])/\∃n os,w'=sortWorldK Fp 2 w c off n (l.mergeSort λx d=>!tN d x).toArray os:=by
 have j:∀g w,(callFunc 90 g).run Tryz.prog w=.ok (.enter 90 g) w:=enters_of Tryz.func90 (by kernel_rfl) rfl;have f:=AnyQ.slices_SortFunc_total Tryz.sortL 2 Tryz.isAgg118 Tryz.sizeOf118 Fp (λ_=>rfl) (λx v hv=>by simp[Fp]at hv;rcases hv with rfl |rfl<;>rfl) cfS aHR 90 #[] c off h l.toArray w j (E2 c off _ w) m r (by simpa using s) aHS;have e:(λx d:SP=>!(Go.Proofs.ltOf cfS) d x)=λx d=>!tN d x:=by funext x d;rw[Mw]
 rw[e]at f;change Calls Tryz.prog 89 _ _ _ at f;simpa using f
theorem aA5(p:Option Addr)(c:Nat)(w:World):Calls Tryz.prog 89 #[.slice p 0 c,.func (.func 90) #[] #[]] w λe w'=>e=.returned (.tuple #[])/\w'=w:=
 AnyF.slices_SortFunc_none Tryz.sortL p c _ w
end Go.Eng.Q

namespace Go.Eng.Q
open Go.Eng Go.Proofs
open Go.RowKit Go.Lib Go.Sort
theorem aDg{x:D}{p:SP}(h:q7 x=some p):x=eS p:=by
 unfold q7 at h;split at h
 ·rename_i a b;obtain⟨u,c,f⟩:=Option.bind_eq_some_iff.1 h;obtain⟨v,d,e⟩:=Option.bind_eq_some_iff.1 f;injection e with e;subst e;unfold VL at c d;split at c
  ·rename_i e1;split at d
   ·rename_i l;injection c with c;injection d with d;subst c;subst d;unfold eS;have g:((a.toNat:Nat):Int)=a:=by omega
    have j:((b.toNat:Nat):Int)=b:=by omega
    show D.l [.i a,.i b]=D.l [.i ((a.toNat:Nat):Int),.i ((b.toNat:Nat):Int)];rw[g,j]
   ·simp at d
  ·simp at c
 ·simp at h
theorem Qv:∀{data:LD}{l:List SP},Cm data=some l->data=l.map eS
 |[],l,h=>by have h:some []=some l:=h;injection h with h;subst h;rfl
 |x::data,l,h=>by have h:((q7 x).bind λx=>(Cm data).bind λl=>some (x::l))=some l:=h;obtain⟨p,d,e⟩:=Option.bind_eq_some_iff.1 h;obtain⟨g,f,c⟩:=Option.bind_eq_some_iff.1 e;injection c with c;subst c;rw[aDg d,Qv f];rfl
theorem aED(s:List SP):s.mergeSort (λx c=>!tN c x)=qO s:=by
 unfold qO;split
 ·simp
 ·simp
 ·rfl
theorem aEE:TD Tryz.prog E:=λs e el f a0 F ctx d2 data q x C g1 w G st sl r a c6 c7 e7 c9 e0 c8=>by
 have e6:E.sg.look E.srt=some ⟨89,[(119,.sio [.sl true 118 y2]),(123,.fnv 90)],[]⟩:=by kernel_rfl
 rw[e6]at a0;injection a0 with a0;subst a0;have e5:mF [(119,PM.sio [.sl true 118 y2]),(123,.fnv 90)]=some (118,y2,90):=by kernel_rfl
 have F:mF [(119,PM.sio [.sl true 118 y2]),(123,.fnv 90)]=some (e,el,f):=F;rw[e5]at F;injection F with F;injection F with f6 b0;injection b0 with b0 f7;subst f6;subst b0;subst f7;rw[d2]at C;have C:(bif Nat.ble data.length 1000000000 then(Cm data).bind λl=>some (D.l [],[D.l (Wn data l)])else none)=some (q,[x]):=C;cases K:Nat.ble data.length 1000000000 with
 |false=>rw[K]at C;simp at C
 |true=>
 rw[K,cond_true]at C;have K:=Nat.le_of_ble_eq_true K;obtain⟨l,c4,U⟩:=Option.bind_eq_some_iff.1 C;injection U with U;injection U with U V;injection V with V;have d3:=Qv c4;subst d3;rw[k9]at V;subst V;obtain⟨_,_,_,b6⟩:=c6.arrs r a c7;rw[e7,c9,e0,c8]at b6;obtain⟨ad,n,c,hv,a6,b4,b3,b5,b7⟩:=b6;rw[List.length_map]at a6;show Calls Tryz.prog 89 ⟨[G.H r [],.func (.func 90) #[] #[]]⟩ w _;rw[hv];by_cases c3:n=0
 ·subst c3;have e4:l=[]:=List.eq_nil_of_length_eq_zero a6;subst e4;refine(aA5 ad c w).mono λc2 w'⟨a4,g⟩=>?_;subst g;refine⟨a4,rfl,rfl,rfl,Nat.le_refl _,λ_ _ _=>rfl,ad,0,c,rfl,rfl,b4,b3,b5,λb1 J=>?_⟩;obtain⟨Q,H,cs,P,y,T,a1⟩:=b7 b1 J;exact⟨Q,H,cs,P,y,T,λi u=>absurd u (by omega)⟩
 ·cases ad with
  |none=>have:=b5 rfl;omega
  |some A=>
   obtain⟨Q,H,cs,P,y,T,a1⟩:=b7 A rfl;obtain⟨d,off,g2⟩:=A;simp only at Q H y T a1;subst Q;have a3:d<w.heap.size:=by
    rcases Nat.lt_or_ge d w.heap.size with h |h
    ·exact h
    ·rw[Array.getElem?_eq_none h]at y;cases y
   have e1:∀j,w.frozen? ⟨d,j,none⟩=false:=λj=>by unfold World.frozen?;simp only[y];simp
   have hg:∀i,i<l.length->l.toArray[i]! =gP l i:=λi u=>by simp[gP,u]
   have b2:HoldsK Fp 2 w d off l.toArray:=λj Y=>by
    rw[size_flatK]at Y;have Y:j<l.length*2:=by simpa using Y
    refine⟨?_,e1 _⟩;rw[get_flatK _ _ _ _ (by simpa using Y),hg _ (by omega)];have u:j/2<n:=by omega
    have W:∀t,t<2->w.cell? ⟨d,off+(j/2)*2+t,none⟩=some ((Fp (gP l (j/2)))[t]!):=λt ht=>by
     have f2:y2.length=2:=rfl;have a9:y2[t]?=some (.int .i64):=by rcases(show t=0\/t=1 by omega)with e |e<;>subst e<;>rfl
     obtain⟨v,c0,c1⟩:=BS (a1 (j/2) u) t (.int .i64) a9;have a5:(l.map eS).getD (j/2) (.i 0)=eS (gP l (j/2)):=by simp[List.getD,gP,show j/2<l.length by omega]
     rw[a5,Nat.zero_add]at c1;rw[Nat.zero_add,f2]at c0;rw[c0];have f5:v=.int .i64 (lf 2 (eS (gP l (j/2))) t).toI:=c1.1;rw[f5];rcases(show t=0\/t=1 by omega)with e |e<;>subst e<;>rfl
    have:=W (j%2) (by omega);rw[show off+j/2*2+j%2=off+j by omega]at this;exact this
   have f8:n<=maxLen:=by omega
   have d1:l.length<4611686018427387904:=by rw[List.length_map]at K;omega
   subst a6;refine(T7 d off c l w b2 a3 d1).mono λc2 w'⟨a4,m,os,g⟩=>?_;rw[aED]at g;have f0:(qO l).toArray.size=l.toArray.size:=by simp[BE]
   have c5:HoldsK Fp 2 w' d off (qO l).toArray:=by rw[g];exact holdsK_sortWorldK_c Fp 2 w d off l.toArray (qO l).toArray m os b2 a3 f0
   have e3:∀b,b<w.heap.size->b≠d->w'.heap[b]?=w.heap[b]?:=λb a2 a7=>by rw[g];unfold sortWorldK putRowK putRow mapBlock;rw[heap_grow_old _ _ (by simpa[Sort.ahead]using a2)];simp[Array.getElem?_modify,Sort.ahead,Ne.symm a7]
   have d0:∃L,L.size=cs.size/\w'.heap[d]?=some (.cells L P (0,0)):=by rw[g];unfold sortWorldK putRowK putRow mapBlock;rw[heap_grow_old _ _ (by simpa[Sort.ahead]using a3)];refine⟨putCells id off (flatK Fp 2 (qO l).toArray) cs,by simp[putCells],?_⟩;simp[Array.getElem?_modify,Sort.ahead,y,onCells]
   obtain⟨L,f3,f4⟩:=d0;refine⟨a4,by rw[g];rfl,by rw[g];rfl,by rw[g];rfl,?_,λb a2 a7=>e3 b a2 (λe=>a7 (by rw[e];exact H)),some ⟨d,off,none⟩,l.length,c,rfl,by show((qO l).map eS).length=_;rw[List.length_map,BE],b4,b3,(λh=>by cases h),λb1 J=>?_⟩
   ·rw[g];exact size_sortWorldK_c Fp 2 w d off m _ os
   ·injection J with J;subst J;refine⟨rfl,H,L,P,f4,by rw[f3];exact T,λi u=>?_⟩;refine JA y2 0 λt ty ht=>?_;have a9:t<2:=(List.getElem?_eq_some_iff.1 ht).1;have f1:ty=.int .i64:=by
     rcases(show t=0\/t=1 by omega)with e |e<;>subst e<;>(injection ht with ht;exact ht.symm)
    subst f1;have W:=(HoldsK.cell c5 (i:=i) (c:=t) (by simpa[BE]using u) a9).1;have e2:(qO l).toArray[i]! =gP (qO l) i:=by simp[gP,BE,u]
    rw[e2]at W;have a5:((qO l).map eS).getD i (.i 0)=eS (gP (qO l) i):=by simp[List.getD,gP,BE,u]
    refine⟨(Fp (gP (qO l) i))[t]!,?_,?_⟩
    ·rw[Nat.zero_add];exact W
    ·show Wo w' G [] r (.int .i64) _ _ (lf 2 (((qO l).map eS).getD i (.i 0)) (0+t));rw[a5,Nat.zero_add];have f9:(gP (qO l) i).1.val <1000000000:=(gP (qO l) i).1.isLt;have g0:(gP (qO l) i).2.val <1000000000:=(gP (qO l) i).2.isLt;rcases(show t=0\/t=1 by omega)with e |e<;>subst e
     ·refine⟨rfl,?_,?_⟩
      ·show(-9223372036854775808:Int)<=((gP (qO l) i).1.val :Int);omega
      ·show((gP (qO l) i).1.val :Int)<=9223372036854775807;omega
     ·refine⟨rfl,?_,?_⟩
      ·show(-9223372036854775808:Int)<=((gP (qO l) i).2.val :Int);omega
      ·show((gP (qO l) i).2.val :Int)<=9223372036854775807;omega
end Go.Eng.Q

namespace Go.Eng.Q
open Go.Eng Go.Proofs Go.Proofs.YtnajbpjhadmkpaaGreat
mutual
def SzL(n:Nat):LT->D->Prop
 |.sl _ _ el,x=>x.els.length<=n/\∀i,i<x.els.length->SzC n el el.length (x.els.getD i (.i 0)) 0
 |.int _,_=>True
 |.bool,_=>True
 |.str,_=>True
def SzC(n:Nat):List LT->Nat->D->Nat->Prop
 |[],_,_,_=>True
 |t::ts,k,x,j=>SzL n t (lf k x j)/\SzC n ts k x (j+1)
end
theorem aDi{n k:Nat}{x:D}:∀(ts:List LT)(c:Nat),(∀(j:Nat)(t:LT),ts[j]?=some t->SzL n t (lf k x (c+j)))->SzC n ts k x c
 |[],_,_=>trivial
 |t::ts,c,h=>⟨h 0 t rfl,aDi ts (c+1) λj u d=>by have:=h (j+1) u (by simpa using d);rwa [show c+(j+1)=c+1+j by omega]at this⟩
mutual
def shT(P:Program):Nat->TypeId->Option (List LT)
 |0,_=>none
 |n+1,t=>match P.underlying t with
  |some .bool=>some [.bool]
  |some (.int .i64)=>some [.int .i64]
  |some .string=>some [.str]
  |some (.slice e)=>(shT P n e).bind λel=>bif Nat.beq (P.cellsOf e) el.length&&Nat.ble 1 el.length then some [.sl false e el]else none
  |some (.struct fs)=>(aA6 P n fs.toList 0).bind λlv=>bif Nat.beq (P.cellsOf t) lv.length then some lv else none
  |_=>none
def aA6(P:Program):Nat->List Field->Nat->Option (List LT)
 |0,_,_=>none
 |n+1,[],_=>some []
 |n+1,f::fs,o=>bif Nat.beq f.offset o then(shT P n f.type).bind λl=>bif Nat.beq (P.cellsOf f.type) l.length then(aA6 P n fs (o+l.length)).map (l++·)else none else none
end
theorem aHT{n:Int}(h:(Lit.int .i64 n).wf=true):UU .i64<=n/\n<=UV .i64:=by simp only[Lit.wf,Bool.and_eq_true,decide_eq_true_eq]at h;exact h
theorem aFV{H:Type}(d:DataW H):1<=Rows.uptoBulk d:=by
 cases d with
 |lit l=>cases l<;>simp[Rows.uptoBulk]
 |nil=>simp[Rows.uptoBulk]
 |ptr d=>simp[Rows.uptoBulk]
 |slice c f=>simp[Rows.uptoBulk]
 |agg parts=>simp[Rows.uptoBulk]
 |iface t d=>simp[Rows.uptoBulk]
 |map e=>simp[Rows.uptoBulk]
 |held h=>simp[Rows.uptoBulk]
theorem o9{H:Type}{d:DataW H}{l:List (DataW H)}(h:d∈l):Rows.uptoBulk d<=Rows.uptoBulkAll l:=by
 induction l with
 |nil=>cases h
 |cons x r c=>
  simp only[Rows.uptoBulkAll];cases List.mem_cons.1 h with
  |inl e=>subst e;omega
  |inr e=>have:=c e;omega
theorem length_le{H:Type}(l:List (DataW H)):l.length<=Rows.uptoBulkAll l:=by
 induction l with
 |nil=>simp[Rows.uptoBulkAll]
 |cons x r c=>have:=aFV x;simp only[Rows.uptoBulkAll,List.length_cons];omega
section
variable{H:Type}{enc:TypeId×Value->H}{P:Program}{w:World}
def MJ(w:World)(n:Nat)(lv:List LT)(cs:List Value)(o:Nat)(ys:LD):Prop:=
 ys.length=lv.length/\∀(j:Nat)(t:LT),lv[j]?=some t->∃u,cs[o+j]?=some u/\vD w (vG (Gh.top w) []) t u (ys.getD j (.i 0))/\SzL n t (ys.getD j (.i 0))
theorem aFW{b:Nat}(h:b<w.heap.size):vG (Gh.top w) [] b:=.inl (by simp[Gh.top,h])
theorem E3{n:Nat}{t:LT}{u:Value}{d:D}(e:vD w (vG (Gh.top w) []) t u d)(f:SzL n t d):MJ w n [t] [u] 0 [d]:=
 ⟨rfl,λj g c=>by
  cases j with
  |zero=>injection c with c;subst c;exact⟨u,rfl,e,f⟩
  |succ j=>simp at c⟩
variable{N:Nat}
theorem p7:∀(a0 n:Nat)(t:TypeId)(cs:List Value)(x:DataW H×List MemPlace)(lv:List LT),DataW.trod enc P w 0 (λ_=>true) true a0 t cs=some x->shT P n t=some lv->Rows.uptoBulk x.1<=N->cs.length=lv.length/\∃ys,MJ w N lv cs 0 ys
 |0,_,_,_,_,_,h,_,_=>by simp[DataW.trod]at h
 |a0+1,0,_,_,_,_,_,h,_=>by simp[shT]at h
 |a0+1,n+1,t,cs,x,lv,h,y,a4=>by
  have c7:=p7 a0;have e5:∀(m:Nat)(fs:List Field)(o:Nat)(xs:List (DataW H×List MemPlace))(lv:List LT),(fs.mapM λf=>DataW.trod enc P w 0 (λ_=>true) true a0 f.type ((cs.drop f.offset).take (P.cellsOf f.type)))=some xs->aA6 P m fs o=some lv->(∀K∈xs,Rows.uptoBulk K.1<=N)->∃ys,MJ w N lv cs o ys:=by
   intro m;induction m with
   |zero=>intro fs o xs lv _ c _;simp[aA6]at c
   |succ m f4=>
    intro fs o xs lv Q c W;cases fs with
    |nil=>simp only[aA6,Option.some.injEq]at c;subst c;exact⟨[],rfl,λj t v=>by simp at v⟩
    |cons f fs=>
     simp only[aA6]at c;cases e1:Nat.beq f.offset o with
     |false=>rw[e1]at c;simp at c
     |true=>
      rw[e1]at c;simp only[cond_true]at c;obtain⟨l,e3,a1⟩:=Option.bind_eq_some_iff.1 c;cases a3:Nat.beq (P.cellsOf f.type) l.length with
      |false=>rw[a3]at a1;simp at a1
      |true=>
       rw[a3]at a1;simp only[cond_true,Option.map_eq_some_iff]at a1;obtain⟨r,e4,rfl⟩:=a1;have e1:=Nat.eq_of_beq_eq_true e1;have a3:=Nat.eq_of_beq_eq_true a3;rw[List.mapM_cons]at Q;simp only[Option.bind_eq_bind,Option.bind_eq_some_iff,Option.pure_def,Option.some.injEq]at Q;obtain⟨K,L,rs,V,rfl⟩:=Q;obtain⟨d2,ys,a6,c4⟩:=c7 m f.type _ K l L e3 (W K (by simp));obtain⟨a9,a7,c5⟩:=f4 fs (o+l.length) rs r V e4 λK c3=>W K (by simp[c3]);refine⟨ys++a9,by simp[a6,a7],λj t v=>?_⟩;by_cases T:j<l.length
       ·rw[List.getElem?_append_left T]at v;obtain⟨u,U,Y⟩:=c4 j t v;refine⟨u,?_,?_⟩
        ·rw[List.getElem?_take]at U;split at U
         ·rw[List.getElem?_drop]at U;rw[<-U,e1];congr 1;omega
         ·simp at U
        ·have:(ys++a9).getD j (.i 0)=ys.getD j (.i 0):=by simp[List.getD,List.getElem?_append_left (show j<ys.length by omega)]
         rw[this];exact Y
       ·rw[List.getElem?_append_right (by omega)]at v;obtain⟨u,U,Y⟩:=c5 (j-l.length) t v;refine⟨u,?_,?_⟩
        ·rw[<-U];congr 1;omega
        ·have:(ys++a9).getD j (.i 0)=a9.getD (j-l.length) (.i 0):=by simp[List.getD,List.getElem?_append_right (show ys.length<=j by omega),a6]
         rw[this];exact Y
  simp only[shT]at y;split at y
  ·rename_i J;injection y with y;subst y;unfold DataW.trod at h;rw[J]at h;split at h<;>simp_all;exact⟨[.b _],E3 rfl trivial⟩
  ·rename_i J;injection y with y;subst y;unfold DataW.trod at h;rw[J]at h;split at h<;>simp_all;cases‹IntKind.i64=_›;obtain⟨⟨rfl,c2⟩,rfl⟩:=h;exact⟨[.i _],E3 ⟨rfl,aHT c2⟩ trivial⟩
  ·rename_i J;injection y with y;subst y;unfold DataW.trod at h;rw[J]at h;split at h<;>simp_all;obtain⟨c2,rfl⟩:=h;rename_i e0;exact⟨[.s e0.data.toList],E3 ⟨rfl,by show e0.data.toList.length<=_;rw[Array.length_toList];exact c2⟩ trivial⟩
  ·rename_i e J;obtain⟨el,Q,c⟩:=Option.bind_eq_some_iff.1 y;cases G:(Nat.beq (P.cellsOf e) el.length&&Nat.ble 1 el.length)with
   |false=>rw[G]at c;simp at c
   |true=>
    rw[G]at c;injection c with c;subst c;rw[Bool.and_eq_true]at G;have c8:=Nat.eq_of_beq_eq_true G.1;have f5:=Nat.le_of_ble_eq_true G.2;rcases DataW.trod_slice J h with⟨rfl,rfl⟩ |⟨a,s,e2,C,g1,f6,b7,rfl,hx,f7,d2,f0,c0,d1,g0,f9⟩
    ·refine⟨rfl,[.l []],E3 Hp ⟨Nat.zero_le _,λi g=>absurd g (Nat.not_lt_zero _)⟩⟩
    ·injection b7 with b7;subst b7;have f8:Rows.uptoBulkAll (C.map (·.1))+1<=N:=by
      rw[hx]at a4;simp only[Rows.uptoBulk]at a4;omega
     have e7:s<=N:=by have:=length_le (C.map (·.1));rw[List.length_map,c0]at this;omega
     have f3:0<s->a.spot=none:=λc9=>by
      have hg:=d1 0 c9;have b4:C[0]?=some C[0]:=by simp[c0,c9]
      rw[b4]at hg;obtain⟨a2,L,V⟩:=Option.bind_eq_some_iff.1 hg;obtain⟨_,Y,c6⟩:=World.cells?_some L;have F:=c6 0 (by omega);have b3:a2[0]?=some a2[0]:=by simp[Y]
      rw[b3]at F;have:=World.cell?_spot F;simpa[Addr.add]using this
     have b5:∀i,i<s->∃ys:LD,ys.length=el.length/\∀(j:Nat)(t:LT),el[j]?=some t->a.spot=none/\∃u,w.cell? ⟨a.block,a.off+i*el.length+j,none⟩=some u/\vD w (vG (Gh.top w) []) t u (ys.getD j (.i 0))/\SzL N t (ys.getD j (.i 0)):=λi g=>by
      have hg:=d1 i g;have b4:C[i]?=some C[i]:=by simp[c0,g]
      rw[b4]at hg;obtain⟨a2,L,V⟩:=Option.bind_eq_some_iff.1 hg;have f1:Rows.uptoBulk (C[i]).1 <=N:=by have:=o9 (d:=(C[i]).1) (l:=C.map (·.1)) (List.mem_map.2 ⟨C[i],List.getElem_mem _,rfl⟩);omega
      obtain⟨b3,ys,a6,c4⟩:=c7 n e a2 C[i] el V Q f1;obtain⟨_,Y,c6⟩:=World.cells?_some L;refine⟨ys,a6,λj t v=>?_⟩;obtain⟨u,a7,c5⟩:=c4 j t v;have T:j<P.cellsOf e:=by have:=(List.getElem?_eq_some_iff.1 v).1;omega
      have F:=c6 j T;rw[Nat.zero_add]at a7;rw[a7]at F;have c1:a.spot=none:=f3 (by omega);refine⟨c1,u,?_,c5⟩;obtain⟨b,off,g2⟩:=a;simp only at c1;subst c1;rw[Go.WideShapes.add_plain,Go.WideShapes.add_plain,c8]at F;exact F
     let f:Nat->LD:=λi=>if g:i<s then Classical.choose (b5 i g)else[]
     have hf:∀i,i<s->(f i).length=el.length/\∀(j:Nat)(t:LT),el[j]?=some t->a.spot=none/\∃u,w.cell? ⟨a.block,a.off+i*el.length+j,none⟩=some u/\vD w (vG (Gh.top w) []) t u ((f i).getD j (.i 0))/\SzL N t ((f i).getD j (.i 0)):=λi g=>by have:f i=Classical.choose (b5 i g):=dif_pos g;rw[this];exact Classical.choose_spec (b5 i g)
     have d0:∀i,i<s->((List.range s).map λi=>zG (f i)).getD i (.i 0)=zG (f i):=λi g=>by simp[List.getD,g]
     have b1:(D.l ((List.range s).map λi=>zG (f i))).els.length=s:=by show((List.range s).map _).length=s;simp
     refine⟨rfl,[.l ((List.range s).map λi=>zG (f i))],E3 ⟨some a,s,e2,rfl,b1,d2,f0,(λh=>by cases h),λad b2 f2=>?_⟩ ⟨by rw[b1];exact e7,λi g=>?_⟩⟩
     ·injection b2 with b2;subst b2;obtain⟨t0,d3⟩:∃t0,el[0]?=some t0:=⟨el[0],by simp⟩;refine⟨((hf 0 f2).2 0 t0 d3).1,λi g=>?_⟩;obtain⟨b6,a5⟩:=hf i g;have e6:a.block<w.heap.size:=by
       obtain⟨_,u,F,_⟩:=a5 0 t0 d3;rcases Nat.lt_or_ge a.block w.heap.size with b0 |b0
       ·exact b0
       ·simp[World.cell?,Array.getElem?_eq_none b0]at F
      refine Rx (aFW e6) el 0 λj t v=>?_;have T:j<el.length:=(List.getElem?_eq_some_iff.1 v).1;obtain⟨_,u,F,W,_⟩:=a5 j t v;refine⟨u,?_,?_⟩
      ·rw[Nat.zero_add];exact F
      ·show vD w _ t u (lf el.length (((List.range s).map λi=>zG (f i)).getD i (.i 0)) (0+j));rw[d0 i g,Nat.zero_add,IW b6 j T];exact W
     ·have g:i<s:=by rw[b1]at g;exact g
      obtain⟨b6,a5⟩:=hf i g;refine aDi el 0 λj t v=>?_;have T:j<el.length:=(List.getElem?_eq_some_iff.1 v).1;show SzL N t (lf el.length (((List.range s).map λi=>zG (f i)).getD i (.i 0)) (0+j));rw[d0 i g,Nat.zero_add,IW b6 j T];obtain⟨_,u,_,_,W⟩:=a5 j t v;exact W
  ·rename_i fs J;obtain⟨l,Q,c⟩:=Option.bind_eq_some_iff.1 y;cases G:Nat.beq (P.cellsOf t) l.length with
   |false=>rw[G]at c;simp at c
   |true=>
    rw[G]at c;injection c with c;subst c;have c8:=Nat.eq_of_beq_eq_true G;unfold DataW.trod at h;rw[J]at h;simp only at h;split at h
    ·rename_i b3;obtain⟨xs,L,V⟩:=Option.map_eq_some_iff.1 h;refine⟨by omega,e5 n fs.toList 0 xs l L Q λK c3=>?_⟩;rw[<-V]at a4;simp only[Rows.uptoBulk]at a4;have:=o9 (d:=K.1) (l:=xs.map (·.1)) (List.mem_map.2 ⟨K,c3,rfl⟩);omega
    ·simp at h
  ·simp at y
end
end Go.Eng.Q

namespace Go.Eng.Q
open Go.Eng Go.Proofs
theorem T8{n k:Nat}{x:D}:∀{ts:List LT}{d:Nat},SzC n ts k x d->∀{j:Nat}{t:LT},ts[j]?=some t->SzL n t (lf k x (d+j))
 |[],_,_,j,t,c=>by simp at c
 |t0::ts,d,⟨e,f⟩,0,t,c=>by injection c with c;subst c;exact e
 |t0::ts,d,⟨e,f⟩,j+1,t,c=>by have hv:=T8 f (j:=j) (t:=t) (by simpa using c);rwa [show d+1+j=d+(j+1)by omega]at hv
theorem aFX{x:D}(h:SzL 1048576 (.sl false 44 y5) x):SzM x.els:=λj f b e=>by have c:SzL 1048576 (.sl false 47 [.sl false 50 y0]) (lf 5 (gD x.els j) (0+4)):=T8 (h.2 j f) (j:=4) rfl;have d:SzL 1048576 (.sl false 50 y0) (lf 1 (gD (eX (gD x.els j) 4) b) (0+0)):=T8 (c.2 b e) (j:=0) rfl;exact d.1
noncomputable def st3(xs gs ts fs:LD):St:=Ip.put 0 (.agg [.fz [] 52 y8 xs,.fz [] 55 y10 gs,.fz [] 57 y11 ts,.fz [] 44 y5 fs])
theorem aFY(xs gs ts fs:LD):eY E 0 (Tu Jn 3).ps [.l [.l xs,.l gs,.l ts,.l fs]] Ip=some (st3 xs gs ts fs):=by kernel_rfl
theorem aHU(xs gs ts fs:LD):(st3 xs gs ts fs).sl.get 0=.agg [.fz [] 52 y8 xs,.fz [] 55 y10 gs,.fz [] 57 y11 ts,.fz [] 44 y5 fs]:=by kernel_rfl
theorem bx3(xs gs ts fs:LD):(st3 xs gs ts fs).bx=[]:=by kernel_rfl
theorem ar3(xs gs ts fs:LD):(st3 xs gs ts fs).ar=[]:=by kernel_rfl
theorem rs3:(Tu Jn 3).rs=[.val false [.bool]]:=by kernel_rfl
theorem fn3:(Tu Jn 3).fn=3:=by kernel_rfl
theorem aGV:(Tu Jn 3).ps.length=1:=by kernel_rfl
theorem sh3:shT Tryz.prog 40 27=some [.sl false 52 y8,.sl false 55 y10,.sl false 57 y11,.sl false 44 y5]:=by kernel_rfl
theorem aGW(G:TD Tryz.prog E){w:World}{cs:List Value}{ys:LD}(F:cs.length=4)(h:MJ w 1048576 [.sl false 52 y8,.sl false 55 y10,.sl false 57 y11,.sl false 44 y5] cs 0 ys):
  Calls Tryz.prog 3 ⟨[.agg ⟨cs⟩]⟩ w λe w'=>e=.returned (.bool true)/\Go.RowKit.Below w.heap.size w w':=by
 obtain⟨H,c⟩:=h;obtain⟨f,a0,b0,_⟩:=c 0 _ rfl;obtain⟨g,a1,b1,_⟩:=c 1 _ rfl;obtain⟨j,a2,b2,_⟩:=c 2 _ rfl;obtain⟨l,a3,m,u⟩:=c 3 _ rfl;have C:cs=[f,g,j,l]:=by
  match cs,F with
  |[p,q,r,s],_=>simp at a0 a1 a2 a3;rw[a0,a1,a2,a3]
 subst C;have y:∀k N n,NA Tryz.prog (tJ E k sites N) (qN (tJ E k sites N) aW (Dq E) k n) 3 (Tu Jn 3):=λk N n=>aFw G k N n 3 (Tu Jn 3) (by kernel_rfl) (by kernel_rfl);have key:=Tz (vs:=[.agg ⟨[f,g,j,l]⟩]) y rs3 (aFU (ys.getD 0 (.i 0)).els (ys.getD 1 (.i 0)).els (ys.getD 2 (.i 0)).els (ys.getD 3 (.i 0)).els (aFX u)) (aGV.symm▸rfl) (w:=w) ⟨st3 _ _ _ _,aFY _ _ _ _,bx3 _ _ _ _,ar3 _ _ _ _,λt v hv=>?_⟩
 ·rw[fn3]at key;exact key
 ·match t with
  |0=>rw[aHU];simp at hv;subst hv;exact⟨[f,g,j,l],rfl,f,_,rfl,⟨λd hd=>(by cases hd),λ_=>b0⟩,g,_,rfl,⟨λd hd=>(by cases hd),λ_=>b1⟩,j,_,rfl,⟨λd hd=>(by cases hd),λ_=>b2⟩,l,_,rfl,⟨λd hd=>(by cases hd),λ_=>m⟩,rfl⟩
  |t+1=>simp at hv
end Go.Eng.Q

namespace Go.Proofs.YtnajbpjhadmkpaaGreat
open Go.ChangeShapes Go.WideShapes Go.ChangeAt Go.RowKit
theorem Tryz.own:ownKnob Tryz.prog.godebug=none:=by kernel_rfl
theorem Tryz.laidOut:laidOutB Tryz.prog=true:=by kernel_rfl
theorem Nx{w w':World}(h:Below w.heap.size w w')(d:MemPlace->Prop):w.keptBut w' d:=by
 refine⟨h.os,h.output,λi c=>?_⟩;rw[h.block i c];cases w.heap[i]?with
 |none=>rfl
 |some o=>cases o<;>first|exact⟨rfl,rfl,rfl,λ_ _=>rfl⟩ |exact .inr ⟨rfl,rfl⟩ |rfl
set_option maxRecDepth 100000 in
theorem contract(a0:Go.Eng.TD Tryz.prog Go.Eng.Q.E)(H:Type)(enc:TypeId×Value->H)(c:World)(base:Nat)(d:Array Value)(ds gs:List (DataW H))(L:List MemPlace)
  (K:∀(j:Nat)t v,Tryz.f3.params[j]?=some t->d[j]?=some v->Value.okWide Tryz.prog c .any base t v)
  (y:DataW.Whole enc Tryz.prog Tryz.f3.params.toList Rows.argsDeadSpec.vars false c d.toList ds gs L)(F:Rows.uptoSmall H (ds++gs)=true):
  Calls Tryz.prog 3 d c λe m=>∃v,e=.returned v/\Rows.argsDeadSpec.post enc Tryz.prog Tryz.f3 false true false false c d v m:=by
 have J:∀(j:Nat)t v,Tryz.f3.params[j]?=some t->d[j]?=some v->Value.okWide Tryz.prog c .any base t v:=K;have f:=y;obtain⟨p,q,u,T,rfl,a4,a5⟩:=y;have s:DataW.TrodAll enc Tryz.prog c 0 (λ_=>true) true Tryz.f3.params.toList d.toList ds p:=u;rw[Tryz.params3]at s J;obtain⟨v0,d0,rfl,rfl,r⟩:=trodAll_one s;obtain⟨rfl,rfl⟩:=trodVars_none T;have G:Rows.uptoBulkAll ([d0]++[])<=1048576:=of_decide_eq_true F;have U:Rows.uptoBulk d0<=1048576:=by simp only[List.append_nil,Rows.uptoBulkAll]at G;omega
 have g:=J 0 27 v0 rfl rfl;have Q:=r;obtain⟨P,hf⟩:=r;clear u K F G;simp only[List.append_nil]at f;have Y:∀l∈p,l.block<c.heap.size:=λl a2=>by simpa using f.lt l (by simp[a2])
 obtain⟨V,ys,a3⟩:=Go.Eng.Q.p7 P 40 27 _ _ _ hf Go.Eng.Q.sh3 U;obtain⟨cs,rfl⟩:∃cs,v0=.agg ⟨cs⟩:=by have a1:=Tryz.underlying27;unfold Value.okWide at g;rw[a1]at g;obtain⟨cs,rfl,_⟩:=g;exact⟨cs.toList,rfl⟩
 refine(Go.Eng.Q.aGW a0 V a3).mono λe m⟨W,C⟩=>?_;subst W;exact⟨_,rfl,_,_,_,[],_,[],f,trodAll_mk1 (shut_bool Tryz.underlying4 true),
  trodAll_mk1 (Below.trod Tryz.laidOut (by kernel_rfl) (of_decide_eq_true (by kernel_rfl)) Q C Y),rfl,Nx C _,λh=>by cases h⟩
set_option maxRecDepth 100000 in
theorem lifted(h:Go.Eng.TD Tryz.prog Go.Eng.Q.E)(os:Os)(l:os.Started)(H:Type)(enc:TypeId×Value->H)(F:Stop.Interp):
  ReturnsInHanded {} Tryz.checked os 3 .any ((Rows.OpenSpec.upto Rows.argsDeadSpec).pre6 enc Tryz.prog Tryz.f3 Rows.argsDeadUptoRow.domain false) (((Rows.OpenSpec.upto Rows.argsDeadSpec).at F).post enc Tryz.prog Tryz.f3 false true false false):=by
 refine returnsInHanded_of_cond (C:=Tryz.checked) (s:=Rows.OpenSpec.upto Rows.argsDeadSpec) (k:=Rows.uptoSmall) rfl Tryz.own l (by kernel_rfl) Tryz.func3
  (OpenSpec.witness (enc:=enc) (C:=Tryz.checked) (s:=Rows.OpenSpec.upto Rows.argsDeadSpec) (k:=Rows.uptoSmall) rfl false ⟨#[],#[.agg #[.slice none 0 0,.slice none 0 0,.slice none 0 0,.slice none 0 0]],[]⟩ 8 (by kernel_rfl) (by kernel_rfl) (by kernel_rfl)
   (x:=([.agg [.nil,.nil,.nil,.nil]],[],[])) (by kernel_rfl) rfl (by kernel_rfl)) ?_
 intro c base d ds gs e j f _ g _;exact contract h H enc c base d ds gs e j f g
theorem aHV(c:Go.Eng.TD Tryz.prog Go.Eng.Q.E):Rows.ArgsDeadUptoSaid:=
 OpenClaim.holds_of_cond 3 Tryz.f3 rfl rfl rfl rfl rfl rfl rfl ⟨rfl,rfl,rfl,rfl,rfl⟩ rfl rfl rfl rfl rfl (by kernel_rfl) Tryz.func3 (by kernel_rfl)
  (of_decide_eq_true (by kernel_rfl)) (by unfold Func.isWrapper;first|(rw[if_pos (by decide+kernel)];kernel_rfl) |(rw[if_neg (by decide+kernel)];exact⟨rfl,rfl⟩))
  (λos d H enc _ F=>lifted c os d H enc F)
theorem argsDead_holds:Rows.ArgsDeadUptoSaid:=aHV Go.Eng.Q.aEE
end Go.Proofs.YtnajbpjhadmkpaaGreat
