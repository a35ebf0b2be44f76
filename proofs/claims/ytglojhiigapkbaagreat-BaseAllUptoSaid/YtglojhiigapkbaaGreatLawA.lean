/- Part 7 of the proof: what wf.Check and the document's Check reckon. -/
import Derived.Test.YtglojhiigapkbaaGreatTrB
set_option linter.unusedSimpArgs false
set_option linter.unusedVariables false
namespace Go.Eng
def U0{c:Type}(step:Nat->D->c->(Nat×List D)⊕c)(d:c->Nat×List D):Nat->List D->c->Nat×List D
 |_,[],s=>d s
 |j,x::l,s=>match step j x s with
  |.inl t=>t
  |.inr e=>U0 step d (j+1) l e
section
variable{E:eQ}{B:kV}{Tb:BT kH}{d:FD}
theorem Ja{m:Nat}(v:AU E B Tb m d){b:Nat}{c:Type}(f:Nat->c->List D)(l:List D)(step:Nat->D->c->(Nat×List D)⊕c)(g:c->Nat×List D)(r:Nat->c->Prop)
  (J:∀j s,j<l.length->r j s->(∀t,step j (gD l j) s=.inl t->sA E B Tb d (d.F.lp b (f j s)) (.out t))/\(∀e,step j (gD l j) s=.inr e->r (j+1) e/\sA E B Tb d (d.F.lp b (f j s)) (.again (f (j+1) e))))
  (K:∀s,r l.length s->sA E B Tb d (d.F.lp b (f l.length s)) (.out (g s))){s0:c}(h:r 0 s0):PB E B Tb d b (f 0 s0) (U0 step g 0 l s0).1 (U0 step g 0 l s0).2 :=by
 have key:∀(k j:Nat)(s:c),j+k=l.length->r j s->PB E B Tb d b (f j s) (U0 step g j (l.drop j) s).1 (U0 step g j (l.drop j) s).2 :=by
  intro k;induction k with
  |zero=>
   intro j s L h;have:j=l.length:=by omega
   subst this;rw[List.drop_length];exact xR v (K s h)
  |succ k P=>
   intro j s L h;have y:j<l.length:=by omega
   have hd:l.drop j=gD l j::l.drop (j+1):=by rw[List.drop_eq_getElem_cons y];congr 1;simp[gD,List.getD,y]
   rw[hd];obtain⟨C,F⟩:=J j s y h;cases u:step j (gD l j) s with
   |inl t=>simp only[U0,u];exact xR v (C t u)
   |inr e=>simp only[U0,u];obtain⟨G,H⟩:=F e u;exact rK v H (P (j+1) e (by omega) G)
 have:=key l.length 0 s0 (by omega) h;simpa using this
theorem Xg{c:D->Bool}{t0 t1:Nat×List D}:∀(l:List D)(j:Nat),U0 (λ_ x(_:Unit)=>bif c x then .inl t0 else .inr ()) (λ_=>t1) j l ()=bif l.any c then t0 else t1
 |[],_=>rfl
 |x::l,j=>by
  simp only[U0,List.any_cons];cases c x with
  |true=>rfl
  |false=>simp only[cond_false,Bool.false_or];exact Xg l (j+1)
theorem JB{m:Nat}(y:AU E B Tb m d){b:Nat}(f:Nat->List D)(l:List D)(c:D->Bool){t0 t1:Nat×List D}
  (r:∀j,j<l.length->c (gD l j)=true->sA E B Tb d (d.F.lp b (f j)) (.out t0))(u:∀j,j<l.length->c (gD l j)=false->sA E B Tb d (d.F.lp b (f j)) (.again (f (j+1))))
  (v:sA E B Tb d (d.F.lp b (f l.length)) (.out t1)):PB E B Tb d b (f 0) (bif l.any c then t0 else t1).1 (bif l.any c then t0 else t1).2 :=by
 rw[<-Xg l 0];refine Ja y (λj(_:Unit)=>f j) l _ _ (λ_ _=>True) (λj s g _=>⟨λt ht=>?_,λC h=>⟨trivial,?_⟩⟩) (λs _=>v) trivial
 ·cases e:c (gD l j)with
  |true=>rw[e]at ht;simp only[cond_true,Sum.inl.injEq]at ht;subst ht;exact r j g e
  |false=>rw[e]at ht;simp at ht
 ·cases e:c (gD l j)with
  |true=>rw[e]at h;simp at h
  |false=>exact u j g e
theorem qR{m:Nat}(t:AU E B Tb m d){b:Nat}(f:Nat->List D)(l:List D)(e:D->Bool){t0 t1:Nat×List D}
  (h:∀j,j<l.length->(e (gD l j)=true/\sA E B Tb d (d.F.lp b (f j)) (.out t0))\/(e (gD l j)=false/\sA E B Tb d (d.F.lp b (f j)) (.again (f (j+1)))))
  (s:sA E B Tb d (d.F.lp b (f l.length)) (.out t1)):PB E B Tb d b (f 0) (bif l.any e then t0 else t1).1 (bif l.any e then t0 else t1).2 :=
 JB t f l e (λj r g=>by
  rcases h j r with⟨_,c⟩ |⟨c,_⟩
  ·exact c
  ·rw[g]at c;cases c) (λj r g=>by
  rcases h j r with⟨c,_⟩ |⟨_,c⟩
  ·rw[g]at c;cases c
  ·exact c) s
theorem Sq{g:D->Int}{k:Int->Nat×List D}:∀(l:List D)(j:Nat)(a:Int),U0 (λ_ x(a:Int)=>.inr (aG .i64 a (g x))) k j l a=k (l.foldl (λa x=>aG .i64 a (g x)) a)
 |[],_,_=>rfl
 |x::l,j,a=>by simp only[U0,List.foldl_cons];exact Sq l (j+1) _
end
theorem eY{j n:Nat}(c:j<n)(d:(n:Int)<=9223372036854775807):aG .i64 (j:Int) 1=((j+1:Nat):Int):=by rw[AQ _ _ _ (by simp[TC,TD]),uJ (by omega) (by omega)];omega
theorem aW{j n:Nat}(h:j<n):aT (j:Int) (n:Int)=true:=by
 unfold aT;cases e:cP (n:Int) (j:Int)with
 |true=>have:=(eR _ _).1 e;omega
 |false=>rfl
theorem aE{j n:Nat}(h:j<n):aA (j:Int) n=true:=by unfold aA;rw[aW h,(eR 0 (j:Int)).2 (by omega)];rfl
theorem aX(n:Nat):aT (n:Int) (n:Int)=false:=by unfold aT;rw[(eR (n:Int) (n:Int)).2 (Int.le_refl _)];rfl
noncomputable def Lr(C:Nat->List D->D)(t:Sh):D:=
 IX.rec (motive_1:=λ_=>D) (motive_2:=λ_=>Unit)
  (λx _=>x) (λ_=>.i 0) (λ_=>.i 0) (.i 0) (λb _ _ p q=>bif b then p else q) (λm xs _ _ k=>k (C m xs) []) (λ_ _ _ _=>.i 0) () (λ_ _ _ _=>()) t
noncomputable def okT(C:Nat->List D->D)(K:Nat->List D->Bool)(t:Sh):Bool:=
 IX.rec (motive_1:=λ_=>Bool) (motive_2:=λ_=>Unit)
  (λ_ bs=>match bs with|[]=>true |_::_=>false) (λ_=>false) (λ_=>false) false (λ_ _ _ p q=>p&&q) (λm xs nb _ k=>K m xs&&(Nat.beq nb 0&&k (C m xs) [])) (λ_ _ _ _=>false) () (λ_ _ _ _=>()) t
section
variable{E:eQ}{B:kV}{Tb:BT kH}{d:FD}
theorem SO{C:Nat->List D->D}{K:Nat->List D->Bool}(c:∀m xs,K m xs=true->iS E B Tb m xs (C m xs) []):∀(t:Sh),okT C K t=true->sA E B Tb d t (.ret (Lr C t) [])
 |.ret x bs,h=>by
  cases bs with
  |nil=>exact bJ rfl rfl
  |cons _ _=>exact absurd h (by simp[okT])
 |.again s,h=>by exact absurd h (by simp[okT])
 |.out t,h=>by exact absurd h (by simp[okT])
 |.bad,h=>by exact absurd h (by simp[okT])
 |.ask b p q,h=>by
  have g:(okT C K p&&okT C K q)=true:=h;obtain⟨e,f⟩:=(Bool.and_eq_true_iff).mp g;cases b with
  |true=>exact aC rfl (SO c p e)
  |false=>exact aJ rfl (SO c q f)
 |.call m xs nb k,h=>by have g:(K m xs&&(Nat.beq nb 0&&okT C K (k (C m xs) [])))=true:=h;obtain⟨e,f⟩:=(Bool.and_eq_true_iff).mp g;obtain⟨j,l⟩:=(Bool.and_eq_true_iff).mp f;exact bK (c m xs e) (Nat.eq_of_beq_eq_true j).symm (SO c (k (C m xs) []) l)
 |.loop b s ks,h=>by exact absurd h (by simp[okT])
end
end Go.Eng

namespace Go.Eng
section
variable{E:eQ}{B:kV}{Tb:BT kH}{d:FD}{b:Bool}{o:Nat×List D}{a:List D}{p q t:Sh}
def Og(E:eQ)(B:kV)(Tb:BT kH)(d:FD)(b:Bool)(t:Sh)(o:Nat×List D)(a:List D):Prop:=(b=true/\sA E B Tb d t (.out o))\/(b=false/\sA E B Tb d t (.again a))
theorem oT{c:Bool}(h:c=true)(f:Og E B Tb d b p o a):Og E B Tb d b (.ask c p q) o a:=
 f.elim (λe=>.inl ⟨e.1,aC h e.2⟩) (λe=>.inr ⟨e.1,aC h e.2⟩)
theorem oF{c:Bool}(h:c=false)(f:Og E B Tb d b q o a):Og E B Tb d b (.ask c p q) o a:=
 f.elim (λe=>.inl ⟨e.1,aJ h e.2⟩) (λe=>.inr ⟨e.1,aJ h e.2⟩)
theorem aFA{o':Nat×List D}(h:b=true)(c:o=o'):Og E B Tb d b (.out o') o a:=.inl ⟨h,bG c⟩
theorem aFB{a':List D}(h:b=false)(c:a=a'):Og E B Tb d b (.again a') o a:=.inr ⟨h,aO c⟩
theorem oE{c:Bool}{o':Nat×List D}{a':List D}(h:c=b)(f:o=o')(e:a=a'):Og E B Tb d b (.ask c (.out o') (.again a')) o a:=by
 subst h;cases c with
 |true=>exact oT rfl (aFA rfl f)
 |false=>exact oF rfl (aFB rfl e)
theorem oO{c b2:Bool}{o':Nat×List D}(h:b=(c||b2))(f:o=o')(e:c=false->Og E B Tb d b2 q o a):Og E B Tb d b (.ask c (.out o') q) o a:=by
 subst h;cases c with
 |true=>exact oT rfl (aFA rfl f)
 |false=>exact oF rfl (e rfl)
theorem oC{m nb:Nat}{xs:List D}{k:D->List D->Sh}{x:D}{bs:List D}(e:iS E B Tb m xs x bs)(f:bs.length=nb)(g:Og E B Tb d b (k x bs) o a):Og E B Tb d b (.call m xs nb k) o a:=
 g.elim (λc=>.inl ⟨c.1,bK e f c.2⟩) (λc=>.inr ⟨c.1,bK e f c.2⟩)
theorem oL{l:Nat}{s c e:List D}{f g:List D->Sh}{ks:Ri (List D) (Nat×List D)}(h:PB E B Tb d l s (bif b then(0,c)else(1,e)).1 (bif b then(0,c)else(1,e)).2)(j:f c=.out o)(m:g e=.again a):Og E B Tb d b (.loop l s (.cons f (.cons g ks))) o a:=by
 cases b with
 |true=>exact .inl ⟨rfl,aP h (bD (show Ev _ _ (f c) _ from by rw[j];exact bG rfl))⟩
 |false=>exact .inr ⟨rfl,aP h (eB (bD (show Ev _ _ (g e) _ from by rw[m];exact aO rfl)))⟩
theorem oLO{l:Nat}{s c m:List D}{j r:List D->Sh}{ks:Ri (List D) (Nat×List D)}{b1 b2:Bool}(h:b=(b1||b2))(e:PB E B Tb d l s (bif b1 then(0,c)else(1,m)).1 (bif b1 then(0,c)else(1,m)).2)(t:j c=.out o)(u:b1=false->Og E B Tb d b2 (r m) o a):Og E B Tb d b (.loop l s (.cons j (.cons r ks))) o a:=by
 subst h;cases b1 with
 |true=>exact .inl ⟨rfl,aP e (bD (show Ev _ _ (j c) _ from by rw[t];exact bG rfl))⟩
 |false=>
  rcases u rfl with⟨f,g⟩ |⟨f,g⟩
  ·exact .inl ⟨f,aP e (eB (bD g))⟩
  ·exact .inr ⟨f,aP e (eB (bD g))⟩
theorem GL{m:Nat}(g:AU E B Tb m d){b:Nat}(f:Nat->List D)(l:List D)(c:D->Bool){t0 t1:Nat×List D}
  (h:∀j,j<l.length->Og E B Tb d (c (gD l j)) (d.F.lp b (f j)) t0 (f (j+1)))
  (e:sA E B Tb d (d.F.lp b (f l.length)) (.out t1)):PB E B Tb d b (f 0) (bif l.any c then t0 else t1).1 (bif l.any c then t0 else t1).2 :=
 qR g f l c h e
theorem xD{m:Nat}(s:AU E B Tb m d){b:Nat}(f:Nat->List D)(n:Nat)(P:Nat->Bool){t0 t1:Nat×List D}
  (h:∀j,j<n->Og E B Tb d (P j) (d.F.lp b (f j)) t0 (f (j+1)))
  (r:sA E B Tb d (d.F.lp b (f n)) (.out t1)):PB E B Tb d b (f 0) (bif dS n P then t0 else t1).1 (bif dS n P then t0 else t1).2 :=by
 have c:=aC6 s f n P (i0:=t0.1) (d0:=t0.2) (i1:=t1.1) (d1:=t1.2) (λj l g=>by
  rcases h j l with⟨c,_⟩ |⟨_,c⟩
  ·rw[g]at c;cases c
  ·exact c) (λj l g=>by
  rcases h j l with⟨_,c⟩ |⟨c,_⟩
  ·exact c
  ·rw[g]at c;cases c) r
 cases e:dS n P with
 |true=>rw[e]at c;exact c
 |false=>rw[e]at c;exact c
theorem aD0{m:Nat}(r:AU E B Tb m d){b:Nat}(f:Nat->List D)(n:Nat)(P:Nat->Bool)(Q:Nat×List D->Prop){t1:Nat×List D}
  (h:∀j,j<n->(P j=true/\∃t,Q t/\sA E B Tb d (d.F.lp b (f j)) (.out t))\/(P j=false/\sA E B Tb d (d.F.lp b (f j)) (.again (f (j+1)))))
  (s:sA E B Tb d (d.F.lp b (f n)) (.out t1)):(dS n P=true/\∃t,Q t/\PB E B Tb d b (f 0) t.1 t.2)\/(dS n P=false/\PB E B Tb d b (f 0) t1.1 t1.2):=by
 cases e:dS n P with
 |true=>
  obtain⟨j,C,u,v⟩:=xS e;rcases h j C with⟨_,t,g,y⟩ |⟨g,_⟩
  ·refine .inl ⟨rfl,t,g,cI r f j (λi l=>?_) y⟩;rcases h i (by omega)with⟨c,_⟩ |⟨_,c⟩
   ·rw[v i l]at c;cases c
   ·exact c
  ·rw[u]at g;cases g
 |false=>
  refine .inr ⟨rfl,cI r f n (λi l=>?_) s⟩;rcases h i l with⟨c,_⟩ |⟨_,c⟩
  ·rw[bQ.1 e i l]at c;cases c
  ·exact c
theorem EU{m:Nat}(C:AU E B Tb m d){b:Nat}{c:Type}(f:Nat->c->List D)(l:List D)(step:c->D->c)(e:c->Nat×List D)(g:Nat->c->Prop)
  (u:∀j s,j<l.length->g j s->g (j+1) (step s (gD l j))/\sA E B Tb d (d.F.lp b (f j s)) (.again (f (j+1) (step s (gD l j)))))
  (v:∀s,g l.length s->sA E B Tb d (d.F.lp b (f l.length s)) (.out (e s))){s0:c}(F:g 0 s0):PB E B Tb d b (f 0 s0) (e (l.foldl step s0)).1 (e (l.foldl step s0)).2 :=by
 have h:=Ja C f l (λ_ x s=>.inr (step s x)) e g (λj s G H=>⟨λt ht=>by simp at ht,λK r=>by simp only[Sum.inr.injEq]at r;subst r;exact u j s G H⟩) v F;have y:∀(l:List D)(j:Nat)(s:c),U0 (λ_ x s=>.inr (step s x)) e j l s=e (l.foldl step s):=by
  intro l;induction l with
  |nil=>intro j s;rfl
  |cons x l J=>intro j s;exact J (j+1) (step s x)
 rw[y]at h;exact h
theorem DI{m:Nat}(r:AU E B Tb m d){b:Nat}{l:Type}(f:Nat->l->List D)(n:Nat)(h:l->Nat×List D)(e:Nat->l->Prop)
  (t:∀j s,j<n->e j s->∃c,e (j+1) c/\sA E B Tb d (d.F.lp b (f j s)) (.again (f (j+1) c)))
  (u:∀s,e n s->sA E B Tb d (d.F.lp b (f n s)) (.out (h s))){s0:l}(g:e 0 s0):∃s,e n s/\PB E B Tb d b (f 0 s0) (h s).1 (h s).2 :=by
 have key:∀(k j:Nat)(s:l),j+k=n->e j s->∃c,e n c/\PB E B Tb d b (f j s) (h c).1 (h c).2 :=by
  intro k;induction k with
  |zero=>
   intro j s G g;have:j=n:=by omega
   subst this;exact⟨s,g,xR r (u s g)⟩
  |succ k H=>intro j s G g;obtain⟨c,v,y⟩:=t j s (by omega) g;obtain⟨J,C,F⟩:=H (j+1) c (by omega) v;exact⟨J,C,rK r y F⟩
 exact key n 0 s0 (by omega) g
theorem GM{m:Nat}(u:AU E B Tb m d){b:Nat}{l:Type}(f:l->List D)(r:l->Prop)(mu:l->Nat)(Q:Nat×List D->Prop)
  (h:∀s,r s->(∃t,Q t/\sA E B Tb d (d.F.lp b (f s)) (.out t))\/(∃e,r e/\mu e<mu s/\sA E B Tb d (d.F.lp b (f s)) (.again (f e)))){s0:l}(j:r s0):∃t,Q t/\PB E B Tb d b (f s0) t.1 t.2:=by
 have key:∀(k:Nat)(s:l),mu s<=k->r s->∃t,Q t/\PB E B Tb d b (f s) t.1 t.2:=by
  intro k;induction k with
  |zero=>
   intro s F j;rcases h s j with⟨t,c,g⟩ |⟨e,c,g,v⟩
   ·exact⟨t,c,xR u g⟩
   ·omega
  |succ k G=>
   intro s F j;rcases h s j with⟨t,c,g⟩ |⟨e,c,g,v⟩
   ·exact⟨t,c,xR u g⟩
   ·obtain⟨t,y,C⟩:=G e (by omega) c;exact⟨t,y,rK u v C⟩
 exact key _ s0 (Nat.le_refl _) j
theorem aGd{m:Nat}(g:AU E B Tb m d){b:Nat}(f:Nat->List D)(n:Nat){i:Nat}{ds:List D}(c:∀j,j<n->sA E B Tb d (d.F.lp b (f j)) (.again (f (j+1))))(e:sA E B Tb d (d.F.lp b (f n)) (.out (i,ds))):PB E B Tb d b (f 0) i ds:=cI g f n c e
theorem oX{c:Bool}(e:c=true->Og E B Tb d b p o a)(f:c=false->Og E B Tb d b q o a):Og E B Tb d b (.ask c p q) o a:=by
 cases c with
 |true=>exact oT rfl (e rfl)
 |false=>exact oF rfl (f rfl)
end
theorem nx{j n:Nat}(c:j<n)(d:(n:Int)<=9223372036854775807)(p q:List D):p++D.i ((j+1:Nat):Int)::q=p++D.i (aG .i64 (j:Int) 1)::q:=by rw[eY c d]
theorem aH{a b:Bool}(h:b=true):(a||b)=true:=by rw[h,Bool.or_true]
end Go.Eng

namespace Go.Eng.Q
open Go.Eng
def sW(bs:List D):Int:=bs.foldl (λa x=>aG .i64 a (iE x)) 0
theorem SQ(nm:List UInt8)(o:Bool)(ps:List D)(r:Int)(bs:List D)(d:(bs.length:Int)<=9223372036854775807):iS E aY sites Ed [.l [.s nm,.b o,.l ps,.i r,.l bs]] (.i (sW bs)) []:=by
 refine bA ZN (by rfl) rfl ?_;show Ev _ _ (YV _) _;unfold YV;refine aP (Ja ZN (λj(a:Int)=>[.i a,.i (j:Int),.s nm,.b o,.l ps,.i r,.l bs]) bs (λ_ x a=>.inr (aG .i64 a (iE x))) (λa=>(0,[.i a])) (λ_ _=>True) (λj a e _=>⟨λt ht=>by simp at ht,λf c=>⟨trivial,?_⟩⟩) (λa _=>?_) trivial) ?_
 ·show Ev _ _ (zD _) _;unfold zD;refine aC (by simp;omega) (aC (by simp;omega) (aO ?_));simp only[Sum.inr.injEq]at c;subst c;simp[tI,eY e d]
 ·show Ev _ _ (zD _) _;unfold zD;exact aJ (by simp) (bG rfl)
 ·rw[Sq];exact bD (bJ rfl rfl)
theorem Jb(nm:List UInt8)(o:Bool)(ps:List D)(r:Int)(bs:List D)(d:(bs.length:Int)<=9223372036854775807):iS E aY sites Sk [.l [.s nm,.b o,.l ps,.i r,.l bs]] (.i (sW bs)) []:=by
 refine bA ZV (by rfl) rfl ?_;show Ev _ _ (ZH _) _;unfold ZH;refine aP (Ja ZV (λj(a:Int)=>[.i a,.l bs,.i (j:Int),.i (bs.length:Int)]) bs (λ_ x a=>.inr (aG .i64 a (iE x))) (λa=>(0,[.i a])) (λ_ _=>True) (λj a e _=>⟨λt ht=>by simp at ht,λf c=>⟨trivial,?_⟩⟩) (λa _=>?_) trivial) ?_
 ·show Ev _ _ (zY _) _;unfold zY;refine aC (by simp;omega) (aC (by simp;omega) (aO ?_));simp only[Sum.inr.injEq]at c;subst c;simp[tI,eY e d]
 ·show Ev _ _ (zY _) _;unfold zY;exact aJ (by simp) (bG rfl)
 ·rw[Sq];exact bD (bJ rfl rfl)
def SR(x:D):Bool:=aT 5 (iX x 1)
def JC(x:D):Bool:=aT (iX x 1) 1||aT 16 (iX x 1)
def SS(x:D):Bool:=aT (iX x 1) 1||aT 12 (iX x 1)
def DJ(x:D):Bool:=((aT 5 (iX x 2)||aT (iX x 4) 1)||aT 40 (iX x 4))||aT 300 (sW (eX x 4))
def iG(xs gs ts fs:List D):Bool:=!(((aT 24 (iL fs)||aT 12 (iL xs))||aT 12 (iL gs))||aT 6 (iL ts))&&(!xs.any SR&&(!gs.any JC&&(!ts.any SS&&!fs.any DJ)))
theorem jI{a b:Int}(h:aT b a=false):a<=b:=by
 have:cP a b=true:=by unfold aT at h;simpa using h
 exact(eR _ _).1 this
theorem Jc{xs gs ts fs:List D}(h:(((aT 24 (iL fs)||aT 12 (iL xs))||aT 12 (iL gs))||aT 6 (iL ts))=false):(fs.length:Int)<=24/\(xs.length:Int)<=12/\(gs.length:Int)<=12/\(ts.length:Int)<=6:=by simp only[Bool.or_eq_false_iff]at h;exact⟨jI h.1.1.1,jI h.1.1.2,jI h.1.2,jI h.2⟩
theorem AZ(x:D):(((aT 5 (iX x 2)||aT (iX x 4) 1)||aT 40 (iX x 4))=true/\DJ x=true)\/(((aT 5 (iX x 2)||aT (iX x 4) 1)||aT 40 (iX x 4))=false/\DJ x=aT 300 (sW (eX x 4))/\((eX x 4).length:Int)<=40):=by
 cases h:((aT 5 (iX x 2)||aT (iX x 4) 1)||aT 40 (iX x 4))with
 |true=>exact .inl ⟨rfl,by simp only[DJ,h,Bool.true_or]⟩
 |false=>refine .inr ⟨rfl,by simp only[DJ,h,Bool.false_or],?_⟩;simp only[Bool.or_eq_false_iff]at h;exact jI h.2
theorem Sr(xs gs ts fs:List D):iS E aY sites YN [.l [.l xs,.l gs,.l ts,.l fs]] (.b (iG xs gs ts fs)) []:=by
 refine bA tN (by rfl) rfl ?_;show Ev _ _ (MF _) _;unfold MF;refine aFy (λh=>?_) (λh=>?_)
 ·have f:(((aT 24 (iL fs)||aT 12 (iL xs))||aT 12 (iL gs))||aT 6 (iL ts))=true:=h;exact bJ (by simp only[iG,f,Bool.not_true,Bool.false_and]) rfl
 ·have f:(((aT 24 (iL fs)||aT 12 (iL xs))||aT 12 (iL gs))||aT 6 (iL ts))=false:=h;obtain⟨y,t,u,v⟩:=Jc f;refine aP (JB tN (λj=>[.i (j:Int),.l xs,.l gs,.l ts,.l fs]) xs SR (t0:=(0,[.b false,.l xs,.l gs,.l ts,.l fs])) (t1:=(1,[.l xs,.l gs,.l ts,.l fs])) (λj d c=>?_) (λj d c=>?_) ?_) ?_
  ·show Ev _ _ (mI _) _;unfold mI;exact aC (by simp;omega) (aC (by simp;omega) (aC (by simpa[SR,tI]using c) (bG rfl)))
  ·show Ev _ _ (mI _) _;unfold mI;exact aC (by simp;omega) (aC (by simp;omega) (aJ (by simpa[SR,tI]using c) (aO (by simp[eY d (by omega)]))))
  ·show Ev _ _ (mI _) _;unfold mI;exact aJ (by simp) (bG rfl)
  cases e1:xs.any SR with
  |true=>exact bD (bJ (by simp[iG,f,e1]) rfl)
  |false=>
  refine eB (bD (aP (JB tN (λj=>[.i (j:Int),.l xs,.l gs,.l ts,.l fs]) gs JC (t0:=(0,[.b false,.l xs,.l gs,.l ts,.l fs])) (t1:=(1,[.l xs,.l gs,.l ts,.l fs])) (λj d c=>?_) (λj d c=>?_) ?_) ?_))
  ·show Ev _ _ (mJ _) _;unfold mJ;exact aC (by simp;omega) (aC (by simp;omega) (aC (by simpa[JC,tI]using c) (bG rfl)))
  ·show Ev _ _ (mJ _) _;unfold mJ;exact aC (by simp;omega) (aC (by simp;omega) (aJ (by simpa[JC,tI]using c) (aO (by simp[eY d (by omega)]))))
  ·show Ev _ _ (mJ _) _;unfold mJ;exact aJ (by simp) (bG rfl)
  cases l:gs.any JC with
  |true=>exact bD (bJ (by simp[iG,f,e1,l]) rfl)
  |false=>
  refine eB (bD (aP (JB tN (λj=>[.i (j:Int),.l xs,.l gs,.l ts,.l fs]) ts SS (t0:=(0,[.b false,.l xs,.l gs,.l ts,.l fs])) (t1:=(1,[.l xs,.l gs,.l ts,.l fs])) (λj d c=>?_) (λj d c=>?_) ?_) ?_))
  ·show Ev _ _ (mK _) _;unfold mK;exact aC (by simp;omega) (aC (by simp;omega) (aC (by simpa[SS,tI]using c) (bG rfl)))
  ·show Ev _ _ (mK _) _;unfold mK;exact aC (by simp;omega) (aC (by simp;omega) (aJ (by simpa[SS,tI]using c) (aO (by simp[eY d (by omega)]))))
  ·show Ev _ _ (mK _) _;unfold mK;exact aJ (by simp) (bG rfl)
  cases m:ts.any SS with
  |true=>exact bD (bJ (by simp[iG,f,e1,l,m]) rfl)
  |false=>
  refine eB (bD (aP (JB tN (λj=>[.i (j:Int),.l xs,.l gs,.l ts,.l fs]) fs DJ (t0:=(0,[.b false])) (t1:=(1,[])) (λj d c=>?_) (λj d c=>?_) ?_) ?_))
  ·show Ev _ _ (mL _) _;unfold mL;refine aC (by simp;omega) (aC (by simp;omega) ?_);rcases AZ (gD fs j)with⟨e,g⟩ |⟨e,g,s⟩
   ·exact aJ (congrArg Bool.not e) (aC (congrArg (λb=>b||aT 300 0) e) (bG rfl))
   ·refine aC (congrArg Bool.not e) (bK (x:=.i (sW (eX (gD fs j) 4))) (bs:=[]) ?_ rfl (aC ?_ (bG rfl)))
    ·have:=SQ (D.toS (D.fld (gD fs j) 0)) (vB (gD fs j) 1) (eX (gD fs j) 2) (vI (gD fs j) 3) (eX (gD fs j) 4) (by omega);simpa[tI]using this
    ·rw[g]at c;exact(congrArg (λb=>b||aT 300 (sW (eX (gD fs j) 4))) e).trans c
  ·show Ev _ _ (mL _) _;unfold mL;refine aC (by simp;omega) (aC (by simp;omega) ?_);rcases AZ (gD fs j)with⟨e,g⟩ |⟨e,g,s⟩
   ·rw[g]at c;cases c
   ·refine aC (congrArg Bool.not e) (bK (x:=.i (sW (eX (gD fs j) 4))) (bs:=[]) ?_ rfl (aJ ?_ (aO (by simp[eY d (by omega)]))))
    ·have:=SQ (D.toS (D.fld (gD fs j) 0)) (vB (gD fs j) 1) (eX (gD fs j) 2) (vI (gD fs j) 3) (eX (gD fs j) 4) (by omega);simpa[tI]using this
    ·rw[g]at c;exact(congrArg (λb=>b||aT 300 (sW (eX (gD fs j) 4))) e).trans c
  ·show Ev _ _ (mL _) _;unfold mL;exact aJ (by simp) (bG rfl)
  cases r:fs.any DJ with
  |true=>exact bD (bJ (congrArg D.b (show iG xs gs ts fs=false by simp only[iG,f,e1,l,m,r,Bool.not_true,Bool.not_false,Bool.and_self,Bool.and_false])) rfl)
  |false=>exact eB (bD (bJ (congrArg D.b (show iG xs gs ts fs=true by simp only[iG,f,e1,l,m,r,Bool.not_true,Bool.not_false,Bool.and_self])) rfl))
theorem Xh(xs gs ts fs:List D):iS E aY sites Ih [.l [.l xs,.l gs,.l ts,.l fs]] (.b (iG xs gs ts fs)) []:=by
 refine bA xY (by rfl) rfl ?_;show Ev _ _ (RX _) _;unfold RX;refine aFy (λh=>?_) (λh=>?_)
 ·have f:(((aT 24 (iL fs)||aT 12 (iL xs))||aT 12 (iL gs))||aT 6 (iL ts))=true:=h;exact bJ (by simp only[iG,f,Bool.not_true,Bool.false_and]) rfl
 ·have f:(((aT 24 (iL fs)||aT 12 (iL xs))||aT 12 (iL gs))||aT 6 (iL ts))=false:=h;obtain⟨y,t,u,v⟩:=Jc f;refine aP (JB xY (λj=>[.i (xs.length:Int),.i (j:Int),.l xs,.l xs,.l gs,.l ts,.l fs]) xs SR (t0:=(0,[.b false,.l xs,.l gs,.l ts,.l fs])) (t1:=(1,[.l xs,.l gs,.l ts,.l fs])) (λj c d=>?_) (λj c d=>?_) ?_) ?_
  ·show Ev _ _ (nV _) _;unfold nV;exact aC (aW c) (aC (aE c) (aC d (bG rfl)))
  ·show Ev _ _ (nV _) _;unfold nV;exact aC (aW c) (aC (aE c) (aJ d (aO (by simp[eY c (by omega)]))))
  ·show Ev _ _ (nV _) _;unfold nV;exact aJ (aX _) (bG rfl)
  cases e1:xs.any SR with
  |true=>exact bD (bJ (congrArg D.b (show iG xs gs ts fs=false by simp only[iG,f,e1,Bool.not_true,Bool.not_false,Bool.and_self,Bool.and_false,Bool.false_and,Bool.true_and])) rfl)
  |false=>
  refine eB (bD (aP (JB xY (λj=>[.i (gs.length:Int),.i (j:Int),.l gs,.l xs,.l gs,.l ts,.l fs]) gs JC (t0:=(0,[.b false,.l xs,.l gs,.l ts,.l fs])) (t1:=(1,[.l xs,.l gs,.l ts,.l fs])) (λj c d=>?_) (λj c d=>?_) ?_) ?_))
  ·show Ev _ _ (nW _) _;unfold nW;exact aC (aW c) (aC (aE c) (aC d (bG rfl)))
  ·show Ev _ _ (nW _) _;unfold nW;exact aC (aW c) (aC (aE c) (aJ d (aO (by simp[eY c (by omega)]))))
  ·show Ev _ _ (nW _) _;unfold nW;exact aJ (aX _) (bG rfl)
  cases l:gs.any JC with
  |true=>exact bD (bJ (congrArg D.b (show iG xs gs ts fs=false by simp only[iG,f,e1,l,Bool.not_true,Bool.not_false,Bool.and_self,Bool.and_false,Bool.false_and,Bool.true_and])) rfl)
  |false=>
  refine eB (bD (aP (JB xY (λj=>[.i (ts.length:Int),.l ts,.i (j:Int),.l xs,.l gs,.l ts,.l fs]) ts SS (t0:=(0,[.b false,.l xs,.l gs,.l ts,.l fs])) (t1:=(1,[.l xs,.l gs,.l ts,.l fs])) (λj c d=>?_) (λj c d=>?_) ?_) ?_))
  ·show Ev _ _ (nY _) _;unfold nY;exact aC (aW c) (aC (aE c) (aC d (bG rfl)))
  ·show Ev _ _ (nY _) _;unfold nY;exact aC (aW c) (aC (aE c) (aJ d (aO (by simp[eY c (by omega)]))))
  ·show Ev _ _ (nY _) _;unfold nY;exact aJ (aX _) (bG rfl)
  cases m:ts.any SS with
  |true=>exact bD (bJ (congrArg D.b (show iG xs gs ts fs=false by simp only[iG,f,e1,l,m,Bool.not_true,Bool.not_false,Bool.and_self,Bool.and_false,Bool.false_and,Bool.true_and])) rfl)
  |false=>
  refine eB (bD (aP (JB xY (λj=>[.i (fs.length:Int),.i (j:Int),.l fs]) fs DJ (t0:=(0,[.b false])) (t1:=(1,[])) (λj c d=>?_) (λj c d=>?_) ?_) ?_))
  ·show Ev _ _ (nZ _) _;unfold nZ;refine aC (aW c) (aC (aE c) ?_);rcases AZ (gD fs j)with⟨e,g⟩ |⟨e,g,s⟩
   ·exact aJ (congrArg Bool.not e) (aC (congrArg (λb=>b||aT 300 0) e) (bG rfl))
   ·rw[g]at d;exact aC (congrArg Bool.not e) (bK (x:=.i (sW (eX (gD fs j) 4))) (bs:=[]) (Jb (D.toS (D.fld (gD fs j) 0)) (vB (gD fs j) 1) (eX (gD fs j) 2) (vI (gD fs j) 3) (eX (gD fs j) 4) (by omega)) rfl (aC ((congrArg (λb=>b||aT 300 (sW (eX (gD fs j) 4))) e).trans d) (bG rfl)))
  ·show Ev _ _ (nZ _) _;unfold nZ;refine aC (aW c) (aC (aE c) ?_);rcases AZ (gD fs j)with⟨e,g⟩ |⟨e,g,s⟩
   ·rw[g]at d;cases d
   ·rw[g]at d;exact aC (congrArg Bool.not e) (bK (x:=.i (sW (eX (gD fs j) 4))) (bs:=[]) (Jb (D.toS (D.fld (gD fs j) 0)) (vB (gD fs j) 1) (eX (gD fs j) 2) (vI (gD fs j) 3) (eX (gD fs j) 4) (by omega)) rfl (aJ ((congrArg (λb=>b||aT 300 (sW (eX (gD fs j) 4))) e).trans d) (aO (by simp[eY c (by omega)]))))
  ·show Ev _ _ (nZ _) _;unfold nZ;exact aJ (aX _) (bG rfl)
  cases r:fs.any DJ with
  |true=>exact bD (bJ (congrArg D.b (show iG xs gs ts fs=false by simp only[iG,f,e1,l,m,r,Bool.not_true,Bool.not_false,Bool.and_self,Bool.and_false])) rfl)
  |false=>exact eB (bD (bJ (congrArg D.b (show iG xs gs ts fs=true by simp only[iG,f,e1,l,m,r,Bool.not_true,Bool.not_false,Bool.and_self])) rfl))
end Go.Eng.Q

namespace Go.Eng.Q
open Go.Eng
def aFC:Nat->List D->D:=λ_ _=>.i 0
def aFD:Nat->List D->Bool:=λ_ _=>false
noncomputable def iV(op:Int):D:=Lr aFC (OK [.i op])
theorem H6(op:Int):iS E aY sites OI [.i op] (iV op) []:=bA Ns (by rfl) rfl (SO (K:=aFD) (λm xs h=>by cases h) (OK [.i op]) (by kernel_rfl))
theorem H7(op:Int):iS E aY sites OH [.i op] (iV op) []:=bA Oc (by rfl) rfl (SO (C:=aFC) (K:=aFD) (λm xs h=>by cases h) (Nq [.i op]) (by kernel_rfl))
def fS(op:Int):Bool:=(((aD op 27||aD op 28)||aD op 29)||aD op 30)
theorem Jd(op:Int):iS E aY sites EP [.i op] (.b (fS op)) []:=bA Of (by rfl) rfl (bJ rfl rfl)
theorem Je(op:Int):(cP 27 op&&cP op 30)=fS op:=by rw[Bool.eq_iff_iff];simp only[fS,Bool.and_eq_true,Bool.or_eq_true,eR,bT];omega
theorem Jf(op:Int):iS E aY sites AV [.i op] (.b (fS op)) []:=bA Ny (by rfl) rfl (bJ (congrArg D.b (Je op).symm) rfl)
theorem iZ(t:Int):iS E aY sites BK [.i t] (.b (aD t 1||aD t 2)) []:=bA Ci (by rfl) rfl (bJ rfl rfl)
noncomputable def C2:Nat->List D->D:=λm xs=>bif Nat.beq m OI||Nat.beq m OH then iV (gI xs 0)else .b (fS (gI xs 0))
def aEC:List D->Bool
 |[.i _]=>true
 |_=>false
def K2:Nat->List D->Bool:=λm xs=>(Nat.beq m OI||(Nat.beq m OH||(Nat.beq m EP||Nat.beq m AV)))&&aEC xs
theorem aDa{xs:List D}(h:aEC xs=true):∃n,xs=[.i n]:=by
 unfold aEC at h;split at h
 ·exact⟨_,rfl⟩
 ·cases h
theorem aD1(m:Nat)(xs:List D)(h:K2 m xs=true):iS E aY sites m xs (C2 m xs) []:=by
 simp only[K2,Bool.and_eq_true,Bool.or_eq_true]at h;obtain⟨c,d⟩:=h;obtain⟨n,rfl⟩:=aDa d;rcases c with h |h |h |h<;>rw[Nat.eq_of_beq_eq_true h]
 ·exact H6 n
 ·exact H7 n
 ·exact Jd n
 ·exact Jf n
def dO(op ty to sym num:Int)(as1 is1:List D):D:=.l [.i op,.i ty,.i to,.i sym,.i num,.l as1,.l is1]
noncomputable def bS(x:D):D:=Lr C2 (bU [x])
noncomputable def dG(x:D):D:=Lr C2 (cM [x])
theorem VZ(x:D):iS E aY sites YQ [x] (bS x) []:=bA Cn (by rfl) rfl (SO aD1 (bU [x]) (by kernel_rfl))
theorem Jg(x:D):iS E aY sites Sf [x] (dG x) []:=bA Nw (by rfl) rfl (SO aD1 (cM [x]) (by kernel_rfl))
end Go.Eng.Q

namespace Go.Eng.Q
open Go.Eng
def cD(l:List D):Prop:=(l.length:Int)<=9223372036854775807
structure U1(b:D):Prop where
 ins:cD b.els
structure Jh(f:D):Prop where
 ps:cD (eX f 2)
 bs:cD (eX f 4)
 b:∀j,j<(eX f 4).length->U1 (gD (eX f 4) j)
structure Xi(xs gs ts fs:List D):Prop where
 hx:cD xs
 hg:cD gs
 ht:cD ts
 hf:cD fs
 x:∀j,j<xs.length->cD (eX (gD xs j) 1)
 t:∀j,j<ts.length->cD (eX (gD ts j) 1)
 f:∀j,j<fs.length->Jh (gD fs j)
abbrev fC(d:FD)(b:Nat)(ps:List D)(t:Nat×List D):Prop:=PB E aY sites d b ps t.1 t.2
def Dm(t:Int):Bool:=aD t 1||aD t 2
def FQ(x:D):Bool:=!Dm x.toI
def Ss(r:Int):Bool:=aT r 0||aT 2 r
theorem l9(r:Int):(!(aD r 0)&&!Dm r)=Ss r:=by rw[Bool.eq_iff_iff];simp only[Dm,Ss,Bool.and_eq_true,Bool.or_eq_true,Bool.not_eq_true',Bool.or_eq_false_iff,<-Bool.not_eq_true,bT,aT,eR];omega
def EV(x:D):Bool:=Ss (vI x 2)||(eX x 1).any FQ
def Cr(x:D):D:=.l [.i (vI x 0),.i (vI x 1),.i (vI x 2),.i (vI x 3),.i (vI x 4),.l (eX x 5),.l (eX x 6)]
theorem aBL(t:Int):(!(aD t 1)&&!(aD t 2))=!Dm t:=by simp only[Dm,Bool.not_or]
theorem Ls(d:Int)(xs gs ts fs:List D)(nm:List UInt8)(l:List D)(r:Int)(f:cD l):
  fC qA 2 [.i d,.i 0,.l xs,.l gs,.l ts,.l fs,.s nm,.l l,.i r] (bif l.any FQ then(0,[.i d,.b false,.l xs,.l gs,.l ts,.l fs])else(1,[.i d,.l xs,.l gs,.l ts,.l fs])):=by
 refine qR qB (λj=>[.i d,.i (j:Int),.l xs,.l gs,.l ts,.l fs,.s nm,.l l,.i r]) l FQ (λj c=>?_) ?_
 ·cases e:FQ (gD l j)with
  |true=>refine .inl ⟨rfl,?_⟩;show Ev _ _ (oB _) _;unfold oB;exact aC (aW c) (aC (aE c) (aC (by rw[Bool.or_eq_true];right;exact aE c) (aC ((aBL _).trans e) (bG rfl))))
  |false=>refine .inr ⟨rfl,?_⟩;show Ev _ _ (oB _) _;unfold oB;exact aC (aW c) (aC (aE c) (aC (by rw[Bool.or_eq_true];right;exact aE c) (aJ ((aBL _).trans e) (aO (by simp[eY c f])))))
 ·show Ev _ _ (oB _) _;unfold oB;exact aJ (aX _) (bG rfl)
theorem Lt(xs gs ts fs:List D)(g:cD xs)(h:∀j,j<xs.length->cD (eX (gD xs j) 1)):
  fC qA 0 [.i 0,.l xs,.l gs,.l ts,.l fs] (bif xs.any EV then(0,[.b false,.l xs,.l gs,.l ts,.l fs])else(1,[.l xs,.l gs,.l ts,.l fs])):=by
 refine qR qB (λj=>[.i (j:Int),.l xs,.l gs,.l ts,.l fs]) xs EV (λj c=>?_) ?_
 ·cases d:Ss (vI (gD xs j) 2)with
  |true=>refine .inl ⟨by simp only[EV,d,Bool.true_or],?_⟩;show Ev _ _ (kJ _) _;unfold kJ;exact aC (aW c) (aC (aE c) (aC d (bG rfl)))
  |false=>
   have e:=Ls (j:Int) xs gs ts fs (D.toS (D.fld (gD xs j) 0)) (eX (gD xs j) 1) (vI (gD xs j) 2) (h j c);cases f:(eX (gD xs j) 1).any FQ with
   |true=>rw[f]at e;refine .inl ⟨by simp only[EV,d,f,Bool.or_true],?_⟩;show Ev _ _ (kJ _) _;unfold kJ;exact aC (aW c) (aC (aE c) (aJ d (aP e (bD (bG rfl)))))
   |false=>rw[f]at e;refine .inr ⟨by simp only[EV,d,f,Bool.or_false],?_⟩;show Ev _ _ (kJ _) _;unfold kJ;exact aC (aW c) (aC (aE c) (aJ d (aP e (eB (bD (aO (by simp[eY c g])))))))
 ·show Ev _ _ (kJ _) _;unfold kJ;exact aJ (aX _) (bG rfl)
def qS(o:Bool)(x:D):Bool:=(aT x.toI 1||aT 4 x.toI)||(o&&aT 2 x.toI)
def OP(o:Bool)(r:Int):Bool:=((aT r 0||aT 4 r)||aD r 3)||(o&&aT 2 r)
noncomputable def qC(x:D):Bool:=!(D.toB (dG (Cr x)))
noncomputable def FR(b:D):Bool:=b.els.any qC
noncomputable def pH(x:D):Bool:=OP (vB x 1) (vI x 3)||((eX x 2).any (qS (vB x 1))||(eX x 4).any FR)
noncomputable def lG(xs fs:List D):Bool:=!xs.any EV&&!fs.any pH
section
variable(xs gs ts fs ps bs:List D)(nm:List UInt8)(o:Bool)(r jf:Int)
theorem Ji(c:Nat)(e:c<bs.length)(g:cD (gD bs c).els):
  fC qA 10 [.i (c:Int),.i jf,.i 0,.l xs,.l gs,.l ts,.l fs,.s nm,.b o,.l ps,.i r,.l bs] (bif (gD bs c).els.any qC then(0,[.i (c:Int),.b false,.i jf,.l xs,.l gs,.l ts,.l fs,.s nm,.b o,.l ps,.i r,.l bs])else(1,[.i (c:Int),.i jf,.l xs,.l gs,.l ts,.l fs,.s nm,.b o,.l ps,.i r,.l bs])):=by
 refine qR qB (λj=>[.i (c:Int),.i jf,.i (j:Int),.l xs,.l gs,.l ts,.l fs,.s nm,.b o,.l ps,.i r,.l bs]) (gD bs c).els qC (λj d=>?_) ?_
 ·cases f:qC (gD (gD bs c).els j)with
  |true=>refine .inl ⟨rfl,?_⟩;show Ev _ _ (mO _) _;unfold mO;exact aC (aE e) (aC (aW d) (aC (aE e) (aC (aE d) (bK (Jg (Cr (gD (gD bs c).els j))) rfl (aC f (bG rfl))))))
  |false=>refine .inr ⟨rfl,?_⟩;show Ev _ _ (mO _) _;unfold mO;exact aC (aE e) (aC (aW d) (aC (aE e) (aC (aE d) (bK (Jg (Cr (gD (gD bs c).els j))) rfl (aJ f (aO (by simp[eY d g])))))))
 ·show Ev _ _ (mO _) _;unfold mO;exact aC (aE e) (aJ (aX _) (bG rfl))
theorem Lu(g:cD bs)(f:∀j,j<bs.length->U1 (gD bs j)):
  fC qA 8 [.i 0,.i jf,.l xs,.l gs,.l ts,.l fs,.s nm,.b o,.l ps,.i r,.l bs] (bif bs.any FR then(0,[.b false,.i jf,.l xs,.l gs,.l ts,.l fs])else(1,[.i jf,.l xs,.l gs,.l ts,.l fs])):=by
 refine qR qB (λj=>[.i (j:Int),.i jf,.l xs,.l gs,.l ts,.l fs,.s nm,.b o,.l ps,.i r,.l bs]) bs FR (λj c=>?_) ?_
 ·have d:=Ji xs gs ts fs ps bs nm o r jf j c (f j c).ins;cases e:FR (gD bs j)with
  |true=>rw[show(gD bs j).els.any qC=true from e]at d;refine .inl ⟨rfl,?_⟩;show Ev _ _ (oG _) _;unfold oG;exact aC (aW c) (aP d (bD (bG rfl)))
  |false=>rw[show(gD bs j).els.any qC=false from e]at d;refine .inr ⟨rfl,?_⟩;show Ev _ _ (oG _) _;unfold oG;exact aC (aW c) (aP d (eB (bD (aO (by simp[eY c g])))))
 ·show Ev _ _ (oG _) _;unfold oG;exact aJ (aX _) (bG rfl)
theorem Lv(e:cD ps):
  fC qA 6 [.i 0,.i jf,.l xs,.l gs,.l ts,.l fs,.s nm,.b o,.l ps,.i r,.l bs] (bif ps.any (qS o)then(0,[.b false,.i jf,.l xs,.l gs,.l ts,.l fs,.s nm,.b o,.l ps,.i r,.l bs])else(1,[.i jf,.l xs,.l gs,.l ts,.l fs,.s nm,.b o,.l ps,.i r,.l bs])):=by
 refine qR qB (λj=>[.i (j:Int),.i jf,.l xs,.l gs,.l ts,.l fs,.s nm,.b o,.l ps,.i r,.l bs]) ps (qS o) (λj c=>?_) ?_
 ·cases d:qS o (gD ps j)with
  |true=>refine .inl ⟨rfl,?_⟩;show Ev _ _ (oD _) _;unfold oD;exact aC (aW c) (aC (aE c) (aC (by rw[Bool.or_eq_true];right;exact aE c) (aC (by rw[Bool.or_eq_true];right;exact aE c) (aC d (bG rfl)))))
  |false=>refine .inr ⟨rfl,?_⟩;show Ev _ _ (oD _) _;unfold oD;exact aC (aW c) (aC (aE c) (aC (by rw[Bool.or_eq_true];right;exact aE c) (aC (by rw[Bool.or_eq_true];right;exact aE c) (aJ d (aO (by simp[eY c e]))))))
 ·show Ev _ _ (oD _) _;unfold oD;exact aJ (aX _) (bG rfl)
end
theorem Lw(xs gs ts fs:List D)(l:cD fs)(hf:∀j,j<fs.length->Jh (gD fs j)):
  fC qA 4 [.i 0,.l xs,.l gs,.l ts,.l fs] (bif fs.any pH then(0,[.b false])else(1,[])):=by
 refine qR qB (λj=>[.i (j:Int),.l xs,.l gs,.l ts,.l fs]) fs pH (λj c=>?_) ?_
 ·have e:=Lv xs gs ts fs (eX (gD fs j) 2) (eX (gD fs j) 4) (D.toS (D.fld (gD fs j) 0)) (vB (gD fs j) 1) (vI (gD fs j) 3) (j:Int) (hf j c).ps;have g:=Lu xs gs ts fs (eX (gD fs j) 2) (eX (gD fs j) 4) (D.toS (D.fld (gD fs j) 0)) (vB (gD fs j) 1) (vI (gD fs j) 3) (j:Int) (hf j c).bs (hf j c).b;cases d:OP (vB (gD fs j) 1) (vI (gD fs j) 3)with
  |true=>refine .inl ⟨by simp only[pH,d,Bool.true_or],?_⟩;show Ev _ _ (iF _) _;unfold iF;exact aC (aW c) (aC (aE c) (aC d (bG rfl)))
  |false=>
  cases f:(eX (gD fs j) 2).any (qS (vB (gD fs j) 1))with
  |true=>rw[f]at e;refine .inl ⟨by simp only[pH,d,f,Bool.true_or,Bool.or_true],?_⟩;show Ev _ _ (iF _) _;unfold iF;exact aC (aW c) (aC (aE c) (aJ d (aP e (bD (bG rfl)))))
  |false=>
  rw[f]at e;cases h:(eX (gD fs j) 4).any FR with
  |true=>rw[h]at g;refine .inl ⟨by simp only[pH,d,f,h,Bool.false_or],?_⟩;show Ev _ _ (iF _) _;unfold iF;exact aC (aW c) (aC (aE c) (aJ d (aP e (eB (bD (aP g (bD (bG rfl))))))))
  |false=>rw[h]at g;refine .inr ⟨by simp only[pH,d,f,h,Bool.false_or],?_⟩;show Ev _ _ (iF _) _;unfold iF;exact aC (aW c) (aC (aE c) (aJ d (aP e (eB (bD (aP g (eB (bD (aO (by simp[eY c l]))))))))))
 ·show Ev _ _ (iF _) _;unfold iF;exact aJ (aX _) (bG rfl)
theorem Xj(xs gs ts fs:List D)(h:Xi xs gs ts fs):iS E aY sites Ia [.l [.l xs,.l gs,.l ts,.l fs]] (.b (lG xs fs)) []:=by
 refine bA qB (by rfl) rfl ?_;show Ev _ _ (SG _) _;unfold SG;have c:=Lt xs gs ts fs h.hx h.x;have e:=Lw xs gs ts fs h.hf h.f;cases e1:xs.any EV with
 |true=>rw[e1]at c;exact aP c (bD (bJ (congrArg D.b (show lG xs fs=false by simp only[lG,e1,Bool.not_true,Bool.false_and])) rfl))
 |false=>
 rw[e1]at c;cases d:fs.any pH with
 |true=>rw[d]at e;exact aP c (eB (bD (aP e (bD (bJ (congrArg D.b (show lG xs fs=false by simp only[lG,d,Bool.not_true,Bool.and_false])) rfl)))))
 |false=>rw[d]at e;exact aP c (eB (bD (aP e (eB (bD (bJ (congrArg D.b (show lG xs fs=true by simp only[lG,e1,d,Bool.not_false,Bool.and_self])) rfl))))))
end Go.Eng.Q

namespace Go.Eng.Q
open Go.Eng
theorem dJ(C:Nat->List D->D)(x:D)(bs:List D):Lr C (.ret x bs)=x:=rfl
theorem dK(C:Nat->List D->D)(b:Bool)(p q:Sh):Lr C (.ask b p q)=bif b then Lr C p else Lr C q:=rfl
theorem cV(C:Nat->List D->D)(m:Nat)(xs:List D)(nb:Nat)(k:D->List D->Sh):Lr C (.call m xs nb k)=Lr C (k (C m xs) []):=rfl
theorem dW(a b:Int):aD a b=decide (a=b):=XN a b
theorem eD(a b:Int):cP a b=decide (a<=b):=Pz a b
theorem eA(a b:Int):aT a b=decide (a<b):=XM a b
theorem sX(n:Int):C2 OI [.i n]=iV n:=rfl
theorem sY(n:Int):C2 OH [.i n]=iV n:=rfl
theorem sZ(n:Int):C2 EP [.i n]=.b (fS n):=rfl
theorem tC(n:Int):C2 AV [.i n]=.b (fS n):=rfl
theorem aG9(l:List D)(n:Nat):(D.l l).fld n=gD l n:=rfl
theorem aHa(x:D)(l:List D):gD (x::l) 0=x:=rfl
theorem aHb(x:D)(l:List D)(n:Nat):gD (x::l) (n+1)=gD l n:=rfl
theorem aGe(b c d:Bool):D.toB (bif b then D.b c else D.b d)=bif b then c else d:=by cases b<;>rfl
theorem dR(b:Bool)(x c:D):D.toB (bif b then x else c)=bif b then D.toB x else D.toB c:=by cases b<;>rfl
theorem sf1(ty to sym num:Int)(a i:List D):D.toB (bS (dO 1 ty to sym num a i))=D.toB (dG (dO 1 ty to sym num a i)):=by
 have d:iV 1=.l [.i 0,.i 0,.b false,.b true]:=by kernel_rfl
 simp only[bS,dG,bU,cM,bO,bL,bP,bI,bY,bW,bZ,cA,dK,cV,dJ,dO,vI,vB,iX,qL,jO,rL,kB,kN,kX,sX,sY,sZ,tC,d,dR,fS];simp only[dW,eD,eA];rw[Bool.eq_iff_iff];generalize a.length=x;generalize i.length=y;simp[Bool.cond_eq_ite];by_cases c:ty=0
 ·simp[c];try omega
 ·simp[c];try omega
theorem sf2(ty to sym num:Int)(a i:List D):D.toB (bS (dO 2 ty to sym num a i))=D.toB (dG (dO 2 ty to sym num a i)):=by
 have d:iV 2=.l [.i 0,.i 0,.b true,.b false]:=by kernel_rfl
 simp only[bS,dG,bU,cM,bO,bL,bP,bI,bY,bW,bZ,cA,dK,cV,dJ,dO,vI,vB,iX,qL,jO,rL,kB,kN,kX,sX,sY,sZ,tC,d,dR,fS];simp only[dW,eD,eA];rw[Bool.eq_iff_iff];generalize a.length=x;generalize i.length=y;simp[Bool.cond_eq_ite];by_cases c:ty=0
 ·simp[c];try omega
 ·simp[c];try omega
theorem sf3(ty to sym num:Int)(a i:List D):D.toB (bS (dO 3 ty to sym num a i))=D.toB (dG (dO 3 ty to sym num a i)):=by
 have d:iV 3=.l [.i 0,.i 0,.b true,.b false]:=by kernel_rfl
 simp only[bS,dG,bU,cM,bO,bL,bP,bI,bY,bW,bZ,cA,dK,cV,dJ,dO,vI,vB,iX,qL,jO,rL,kB,kN,kX,sX,sY,sZ,tC,d,dR,fS];simp only[dW,eD,eA];rw[Bool.eq_iff_iff];generalize a.length=x;generalize i.length=y;simp[Bool.cond_eq_ite];by_cases c:ty=0
 ·simp[c];try omega
 ·simp[c];try omega
theorem sf4(ty to sym num:Int)(a i:List D):D.toB (bS (dO 4 ty to sym num a i))=D.toB (dG (dO 4 ty to sym num a i)):=by
 have d:iV 4=.l [.i 2,.i 0,.b false,.b false]:=by kernel_rfl
 simp only[bS,dG,bU,cM,bO,bL,bP,bI,bY,bW,bZ,cA,dK,cV,dJ,dO,vI,vB,iX,qL,jO,rL,kB,kN,kX,sX,sY,sZ,tC,d,dR,fS];simp only[dW,eD,eA];rw[Bool.eq_iff_iff];generalize a.length=x;generalize i.length=y;simp[Bool.cond_eq_ite];by_cases c:ty=0
 ·simp[c];try omega
 ·simp[c];try omega
theorem sf5(ty to sym num:Int)(a i:List D):D.toB (bS (dO 5 ty to sym num a i))=D.toB (dG (dO 5 ty to sym num a i)):=by
 have d:iV 5=.l [.i 2,.i 0,.b false,.b false]:=by kernel_rfl
 simp only[bS,dG,bU,cM,bO,bL,bP,bI,bY,bW,bZ,cA,dK,cV,dJ,dO,vI,vB,iX,qL,jO,rL,kB,kN,kX,sX,sY,sZ,tC,d,dR,fS];simp only[dW,eD,eA];rw[Bool.eq_iff_iff];generalize a.length=x;generalize i.length=y;simp[Bool.cond_eq_ite];by_cases c:ty=0
 ·simp[c];try omega
 ·simp[c];try omega
theorem sf6(ty to sym num:Int)(a i:List D):D.toB (bS (dO 6 ty to sym num a i))=D.toB (dG (dO 6 ty to sym num a i)):=by
 have d:iV 6=.l [.i 2,.i 0,.b false,.b false]:=by kernel_rfl
 simp only[bS,dG,bU,cM,bO,bL,bP,bI,bY,bW,bZ,cA,dK,cV,dJ,dO,vI,vB,iX,qL,jO,rL,kB,kN,kX,sX,sY,sZ,tC,d,dR,fS];simp only[dW,eD,eA];rw[Bool.eq_iff_iff];generalize a.length=x;generalize i.length=y;simp[Bool.cond_eq_ite];by_cases c:ty=0
 ·simp[c];try omega
 ·simp[c];try omega
theorem sf7(ty to sym num:Int)(a i:List D):D.toB (bS (dO 7 ty to sym num a i))=D.toB (dG (dO 7 ty to sym num a i)):=by
 have d:iV 7=.l [.i 2,.i 0,.b false,.b false]:=by kernel_rfl
 simp only[bS,dG,bU,cM,bO,bL,bP,bI,bY,bW,bZ,cA,dK,cV,dJ,dO,vI,vB,iX,qL,jO,rL,kB,kN,kX,sX,sY,sZ,tC,d,dR,fS];simp only[dW,eD,eA];rw[Bool.eq_iff_iff];generalize a.length=x;generalize i.length=y;simp[Bool.cond_eq_ite];by_cases c:ty=0
 ·simp[c];try omega
 ·simp[c];try omega
theorem sf8(ty to sym num:Int)(a i:List D):D.toB (bS (dO 8 ty to sym num a i))=D.toB (dG (dO 8 ty to sym num a i)):=by
 have d:iV 8=.l [.i 2,.i 0,.b false,.b false]:=by kernel_rfl
 simp only[bS,dG,bU,cM,bO,bL,bP,bI,bY,bW,bZ,cA,dK,cV,dJ,dO,vI,vB,iX,qL,jO,rL,kB,kN,kX,sX,sY,sZ,tC,d,dR,fS];simp only[dW,eD,eA];rw[Bool.eq_iff_iff];generalize a.length=x;generalize i.length=y;simp[Bool.cond_eq_ite];by_cases c:ty=0
 ·simp[c];try omega
 ·simp[c];try omega
theorem sf9(ty to sym num:Int)(a i:List D):D.toB (bS (dO 9 ty to sym num a i))=D.toB (dG (dO 9 ty to sym num a i)):=by
 have d:iV 9=.l [.i 2,.i 0,.b false,.b false]:=by kernel_rfl
 simp only[bS,dG,bU,cM,bO,bL,bP,bI,bY,bW,bZ,cA,dK,cV,dJ,dO,vI,vB,iX,qL,jO,rL,kB,kN,kX,sX,sY,sZ,tC,d,dR,fS];simp only[dW,eD,eA];rw[Bool.eq_iff_iff];generalize a.length=x;generalize i.length=y;simp[Bool.cond_eq_ite];by_cases c:ty=0
 ·simp[c];try omega
 ·simp[c];try omega
theorem aGq(ty to sym num:Int)(a i:List D):D.toB (bS (dO 10 ty to sym num a i))=D.toB (dG (dO 10 ty to sym num a i)):=by
 have d:iV 10=.l [.i 2,.i 0,.b false,.b false]:=by kernel_rfl
 simp only[bS,dG,bU,cM,bO,bL,bP,bI,bY,bW,bZ,cA,dK,cV,dJ,dO,vI,vB,iX,qL,jO,rL,kB,kN,kX,sX,sY,sZ,tC,d,dR,fS];simp only[dW,eD,eA];rw[Bool.eq_iff_iff];generalize a.length=x;generalize i.length=y;simp[Bool.cond_eq_ite];by_cases c:ty=0
 ·simp[c];try omega
 ·simp[c];try omega
theorem aGr(ty to sym num:Int)(a i:List D):D.toB (bS (dO 11 ty to sym num a i))=D.toB (dG (dO 11 ty to sym num a i)):=by
 have d:iV 11=.l [.i 2,.i 0,.b false,.b false]:=by kernel_rfl
 simp only[bS,dG,bU,cM,bO,bL,bP,bI,bY,bW,bZ,cA,dK,cV,dJ,dO,vI,vB,iX,qL,jO,rL,kB,kN,kX,sX,sY,sZ,tC,d,dR,fS];simp only[dW,eD,eA];rw[Bool.eq_iff_iff];generalize a.length=x;generalize i.length=y;simp[Bool.cond_eq_ite];by_cases c:ty=0
 ·simp[c];try omega
 ·simp[c];try omega
theorem aGs(ty to sym num:Int)(a i:List D):D.toB (bS (dO 12 ty to sym num a i))=D.toB (dG (dO 12 ty to sym num a i)):=by
 have d:iV 12=.l [.i 2,.i 0,.b false,.b false]:=by kernel_rfl
 simp only[bS,dG,bU,cM,bO,bL,bP,bI,bY,bW,bZ,cA,dK,cV,dJ,dO,vI,vB,iX,qL,jO,rL,kB,kN,kX,sX,sY,sZ,tC,d,dR,fS];simp only[dW,eD,eA];rw[Bool.eq_iff_iff];generalize a.length=x;generalize i.length=y;simp[Bool.cond_eq_ite];by_cases c:ty=0
 ·simp[c];try omega
 ·simp[c];try omega
theorem aGt(ty to sym num:Int)(a i:List D):D.toB (bS (dO 13 ty to sym num a i))=D.toB (dG (dO 13 ty to sym num a i)):=by
 have d:iV 13=.l [.i 2,.i 0,.b false,.b false]:=by kernel_rfl
 simp only[bS,dG,bU,cM,bO,bL,bP,bI,bY,bW,bZ,cA,dK,cV,dJ,dO,vI,vB,iX,qL,jO,rL,kB,kN,kX,sX,sY,sZ,tC,d,dR,fS];simp only[dW,eD,eA];rw[Bool.eq_iff_iff];generalize a.length=x;generalize i.length=y;simp[Bool.cond_eq_ite];by_cases c:ty=0
 ·simp[c];try omega
 ·simp[c];try omega
theorem aGu(ty to sym num:Int)(a i:List D):D.toB (bS (dO 14 ty to sym num a i))=D.toB (dG (dO 14 ty to sym num a i)):=by
 have d:iV 14=.l [.i 2,.i 0,.b false,.b false]:=by kernel_rfl
 simp only[bS,dG,bU,cM,bO,bL,bP,bI,bY,bW,bZ,cA,dK,cV,dJ,dO,vI,vB,iX,qL,jO,rL,kB,kN,kX,sX,sY,sZ,tC,d,dR,fS];simp only[dW,eD,eA];rw[Bool.eq_iff_iff];generalize a.length=x;generalize i.length=y;simp[Bool.cond_eq_ite];by_cases c:ty=0
 ·simp[c];try omega
 ·simp[c];try omega
theorem aGv(ty to sym num:Int)(a i:List D):D.toB (bS (dO 15 ty to sym num a i))=D.toB (dG (dO 15 ty to sym num a i)):=by
 have d:iV 15=.l [.i 2,.i 0,.b false,.b false]:=by kernel_rfl
 simp only[bS,dG,bU,cM,bO,bL,bP,bI,bY,bW,bZ,cA,dK,cV,dJ,dO,vI,vB,iX,qL,jO,rL,kB,kN,kX,sX,sY,sZ,tC,d,dR,fS];simp only[dW,eD,eA];rw[Bool.eq_iff_iff];generalize a.length=x;generalize i.length=y;simp[Bool.cond_eq_ite];by_cases c:ty=0
 ·simp[c];try omega
 ·simp[c];try omega
theorem aGw(ty to sym num:Int)(a i:List D):D.toB (bS (dO 16 ty to sym num a i))=D.toB (dG (dO 16 ty to sym num a i)):=by
 have d:iV 16=.l [.i 1,.i 0,.b false,.b false]:=by kernel_rfl
 simp only[bS,dG,bU,cM,bO,bL,bP,bI,bY,bW,bZ,cA,dK,cV,dJ,dO,vI,vB,iX,qL,jO,rL,kB,kN,kX,sX,sY,sZ,tC,d,dR,fS];simp only[dW,eD,eA];rw[Bool.eq_iff_iff];generalize a.length=x;generalize i.length=y;simp[Bool.cond_eq_ite];by_cases c:ty=0
 ·simp[c];try omega
 ·simp[c];try omega
theorem aGx(ty to sym num:Int)(a i:List D):D.toB (bS (dO 17 ty to sym num a i))=D.toB (dG (dO 17 ty to sym num a i)):=by
 have d:iV 17=.l [.i 3,.i 0,.b false,.b false]:=by kernel_rfl
 simp only[bS,dG,bU,cM,bO,bL,bP,bI,bY,bW,bZ,cA,dK,cV,dJ,dO,vI,vB,iX,qL,jO,rL,kB,kN,kX,sX,sY,sZ,tC,d,dR,fS];simp only[dW,eD,eA];rw[Bool.eq_iff_iff];generalize a.length=x;generalize i.length=y;simp[Bool.cond_eq_ite];by_cases c:ty=0
 ·simp[c];try omega
 ·simp[c];try omega
theorem aGy(ty to sym num:Int)(a i:List D):D.toB (bS (dO 18 ty to sym num a i))=D.toB (dG (dO 18 ty to sym num a i)):=by
 have d:iV 18=.l [.i 0,.i 0,.b false,.b true]:=by kernel_rfl
 simp only[bS,dG,bU,cM,bO,bL,bP,bI,bY,bW,bZ,cA,dK,cV,dJ,dO,vI,vB,iX,qL,jO,rL,kB,kN,kX,sX,sY,sZ,tC,d,dR,fS];simp only[dW,eD,eA];rw[Bool.eq_iff_iff];generalize a.length=x;generalize i.length=y;simp[Bool.cond_eq_ite];by_cases c:ty=0
 ·simp[c];try omega
 ·simp[c];try omega
theorem aGz(ty to sym num:Int)(a i:List D):D.toB (bS (dO 19 ty to sym num a i))=D.toB (dG (dO 19 ty to sym num a i)):=by
 have d:iV 19=.l [.i 2,.i 0,.b false,.b false]:=by kernel_rfl
 simp only[bS,dG,bU,cM,bO,bL,bP,bI,bY,bW,bZ,cA,dK,cV,dJ,dO,vI,vB,iX,qL,jO,rL,kB,kN,kX,sX,sY,sZ,tC,d,dR,fS];simp only[dW,eD,eA];rw[Bool.eq_iff_iff];generalize a.length=x;generalize i.length=y;simp[Bool.cond_eq_ite];by_cases c:ty=0
 ·simp[c];try omega
 ·simp[c];try omega
theorem aGA(ty to sym num:Int)(a i:List D):D.toB (bS (dO 20 ty to sym num a i))=D.toB (dG (dO 20 ty to sym num a i)):=by
 have d:iV 20=.l [.i 1,.i 0,.b false,.b false]:=by kernel_rfl
 simp only[bS,dG,bU,cM,bO,bL,bP,bI,bY,bW,bZ,cA,dK,cV,dJ,dO,vI,vB,iX,qL,jO,rL,kB,kN,kX,sX,sY,sZ,tC,d,dR,fS];simp only[dW,eD,eA];rw[Bool.eq_iff_iff];generalize a.length=x;generalize i.length=y;simp[Bool.cond_eq_ite];by_cases c:ty=0
 ·simp[c];try omega
 ·simp[c];try omega
theorem aGB(ty to sym num:Int)(a i:List D):D.toB (bS (dO 21 ty to sym num a i))=D.toB (dG (dO 21 ty to sym num a i)):=by
 have d:iV 21=.l [.i 2,.i 0,.b false,.b false]:=by kernel_rfl
 simp only[bS,dG,bU,cM,bO,bL,bP,bI,bY,bW,bZ,cA,dK,cV,dJ,dO,vI,vB,iX,qL,jO,rL,kB,kN,kX,sX,sY,sZ,tC,d,dR,fS];simp only[dW,eD,eA];rw[Bool.eq_iff_iff];generalize a.length=x;generalize i.length=y;simp[Bool.cond_eq_ite];by_cases c:ty=0
 ·simp[c];try omega
 ·simp[c];try omega
theorem aGC(ty to sym num:Int)(a i:List D):D.toB (bS (dO 22 ty to sym num a i))=D.toB (dG (dO 22 ty to sym num a i)):=by
 have d:iV 22=.l [.i (-1),.i 0,.b true,.b false]:=by kernel_rfl
 simp only[bS,dG,bU,cM,bO,bL,bP,bI,bY,bW,bZ,cA,dK,cV,dJ,dO,vI,vB,iX,qL,jO,rL,kB,kN,kX,sX,sY,sZ,tC,d,dR,fS];simp only[dW,eD,eA];rw[Bool.eq_iff_iff];generalize a.length=x;generalize i.length=y;simp[Bool.cond_eq_ite];by_cases c:ty=0
 ·simp[c];try omega
 ·simp[c];try omega
theorem aGD(ty to sym num:Int)(a i:List D):D.toB (bS (dO 23 ty to sym num a i))=D.toB (dG (dO 23 ty to sym num a i)):=by
 have d:iV 23=.l [.i (-1),.i 0,.b true,.b false]:=by kernel_rfl
 simp only[bS,dG,bU,cM,bO,bL,bP,bI,bY,bW,bZ,cA,dK,cV,dJ,dO,vI,vB,iX,qL,jO,rL,kB,kN,kX,sX,sY,sZ,tC,d,dR,fS];simp only[dW,eD,eA];rw[Bool.eq_iff_iff];generalize a.length=x;generalize i.length=y;simp[Bool.cond_eq_ite];by_cases c:ty=0
 ·simp[c];try omega
 ·simp[c];try omega
theorem aGE(ty to sym num:Int)(a i:List D):D.toB (bS (dO 24 ty to sym num a i))=D.toB (dG (dO 24 ty to sym num a i)):=by
 have d:iV 24=.l [.i 1,.i 0,.b true,.b false]:=by kernel_rfl
 simp only[bS,dG,bU,cM,bO,bL,bP,bI,bY,bW,bZ,cA,dK,cV,dJ,dO,vI,vB,iX,qL,jO,rL,kB,kN,kX,sX,sY,sZ,tC,d,dR,fS];simp only[dW,eD,eA];rw[Bool.eq_iff_iff];generalize a.length=x;generalize i.length=y;simp[Bool.cond_eq_ite];by_cases c:ty=0
 ·simp[c];try omega
 ·simp[c];try omega
theorem aGF(ty to sym num:Int)(a i:List D):D.toB (bS (dO 25 ty to sym num a i))=D.toB (dG (dO 25 ty to sym num a i)):=by
 have d:iV 25=.l [.i (-1),.i 0,.b false,.b false]:=by kernel_rfl
 simp only[bS,dG,bU,cM,bO,bL,bP,bI,bY,bW,bZ,cA,dK,cV,dJ,dO,vI,vB,iX,qL,jO,rL,kB,kN,kX,sX,sY,sZ,tC,d,dR,fS];simp only[dW,eD,eA];rw[Bool.eq_iff_iff];generalize a.length=x;generalize i.length=y;simp[Bool.cond_eq_ite];by_cases c:ty=0
 ·simp[c];try omega
 ·simp[c];try omega
theorem aGG(ty to sym num:Int)(a i:List D):D.toB (bS (dO 26 ty to sym num a i))=D.toB (dG (dO 26 ty to sym num a i)):=by
 have d:iV 26=.l [.i (-1),.i (-1),.b false,.b false]:=by kernel_rfl
 simp only[bS,dG,bU,cM,bO,bL,bP,bI,bY,bW,bZ,cA,dK,cV,dJ,dO,vI,vB,iX,qL,jO,rL,kB,kN,kX,sX,sY,sZ,tC,d,dR,fS];simp only[dW,eD,eA];rw[Bool.eq_iff_iff];generalize a.length=x;generalize i.length=y;simp[Bool.cond_eq_ite];by_cases c:ty=0
 ·simp[c];try omega
 ·simp[c];try omega
theorem aGH(ty to sym num:Int)(a i:List D):D.toB (bS (dO 27 ty to sym num a i))=D.toB (dG (dO 27 ty to sym num a i)):=by
 have d:iV 27=.l [.i 0,.i 1,.b false,.b false]:=by kernel_rfl
 simp only[bS,dG,bU,cM,bO,bL,bP,bI,bY,bW,bZ,cA,dK,cV,dJ,dO,vI,vB,iX,qL,jO,rL,kB,kN,kX,sX,sY,sZ,tC,d,dR,fS];simp only[dW,eD,eA];rw[Bool.eq_iff_iff];generalize a.length=x;generalize i.length=y;simp[Bool.cond_eq_ite];by_cases c:ty=0
 ·simp[c];try omega
 ·simp[c];try omega
theorem aGI(ty to sym num:Int)(a i:List D):D.toB (bS (dO 28 ty to sym num a i))=D.toB (dG (dO 28 ty to sym num a i)):=by
 have d:iV 28=.l [.i 1,.i 2,.b false,.b false]:=by kernel_rfl
 simp only[bS,dG,bU,cM,bO,bL,bP,bI,bY,bW,bZ,cA,dK,cV,dJ,dO,vI,vB,iX,qL,jO,rL,kB,kN,kX,sX,sY,sZ,tC,d,dR,fS];simp only[dW,eD,eA];rw[Bool.eq_iff_iff];generalize a.length=x;generalize i.length=y;simp[Bool.cond_eq_ite];by_cases c:ty=0
 ·simp[c];try omega
 ·simp[c];try omega
theorem aGJ(ty to sym num:Int)(a i:List D):D.toB (bS (dO 29 ty to sym num a i))=D.toB (dG (dO 29 ty to sym num a i)):=by
 have d:iV 29=.l [.i (-1),.i 0,.b false,.b false]:=by kernel_rfl
 simp only[bS,dG,bU,cM,bO,bL,bP,bI,bY,bW,bZ,cA,dK,cV,dJ,dO,vI,vB,iX,qL,jO,rL,kB,kN,kX,sX,sY,sZ,tC,d,dR,fS];simp only[dW,eD,eA];rw[Bool.eq_iff_iff];generalize a.length=x;generalize i.length=y;simp[Bool.cond_eq_ite];by_cases c:ty=0
 ·simp[c];try omega
 ·simp[c];try omega
theorem aGK(ty to sym num:Int)(a i:List D):D.toB (bS (dO 30 ty to sym num a i))=D.toB (dG (dO 30 ty to sym num a i)):=by
 have d:iV 30=.l [.i 0,.i 0,.b false,.b false]:=by kernel_rfl
 simp only[bS,dG,bU,cM,bO,bL,bP,bI,bY,bW,bZ,cA,dK,cV,dJ,dO,vI,vB,iX,qL,jO,rL,kB,kN,kX,sX,sY,sZ,tC,d,dR,fS];simp only[dW,eD,eA];rw[Bool.eq_iff_iff];generalize a.length=x;generalize i.length=y;simp[Bool.cond_eq_ite];by_cases c:ty=0
 ·simp[c];try omega
 ·simp[c];try omega
theorem aED(op ty to sym num:Int)(a i:List D)(h:(aT op 1||aT 30 op)=true):D.toB (bS (dO op ty to sym num a i))=D.toB (dG (dO op ty to sym num a i)):=by simp only[bS,dG,bU,cM,dK,cV,dJ,dO,vI,qL,jO,kB,h,Bool.true_or,cond_true]
theorem Xk(op ty to sym num:Int)(a i:List D):D.toB (bS (dO op ty to sym num a i))=D.toB (dG (dO op ty to sym num a i)):=by
 cases h:(aT op 1||aT 30 op)with
 |true=>exact aED op ty to sym num a i h
 |false=>
  have d:1<=op/\op<=30:=by simp only[Bool.or_eq_false_iff]at h;exact⟨jI h.1,jI h.2⟩
  obtain⟨d,e⟩:=d;have c:op=1\/op=2\/op=3\/op=4\/op=5\/op=6\/op=7\/op=8\/op=9\/op=10\/op=11\/op=12\/op=13\/op=14\/op=15\/op=16\/op=17\/op=18\/op=19\/op=20\/op=21\/op=22\/op=23\/op=24\/op=25\/op=26\/op=27\/op=28\/op=29\/op=30:=by omega
  rcases c with c |c |c |c |c |c |c |c |c |c |c |c |c |c |c |c |c |c |c |c |c |c |c |c |c |c |c |c |c |c<;>subst c
  ·exact sf1 ty to sym num a i
  ·exact sf2 ty to sym num a i
  ·exact sf3 ty to sym num a i
  ·exact sf4 ty to sym num a i
  ·exact sf5 ty to sym num a i
  ·exact sf6 ty to sym num a i
  ·exact sf7 ty to sym num a i
  ·exact sf8 ty to sym num a i
  ·exact sf9 ty to sym num a i
  ·exact aGq ty to sym num a i
  ·exact aGr ty to sym num a i
  ·exact aGs ty to sym num a i
  ·exact aGt ty to sym num a i
  ·exact aGu ty to sym num a i
  ·exact aGv ty to sym num a i
  ·exact aGw ty to sym num a i
  ·exact aGx ty to sym num a i
  ·exact aGy ty to sym num a i
  ·exact aGz ty to sym num a i
  ·exact aGA ty to sym num a i
  ·exact aGB ty to sym num a i
  ·exact aGC ty to sym num a i
  ·exact aGD ty to sym num a i
  ·exact aGE ty to sym num a i
  ·exact aGF ty to sym num a i
  ·exact aGG ty to sym num a i
  ·exact aGH ty to sym num a i
  ·exact aGI ty to sym num a i
  ·exact aGJ ty to sym num a i
  ·exact aGK ty to sym num a i
end Go.Eng.Q

namespace Go.Eng.Q
open Go.Eng
theorem Oh(x:D):(!(D.toB (bS (Cr x))))=qC x:=by unfold qC;exact congrArg Bool.not (Xk (vI x 0) (vI x 1) (vI x 2) (vI x 3) (vI x 4) (eX x 5) (eX x 6))
theorem H8(o:Bool)(t:Int):((aT t 1||aT 4 t)||(o&&!Dm t))=((aT t 1||aT 4 t)||(o&&aT 2 t)):=by rw[Bool.eq_iff_iff];simp only[Dm,dW,eA,eD];cases o<;>simp<;>omega
theorem H9(o:Bool)(r:Int):((!(aD r 0)&&!Dm r)&&(!(aD r 4)||o))=OP o r:=by rw[Bool.eq_iff_iff];simp only[OP,Dm,dW,eA,eD];cases o<;>simp<;>omega
section
variable(xs gs ts fs ps bs:List D)(nm:List UInt8)(o:Bool)(r j:Int)
theorem Jj(n:Int)(l:List D)(e:cD l):
  fC nM 2 [.l l,.i n,.i 0,.l xs,.i (l.length:Int),.i j,.l xs,.l gs,.l ts,.l fs,.s nm,.l l,.i r] (bif l.any FQ then(0,[.i n,.b false,.l xs,.i j,.l xs,.l gs,.l ts,.l fs,.s nm,.l l,.i r])else(1,[.i n,.l xs,.i j,.l xs,.l gs,.l ts,.l fs,.s nm,.l l,.i r])):=by
 refine qR nN (λq=>[.l l,.i n,.i (q:Int),.l xs,.i (l.length:Int),.i j,.l xs,.l gs,.l ts,.l fs,.s nm,.l l,.i r]) l FQ (λq c=>?_) ?_
 ·cases d:FQ (gD l q)with
  |true=>refine .inl ⟨rfl,?_⟩;show Ev _ _ (mM _) _;unfold mM;exact aC (aW c) (aC (aE c) (bK (iZ (D.toI (gD l q))) rfl (aC d (bG rfl))))
  |false=>refine .inr ⟨rfl,?_⟩;show Ev _ _ (mM _) _;unfold mM;exact aC (aW c) (aC (aE c) (bK (iZ (D.toI (gD l q))) rfl (aJ d (aO (by simp[eY c e])))))
 ·show Ev _ _ (mM _) _;unfold mM;exact aJ (aX _) (bG rfl)
theorem Dn(ins:List D)(n lb d:Int)(f:cD ins):
  fC nM 10 [.l ins,.i 0,.i n,.i lb,.i (ins.length:Int),.l fs,.l bs,.i j,.i d] (bif ins.any qC then(0,[.i n,.i lb,.b false,.l fs,.l bs,.i j,.i d])else(1,[.i n,.i lb,.l fs,.l bs,.i j,.i d])):=by
 refine qR nN (λq=>[.l ins,.i (q:Int),.i n,.i lb,.i (ins.length:Int),.l fs,.l bs,.i j,.i d]) ins qC (λq c=>?_) ?_
 ·cases e:qC (gD ins q)with
  |true=>refine .inl ⟨rfl,?_⟩;show Ev _ _ (lE _) _;unfold lE;exact aC (aW c) (aC (aE c) (bK (VZ (Cr (gD ins q))) rfl (aC ((Oh _).trans e) (bG rfl))))
  |false=>refine .inr ⟨rfl,?_⟩;show Ev _ _ (lE _) _;unfold lE;exact aC (aW c) (aC (aE c) (bK (VZ (Cr (gD ins q))) rfl (aJ ((Oh _).trans e) (aO (by simp[eY c f])))))
 ·show Ev _ _ (lE _) _;unfold lE;exact aJ (aX _) (bG rfl)
theorem Jk(n:Int)(g:cD bs)(f:∀j,j<bs.length->U1 (gD bs j)):
  fC nM 8 [.i n,.i (bs.length:Int),.l fs,.l bs,.i j,.i 0] (bif bs.any FR then(0,[.i n,.b false,.l fs,.i j])else(1,[.i n,.l fs,.i j])):=by
 refine qR nN (λq=>[.i n,.i (bs.length:Int),.l fs,.l bs,.i j,.i (q:Int)]) bs FR (λq c=>?_) ?_
 ·have d:=Dn fs bs j (gD bs q).els n (bs.length:Int) (q:Int) (f q c).ins;cases e:FR (gD bs q)with
  |true=>rw[show(gD bs q).els.any qC=true from e]at d;refine .inl ⟨rfl,?_⟩;show Ev _ _ (mN _) _;unfold mN;exact aC (aW c) (aC (aE c) (aP d (bD (bG rfl))))
  |false=>rw[show(gD bs q).els.any qC=false from e]at d;refine .inr ⟨rfl,?_⟩;show Ev _ _ (mN _) _;unfold mN;exact aC (aW c) (aC (aE c) (aP d (eB (bD (aO (by simp[eY c g]))))))
 ·show Ev _ _ (mN _) _;unfold mN;exact aJ (aX _) (bG rfl)
theorem Jl(n:Int)(h:cD ps):
  fC nM 6 [.i 0,.l ps,.i n,.l fs,.i (ps.length:Int),.i j,.s nm,.b o,.l ps,.i r,.l bs] (bif ps.any (qS o)then(0,[.i n,.b false,.l fs,.i j,.s nm,.b o,.l ps,.i r,.l bs])else(1,[.i n,.l fs,.i j,.s nm,.b o,.l ps,.i r,.l bs])):=by
 refine qR nN (λq=>[.i (q:Int),.l ps,.i n,.l fs,.i (ps.length:Int),.i j,.s nm,.b o,.l ps,.i r,.l bs]) ps (qS o) (λq c=>?_) ?_
 ·have f:((aT (gD ps q).toI 1||aT 4 (gD ps q).toI)||(o&&!Dm (gD ps q).toI))=qS o (gD ps q):=H8 o _;cases d:(!(aT (gD ps q).toI 1||aT 4 (gD ps q).toI)&&(o&&true))with
  |true=>
   cases e:qS o (gD ps q)with
   |true=>refine .inl ⟨rfl,?_⟩;show Ev _ _ (fZ _) _;unfold fZ;exact aC (aW c) (aC (aE c) (aC d (bK (iZ (D.toI (gD ps q))) rfl (aC (f.trans e) (bG rfl)))))
   |false=>refine .inr ⟨rfl,?_⟩;show Ev _ _ (fZ _) _;unfold fZ;exact aC (aW c) (aC (aE c) (aC d (bK (iZ (D.toI (gD ps q))) rfl (aJ (f.trans e) (aO (by simp[eY c h]))))))
  |false=>
   have g:((aT (gD ps q).toI 1||aT 4 (gD ps q).toI)||(o&&true))=qS o (gD ps q):=by
    rw[<-f];cases l:(aT (gD ps q).toI 1||aT 4 (gD ps q).toI)with
    |true=>rfl
    |false=>rw[l]at d;cases o with
     |true=>simp at d
     |false=>rfl
   cases e:qS o (gD ps q)with
   |true=>refine .inl ⟨rfl,?_⟩;show Ev _ _ (fZ _) _;unfold fZ;exact aC (aW c) (aC (aE c) (aJ d (aC (g.trans e) (bG rfl))))
   |false=>refine .inr ⟨rfl,?_⟩;show Ev _ _ (fZ _) _;unfold fZ;exact aC (aW c) (aC (aE c) (aJ d (aJ (g.trans e) (aO (by simp[eY c h])))))
 ·show Ev _ _ (fZ _) _;unfold fZ;exact aJ (aX _) (bG rfl)
end
theorem aBM(x:D):((eX x 1).any FQ||(!(aD (vI x 2) 0)&&!Dm (vI x 2)))=EV x:=by unfold EV;rw[l9,Bool.or_comm]
theorem Jm(xs gs ts fs:List D)(m:cD xs)(r:∀j,j<xs.length->cD (eX (gD xs j) 1)):
  fC nM 0 [.i (xs.length:Int),.l xs,.i 0,.l xs,.l gs,.l ts,.l fs] (bif xs.any EV then(0,[.b false,.l xs,.l gs,.l ts,.l fs])else(1,[.l xs,.l gs,.l ts,.l fs])):=by
 refine qR nN (λj=>[.i (xs.length:Int),.l xs,.i (j:Int),.l xs,.l gs,.l ts,.l fs]) xs EV (λj c=>?_) ?_
 ·have f:=Jj xs gs ts fs (D.toS (D.fld (gD xs j) 0)) (vI (gD xs j) 2) (j:Int) (xs.length:Int) (eX (gD xs j) 1) (r j c);have d:=aBM (gD xs j);cases l:(eX (gD xs j) 1).any FQ with
  |true=>rw[l]at f d;refine .inl ⟨by rw[<-d,Bool.true_or],?_⟩;show Ev _ _ (fY _) _;unfold fY;exact aC (aW c) (aC (aE c) (aP f (bD (bG rfl))))
  |false=>
   rw[l]at f d;rw[Bool.false_or]at d;have nx:[D.i (xs.length:Int),D.l xs,D.i ((j+1:Nat):Int),D.l xs,D.l gs,D.l ts,D.l fs]=[D.i (xs.length:Int),D.l xs,D.i (aG .i64 (j:Int) 1),D.l xs,D.l gs,D.l ts,D.l fs]:=by rw[eY c m]
   cases e:aD (vI (gD xs j) 2) 0 with
   |true=>rw[e]at d;refine .inr ⟨d.symm,?_⟩;show Ev _ _ (fY _) _;unfold fY;exact aC (aW c) (aC (aE c) (aP f (eB (bD (aJ (congrArg (λb=>(!b)&&true) e) (aJ (congrArg (λb=>(!b)&&(!(D.toB (.i 0)))) e) (aO nx)))))))
   |false=>
    rw[e]at d;have g:((!(aD (vI (gD xs j) 2) 0))&&(!(Dm (vI (gD xs j) 2))))=EV (gD xs j):=by rw[e];exact d
    cases h:EV (gD xs j)with
    |true=>refine .inl ⟨rfl,?_⟩;show Ev _ _ (fY _) _;unfold fY;exact aC (aW c) (aC (aE c) (aP f (eB (bD (aC (congrArg (λb=>(!b)&&true) e) (bK (iZ (vI (gD xs j) 2)) rfl (aC (g.trans h) (bG rfl))))))))
    |false=>refine .inr ⟨rfl,?_⟩;show Ev _ _ (fY _) _;unfold fY;exact aC (aW c) (aC (aE c) (aP f (eB (bD (aC (congrArg (λb=>(!b)&&true) e) (bK (iZ (vI (gD xs j) 2)) rfl (aJ (g.trans h) (aO nx))))))))
 ·show Ev _ _ (fY _) _;unfold fY;exact aJ (aX _) (bG rfl)
theorem Jn(fs:List D)(s:cD fs)(hf:∀j,j<fs.length->Jh (gD fs j)):
  fC nM 4 [.i (fs.length:Int),.l fs,.i 0] (bif fs.any pH then(0,[.b false])else(1,[])):=by
 refine qR nN (λj=>[.i (fs.length:Int),.l fs,.i (j:Int)]) fs pH (λj c=>?_) ?_
 ·have f:=Jl fs (eX (gD fs j) 2) (eX (gD fs j) 4) (D.toS (D.fld (gD fs j) 0)) (vB (gD fs j) 1) (vI (gD fs j) 3) (j:Int) (fs.length:Int) (hf j c).ps;have h:=Jk fs (eX (gD fs j) 4) (j:Int) (fs.length:Int) (hf j c).bs (hf j c).b;have m:=H9 (vB (gD fs j) 1) (vI (gD fs j) 3);have nx:[D.i (fs.length:Int),D.l fs,D.i ((j+1:Nat):Int)]=[D.i (fs.length:Int),D.l fs,D.i (aG .i64 (j:Int) 1)]:=by rw[eY c s]
  cases r:aD (vI (gD fs j) 3) 0 with
  |true=>
   rw[r]at m;have d:OP (vB (gD fs j) 1) (vI (gD fs j) 3)=false:=by rw[<-m];rfl
   have l:=congrArg (λb=>(!b)&&true) r;have z2:=congrArg (λb=>((!b)&&(!(D.toB (.i 0))))&&((!(aD (vI (gD fs j) 3) 4))||(vB (gD fs j) 1))) r;cases e:(eX (gD fs j) 2).any (qS (vB (gD fs j) 1))with
   |true=>rw[e]at f;refine .inl ⟨by simp only[pH,d,e,Bool.true_or,Bool.or_true],?_⟩;show Ev _ _ (dM _) _;unfold dM;exact aC (aW c) (aC (aE c) (aJ l (aJ z2 (aP f (bD (bG rfl))))))
   |false=>
   rw[e]at f;cases g:(eX (gD fs j) 4).any FR with
   |true=>rw[g]at h;refine .inl ⟨by simp only[pH,d,e,g,Bool.false_or],?_⟩;show Ev _ _ (dM _) _;unfold dM;exact aC (aW c) (aC (aE c) (aJ l (aJ z2 (aP f (eB (bD (aP h (bD (bG rfl)))))))))
   |false=>rw[g]at h;refine .inr ⟨by simp only[pH,d,e,g,Bool.false_or],?_⟩;show Ev _ _ (dM _) _;unfold dM;exact aC (aW c) (aC (aE c) (aJ l (aJ z2 (aP f (eB (bD (aP h (eB (bD (aO nx))))))))))
  |false=>
   have l:=congrArg (λb=>(!b)&&true) r;cases d:OP (vB (gD fs j) 1) (vI (gD fs j) 3)with
   |true=>refine .inl ⟨by simp only[pH,d,Bool.true_or],?_⟩;show Ev _ _ (dM _) _;unfold dM;exact aC (aW c) (aC (aE c) (aC l (bK (iZ (vI (gD fs j) 3)) rfl (aC (m.trans d) (bG rfl)))))
   |false=>
   cases e:(eX (gD fs j) 2).any (qS (vB (gD fs j) 1))with
   |true=>rw[e]at f;refine .inl ⟨by simp only[pH,d,e,Bool.true_or,Bool.or_true],?_⟩;show Ev _ _ (dM _) _;unfold dM;exact aC (aW c) (aC (aE c) (aC l (bK (iZ (vI (gD fs j) 3)) rfl (aJ (m.trans d) (aP f (bD (bG rfl)))))))
   |false=>
   rw[e]at f;cases g:(eX (gD fs j) 4).any FR with
   |true=>rw[g]at h;refine .inl ⟨by simp only[pH,d,e,g,Bool.false_or],?_⟩;show Ev _ _ (dM _) _;unfold dM;exact aC (aW c) (aC (aE c) (aC l (bK (iZ (vI (gD fs j) 3)) rfl (aJ (m.trans d) (aP f (eB (bD (aP h (bD (bG rfl))))))))))
   |false=>rw[g]at h;refine .inr ⟨by simp only[pH,d,e,g,Bool.false_or],?_⟩;show Ev _ _ (dM _) _;unfold dM;exact aC (aW c) (aC (aE c) (aC l (bK (iZ (vI (gD fs j) 3)) rfl (aJ (m.trans d) (aP f (eB (bD (aP h (eB (bD (aO nx)))))))))))
 ·show Ev _ _ (dM _) _;unfold dM;exact aJ (aX _) (bG rfl)
theorem Su(xs gs ts fs:List D)(h:Xi xs gs ts fs):iS E aY sites YP [.l [.l xs,.l gs,.l ts,.l fs]] (.b (lG xs fs)) []:=by
 refine bA nN (by rfl) rfl ?_;show Ev _ _ (MH _) _;unfold MH;have c:=Jm xs gs ts fs h.hx h.x;have e:=Jn fs h.hf h.f;cases e1:xs.any EV with
 |true=>rw[e1]at c;exact aP c (bD (bJ (congrArg D.b (show lG xs fs=false by simp only[lG,e1,Bool.not_true,Bool.false_and])) rfl))
 |false=>
 rw[e1]at c;cases d:fs.any pH with
 |true=>rw[d]at e;exact aP c (eB (bD (aP e (bD (bJ (congrArg D.b (show lG xs fs=false by simp only[lG,d,Bool.not_true,Bool.and_false])) rfl)))))
 |false=>rw[d]at e;exact aP c (eB (bD (aP e (eB (bD (bJ (congrArg D.b (show lG xs fs=true by simp only[lG,e1,d,Bool.not_false,Bool.and_self])) rfl))))))
end Go.Eng.Q

namespace Go.Eng.Q
open Go.Eng
structure U2(op ty to sym num:Int)(na ni:Nat):Prop where
 o1:1<=op
 o2:op<=30
 t1:0<=ty
 t2:ty<=4
 to:ty=0/\to=0\/ty≠0/\1<=to
 sy:sym=0\/op=2\/op=3\/op=22\/op=23\/op=24
 room:op=18->1<=num/\num<=16
 a0:(op=1\/op=2\/op=3\/op=18\/op=27\/op=30)->na=0
 a1:(op=16\/op=20\/op=24\/op=28)->na=1
 a2:(4<=op/\op<=15\/op=19\/op=21)->na=2
 a3:op=17->na=3
 ac:(op=22\/op=23)->na<=5
 av:op=25->1<=na/\na<=6
 ap:op=26->1<=na/\ni=na
 ar:op=29->na<=1
 i1:op=27->ni=1
 i2:op=28->ni=2
 i0:op≠26->op≠27->op≠28->ni=0
 s0:(op=21\/27<=op)->ty=0
 s1:op≠21->op<=26->op≠22->op≠23->op≠25->ty≠0
set_option maxHeartbeats 4000000 in
theorem form_says(op ty to sym num:Int)(a i:List D)(h:D.toB (dG (dO op ty to sym num a i))=true):U2 op ty to sym num a.length i.length:=by
 have d:(aT op 1||aT 30 op)=false:=by
  cases d:(aT op 1||aT 30 op)with
  |false=>rfl
  |true=>simp only[dG,cM,dK,cV,dJ,dO,vI,qL,jO,kB,d,Bool.true_or,cond_true,kN]at h;cases h
 have e:1<=op/\op<=30:=by simp only[Bool.or_eq_false_iff]at d;exact⟨jI d.1,jI d.2⟩
 obtain⟨e,f⟩:=e;have c:op=1\/op=2\/op=3\/op=4\/op=5\/op=6\/op=7\/op=8\/op=9\/op=10\/op=11\/op=12\/op=13\/op=14\/op=15\/op=16\/op=17\/op=18\/op=19\/op=20\/op=21\/op=22\/op=23\/op=24\/op=25\/op=26\/op=27\/op=28\/op=29\/op=30:=by omega
 clear d e f;rcases c with c |c |c |c |c |c |c |c |c |c |c |c |c |c |c |c |c |c |c |c |c |c |c |c |c |c |c |c |c |c<;>subst c;all_goals
  simp only[dG,cM,bY,bW,bZ,cA,dK,cV,dJ,dO,vI,vB,iX,qL,jO,rL,kB,kN,kX,sX,sY,sZ,tC,iV,OK,MD,MC,fH,MB,MA,LZ,dR,fS,dW,eD,eA]at h;generalize a.length=x at h⊢;generalize i.length=y at h⊢;simp[Bool.cond_eq_ite,D.toB,D.toI,qL,jO,rL]at h;constructor<;>omega
end Go.Eng.Q

namespace Go.Eng.Q
open Go.Eng
abbrev O2(d:FD)(b:Bool)(t:Sh)(o:Nat×List D)(a:List D):Prop:=Og E aY sites d b t o a
def tD(nx ng nt nf op:Int):Int:=bif aD op 2||aD op 22 then nf else bif aD op 3 then ng else bif aD op 23 then nx else bif aD op 24 then nt else 1
def DK(nx ng nt nf:Int)(x:D):Bool:=aT (vI x 3) 0||cP (tD nx ng nt nf (vI x 0)) (vI x 3)
def Jo(nf:Int)(t:D):Bool:=aT t.toI (-1)||cP nf t.toI
def BA(nf:Int)(t:D):Bool:=(eX t 1).any (Jo nf)
def WA(nx ng nt nf:Int)(b:D):Bool:=b.els.any (DK nx ng nt nf)
def EW(nx ng nt nf:Int)(f:D):Bool:=(eX f 4).any (WA nx ng nt nf)
def EX(xs gs ts fs:List D):Bool:=!ts.any (BA fs.length)&&!fs.any (EW xs.length gs.length ts.length fs.length)
theorem aD2{nx ng nt nf op:Int}(h:aD op 2=true):tD nx ng nt nf op=nf:=by simp only[tD,h,Bool.true_or,cond_true]
theorem aBN{nx ng nt nf op:Int}(h:aD op 22=true):tD nx ng nt nf op=nf:=by simp only[tD,h,Bool.or_true,cond_true]
theorem aD3{nx ng nt nf op:Int}(h:aD op 2=false)(c:aD op 22=false):tD nx ng nt nf op=bif aD op 3 then ng else bif aD op 23 then nx else bif aD op 24 then nt else 1:=by simp only[tD,h,c,Bool.or_self,cond_false]
section
variable(xs gs ts fs:List D)
theorem n5(d c:Nat)(hf:c<fs.length)(r:d<(eX (gD fs c) 4).length)(C:cD (gD (eX (gD fs c) 4) d).els):
  fC qN 8 [.i (d:Int),.i 0,.i (c:Int),.l xs,.l gs,.l ts,.l fs] (bif WA xs.length gs.length ts.length fs.length (gD (eX (gD fs c) 4) d)then(0,[.i (d:Int),.b false,.i (c:Int),.l xs,.l gs,.l ts,.l fs])else(1,[.i (d:Int),.i (c:Int),.l xs,.l gs,.l ts,.l fs])):=by
 refine GL xX (λj=>[.i (d:Int),.i (j:Int),.i (c:Int),.l xs,.l gs,.l ts,.l fs]) (gD (eX (gD fs c) 4) d).els (DK xs.length gs.length ts.length fs.length) (λj t=>?_) ?_
 ·show O2 _ _ (zI _) _ _;unfold zI;refine oT (aE hf) (oT (aE r) (oT (aW t) (oT (aE hf) (oT (aE r) (oT (aE t) ?_)))));have m:=nx t C [.i (d:Int)] [.i (c:Int),.l xs,.l gs,.l ts,.l fs];have key:∀{op s:Int}{n:Int},tD xs.length gs.length ts.length fs.length op=n->(aT s 0||cP n s)=(aT s 0||cP (tD xs.length gs.length ts.length fs.length op) s):=λh=>by rw[h]
  have u:∀(v:tD xs.length gs.length ts.length fs.length (vI (gD (gD (eX (gD fs c) 4) d).els j) 0)=fs.length),O2 qN (DK xs.length gs.length ts.length fs.length (gD (gD (eX (gD fs c) 4) d).els j)) (ER [.i (d:Int),.i (j:Int),.i (c:Int),.l xs,.l gs,.l ts,.l fs]) (0,[.i (d:Int),.b false,.i (c:Int),.l xs,.l gs,.l ts,.l fs]) [.i (d:Int),.i ((j+1:Nat):Int),.i (c:Int),.l xs,.l gs,.l ts,.l fs]:=λv=>by unfold ER;exact oE (key v) rfl m
  have y:∀(g:aD (vI (gD (gD (eX (gD fs c) 4) d).els j) 0) 2=false)(l:aD (vI (gD (gD (eX (gD fs c) 4) d).els j) 0) 22=false),O2 qN (DK xs.length gs.length ts.length fs.length (gD (gD (eX (gD fs c) 4) d).els j)) (EQ [.i (d:Int),.i (j:Int),.i (c:Int),.l xs,.l gs,.l ts,.l fs]) (0,[.i (d:Int),.b false,.i (c:Int),.l xs,.l gs,.l ts,.l fs]) [.i (d:Int),.i ((j+1:Nat):Int),.i (c:Int),.l xs,.l gs,.l ts,.l fs]:=λg l=>by have f:=aD3 (nx:=xs.length) (ng:=gs.length) (nt:=ts.length) (nf:=fs.length) g l;unfold EQ;refine oX (λe=>oE (key (f.trans (congrArg (λb=>bif b then(gs.length:Int)else _) e))) rfl m) (λe=>?_);have f:=f.trans (congrArg (λb=>bif b then(gs.length:Int)else _) e);refine oX (λe=>oE (key (f.trans (congrArg (λb=>bif b then(xs.length:Int)else _) e))) rfl m) (λe=>?_);have f:=f.trans (congrArg (λb=>bif b then(xs.length:Int)else _) e);refine oX (λe=>oE (key (f.trans (congrArg (λb=>bif b then(ts.length:Int)else _) e))) rfl m) (λe=>?_);exact oE (key (f.trans (congrArg (λb=>bif b then(ts.length:Int)else _) e))) rfl m
  refine oX (λg=>oT g (u (aD2 g))) (λg=>oX (λl=>u (aBN l)) (λl=>y g l))
 ·show Ev _ _ (zI _) _;unfold zI;exact aC (aE hf) (aC (aE r) (aJ (aX _) (bG rfl)))
theorem n7(c:Nat)(hf:c<fs.length)(h:Jh (gD fs c)):
  fC qN 6 [.i 0,.i (c:Int),.l xs,.l gs,.l ts,.l fs] (bif EW xs.length gs.length ts.length fs.length (gD fs c)then(0,[.b false,.i (c:Int),.l xs,.l gs,.l ts,.l fs])else(1,[.i (c:Int),.l xs,.l gs,.l ts,.l fs])):=by
 refine GL xX (λj=>[.i (j:Int),.i (c:Int),.l xs,.l gs,.l ts,.l fs]) (eX (gD fs c) 4) (WA xs.length gs.length ts.length fs.length) (λj d=>?_) ?_
 ·show O2 _ _ (zH _) _ _;unfold zH;exact oT (aE hf) (oT (aW d) (oL (n5 xs gs ts fs j c hf d (h.b j d).ins) rfl (congrArg IX.again (nx d h.bs [] [.i (c:Int),.l xs,.l gs,.l ts,.l fs]).symm)))
 ·show Ev _ _ (zH _) _;unfold zH;exact aC (aE hf) (aJ (aX _) (bG rfl))
theorem n8(h:cD fs)(d:∀j,j<fs.length->Jh (gD fs j)):
  fC qN 4 [.i 0,.l xs,.l gs,.l ts,.l fs] (bif fs.any (EW xs.length gs.length ts.length fs.length)then(0,[.b false])else(1,[])):=by
 refine GL xX (λj=>[.i (j:Int),.l xs,.l gs,.l ts,.l fs]) fs (EW xs.length gs.length ts.length fs.length) (λj c=>?_) ?_
 ·show O2 _ _ (zG _) _ _;unfold zG;exact oT (aW c) (oL (n7 xs gs ts fs j c (d j c)) rfl (congrArg IX.again (nx c h [] [.l xs,.l gs,.l ts,.l fs]).symm))
 ·show Ev _ _ (zG _) _;unfold zG;exact aJ (aX _) (bG rfl)
theorem n9(c:Nat)(ht:c<ts.length)(h:cD (eX (gD ts c) 1)):
  fC qN 2 [.i (c:Int),.i 0,.l xs,.l gs,.l ts,.l fs] (bif BA fs.length (gD ts c)then(0,[.i (c:Int),.b false,.l xs,.l gs,.l ts,.l fs])else(1,[.i (c:Int),.l xs,.l gs,.l ts,.l fs])):=by
 refine GL xX (λj=>[.i (c:Int),.i (j:Int),.l xs,.l gs,.l ts,.l fs]) (eX (gD ts c) 1) (Jo fs.length) (λj d=>?_) ?_
 ·show O2 _ _ (zF _) _ _;unfold zF;exact oT (aE ht) (oT (aW d) (oT (aE ht) (oT (aE d) (oE rfl rfl (nx d h [.i (c:Int)] [.l xs,.l gs,.l ts,.l fs])))))
 ·show Ev _ _ (zF _) _;unfold zF;exact aC (aE ht) (aJ (aX _) (bG rfl))
theorem o7(h:cD ts)(d:∀j,j<ts.length->cD (eX (gD ts j) 1)):
  fC qN 0 [.i 0,.l xs,.l gs,.l ts,.l fs] (bif ts.any (BA fs.length)then(0,[.b false,.l xs,.l gs,.l ts,.l fs])else(1,[.l xs,.l gs,.l ts,.l fs])):=by
 refine GL xX (λj=>[.i (j:Int),.l xs,.l gs,.l ts,.l fs]) ts (BA fs.length) (λj c=>?_) ?_
 ·show O2 _ _ (zE _) _ _;unfold zE;exact oT (aW c) (oL (n9 xs gs ts fs j c (d j c)) rfl (congrArg IX.again (nx c h [] [.l xs,.l gs,.l ts,.l fs]).symm))
 ·show Ev _ _ (zE _) _;unfold zE;exact aJ (aX _) (bG rfl)
theorem I0(h:Xi xs gs ts fs):iS E aY sites Sd [.l [.l xs,.l gs,.l ts,.l fs]] (.b (EX xs gs ts fs)) []:=by
 refine bA xX (by rfl) rfl ?_;show Ev _ _ (YW _) _;unfold YW;have c:=o7 xs gs ts fs h.ht h.t;have d:=n8 xs gs ts fs h.hf h.f;unfold EX;cases e1:ts.any (BA fs.length)with
 |true=>rw[e1]at c;exact aP c (bD (bJ rfl rfl))
 |false=>
 rw[e1]at c;cases e:fs.any (EW xs.length gs.length ts.length fs.length)with
 |true=>rw[e]at d;exact aP c (eB (bD (aP d (bD (bJ rfl rfl)))))
 |false=>rw[e]at d;exact aP c (eB (bD (aP d (eB (bD (bJ rfl rfl))))))
end
end Go.Eng.Q

namespace Go.Eng.Q
open Go.Eng
def U3(x:D):Prop:=aD (vI x 0) 2=false->aD (vI x 0) 22=false->aD (vI x 0) 3=false->aD (vI x 0) 23=false->aD (vI x 0) 24=false->vI x 3=0
def aBO(f:D):Prop:=∀c,c<(eX f 4).length->∀j,j<(gD (eX f 4) c).els.length->U3 (gD (gD (eX f 4) c).els j)
theorem ST{a b:Int}(h:aD a b=false):a≠b:=λe=>by rw[e,(bT b b).2 rfl]at h;cases h
theorem aBP{x:D}(h:qC x=false):U3 x:=λd e f g j=>by
 have l:=form_says (vI x 0) (vI x 1) (vI x 2) (vI x 3) (vI x 4) (eX x 5) (eX x 6) (by
  unfold qC at h;cases c:D.toB (dG (Cr x))with
  |true=>exact c
  |false=>rw[c]at h;cases h)
 have:=l.sy;have:=ST d;have:=ST e;have:=ST f;have:=ST g;have:=ST j;omega
theorem WB{l:List D}{p:D->Bool}(h:l.any p=false):∀j,j<l.length->p (gD l j)=false:=λj c=>by
 have d:=List.any_eq_false.1 h (l[j]'c) (List.getElem_mem c);have e:gD l j=l[j]'c:=by simp[gD,List.getD,c]
 rw[e];simpa using d
theorem o8{xs fs:List D}(h:lG xs fs=true):∀j,j<fs.length->aBO (gD fs j):=λj g m l i f=>by
 unfold lG at h;have d:fs.any pH=false:=by
  cases e:fs.any pH with
  |false=>rfl
  |true=>rw[e,Bool.not_true,Bool.and_false]at h;cases h
 have c:=WB d j g;unfold pH at c;simp only[Bool.or_eq_false_iff]at c;exact aBP (WB (WB c.2.2 m l) i f)
section
variable(xs gs ts fs:List D)
theorem I1(c d nf nb:Int)(bs ins:List D)(G:cD ins)(H:∀j,j<ins.length->U3 (gD ins j)):
  fC oI 8 [.l bs,.i (ins.length:Int),.i c,.i nf,.i nb,.l fs,.i 0,.i d,.l ins,.l xs,.l gs,.l ts,.l fs] (bif ins.any (DK xs.length gs.length ts.length fs.length)then(0,[.l bs,.i c,.i nf,.b false,.i nb,.l fs,.i d,.l xs,.l gs,.l ts,.l fs])else(1,[.l bs,.i c,.i nf,.i nb,.l fs,.i d,.l xs,.l gs,.l ts,.l fs])):=by
 refine GL sP (λj=>[.l bs,.i (ins.length:Int),.i c,.i nf,.i nb,.l fs,.i (j:Int),.i d,.l ins,.l xs,.l gs,.l ts,.l fs]) ins (DK xs.length gs.length ts.length fs.length) (λj r=>?_) ?_
 ·show O2 _ _ (vC _) _ _;unfold vC;refine oT (aW r) (oT (aE r) ?_);have m:=nx r G [.l bs,.i (ins.length:Int),.i c,.i nf,.i nb,.l fs] [.i d,.l ins,.l xs,.l gs,.l ts,.l fs];have key:∀{op s:Int}{n:Int},tD xs.length gs.length ts.length fs.length op=n->(aT s 0||cP n s)=(aT s 0||cP (tD xs.length gs.length ts.length fs.length op) s):=λh=>by rw[h]
  have y:∀(C:tD xs.length gs.length ts.length fs.length (vI (gD ins j) 0)=fs.length),O2 oI (DK xs.length gs.length ts.length fs.length (gD ins j)) (AX [.l bs,.i (ins.length:Int),.i c,.i nf,.i nb,.l fs,.i (j:Int),.i d,.l ins,.l xs,.l gs,.l ts,.l fs]) (0,[.l bs,.i c,.i nf,.b false,.i nb,.l fs,.i d,.l xs,.l gs,.l ts,.l fs]) [.l bs,.i (ins.length:Int),.i c,.i nf,.i nb,.l fs,.i ((j+1:Nat):Int),.i d,.l ins,.l xs,.l gs,.l ts,.l fs]:=λC=>by unfold AX;exact oE (key C) rfl m
  have F:∀(f:aD (vI (gD ins j) 0) 2=false)(g:aD (vI (gD ins j) 0) 22=false),O2 oI (DK xs.length gs.length ts.length fs.length (gD ins j)) (AW [.l bs,.i (ins.length:Int),.i c,.i nf,.i nb,.l fs,.i (j:Int),.i d,.l ins,.l xs,.l gs,.l ts,.l fs]) (0,[.l bs,.i c,.i nf,.b false,.i nb,.l fs,.i d,.l xs,.l gs,.l ts,.l fs]) [.l bs,.i (ins.length:Int),.i c,.i nf,.i nb,.l fs,.i ((j+1:Nat):Int),.i d,.l ins,.l xs,.l gs,.l ts,.l fs]:=λf g=>by have e:=aD3 (nx:=xs.length) (ng:=gs.length) (nt:=ts.length) (nf:=fs.length) f g;unfold AW;refine oX (λl=>oE (key (e.trans (congrArg (λb=>bif b then(gs.length:Int)else _) l))) rfl m) (λt=>?_);have e:=e.trans (congrArg (λb=>bif b then(gs.length:Int)else _) t);refine oX (λl=>oE (key (e.trans (congrArg (λb=>bif b then(xs.length:Int)else _) l))) rfl m) (λu=>?_);have e:=e.trans (congrArg (λb=>bif b then(xs.length:Int)else _) u);refine oX (λl=>oE (key (e.trans (congrArg (λb=>bif b then(ts.length:Int)else _) l))) rfl m) (λv=>?_);have J:vI (gD ins j) 3=0:=H j r f g t u v;have e:=e.trans (congrArg (λb=>bif b then(ts.length:Int)else _) v);refine oE ?_ rfl m;unfold DK;rw[e];show(aT (vI (gD ins j) 3) 0||cP (aG .i64 (vI (gD ins j) 3) 1) (vI (gD ins j) 3))=_;rw[J];rfl
  refine oX (λf=>oT f (y (aD2 f))) (λf=>oX (λg=>y (aBN g)) (λg=>F f g))
 ·show Ev _ _ (vC _) _;unfold vC;exact aJ (aX _) (bG rfl)
theorem I2(c nf:Int)(bs:List D)(g:cD bs)(f:∀j,j<bs.length->U1 (gD bs j))(h:∀e,e<bs.length->∀j,j<(gD bs e).els.length->U3 (gD (gD bs e).els j)):
  fC oI 6 [.l bs,.i 0,.i nf,.i (bs.length:Int),.l fs,.i c,.l xs,.l gs,.l ts,.l fs] (bif bs.any (WA xs.length gs.length ts.length fs.length)then(0,[.i nf,.b false,.l fs,.i c,.l xs,.l gs,.l ts,.l fs])else(1,[.i nf,.l fs,.i c,.l xs,.l gs,.l ts,.l fs])):=by
 refine GL sP (λj=>[.l bs,.i (j:Int),.i nf,.i (bs.length:Int),.l fs,.i c,.l xs,.l gs,.l ts,.l fs]) bs (WA xs.length gs.length ts.length fs.length) (λj d=>?_) ?_
 ·show O2 _ _ (vA _) _ _;unfold vA;exact oT (aW d) (oT (aE d) (oL (I1 xs gs ts fs j c nf bs.length bs (gD bs j).els (f j d).ins (h j d)) rfl (congrArg IX.again (nx d g [.l bs] [.i nf,.i (bs.length:Int),.l fs,.i c,.l xs,.l gs,.l ts,.l fs]).symm)))
 ·show Ev _ _ (vA _) _;unfold vA;exact aJ (aX _) (bG rfl)
theorem I3(h:cD fs)(d:∀j,j<fs.length->Jh (gD fs j))(e:∀j,j<fs.length->aBO (gD fs j)):
  fC oI 4 [.i (fs.length:Int),.l fs,.i 0,.l xs,.l gs,.l ts,.l fs] (bif fs.any (EW xs.length gs.length ts.length fs.length)then(0,[.b false])else(1,[])):=by
 refine GL sP (λj=>[.i (fs.length:Int),.l fs,.i (j:Int),.l xs,.l gs,.l ts,.l fs]) fs (EW xs.length gs.length ts.length fs.length) (λj c=>?_) ?_
 ·show O2 _ _ (uZ _) _ _;unfold uZ;exact oT (aW c) (oT (aE c) (oL (I2 xs gs ts fs j fs.length (eX (gD fs j) 4) (d j c).bs (d j c).b (e j c)) rfl (congrArg IX.again (nx c h [.i (fs.length:Int),.l fs] [.l xs,.l gs,.l ts,.l fs]).symm)))
 ·show Ev _ _ (uZ _) _;unfold uZ;exact aJ (aX _) (bG rfl)
theorem I4(l:List D)(nt c:Int)(h:cD l):
  fC oI 2 [.l ts,.i (l.length:Int),.i c,.i nt,.i 0,.l l,.l xs,.l gs,.l ts,.l fs] (bif l.any (Jo fs.length)then(0,[.l ts,.i c,.b false,.i nt,.l xs,.l gs,.l ts,.l fs])else(1,[.l ts,.i c,.i nt,.l xs,.l gs,.l ts,.l fs])):=by
 refine GL sP (λj=>[.l ts,.i (l.length:Int),.i c,.i nt,.i (j:Int),.l l,.l xs,.l gs,.l ts,.l fs]) l (Jo fs.length) (λj d=>?_) ?_
 ·show O2 _ _ (uY _) _ _;unfold uY;exact oT (aW d) (oT (aE d) (oE rfl rfl (nx d h [.l ts,.i (l.length:Int),.i c,.i nt] [.l l,.l xs,.l gs,.l ts,.l fs])))
 ·show Ev _ _ (uY _) _;unfold uY;exact aJ (aX _) (bG rfl)
theorem I5(h:cD ts)(d:∀j,j<ts.length->cD (eX (gD ts j) 1)):
  fC oI 0 [.l ts,.i 0,.i (ts.length:Int),.l xs,.l gs,.l ts,.l fs] (bif ts.any (BA fs.length)then(0,[.b false,.l xs,.l gs,.l ts,.l fs])else(1,[.l xs,.l gs,.l ts,.l fs])):=by
 refine GL sP (λj=>[.l ts,.i (j:Int),.i (ts.length:Int),.l xs,.l gs,.l ts,.l fs]) ts (BA fs.length) (λj c=>?_) ?_
 ·show O2 _ _ (uX _) _ _;unfold uX;exact oT (aW c) (oT (aE c) (oL (I4 xs gs ts fs (eX (gD ts j) 1) ts.length j (d j c)) rfl (congrArg IX.again (nx c h [.l ts] [.i (ts.length:Int),.l xs,.l gs,.l ts,.l fs]).symm)))
 ·show Ev _ _ (uX _) _;unfold uX;exact aJ (aX _) (bG rfl)
theorem Xl(h:Xi xs gs ts fs)(f:lG xs fs=true):iS E aY sites Ij [.l [.l xs,.l gs,.l ts,.l fs]] (.b (EX xs gs ts fs)) []:=by
 refine bA sP (by rfl) rfl ?_;show Ev _ _ (RT _) _;unfold RT;have c:=I5 xs gs ts fs h.ht h.t;have d:=I3 xs gs ts fs h.hf h.f (o8 f);unfold EX;cases e1:ts.any (BA fs.length)with
 |true=>rw[e1]at c;exact aP c (bD (bJ rfl rfl))
 |false=>
 rw[e1]at c;cases e:fs.any (EW xs.length gs.length ts.length fs.length)with
 |true=>rw[e]at d;exact aP c (eB (bD (aP d (bD (bJ rfl rfl)))))
 |false=>rw[e]at d;exact aP c (eB (bD (aP d (eB (bD (bJ rfl rfl))))))
end
end Go.Eng.Q

namespace Go.Eng.Q
open Go.Eng
def JV(c:Int):Bool:=((aT c 97||aT 122 c)&&(aT c 48||aT 57 c))&&!(aD c 95)
def Xm(s:List UInt8):Bool:=aT s.length 1||aT 12 s.length
def Cs(s:List UInt8):Bool:=aT (iA s 0) 97||aT 122 (iA s 0)
def WC(s:List UInt8):Bool:=!Xm s&&(!Cs s&&!dS s.length λj=>JV (iA s (j:Int)))
theorem aBQ{s:List UInt8}(h:Xm s=false):0<s.length/\(s.length:Int)<=12:=by unfold Xm at h;simp only[Bool.or_eq_false_iff]at h;have c:=jI h.1;have d:=jI h.2;omega
theorem I6(s:List UInt8):iS E aY sites IJ [.s s] (.b (WC s)) []:=by
 refine bA ZM (by rfl) rfl ?_;show Ev _ _ (YU _) _;unfold YU;cases h:Xm s with
 |true=>refine aC (congrArg (λb=>(!(!b))||aA 0 s.length) h) (aC (congrArg (λb=>(!(!(b||aT (iA s 0) 97)))||aA 0 s.length) h) (aC (congrArg (λb=>(b||aT (iA s 0) 97)||aT 122 (iA s 0)) h) (bJ ?_ rfl)));unfold WC;rw[h];rfl
 |false=>
  obtain⟨l,m⟩:=aBQ h;have g:aA 0 s.length=true:=aE (j:=0) l;refine aC (aH g) (aC (aH g) ?_);cases c:Cs s with
  |true=>refine aC ((congrArg (λb=>(b||aT (iA s 0) 97)||aT 122 (iA s 0)) h).trans c) (bJ ?_ rfl);unfold WC;rw[h,c];rfl
  |false=>
   refine aJ ((congrArg (λb=>(b||aT (iA s 0) 97)||aT 122 (iA s 0)) h).trans c) ?_;have d:fC ZL 0 [.s s,.i 0] (bif dS s.length (λj=>JV (iA s (j:Int)))then(0,[.b false])else(1,[])):=by
    refine xD ZM (λj=>[.s s,.i (j:Int)]) s.length (λj=>JV (iA s (j:Int))) (λj e=>?_) ?_
    ·show O2 _ _ (zC _) _ _;unfold zC;exact oT (aW e) (oT (aE e) (oE rfl rfl (nx e (by omega) [.s s] [])))
    ·show Ev _ _ (zC _) _;unfold zC;exact aJ (aX _) (bG rfl)
   unfold WC;rw[h,c];cases f:dS s.length (λj=>JV (iA s (j:Int)))with
   |true=>rw[f]at d;exact aP d (bD (bJ rfl rfl))
   |false=>rw[f]at d;exact aP d (eB (bD (bJ rfl rfl)))
def Sv(s:List UInt8)(j:Nat):Bool:=(!(cP 97 (iA s j)&&cP (iA s j) 122))&&(aD (j:Int) 0||((!(aD (iA s j) 95))&&(aT (iA s j) 48||aT 57 (iA s j))))
theorem aBR(s:List UInt8):Sv s 0=Cs s:=by unfold Sv Cs;rw[show aD ((0:Nat):Int) 0=true from rfl,Bool.true_or,Bool.and_true];unfold aT;rw[Bool.not_and];rfl
theorem aEE(s:List UInt8){j:Nat}(h:j≠0):Sv s j=JV (iA s j):=by
 unfold Sv JV;have c:aD (j:Int) 0=false:=by rw[dW];simpa using h
 rw[c,Bool.false_or];unfold aT;cases cP 97 (iA s j)<;>cases cP (iA s j) 122<;>cases aD (iA s j) 95<;>simp
theorem o9{c:Int}(h:(aT c 97||aT 122 c)=false):JV c=false:=by unfold JV;rw[h];rfl
theorem aBS(s:List UInt8)(h:0<s.length):dS s.length (Sv s)=(Cs s||dS s.length λj=>JV (iA s (j:Int))):=by
 cases c:Cs s with
 |true=>
  rw[Bool.true_or];cases d:dS s.length (Sv s)with
  |true=>rfl
  |false=>have:=bQ.1 d 0 h;rw[aBR,c]at this;cases this
 |false=>
  rw[Bool.false_or];have f:∀j,Sv s j=JV (iA s (j:Int)):=λj=>by
   by_cases e:j=0
   ·subst e;rw[aBR,c];exact(o9 c).symm
   ·exact aEE s e
  congr 1;exact funext f
theorem Jp(s:List UInt8):iS E aY sites Sl [.s s] (.b (WC s)) []:=by
 refine bA ZT (by rfl) rfl ?_;show Ev _ _ (ZC _) _;unfold ZC;cases h:Xm s with
 |true=>refine aC h (bJ ?_ rfl);unfold WC;rw[h];rfl
 |false=>
  refine aJ h ?_;obtain⟨f,l⟩:=aBQ h;have c:fC ZS 0 [.s s,.i (s.length:Int),.i 0] (bif dS s.length (Sv s)then(0,[.b false])else(1,[])):=by
   refine xD ZT (λj=>[.s s,.i (s.length:Int),.i (j:Int)]) s.length (Sv s) (λj d=>?_) ?_
   ·show O2 _ _ (zR _) _ _;unfold zR;exact oT (aW d) (oT (aE d) (oE rfl rfl (nx d (by omega) [.s s,.i (s.length:Int)] [])))
   ·show Ev _ _ (zR _) _;unfold zR;exact aJ (aX _) (bG rfl)
  rw[aBS s f]at c;have g:WC s=!(Cs s||dS s.length λj=>JV (iA s (j:Int))):=by unfold WC;rw[h,Bool.not_or];rfl
  rw[g];cases e:(Cs s||dS s.length λj=>JV (iA s (j:Int)))with
  |true=>rw[e]at c;exact aP c (bD (bJ rfl rfl))
  |false=>rw[e]at c;exact aP c (eB (bD (bJ rfl rfl)))
def jX(x:D):List UInt8:=D.toS (D.fld x 0)
def aGL(s:List UInt8)(m:List D):Int:=aG .i64 (D.toI (xG (.int .i64) (gH .str (.s s) 0 m))) 1
def JW(s:List UInt8)(m:List D):List D:=BS (.s s) (.i (aGL s m)) m (gH .str (.s s) 0 m)
def QE(s:List UInt8)(m:List D):Bool:=!WC s||aT 1 (D.toI (xG (.int .i64) (gH .str (.s s) 0 (JW s m))))
def fN(q:Nat×List D)(s:List UInt8):Nat×List D:=(bif QE s q.2 then q.1+1 else q.1,JW s q.2)
theorem aEF{n:Nat}(c:(n:Int)<=9223372036854775807):aG .i64 (n:Int) 0=(n:Int):=by rw[AQ _ _ _ (by simp[TC,TD]),uJ (by omega) (by omega)];omega
theorem BB(l:List D)(q:Nat×List D):(l.map jX).foldl fN q=l.foldl (λq x=>fN q (jX x)) q:=by rw[List.foldl_map]
section
variable(xs gs ts fs:List D)
theorem WD(q:Nat×List D)(s:List UInt8):(fN q s).1 <=q.1+1:=by
 unfold fN;cases QE s q.2 with
 |true=>exact Nat.le_refl _
 |false=>exact Nat.le_succ _
theorem WE(b j n:Nat)(l:(n:Int)+1<=9223372036854775807)(s:List UInt8)(m:List D)(f:Int->List D->List D)(d:FD)(r:List D)(g:r=f (fN (n,m) s).1 (fN (n,m) s).2):
  sA E aY sites d (.call IJ [.s s] 0 λh _=>.ask ((!(D.toB h))||aT 1 (D.toI (xG (.int .i64) (gH .str (.s s) 0 (BS (.s s) (.i (aG .i64 (D.toI (xG (.int .i64) (gH .str (.s s) 0 m))) 1)) m (gH .str (.s s) 0 m))))))
   (.again (f (aG .i64 (n:Int) 1) (JW s m))) (.again (f (aG .i64 (n:Int) 0) (JW s m)))) (.again r):=by
 subst g;refine bK (I6 s) rfl ?_;have e:aG .i64 (n:Int) 1=((n+1:Nat):Int):=by rw[AQ _ _ _ (by simp[TC,TD]),uJ (by omega) (by omega)];omega
 rw[e,aEF (by omega)];unfold fN;cases c:QE s m with
 |true=>exact aC c (aO rfl)
 |false=>exact aJ c (aO rfl)
theorem I7(m:List D)(h:cD xs)(n:Nat)(e:(n:Int)+xs.length<=9223372036854775807):
  fC mP 0 [.i 0,.i (n:Int),.l xs,.l gs,.l ts,.l fs,.l m] (0,[.i (((xs.map jX).foldl fN (n,m)).1 :Int),.l xs,.l gs,.l ts,.l fs,.l ((xs.map jX).foldl fN (n,m)).2]):=by
 rw[BB];refine EU xW (λj(q:Nat×List D)=>[.i (j:Int),.i (q.1:Int),.l xs,.l gs,.l ts,.l fs,.l q.2]) xs (λq x=>fN q (jX x)) (λq=>(0,[.i (q.1:Int),.l xs,.l gs,.l ts,.l fs,.l q.2])) (λj q=>q.1<=n+j) (λj q c d=>⟨Nat.le_trans (WD _ _) (by omega),?_⟩) (λq d=>?_) (s0:=(n,m)) (Nat.le_refl _)
 ·show Ev _ _ (uN _) _;unfold uN;refine aC (aW c) (aC (aE c) ?_);exact WE 0 j q.1 (by omega) (jX (gD xs j)) q.2 (λn m=>[.i (aG .i64 (j:Int) 1),.i n,.l xs,.l gs,.l ts,.l fs,.l m]) mP _ (nx c h [] [.i ((fN q (jX (gD xs j))).1 :Int),.l xs,.l gs,.l ts,.l fs,.l (fN q (jX (gD xs j))).2])
 ·show Ev _ _ (uN _) _;unfold uN;exact aJ (aX _) (bG rfl)
theorem I8(m:List D)(h:cD gs)(n:Nat)(e:(n:Int)+gs.length<=9223372036854775807):
  fC mP 2 [.i (n:Int),.i 0,.l xs,.l gs,.l ts,.l fs,.l m] (0,[.i (((gs.map jX).foldl fN (n,m)).1 :Int),.l xs,.l gs,.l ts,.l fs,.l ((gs.map jX).foldl fN (n,m)).2]):=by
 rw[BB];refine EU xW (λj(q:Nat×List D)=>[.i (q.1:Int),.i (j:Int),.l xs,.l gs,.l ts,.l fs,.l q.2]) gs (λq x=>fN q (jX x)) (λq=>(0,[.i (q.1:Int),.l xs,.l gs,.l ts,.l fs,.l q.2])) (λj q=>q.1<=n+j) (λj q c d=>⟨Nat.le_trans (WD _ _) (by omega),?_⟩) (λq d=>?_) (s0:=(n,m)) (Nat.le_refl _)
 ·show Ev _ _ (uO _) _;unfold uO;refine aC (aW c) (aC (aE c) ?_);exact WE 0 j q.1 (by omega) (jX (gD gs j)) q.2 (λn m=>[.i n,.i (aG .i64 (j:Int) 1),.l xs,.l gs,.l ts,.l fs,.l m]) mP _ (nx c h [.i ((fN q (jX (gD gs j))).1 :Int)] [.l xs,.l gs,.l ts,.l fs,.l (fN q (jX (gD gs j))).2])
 ·show Ev _ _ (uO _) _;unfold uO;exact aJ (aX _) (bG rfl)
theorem I9(m:List D)(h:cD ts)(n:Nat)(e:(n:Int)+ts.length<=9223372036854775807):
  fC mP 4 [.i 0,.i (n:Int),.l xs,.l gs,.l ts,.l fs,.l m] (0,[.i (((ts.map jX).foldl fN (n,m)).1 :Int),.l xs,.l gs,.l ts,.l fs,.l ((ts.map jX).foldl fN (n,m)).2]):=by
 rw[BB];refine EU xW (λj(q:Nat×List D)=>[.i (j:Int),.i (q.1:Int),.l xs,.l gs,.l ts,.l fs,.l q.2]) ts (λq x=>fN q (jX x)) (λq=>(0,[.i (q.1:Int),.l xs,.l gs,.l ts,.l fs,.l q.2])) (λj q=>q.1<=n+j) (λj q c d=>⟨Nat.le_trans (WD _ _) (by omega),?_⟩) (λq d=>?_) (s0:=(n,m)) (Nat.le_refl _)
 ·show Ev _ _ (uP _) _;unfold uP;refine aC (aW c) (aC (aE c) ?_);exact WE 0 j q.1 (by omega) (jX (gD ts j)) q.2 (λn m=>[.i (aG .i64 (j:Int) 1),.i n,.l xs,.l gs,.l ts,.l fs,.l m]) mP _ (nx c h [] [.i ((fN q (jX (gD ts j))).1 :Int),.l xs,.l gs,.l ts,.l fs,.l (fN q (jX (gD ts j))).2])
 ·show Ev _ _ (uP _) _;unfold uP;exact aJ (aX _) (bG rfl)
theorem J0(m:List D)(h:cD fs)(n:Nat)(e:(n:Int)+fs.length<=9223372036854775807):
  fC mP 6 [.i (n:Int),.i 0,.l xs,.l gs,.l ts,.l fs,.l m] (0,[.i (((fs.map jX).foldl fN (n,m)).1 :Int)]):=by
 rw[BB];refine EU xW (λj(q:Nat×List D)=>[.i (q.1:Int),.i (j:Int),.l xs,.l gs,.l ts,.l fs,.l q.2]) fs (λq x=>fN q (jX x)) (λq=>(0,[.i (q.1:Int)])) (λj q=>q.1<=n+j) (λj q c d=>⟨Nat.le_trans (WD _ _) (by omega),?_⟩) (λq d=>?_) (s0:=(n,m)) (Nat.le_refl _)
 ·show Ev _ _ (uQ _) _;unfold uQ;refine aC (aW c) (aC (aE c) ?_);exact WE 0 j q.1 (by omega) (jX (gD fs j)) q.2 (λn m=>[.i n,.i (aG .i64 (j:Int) 1),.l xs,.l gs,.l ts,.l fs,.l m]) mP _ (nx c h [.i ((fN q (jX (gD fs j))).1 :Int)] [.l xs,.l gs,.l ts,.l fs,.l (fN q (jX (gD fs j))).2])
 ·show Ev _ _ (uQ _) _;unfold uQ;exact aJ (aX _) (bG rfl)
end
def WF(xs gs ts fs:List D):List (List UInt8):=((xs.map jX++gs.map jX)++ts.map jX)++fs.map jX
def Xn:List (List UInt8)->List D->Bool
 |[],_=>true
 |s::l,m=>!QE s m&&Xn l (JW s m)
def MS(xs gs ts fs:List D):Bool:=Xn (WF xs gs ts fs) []
theorem WG:∀(l:List (List UInt8))(n:Nat)(m:List D),n<=(l.foldl fN (n,m)).1 /\(l.foldl fN (n,m)).1 <=n+l.length
 |[],n,m=>⟨Nat.le_refl _,Nat.le_refl _⟩
 |s::l,n,m=>by
  rw[List.foldl_cons];have d:=WD (n,m) s;have e:n<=(fN (n,m) s).1 :=by unfold fN;cases QE s m<;>simp
  have c:=WG l (fN (n,m) s).1 (fN (n,m) s).2;simp only[List.length_cons];simp only at d;exact⟨Nat.le_trans e c.1,Nat.le_trans c.2 (by omega)⟩
theorem U4:∀(l:List (List UInt8))(n:Nat)(m:List D),((l.foldl fN (n,m)).1 =n<->Xn l m=true)
 |[],n,m=>⟨λ_=>rfl,λ_=>rfl⟩
 |s::l,n,m=>by
  rw[List.foldl_cons];unfold Xn;cases h:QE s m with
  |true=>
   have c:fN (n,m) s=(n+1,JW s m):=by simp only[fN,h,cond_true]
   rw[c];have:=(WG l (n+1) (JW s m)).1;constructor
   ·intro d;omega
   ·intro d;cases d
  |false=>
   have c:fN (n,m) s=(n,JW s m):=by simp only[fN,h,cond_false]
   rw[c,U4 l n (JW s m)];simp
theorem aDb(xs gs ts fs:List D)(q:Nat×List D):(WF xs gs ts fs).foldl fN q=(fs.map jX).foldl fN ((ts.map jX).foldl fN ((gs.map jX).foldl fN ((xs.map jX).foldl fN q))):=by unfold WF;rw[List.foldl_append,List.foldl_append,List.foldl_append]
theorem Xo(xs gs ts fs:List D)(v:(xs.length:Int)+gs.length+ts.length+fs.length<=9223372036854775807):iS E aY sites Ib [.l [.l xs,.l gs,.l ts,.l fs]] (.b (MS xs gs ts fs)) []:=by refine bA xW (by rfl) rfl ?_;show Ev _ _ (RP _) _;unfold RP;have c:=U4 (WF xs gs ts fs) 0 [];rw[aDb]at c;have r:=(WG (xs.map jX) 0 []).2;have j:=I7 xs gs ts fs [] (by unfold cD;omega) 0 (by omega);generalize(xs.map jX).foldl fN (0,[])=q0 at r j c;obtain⟨n0,f⟩:=q0;have d:=(WG (gs.map jX) n0 f).2;simp only[List.length_map]at r d;have l:=I8 xs gs ts fs f (by unfold cD;omega) n0 (by omega);generalize(gs.map jX).foldl fN (n0,f)=q1 at d l c;obtain⟨h,g⟩:=q1;have e:=(WG (ts.map jX) h g).2;simp only[List.length_map]at d e;have m:=I9 xs gs ts fs g (by unfold cD;omega) h (by omega);generalize(ts.map jX).foldl fN (h,g)=q2 at e m c;obtain⟨t,s⟩:=q2;simp only at e;have u:=J0 xs gs ts fs s (by unfold cD;omega) t (by omega);refine aP j (bD (aP l (bD (aP m (bD (aP u (bD (bJ (congrArg D.b ?_) rfl))))))));unfold MS;rw[Bool.eq_iff_iff,<-c];show _<->aD (((fs.map jX).foldl fN (t,s)).1 :Int) 0=true;rw[bT];omega
end Go.Eng.Q

namespace Go.Eng.Q
open Go.Eng
theorem U5{n:Nat}(h:n<=10000):iP (n+1) 16=true:=by unfold iP;rw[Bool.and_eq_true,Nat.ble_eq,Nat.ble_eq];omega
def PC(q:List D)(l:List D):List D:=l.foldl (λq x=>q++[.s (jX x)]) q
theorem WH:∀(l q:List D),PC q l=q++(l.map jX).map D.s
 |[],q=>(List.append_nil q).symm
 |x::l,q=>by show PC (q++[.s (jX x)]) l=_;rw[WH l];simp
section
variable(xs gs ts fs:List D)
theorem J1(q:List D)(h:cD xs)(d:q.length+xs.length<=10000):
  fC sU 0 [.i (xs.length:Int),.l xs,.i 0,.l xs,.l gs,.l ts,.l fs,.l q] (0,[.l xs,.l gs,.l ts,.l fs,.l (PC q xs)]):=by
 refine EU sV (λj(q:List D)=>[.i (xs.length:Int),.l xs,.i (j:Int),.l xs,.l gs,.l ts,.l fs,.l q]) xs (λq x=>q++[.s (jX x)]) (λq=>(0,[.l xs,.l gs,.l ts,.l fs,.l q])) (λj p=>p.length=q.length+j) (λj q c d=>⟨by rw[List.length_append,d];rfl,?_⟩) (λq d=>?_) (s0:=q) rfl
 ·show Ev _ _ (wN _) _;unfold wN;exact aC (aW c) (aC (aE c) (aC (U5 (n:=q.length) (by omega)) (aO (nx c h [.i (xs.length:Int),.l xs] [.l xs,.l gs,.l ts,.l fs,.l (q++[D.s (jX (gD xs j))])]))))
 ·show Ev _ _ (wN _) _;unfold wN;exact aJ (aX _) (bG rfl)
theorem J2(q:List D)(h:cD gs)(d:q.length+gs.length<=10000):
  fC sU 2 [.i 0,.l gs,.i (gs.length:Int),.l xs,.l gs,.l ts,.l fs,.l q] (0,[.l xs,.l gs,.l ts,.l fs,.l (PC q gs)]):=by
 refine EU sV (λj(q:List D)=>[.i (j:Int),.l gs,.i (gs.length:Int),.l xs,.l gs,.l ts,.l fs,.l q]) gs (λq x=>q++[.s (jX x)]) (λq=>(0,[.l xs,.l gs,.l ts,.l fs,.l q])) (λj p=>p.length=q.length+j) (λj q c d=>⟨by rw[List.length_append,d];rfl,?_⟩) (λq d=>?_) (s0:=q) rfl
 ·show Ev _ _ (wO _) _;unfold wO;exact aC (aW c) (aC (aE c) (aC (U5 (n:=q.length) (by omega)) (aO (nx c h [] [.l gs,.i (gs.length:Int),.l xs,.l gs,.l ts,.l fs,.l (q++[D.s (jX (gD gs j))])]))))
 ·show Ev _ _ (wO _) _;unfold wO;exact aJ (aX _) (bG rfl)
theorem J3(q:List D)(h:cD ts)(d:q.length+ts.length<=10000):
  fC sU 4 [.i (ts.length:Int),.i 0,.l ts,.l xs,.l gs,.l ts,.l fs,.l q] (0,[.l xs,.l gs,.l ts,.l fs,.l (PC q ts)]):=by
 refine EU sV (λj(q:List D)=>[.i (ts.length:Int),.i (j:Int),.l ts,.l xs,.l gs,.l ts,.l fs,.l q]) ts (λq x=>q++[.s (jX x)]) (λq=>(0,[.l xs,.l gs,.l ts,.l fs,.l q])) (λj p=>p.length=q.length+j) (λj q c d=>⟨by rw[List.length_append,d];rfl,?_⟩) (λq d=>?_) (s0:=q) rfl
 ·show Ev _ _ (wP _) _;unfold wP;exact aC (aW c) (aC (aE c) (aC (U5 (n:=q.length) (by omega)) (aO (nx c h [.i (ts.length:Int)] [.l ts,.l xs,.l gs,.l ts,.l fs,.l (q++[D.s (jX (gD ts j))])]))))
 ·show Ev _ _ (wP _) _;unfold wP;exact aJ (aX _) (bG rfl)
theorem J4(q:List D)(h:cD fs)(d:q.length+fs.length<=10000):
  fC sU 6 [.l fs,.i 0,.i (fs.length:Int),.l q] (0,[.l (PC q fs)]):=by
 refine EU sV (λj(q:List D)=>[.l fs,.i (j:Int),.i (fs.length:Int),.l q]) fs (λq x=>q++[.s (jX x)]) (λq=>(0,[.l q])) (λj p=>p.length=q.length+j) (λj q c d=>⟨by rw[List.length_append,d];rfl,?_⟩) (λq d=>?_) (s0:=q) rfl
 ·show Ev _ _ (wQ _) _;unfold wQ;exact aC (aW c) (aC (aE c) (aC (U5 (n:=q.length) (by omega)) (aO (nx c h [.l fs] [.i (fs.length:Int),.l (q++[D.s (jX (gD fs j))])]))))
 ·show Ev _ _ (wQ _) _;unfold wQ;exact aJ (aX _) (bG rfl)
end
theorem aBT:∀(l:List (List UInt8))(j:Nat)(m:List D),U0 (λ_ x m=>bif QE x.toS m then Sum.inl (0,[D.b false])else .inr (JW x.toS m)) (λ_=>(1,[])) j (l.map D.s) m=bif Xn l m then(1,[])else(0,[.b false])
 |[],_,_=>rfl
 |s::l,j,m=>by
  rw[List.map_cons];unfold Xn U0;have e:D.toS (D.s s)=s:=rfl;cases h:QE s m with
  |true=>simp only[e,h,cond_true,Bool.not_true,Bool.false_and,cond_false]
  |false=>simp only[e,h,cond_false,Bool.not_false,Bool.true_and];exact aBT l (j+1) (JW s m)
theorem J5(all:List (List UInt8))(h:all.length<=10000):
  fC sU 8 [.i ((all.map D.s).length:Int),.i 0,.l [],.l (all.map D.s)] (bif Xn all []then(1,[])else(0,[.b false])):=by
 rw[<-aBT all 0 []];have f:cD (all.map D.s):=by unfold cD;rw[List.length_map];omega
 refine Ja sV (λj(m:List D)=>[.i ((all.map D.s).length:Int),.i (j:Int),.l m,.l (all.map D.s)]) (all.map D.s) _ _ (λ_ _=>True) (λj m d _=>⟨λt ht=>?_,λg e=>⟨trivial,?_⟩⟩) (λm _=>?_) trivial
 ·cases c:QE (gD (all.map D.s) j).toS m with
  |false=>rw[c]at ht;simp at ht
  |true=>rw[c]at ht;simp only[cond_true,Sum.inl.injEq]at ht;subst ht;show Ev _ _ (oH _) _;unfold oH;exact aC (aW d) (aC (aE d) (bK (Jp (gD (all.map D.s) j).toS) rfl (aC c (bG rfl))))
 ·cases c:QE (gD (all.map D.s) j).toS m with
  |true=>rw[c]at e;simp at e
  |false=>rw[c]at e;simp only[cond_false,Sum.inr.injEq]at e;subst e;show Ev _ _ (oH _) _;unfold oH;exact aC (aW d) (aC (aE d) (bK (Jp (gD (all.map D.s) j).toS) rfl (aJ c (aO (nx d f [.i ((all.map D.s).length:Int)] [.l (JW (gD (all.map D.s) j).toS m),.l (all.map D.s)])))))
 ·show Ev _ _ (oH _) _;unfold oH;exact aJ (aX _) (bG rfl)
theorem Xp(xs gs ts fs:List D)(l:xs.length+gs.length+ts.length+fs.length<=10000):iS E aY sites Ii [.l [.l xs,.l gs,.l ts,.l fs]] (.b (MS xs gs ts fs)) []:=by
 refine bA sV (by rfl) rfl ?_;show Ev _ _ (SJ _) _;unfold SJ;have d:=J1 xs gs ts fs [] (by unfold cD;omega) (by simp;omega);have f:=J2 xs gs ts fs (PC [] xs) (by unfold cD;omega) (by simp[WH];omega);have g:=J3 xs gs ts fs (PC (PC [] xs) gs) (by unfold cD;omega) (by simp[WH];omega);have j:=J4 fs (PC (PC (PC [] xs) gs) ts) (by unfold cD;omega) (by simp[WH];omega);have e:PC (PC (PC (PC [] xs) gs) ts) fs=(WF xs gs ts fs).map D.s:=by simp[WH,WF]
 have c:=J5 (WF xs gs ts fs) (by simp[WF];omega);rw[<-e]at c;refine aP d (bD (aP f (bD (aP g (bD (aP j (bD ?_)))))));unfold MS;cases h:Xn (WF xs gs ts fs) []with
 |true=>rw[h]at c;exact aP c (eB (bD (bJ rfl rfl)))
 |false=>rw[h]at c;exact aP c (bD (bJ rfl rfl))
end Go.Eng.Q

namespace Go.Eng.Q
open Go.Eng
def eL(l:List D):Prop:=l.length<=10000
theorem eL.sane{l:List D}(h:eL l):cD l:=by unfold eL at h;unfold cD;omega
structure Xq(x:D):Prop where
 as1:eL (eX x 5)
 is1:eL (eX x 6)
structure Xr(b:D):Prop where
 ins:eL b.els
 i:∀j,j<b.els.length->Xq (gD b.els j)
structure Jq(f:D):Prop where
 ps:eL (eX f 2)
 bs:eL (eX f 4)
 b:∀j,j<(eX f 4).length->Xr (gD (eX f 4) j)
theorem Jq.sane{f:D}(h:Jq f):Jh f:=⟨h.ps.sane,h.bs.sane,λj c=>⟨(h.b j c).ins.sane⟩⟩
def fF(bs:List D):Prop:=eL bs/\∀j,j<bs.length->Xr (gD bs j)
theorem Jq.bbs{f:D}(h:Jq f):fF (eX f 4):=⟨h.bs,h.b⟩
abbrev pM(nm:List UInt8)(o:Bool)(ps:List D)(r:Int)(bs:List D):D:=.l [.s nm,.b o,.l ps,.i r,.l bs]
abbrev iD(n:Nat):D:=.i (n:Int)
theorem eM{n k:Nat}(h:n<=1000000000)(c:k<=1000):iP n k=true:=by unfold iP;rw[Bool.and_eq_true,Nat.ble_eq,Nat.ble_eq];have:n*k<=1000000000*1000:=Nat.mul_le_mul h c;omega
theorem MT{a b:Int}(h:b<=a):aT a b=false:=by unfold aT;rw[(eR b a).2 h];rfl
theorem Sw{a b:Int}(h:a<b):aT a b=true:=by rw[eA];simpa using h
theorem jA{a b:Int}(h:a<=b):cP a b=true:=(eR a b).2 h
theorem J6{a b:Int}(h:b<a):cP a b=false:=by rw[eD];simpa using h
theorem pF(a:Int):aD a a=true:=(bT a a).2 rfl
theorem lY{a b:Int}(h:a≠b):aD a b=false:=by rw[dW];simpa using h
theorem DL{n:Nat}(h:0<n)(c:n<=1000000):bC .i64 ((n:Int)-1)=((n-1:Nat):Int):=by rw[uJ (by omega) (by omega)];omega
theorem Jr{n:Nat}(h:0<n)(c:n<=1000000):Int.toNat (bC .i64 ((n:Int)-1))=n-1:=by rw[DL h c];rfl
def fK(b:D):D:=gD b.els (b.els.length-1)
def aBU(bs:List D)(b:Int):Bool:=((cP 0 b&&aT b bs.length)&&!(aD (gD bs b.toNat).els.length 0))&&(aD (vI (fK (gD bs b.toNat)) 0) 27||aD (vI (fK (gD bs b.toNat)) 0) 28)
def AL(nb:Nat)(out:List Nat)(x:D):Bool:=(cP 0 x.toI&&aT x.toI nb)&&!(decide (x.toI.toNat∈out))
def jY(nb:Nat)(out:List Nat)(x:D):List Nat:=bif AL nb out x then out++[x.toI.toNat]else out
def aU(bs:List D)(b:Int):List Nat:=bif aBU bs b then(eX (fK (gD bs b.toNat)) 6).foldl (jY bs.length) []else[]
theorem aEG(out:List Nat)(n:Nat):((out.map iD).any λx=>aD x.toI (n:Int))=decide (n∈out):=by
 rw[Bool.eq_iff_iff];simp only[List.any_map,List.any_eq_true,decide_eq_true_eq,Function.comp];constructor
 ·rintro⟨x,c,d⟩;have:((x:Nat):Int)=n:=(bT _ _).1 d;have e:x=n:=by omega
  subst e;exact c
 ·intro h;exact⟨n,h,pF _⟩
theorem aBV(l:List D)(n:Int)(f:cD l):iS E aY sites aBI [.l l,.i n] (.b (l.any λx=>aD x.toI n)) []:=by
 refine bA Sp (by rfl) rfl ?_;show Ev _ _ (Sn _) _;unfold Sn;have c:fC So 0 [.l l,.i n,.i 0] (bif l.any (λx=>aD x.toI n)then(0,[.b true])else(1,[])):=by
  refine GL Sp (λj=>[.l l,.i n,.i (j:Int)]) l (λx=>aD x.toI n) (λj d=>?_) ?_
  ·show O2 _ _ (GF _) _ _;unfold GF;exact oT (aW d) (oT (aE d) (oE rfl rfl (nx d f [.l l,.i n] [])))
  ·show Ev _ _ (GF _) _;unfold GF;exact aJ (aX _) (bG rfl)
 cases e:l.any (λx=>aD x.toI n)with
 |true=>rw[e]at c;exact aP c (bD (bJ rfl rfl))
 |false=>rw[e]at c;exact aP c (eB (bD (bJ rfl rfl)))
def Do(x:D):List D:=[.i (vI x 0),.i (vI x 1),.i (vI x 2),.i (vI x 3),.i (vI x 4),.l (eX x 5),.l (eX x 6)]
def QF:D:=.l [.i 0,.i 0,.i 0,.i 0,.i 0,.l [],.l []]
def lM(bs:List D)(b:Int):Bool:=(cP 0 b&&aT b bs.length)&&!(aD (gD bs b.toNat).els.length 0)
theorem OQ{bs:List D}{b:Int}(h:lM bs b=true):0<=b/\b<bs.length/\0<(gD bs b.toNat).els.length:=by
 unfold lM at h;rw[Bool.and_eq_true,Bool.and_eq_true,eR]at h;have c:¬cP (bs.length:Int) b=true:=by have:=h.1.2;unfold aT at this;intro e;rw[e]at this;cases this
 rw[eR]at c;refine⟨h.1.1,by omega,?_⟩;rcases Nat.eq_zero_or_pos (gD bs b.toNat).els.length with e |e
 ·rw[e]at h;have:=h.2;cases this
 ·exact e
theorem J7(nm:List UInt8)(o:Bool)(ps:List D)(r:Int)(bs:List D)(b:Int)(t:fF bs):
  iS E aY sites Sm [pM nm o ps r bs,.i b] (bif lM bs b then .l [.l (Do (fK (gD bs b.toNat))),.b true]else .l [QF,.b false]) []:=by
 refine bA Oa (by rfl) rfl ?_;show Ev _ _ (ZD _) _;unfold ZD;cases d:(cP 0 b&&aT b bs.length)with
 |false=>
  have g:(aT b 0||cP (bs.length:Int) b)=true:=by
   unfold aT at*;cases h:cP 0 b with
   |false=>rfl
   |true=>rw[h]at d;cases l:cP (bs.length:Int) b with
    |true=>rfl
    |false=>rw[l]at d;cases d
  have f:lM bs b=false:=by unfold lM;rw[d];rfl
  rw[f];exact aC (congrArg (λc=>(!(!c))||aA b bs.length) g) (aC (congrArg (λc=>c||aD (iE (gD bs b.toNat)) 0) g) (bJ rfl rfl))
 |true=>
  have g:(aT b 0||cP (bs.length:Int) b)=false:=by
   unfold aT at*;cases h:cP 0 b with
   |false=>rw[h]at d;cases d
   |true=>rw[h]at d;cases l:cP (bs.length:Int) b with
    |true=>rw[l]at d;cases d
    |false=>rfl
  have s:aA b bs.length=true:=d;refine aC (aH s) ?_;cases j:aD (gD bs b.toNat).els.length 0 with
  |true=>
   have f:lM bs b=false:=by unfold lM;rw[j,Bool.not_true,Bool.and_false]
   rw[f];exact aC (aH j) (bJ rfl rfl)
  |false=>
   have f:lM bs b=true:=by unfold lM;rw[d,j];rfl
   obtain⟨v,y,m⟩:=OQ f;have u:b.toNat<bs.length:=by omega
   have ht:(gD bs b.toNat).els.length<=1000000:=by have:=(t.2 b.toNat u).ins;unfold eL at this;omega
   rw[f];refine aJ ((congrArg (λc=>c||aD (iE (gD bs b.toNat)) 0) g).trans j) (aC s (aC ?_ ?_))
   ·show aA (bC .i64 (((gD bs b.toNat).els.length:Int)-1)) (gD bs b.toNat).els.length=true;rw[DL m ht];exact aE (by omega)
   ·have e:Int.toNat (bC .i64 (((gD bs b.toNat).els.length:Int)-1))=(gD bs b.toNat).els.length-1:=Jr m ht;refine bJ ?_ rfl;show D.l [.l (Do (gD (gD bs b.toNat).els ((gD bs b.toNat).els.length-1))),.b true]=D.l [.l (Do (gD (gD bs b.toNat).els (Int.toNat (bC .i64 (((gD bs b.toNat).els.length:Int)-1))))),.b true];rw[e]
theorem Xs(nb:Nat)(out:List Nat)(x:D)(h:0<=x.toI):AL nb out x=((cP 0 x.toI&&aT x.toI nb)&&!((out.map iD).any λc=>aD c.toI x.toI)):=by unfold AL;rw[<-aEG out x.toI.toNat];congr 3;funext c;congr 1;omega
theorem Xt(nb:Nat):∀(l:List D)(out:List Nat),(l.foldl (jY nb) out).length<=out.length+l.length
 |[],_=>Nat.le_refl _
 |x::l,out=>by rw[List.foldl_cons];refine Nat.le_trans (Xt nb l _) ?_;unfold jY;cases AL nb out x<;>simp<;>omega
theorem p7(nm:List UInt8)(o:Bool)(ps:List D)(r:Int)(bs:List D)(op ty to sym num:Int)(as1 l:List D)(v:eL l):
  fC ZQ 0 [.i 0,.s nm,.b o,.l ps,.i r,.l bs,.i op,.i ty,.i to,.i sym,.i num,.l as1,.l l,.l []] (0,[.l ((l.foldl (jY bs.length) []).map iD)]):=by
 unfold eL at v;have C:cD l:=by unfold cD;omega
 refine EU ZR (λj(q:List Nat)=>[.i (j:Int),.s nm,.b o,.l ps,.i r,.l bs,.i op,.i ty,.i to,.i sym,.i num,.l as1,.l l,.l (q.map iD)]) l (jY bs.length) (λq=>(0,[.l (q.map iD)])) (λj q=>q.length<=j) (λj q m y=>⟨?_,?_⟩) (λq y=>?_) (s0:=[]) (Nat.le_refl _)
 ·unfold jY;cases AL bs.length q (gD l j)<;>simp<;>omega
 ·show Ev _ _ (zQ _) _;unfold zQ;refine aC (aW m) (aC (aE m) ?_);have h:∀s:List Nat,[.i ((j+1:Nat):Int),.s nm,.b o,.l ps,.i r,.l bs,.i op,.i ty,.i to,.i sym,.i num,.l as1,.l l,.l (s.map iD)]=[D.i (aG .i64 (j:Int) 1),.s nm,.b o,.l ps,.i r,.l bs,.i op,.i ty,.i to,.i sym,.i num,.l as1,.l l,.l (s.map iD)]:=λs=>nx m C [] _;cases d:(cP 0 (gD l j).toI&&aT (gD l j).toI bs.length)with
  |false=>
   have f:AL bs.length q (gD l j)=false:=by unfold AL;rw[d];rfl
   have e:jY bs.length q (gD l j)=q:=by unfold jY;rw[f];rfl
   rw[e];exact aJ (congrArg (λc=>c&&true) d) (aJ (congrArg (λc=>c&&(!(D.toB (.i 0)))) d) (aO (h q)))
  |true=>
   have t:0<=(gD l j).toI:=by rw[Bool.and_eq_true,eR]at d;exact d.1
   have f:=Xs bs.length q (gD l j) t;refine aC (congrArg (λc=>c&&true) d) (bK (aBV (q.map iD) (gD l j).toI (by unfold cD;rw[List.length_map];omega)) rfl ?_);cases g:AL bs.length q (gD l j)with
   |true=>
    have e:jY bs.length q (gD l j)=q++[(gD l j).toI.toNat]:=by unfold jY;rw[g];rfl
    rw[e];refine aC (f.symm.trans g) ?_;unfold MJ;refine aC ?_ (aO ((h _).trans ?_))
    ·show iP ((q.map iD).length+1) 8=true;rw[List.length_map];exact eM (by omega) (by omega)
    ·have u:iD (gD l j).toI.toNat=D.i (gD l j).toI:=congrArg D.i (Int.toNat_of_nonneg t);rw[List.map_append,List.map_cons,List.map_nil,u];rfl
   |false=>
    have e:jY bs.length q (gD l j)=q:=by unfold jY;rw[g];rfl
    rw[e];exact aJ (f.symm.trans g) (aO (h q))
 ·show Ev _ _ (zQ _) _;unfold zQ;exact aJ (aX _) (bG rfl)
theorem Sx(bs:List D)(b:Int):aBU bs b=(lM bs b&&(aD (vI (fK (gD bs b.toNat)) 0) 27||aD (vI (fK (gD bs b.toNat)) 0) 28)):=rfl
theorem Js(nm:List UInt8)(o:Bool)(ps:List D)(r:Int)(bs:List D)(b:Int)(e:fF bs):
  iS E aY sites Eg [pM nm o ps r bs,.i b] (.l ((aU bs b).map iD)) []:=by
 refine bA ZR (by rfl) rfl ?_;show Ev _ _ (ZB _) _;unfold ZB;refine bK (J7 nm o ps r bs b e) rfl ?_;unfold aU;rw[Sx];cases h:lM bs b with
 |false=>exact aC rfl (bJ rfl rfl)
 |true=>
  obtain⟨g,j,l⟩:=OQ h;have f:=e.2 b.toNat (by omega);cases d:(aD (vI (fK (gD bs b.toNat)) 0) 27||aD (vI (fK (gD bs b.toNat)) 0) 28)with
  |false=>
   refine aC ?_ (bJ rfl rfl);have c:((!(aD (vI (fK (gD bs b.toNat)) 0) 27))&&(!(aD (vI (fK (gD bs b.toNat)) 0) 28)))=true:=by rw[<-Bool.not_or,d];rfl
   exact c
  |true=>
   refine aJ ?_ ?_
   ·have c:((!(aD (vI (fK (gD bs b.toNat)) 0) 27))&&(!(aD (vI (fK (gD bs b.toNat)) 0) 28)))=false:=by rw[<-Bool.not_or,d];rfl
    exact c
   ·refine aP (p7 nm o ps r bs (vI (fK (gD bs b.toNat)) 0) (vI (fK (gD bs b.toNat)) 1) (vI (fK (gD bs b.toNat)) 2) (vI (fK (gD bs b.toNat)) 3) (vI (fK (gD bs b.toNat)) 4) (eX (fK (gD bs b.toNat)) 5) (eX (fK (gD bs b.toNat)) 6) (f.i _ (by omega)).is1) (bD (bJ rfl rfl))
end Go.Eng.Q

namespace Go.Eng.Q
open Go.Eng
def aZ(n:Nat)(f:Nat->Bool):List D:=(List.range n).map λi=>.b (f i)
theorem eN(n:Nat)(f:Nat->Bool):(aZ n f).length=n:=by simp[aZ]
theorem jR{n i:Nat}(f:Nat->Bool)(h:i<n):gD (aZ n f) i=.b (f i):=by simp[gD,List.getD,aZ,h]
def rU(f:Nat->Bool)(i:Nat):Nat->Bool:=λk=>bif Nat.beq k i then true else f k
theorem jS(f:Nat->Bool)(i:Nat):rU f i i=true:=by simp[rU]
theorem BC(f:Nat->Bool){i k:Nat}(h:k≠i):rU f i k=f k:=by
 unfold rU;cases e:Nat.beq k i with
 |true=>exact absurd (Nat.eq_of_beq_eq_true e) h
 |false=>rfl
theorem yC{n i:Nat}(f:Nat->Bool)(h:i<n):(aZ n f).set i (.b true)=aZ n (rU f i):=by
 apply List.ext_getElem
 ·simp[aZ]
 ·intro k c d;rw[List.getElem_set];by_cases e:i=k
  ·subst e;simp[aZ,jS]
  ·simp[aZ,e,BC f (Ne.symm e)]
theorem lZ(n:Nat):aZ n (λ_=>false)=List.replicate n (.b false):=by apply List.ext_getElem<;>simp[aZ]
theorem mA{n:Nat}{f g:Nat->Bool}(h:∀i,i<n->f i=g i):aZ n f=aZ n g:=by
 apply List.ext_getElem
 ·simp[aZ]
 ·intro k c d;simp only[aZ,List.length_map,List.length_range]at c;simp[aZ,h k c]
def rV:Nat->(Nat->Bool)->Nat
 |0,_=>0
 |n+1,f=>rV n f+bif f n then 0 else 1
theorem Sy:∀(n:Nat){f g:Nat->Bool},(∀i,f i=true->g i=true)->rV n g<=rV n f
 |0,_,_,_=>Nat.le_refl _
 |n+1,f,g,h=>by
  have:=Sy n h;unfold rV;cases e:f n with
  |true=>rw[h n e];simpa using this
  |false=>cases g n<;>simp<;>omega
theorem JD:∀(n:Nat){f g:Nat->Bool}{i:Nat},(∀i,f i=true->g i=true)->i<n->f i=false->g i=true->rV n g<rV n f
 |0,_,_,_,_,h,_,_=>absurd h (by omega)
 |n+1,f,g,i,h,d,hf,hg=>by
  unfold rV;by_cases e:i=n
  ·subst e;rw[hf,hg];have:=Sy i h;simp;omega
  ·have:=JD n h (by omega) hf hg;have:(bif g n then 0 else 1)<=(bif f n then 0 else 1:Nat):=by
    cases c:f n with
    |true=>rw[h n c];exact Nat.le_refl _
    |false=>cases g n<;>simp
   omega
theorem GN(f:Nat->Bool)(i:Nat):∀k,f k=true->rU f i k=true:=λk h=>by
 by_cases e:k=i
 ·subst e;exact jS f k
 ·rw[BC f e];exact h
theorem U6(nb:Nat):∀(l:List D)(out:List Nat),(∀n,n∈out->n<nb)->∀n,n∈l.foldl (jY nb) out->n<nb
 |[],_,h=>h
 |x::l,out,h=>by
  rw[List.foldl_cons];refine U6 nb l _ (λn c=>?_);unfold jY at c;cases e:AL nb out x with
  |false=>rw[e]at c;exact h n c
  |true=>
   rw[e]at c;simp only[cond_true,List.mem_append,List.mem_singleton]at c;rcases c with d |d
   ·exact h n d
   ·unfold AL at e;rw[Bool.and_eq_true,Bool.and_eq_true,eR,eA]at e;have:=e.1.2;simp at this;omega
theorem OR{bs:List D}{b:Int}{n:Nat}(h:n∈aU bs b):n<bs.length:=by
 unfold aU at h;cases e:aBU bs b with
 |true=>rw[e]at h;exact U6 bs.length _ [] (λ_ h=>by cases h) n h
 |false=>rw[e]at h;cases h
inductive RA(bs:List D)(start fG:Int):Nat->Prop where
 |base:0<=start->start<bs.length->start≠fG->RA bs start fG start.toNat
 |step {b n:Nat}:RA bs start fG b->n∈aU bs b->(n:Int)≠fG->RA bs start fG n
open Classical in
noncomputable def Dp(bs:List D)(start fG:Int)(i:Nat):Bool:=decide (RA bs start fG i)
theorem yP{bs:List D}{start fG:Int}{i:Nat}:Dp bs start fG i=true<->RA bs start fG i:=by simp[Dp]
noncomputable def cO(bs:List D)(start fG:Int):List D:=aZ bs.length (Dp bs start fG)
theorem aDc{bs:List D}{start fG:Int}(h:¬(0<=start/\start<bs.length/\start≠fG)){i:Nat}:¬RA bs start fG i:=by
 intro c;induction c with
 |base d e f=>exact h ⟨d,e,f⟩
 |step _ _ _ g=>exact g
theorem mB(l:List Nat):(l.map iD).length=l.length:=List.length_map ..
theorem MU(bs:List D)(b:Int)(hT:fF bs):(aU bs b).length<=10000:=by
 unfold aU;cases e:aBU bs b with
 |false=>exact Nat.zero_le _
 |true=>
  have d:lM bs b=true:=by rw[Sx]at e;exact(Bool.and_eq_true_iff.1 e).1
  obtain⟨f,g,h⟩:=OQ d;have c:=((hT.2 b.toNat (by omega)).i _ (show(gD bs b.toNat).els.length-1<_ by omega)).is1;unfold eL at c;exact Nat.le_trans (Xt bs.length _ []) (by simpa[fK]using c)
theorem SU{l:List Nat}{k:Nat}(h:k<l.length):gD (l.map iD) k=iD l[k]:=by simp[gD,List.getD,h]
section
variable(nm:List UInt8)(o:Bool)(ps:List D)(r:Int)(bs:List D)(hT:fF bs)(start fG:Int)
include hT
structure In4(b:Nat)(f0:Nat->Bool)(ag0:Bool)(k:Nat)(q:Bool×(Nat->Bool)):Prop where
 mono:∀i,f0 i=true->q.2 i=true
 snd:∀i,q.2 i=true->RA bs start fG i
 all:∀(i:Nat)(h:i<(aU bs b).length),i<k->(((aU bs b)[i]:Nat):Int)≠fG->q.2 (aU bs b)[i]=true
 or:(q.1=ag0/\q.2=f0)\/(q.1=true/\rV bs.length q.2<rV bs.length f0)
theorem p8(b:Nat)(f0:Nat->Bool)(ag0:Bool)(G:RA bs start fG b)(H:∀i,f0 i=true->RA bs start fG i):
  ∃q:Bool×(Nat->Bool),In4 bs start fG b f0 ag0 (aU bs b).length q/\fC GI 4 [.i 0,.i (b:Int),.i fG,.b ag0,.s nm,.b o,.l ps,.i r,.l bs,.l (aZ bs.length f0),.l ((aU bs b).map iD)] (0,[.i (b:Int),.i fG,.b q.1,.s nm,.b o,.l ps,.i r,.l bs,.l (aZ bs.length q.2)]):=by
 have L:=MU bs b hT;have J:cD ((aU bs b).map iD):=by unfold cD;rw[mB];omega
 refine DI GJ (λk(q:Bool×(Nat->Bool))=>[.i (k:Int),.i (b:Int),.i fG,.b q.1,.s nm,.b o,.l ps,.i r,.l bs,.l (aZ bs.length q.2),.l ((aU bs b).map iD)]) (aU bs b).length (λq=>(0,[.i (b:Int),.i fG,.b q.1,.s nm,.b o,.l ps,.i r,.l bs,.l (aZ bs.length q.2)])) (In4 bs start fG b f0 ag0) (λk q u d=>?_) (λq d=>?_) (s0:=(ag0,f0)) ⟨λi h=>h,H,λi g m=>by omega,.inl ⟨rfl,rfl⟩⟩
 ·have f:k<((aU bs b).map iD).length:=by rw[mB];exact u
  have hg:gD ((aU bs b).map iD) k=iD (aU bs b)[k]:=SU u;have v:(aU bs b)[k]<bs.length:=OR (List.getElem_mem u);have y:aA (gD ((aU bs b).map iD) k).toI (aZ bs.length q.2).length=true:=by rw[hg,eN];exact aE v
  have K:(aZ bs.length q.2).set (Int.toNat (gD ((aU bs b).map iD) k).toI) (.b true)=aZ bs.length (rU q.2 (aU bs b)[k]):=by rw[hg];exact yC q.2 v
  have F:(gD (aZ bs.length q.2) (Int.toNat (gD ((aU bs b).map iD) k).toI)).toB=q.2 (aU bs b)[k]:=by rw[hg];exact congrArg D.toB (jR q.2 v)
  have C:=λl=>nx (j:=k) f J [] l;by_cases e1:(((aU bs b)[k]:Nat):Int)=fG
  ·refine⟨q,⟨d.mono,d.snd,λi g m s=>?_,d.or⟩,?_⟩
   ·by_cases e:i=k
    ·subst e;exact absurd e1 s
    ·exact d.all i g (by omega) s
   ·show Ev _ _ (lX _) _;unfold lX;have z:aD (gD ((aU bs b).map iD) k).toI fG=true:=by rw[hg];exact(bT _ _).2 e1
    exact aC (aW f) (aC (aE f) (aC (aH (aE f)) (aC (aH y) (aJ (congrArg (λc=>(!c)&&!(D.toB (gD (aZ bs.length q.2) (Int.toNat (gD ((aU bs b).map iD) k).toI)))) z) (aO (C _))))))
  ·have z:aD (gD ((aU bs b).map iD) k).toI fG=false:=by rw[hg];exact lY e1
   cases t:q.2 (aU bs b)[k]with
   |true=>
    refine⟨q,⟨d.mono,d.snd,λi g m s=>?_,d.or⟩,?_⟩
    ·by_cases e:i=k
     ·subst e;exact t
     ·exact d.all i g (by omega) s
    ·show Ev _ _ (lX _) _;unfold lX;refine aC (aW f) (aC (aE f) (aC (aH (aE f)) (aC (aH y) (aJ ?_ (aO (C _))))));have:((!(aD (gD ((aU bs b).map iD) k).toI fG))&&!(D.toB (gD (aZ bs.length q.2) (Int.toNat (gD ((aU bs b).map iD) k).toI))))=false:=by rw[F,t,Bool.not_true,Bool.and_false]
     exact this
   |false=>
    refine⟨(true,rU q.2 (aU bs b)[k]),⟨λi h=>GN _ _ i (d.mono i h),λi h=>?_,λi g m s=>?_,.inr ⟨rfl,?_⟩⟩,?_⟩
    ·have h:rU q.2 (aU bs b)[k] i=true:=h;by_cases e:i=(aU bs b)[k]
     ·rw[e];exact RA.step G (List.getElem_mem u) e1
     ·rw[BC _ e]at h;exact d.snd i h
    ·by_cases e:i=k
     ·subst e;exact jS _ _
     ·exact GN _ _ _ (d.all i g (by omega) s)
    ·have g:rV bs.length (rU q.2 (aU bs b)[k])<rV bs.length q.2:=JD _ (GN _ _) v t (jS _ _);rcases d.or with⟨_,m⟩ |⟨_,m⟩
     ·rw[m]at g⊢;exact g
     ·exact Nat.lt_trans g m
    ·show Ev _ _ (lX _) _;unfold lX;refine aC (aW f) (aC (aE f) (aC (aH (aE f)) (aC (aH y) (aC ?_ (aC (aE f) (aC y (aO ((C _).trans ?_))))))))
     ·have:((!(aD (gD ((aU bs b).map iD) k).toI fG))&&!(D.toB (gD (aZ bs.length q.2) (Int.toNat (gD ((aU bs b).map iD) k).toI))))=true:=by rw[F,t,z];rfl
      exact this
     ·rw[<-K];rfl
 ·show Ev _ _ (lX _) _;unfold lX;refine aJ ?_ (bG rfl);have:=aX ((aU bs b).map iD).length;rw[mB]at this;show aT ((aU bs b).length:Int) ((aU bs b).map iD).length=false;rw[mB];exact this
structure In2(f0:Nat->Bool)(j:Nat)(q:Bool×(Nat->Bool)):Prop where
 mono:∀i,f0 i=true->q.2 i=true
 snd:∀i,q.2 i=true->RA bs start fG i
 or:(q.1=false/\q.2=f0/\∀b,b<j->f0 b=true->∀n,n∈aU bs b->(n:Int)≠fG->f0 n=true)\/(q.1=true/\rV bs.length q.2<rV bs.length f0)
theorem p9(f0:Nat->Bool)(T:∀i,f0 i=true->RA bs start fG i):
  ∃q:Bool×(Nat->Bool),In2 bs start fG f0 bs.length q/\fC GI 2 [.i 0,.i fG,.b false,.s nm,.b o,.l ps,.i r,.l bs,.l (aZ bs.length f0)] (0,[.i fG,.b q.1,.s nm,.b o,.l ps,.i r,.l bs,.l (aZ bs.length q.2)]):=by
 have K:cD bs:=hT.1.sane;refine DI GJ (λj(q:Bool×(Nat->Bool))=>[.i (j:Int),.i fG,.b q.1,.s nm,.b o,.l ps,.i r,.l bs,.l (aZ bs.length q.2)]) bs.length (λq=>(0,[.i fG,.b q.1,.s nm,.b o,.l ps,.i r,.l bs,.l (aZ bs.length q.2)])) (In2 bs start fG f0) (λj q m d=>?_) (λq d=>?_) (s0:=(false,f0)) ⟨λi h=>h,T,.inl ⟨rfl,rfl,λb f=>by omega⟩⟩
 ·have J:aT (j:Int) (aZ bs.length q.2).length=true:=by rw[eN];exact aW m
  have P:aA (j:Int) (aZ bs.length q.2).length=true:=by rw[eN];exact aE m
  have L:(gD (aZ bs.length q.2) j).toB=q.2 j:=congrArg D.toB (jR q.2 m);cases e:q.2 j with
  |false=>
   refine⟨q,⟨d.mono,d.snd,?_⟩,?_⟩
   ·rcases d.or with⟨f,t,g⟩ |h
    ·refine .inl ⟨f,t,λb Q c n u y=>?_⟩;by_cases v:b=j
     ·subst v;rw[t]at e;rw[e]at c;cases c
     ·exact g b (by omega) c n u y
    ·exact .inr h
   ·show Ev _ _ (pT _) _;unfold pT;refine aC J (aC P (aC ?_ (aO (nx m K [] _))));have:(!(D.toB (gD (aZ bs.length q.2) j)))=true:=by rw[L,e];rfl
    exact this
  |true=>
   obtain⟨U,f,t⟩:=p8 nm o ps r bs hT start fG j q.2 q.1 (d.snd j e) d.snd;refine⟨U,⟨λi h=>f.mono i (d.mono i h),f.snd,?_⟩,?_⟩
   ·rcases f.or with⟨s,l⟩ |⟨s,l⟩
    ·rcases d.or with⟨g,c,u⟩ |⟨g,c⟩
     ·refine .inl ⟨s.trans g,l.trans c,λb Q y n F G=>?_⟩;by_cases v:b=j
      ·subst v;obtain⟨i,H,C⟩:=List.getElem_of_mem F;have:=f.all i H H (by rw[C];exact G);rw[C,l,c]at this;exact this
      ·exact u b (by omega) y n F G
     ·exact .inr ⟨s.trans g,by rw[l];exact c⟩
    ·refine .inr ⟨s,?_⟩;rcases d.or with⟨g,c,u⟩ |⟨g,c⟩
     ·rw[c]at l;exact l
     ·omega
   ·show Ev _ _ (pT _) _;unfold pT;refine aC J (aC P (aJ ?_ (bK (Js nm o ps r bs j hT) rfl (aP t (bD (aO (nx m K [] _)))))));have:(!(D.toB (gD (aZ bs.length q.2) j)))=false:=by rw[L,e];rfl
    exact this
 ·show Ev _ _ (pT _) _;unfold pT;refine aJ ?_ (bG rfl);show aT (bs.length:Int) (aZ bs.length q.2).length=false;rw[eN];exact aX _
structure In0(q:Bool×(Nat->Bool)):Prop where
 st:q.2 start.toNat=true
 snd:∀i,q.2 i=true->RA bs start fG i
 cl:q.1=false->∀b,b<bs.length->q.2 b=true->∀n,n∈aU bs b->(n:Int)≠fG->q.2 n=true
omit hT in
theorem Xu{i:Nat}(h:RA bs start fG i):i<bs.length:=by
 cases h with
 |base d c _=>omega
 |step _ c _=>exact OR c
theorem q7(f0:Nat->Bool)(v:In0 bs start fG (true,f0)):
  fC GI 0 [.i fG,.b true,.s nm,.b o,.l ps,.i r,.l bs,.l (aZ bs.length f0)] (0,[.l (cO bs start fG)]):=by
 have h:=GM GJ (b:=0) (λ(q:Bool×(Nat->Bool))=>[.i fG,.b q.1,.s nm,.b o,.l ps,.i r,.l bs,.l (aZ bs.length q.2)]) (In0 bs start fG) (λq=>2*rV bs.length q.2+bif q.1 then 1 else 0) (λt=>t=(0,[.l (cO bs start fG)])) (λq g=>?_) v
 ·obtain⟨t,c,l⟩:=h;subst c;exact l
 ·cases e:q.1 with
  |false=>
   refine .inl ⟨_,rfl,?_⟩;show Ev _ _ (zK _) _;unfold zK;refine aJ rfl (bG ?_);have:cO bs start fG=aZ bs.length q.2:=by
    refine mA λi K=>?_;rw[Bool.eq_iff_iff,yP];constructor
    ·intro c;induction c with
     |base _ _ _=>exact g.st
     |step j F G H=>exact g.cl e _ (Xu bs start fG j) (H (Xu bs start fG j)) _ F G
    ·exact g.snd i
   rw[this];rfl
  |true=>
   obtain⟨J,c,l⟩:=p9 nm o ps r bs hT start fG q.2 g.snd;refine .inr ⟨J,⟨c.mono _ g.st,c.snd,λs b j u n y C=>?_⟩,?_,?_⟩
   ·rcases c.or with⟨d,f,m⟩ |⟨d,f⟩
    ·rw[f]at u⊢;exact m b j u n y C
    ·rw[d]at s;cases s
   ·rcases c.or with⟨d,f,m⟩ |⟨d,f⟩
    ·rw[d,f];simp
    ·rw[d];simp;omega
   ·show Ev _ _ (zK _) _;unfold zK;exact aC rfl (aP l (bD (aO rfl)))
theorem Jt:iS E aY sites Ef [pM nm o ps r bs,.i start,.i fG] (.l (cO bs start fG)) []:=by
 refine bA GJ (by rfl) rfl ?_;show Ev _ _ (YY _) _;unfold YY;have ht:=hT.1;unfold eL at ht;have v:iP (Int.toNat (bs.length:Int)) 1=true:=eM (by omega) (by omega);refine aC ?_ ?_
 ·show(cP 0 (bs.length:Int)&&(aD (bs.length:Int) (bs.length:Int)&&iP (Int.toNat (bs.length:Int)) 1))=true;rw[jA (by omega),pF,v];rfl
 ·have s:iL (List.replicate bs.length (D.b false))=(bs.length:Int):=by simp[iL]
  by_cases h:0<=start/\start<bs.length/\start≠fG
  ·obtain⟨f,g,l⟩:=h;refine aJ ?_ (aC ?_ ?_)
   ·show((aT start 0||cP (iL (List.replicate bs.length (D.b false))) start)||aD start fG)=false;rw[s,MT f,J6 g,lY l];rfl
   ·show aA start (List.length (List.replicate bs.length (D.b false)))=true;rw[List.length_replicate];unfold aA;rw[jA f,Sw g];rfl
   ·have y:start.toNat<bs.length:=by omega
    have e:(List.replicate bs.length (D.b false)).set start.toNat (.b true)=aZ bs.length (rU (λ_=>false) start.toNat):=by rw[<-lZ,yC _ y]
    have m:=q7 nm o ps r bs hT start fG (rU (λ_=>false) start.toNat) ⟨show rU (λ_=>false) start.toNat start.toNat=true from jS _ _,λi c=>(by
     have c:rU (λ_=>false) start.toNat i=true:=c;by_cases j:i=start.toNat
     ·rw[j];exact RA.base f g l
     ·rw[BC _ j]at c;cases c),λh=>by cases h⟩
    rw[<-e]at m;exact aP m (bD (bJ rfl rfl))
  ·refine aC ?_ (bJ ?_ rfl)
   ·show((aT start 0||cP (iL (List.replicate bs.length (D.b false))) start)||aD start fG)=true;rw[s];by_cases t:0<=start
    ·by_cases u:start<bs.length
     ·have d:start=fG:=by
       by_cases d:start=fG
       ·exact d
       ·exact absurd ⟨t,u,d⟩ h
      rw[d,pF,Bool.or_true]
     ·rw[jA (by omega),Bool.or_true];rfl
    ·rw[Sw (by omega)];rfl
   ·show D.l (cO bs start fG)=.l (List.replicate bs.length (D.b false));rw[<-lZ];refine congrArg D.l (mA λi c=>?_);cases e:Dp bs start fG i with
    |false=>rfl
    |true=>exact absurd (yP.1 e) (aDc h)
theorem Cu:iS E aY sites VR [pM nm o ps r bs] (.l (cO bs 0 (-1))) []:=by refine bA Iz (by rfl) rfl ?_;show Ev _ _ (SI _) _;unfold SI;exact bK (Jt nm o ps r bs hT 0 (-1)) rfl (bJ rfl rfl)
end
end Go.Eng.Q

namespace Go.Eng.Q
open Go.Eng
theorem Ju(nb:Nat):∀(l:List D)(out:List Nat),out.Nodup->(l.foldl (jY nb) out).Nodup
 |[],_,h=>h
 |x::l,out,h=>by
  rw[List.foldl_cons];refine Ju nb l _ ?_;unfold jY;cases e:AL nb out x with
  |false=>exact h
  |true=>
   unfold AL at e;rw[Bool.and_eq_true]at e;have f:x.toI.toNat∉out:=by simpa using e.2
   simp only[cond_true];rw[List.nodup_append];exact⟨h,by simp,λa g b c=>by simp at c;subst c;intro d;subst d;exact f g⟩
theorem J8(bs:List D)(b:Int):(aU bs b).Nodup:=by
 unfold aU;cases aBU bs b with
 |true=>exact Ju _ _ _ List.nodup_nil
 |false=>exact List.nodup_nil
def dE(n:Nat)(g:Nat->List Nat):List D:=(List.range n).map λi=>.l ((g i).map iD)
theorem OS(n:Nat)(g:Nat->List Nat):(dE n g).length=n:=by simp[dE]
theorem ZY{n i:Nat}(g:Nat->List Nat)(h:i<n):gD (dE n g) i=.l ((g i).map iD):=by simp[gD,List.getD,dE,h]
theorem EY{n:Nat}{f g:Nat->List Nat}(h:∀i,i<n->f i=g i):dE n f=dE n g:=by
 apply List.ext_getElem
 ·simp[dE]
 ·intro k c d;simp only[dE,List.length_map,List.length_range]at c;simp[dE,h k c]
theorem q8{n x:Nat}{f g:Nat->List Nat}(h:∀i,i<n->i≠x->f i=g i)(v:D)(hv:v=.l ((g x).map iD)):(dE n f).set x v=dE n g:=by
 apply List.ext_getElem
 ·simp[dE]
 ·intro k c d;rw[List.getElem_set];by_cases e:x=k
  ·subst e;simp[dE,hv]
  ·simp only[List.length_set,dE,List.length_map,List.length_range]at c;simp[dE,e,h k c (Ne.symm e)]
def mC(bs:List D)(j i:Nat):List Nat:=(List.range j).filter λb=>decide (i∈aU bs (b:Int))
def gU(bs:List D)(i:Nat):List Nat:=mC bs bs.length i
def mR(bs:List D)(b k i:Nat):List Nat:=bif decide (i∈(aU bs (b:Int)).take k)then mC bs b i++[b]else mC bs b i
theorem U7(bs:List D)(b i:Nat):mR bs b 0 i=mC bs b i:=by simp[mR]
theorem Oi(bs:List D)(b i:Nat):mR bs b (aU bs (b:Int)).length i=mC bs (b+1) i:=by
 unfold mR;rw[List.take_length];conv=>rhs;rw[mC,List.range_succ,List.filter_append,<-mC]
 cases e:decide (i∈aU bs (b:Int))with
 |true=>simp[e]
 |false=>simp[e]
theorem ZZ(bs:List D)(j i:Nat):(mC bs j i).length<=j:=by unfold mC;exact Nat.le_trans (List.length_filter_le _ _) (by simp)
theorem Oj(bs:List D):List.replicate bs.length (D.l [])=dE bs.length (mC bs 0):=by
 apply List.ext_getElem
 ·simp[dE]
 ·intro k c d;simp[dE,mC]
theorem Ok(bs:List D)(b k:Nat)(c:k<(aU bs b).length)(l:(aU bs b)[k]<bs.length):
  gD (dE bs.length (mR bs b k)) (Int.toNat (gD ((aU bs b).map iD) k).toI)=.l ((mC bs b (aU bs b)[k]).map iD)/\(dE bs.length (mR bs b k)).set (Int.toNat (gD ((aU bs b).map iD) k).toI) (.l ((D.els (gD (dE bs.length (mR bs b k)) (Int.toNat (gD ((aU bs b).map iD) k).toI)))++[.i (b:Int)]))=dE bs.length (mR bs b (k+1)):=by
 have hg:gD ((aU bs b).map iD) k=iD (aU bs b)[k]:=SU c;have r:(aU bs b)[k]∉(aU bs b).take k:=by intro h;obtain⟨i,j,e⟩:=List.getElem_of_mem h;rw[List.length_take]at j;rw[List.getElem_take]at e;exact(List.pairwise_iff_getElem.1 (J8 bs b)) i k (by omega) c (by omega) e
 have g:mR bs b k (aU bs b)[k]=mC bs b (aU bs b)[k]:=by unfold mR;rw[show decide ((aU bs b)[k]∈(aU bs b).take k)=false by simpa using r];rfl
 have d:gD (dE bs.length (mR bs b k)) (Int.toNat (gD ((aU bs b).map iD) k).toI)=.l ((mC bs b (aU bs b)[k]).map iD):=by rw[hg];have:=ZY (mR bs b k) l;rw[g]at this;exact this
 have s:(dE bs.length (mR bs b k)).set (Int.toNat (gD ((aU bs b).map iD) k).toI) (.l ((D.els (gD (dE bs.length (mR bs b k)) (Int.toNat (gD ((aU bs b).map iD) k).toI)))++[.i (b:Int)]))=dE bs.length (mR bs b (k+1)):=by
  rw[d,hg];refine q8 (λi _ m=>?_) _ ?_
  ·unfold mR;have:(i∈(aU bs b).take (k+1))<->(i∈(aU bs b).take k):=by
    rw[List.take_succ_eq_append_getElem c,List.mem_append,List.mem_singleton];exact⟨λh=>h.elim id (λe=>absurd e m),.inl⟩
   simp only[this]
  ·have f:(aU bs b)[k]∈(aU bs b).take (k+1):=by
    rw[List.take_succ_eq_append_getElem c];exact List.mem_append_right _ (List.mem_singleton.2 rfl)
   show _=D.l ((mR bs b (k+1) (aU bs b)[k]).map iD);unfold mR;rw[show decide ((aU bs b)[k]∈(aU bs b).take (k+1))=true by simpa using f];simp[D.els]
 exact⟨d,s⟩
section
variable(nm:List UInt8)(o:Bool)(ps:List D)(r:Int)(bs:List D)(hT:fF bs)
include hT
theorem q9(b:Nat)(m:b<bs.length):fC OL 2 [.i (b:Int),.i 0,.s nm,.b o,.l ps,.i r,.l bs,.l (dE bs.length (mC bs b)),.l ((aU bs b).map iD)] (0,[.i (b:Int),.s nm,.b o,.l ps,.i r,.l bs,.l (dE bs.length (mC bs (b+1)))]):=by
 have s:=MU bs b hT;have ht:=hT.1;unfold eL at ht;have j:cD ((aU bs b).map iD):=by unfold cD;rw[mB];omega
 have g:dE bs.length (mC bs b)=dE bs.length (mR bs b 0):=EY λi _=>(U7 bs b i).symm;have e1:dE bs.length (mC bs (b+1))=dE bs.length (mR bs b (aU bs b).length):=EY λi _=>(Oi bs b i).symm;rw[g,e1];refine cI OM (λk=>[.i (b:Int),.i (k:Int),.s nm,.b o,.l ps,.i r,.l bs,.l (dE bs.length (mR bs b k)),.l ((aU bs b).map iD)]) (aU bs b).length (λk c=>?_) ?_
 ·have d:k<((aU bs b).map iD).length:=by rw[mB];exact c
  have hg:gD ((aU bs b).map iD) k=iD (aU bs b)[k]:=SU c;have e:(aU bs b)[k]<bs.length:=OR (List.getElem_mem c);have f:aA (gD ((aU bs b).map iD) k).toI (dE bs.length (mR bs b k)).length=true:=by rw[hg,OS];exact aE e
  obtain⟨h,l⟩:=Ok bs b k c e;show Ev _ _ (zA _) _;unfold zA;refine aC (aW d) (aC (aE d) (aC (aE d) (aC f (aC ?_ (aC ?_ (aC f (aC ?_ (aO ((nx d j [.i (b:Int)] _).trans ?_)))))))))
  ·show iP ((D.els (gD (dE bs.length (mR bs b k)) (Int.toNat (gD ((aU bs b).map iD) k).toI))).length+1) 8=true;rw[h];refine eM ?_ (by omega);have:=ZZ bs b (aU bs b)[k];simp[D.els];omega
  ·show((aD (gD ((aU bs b).map iD) k).toI (gD ((aU bs b).map iD) k).toI)&&true)=true;rw[pF];rfl
  ·show((Nat.beq (Int.toNat (gD ((aU bs b).map iD) k).toI) (Int.toNat (gD ((aU bs b).map iD) k).toI))&&true)=true;simp
  ·rw[<-l];rfl
 ·show Ev _ _ (zA _) _;unfold zA;refine aJ ?_ (bG rfl);show aT ((aU bs b).length:Int) ((aU bs b).map iD).length=false;rw[mB];exact aX _
theorem J9:iS E aY sites Sg [pM nm o ps r bs] (.l (dE bs.length (gU bs))) []:=by
 refine bA OM (by rfl) rfl ?_;show Ev _ _ (YT _) _;unfold YT;have ht:=hT.1;unfold eL at ht;have e:iP (Int.toNat (bs.length:Int)) 24=true:=eM (by omega) (by omega);have d:fC OL 0 [.i 0,.s nm,.b o,.l ps,.i r,.l bs,.l (dE bs.length (mC bs 0))] (0,[.l (dE bs.length (mC bs bs.length))]):=by
  refine cI OM (λj=>[.i (j:Int),.s nm,.b o,.l ps,.i r,.l bs,.l (dE bs.length (mC bs j))]) bs.length (λj c=>?_) ?_
  ·show Ev _ _ (yZ _) _;unfold yZ;exact aC (aW c) (bK (Js nm o ps r bs j hT) rfl (aP (q9 nm o ps r bs hT j c) (bD (aO (nx c hT.1.sane [] _)))))
  ·show Ev _ _ (yZ _) _;unfold yZ;exact aJ (aX _) (bG rfl)
 refine aC ?_ ?_
 ·show(cP 0 (bs.length:Int)&&(aD (bs.length:Int) (bs.length:Int)&&iP (Int.toNat (bs.length:Int)) 24))=true;rw[jA (by omega),pF,e];rfl
 ·rw[<-Oj]at d;exact aP d (bD (bJ rfl rfl))
end
end Go.Eng.Q

namespace Go.Eng.Q
open Go.Eng
theorem r8(l:List D)(n:Int)(u:cD l):∃k:Int,cP 0 k=(l.any λx=>aD x.toI n)/\iS E aY sites pE [.l l,.i n] (.i k) []:=by
 cases h:l.any (λx=>aD x.toI n)with
 |false=>
  refine⟨-1,rfl,bA gR (by rfl) rfl ?_⟩;show Ev _ _ (gQ _) _;unfold gQ;have g:fC jQ 0 [.l l,.i n,.i (l.length:Int),.i 0] (1,[]):=by
   refine cI gR (λj=>[.l l,.i n,.i (l.length:Int),.i (j:Int)]) l.length (λj c=>?_) ?_
   ·show Ev _ _ (cY _) _;unfold cY;have m:=WB h j c;have d:aD n (gD l j).toI=false:=lY (Ne.symm (ST m));exact aC (aW c) (aC (aE c) (aJ d (aO (nx c u [.l l,.i n,.i (l.length:Int)] []))))
   ·show Ev _ _ (cY _) _;unfold cY;exact aJ (aX _) (bG rfl)
  exact aP g (eB (bD (bJ rfl rfl)))
 |true=>
  have m:dS l.length (λj=>aD (gD l j).toI n)=true:=by
   cases d:dS l.length (λj=>aD (gD l j).toI n)with
   |true=>rfl
   |false=>rw[List.any_eq_true]at h;obtain⟨x,hx,r⟩:=h;obtain⟨i,f,e⟩:=List.getElem_of_mem hx;have:=bQ.1 d i f;rw[show gD l i=x by simp[gD,List.getD,f,e],r]at this;cases this
  obtain⟨j,c,d,r⟩:=xS m;refine⟨j,jA (by omega),bA gR (by rfl) rfl ?_⟩;show Ev _ _ (gQ _) _;unfold gQ;have g:fC jQ 0 [.l l,.i n,.i (l.length:Int),.i 0] (0,[.i (j:Int)]):=by
   refine cI gR (λj=>[.l l,.i n,.i (l.length:Int),.i (j:Int)]) j (λi f=>?_) ?_
   ·show Ev _ _ (cY _) _;unfold cY;have t:i<l.length:=by omega
    have s:aD n (gD l i).toI=false:=lY (Ne.symm (ST (r i f)));exact aC (aW t) (aC (aE t) (aJ s (aO (nx t u [.l l,.i n,.i (l.length:Int)] []))))
   ·show Ev _ _ (cY _) _;unfold cY;have s:aD n (gD l j).toI=true:=by rw[(bT _ _).1 d];exact pF _
    exact aC (aW c) (aC (aE c) (aC s (bG rfl)))
  exact aP g (bD (bJ rfl rfl))
theorem Sz(l:List D)(n:Int)(e:cD l):iS E aY sites mH [.l l,.i n] (.b (l.any λx=>aD x.toI n)) []:=by obtain⟨k,c,d⟩:=r8 l n e;refine bA pY (by rfl) rfl ?_;show Ev _ _ (lF _) _;unfold lF;exact bK d rfl (bJ (congrArg D.b c.symm) rfl)
section
variable(nm:List UInt8)(o:Bool)(ps:List D)(r:Int)(bs:List D)(hT:fF bs)
theorem Xv(l:List D)(v:eL l):
  fC MQ 0 [.l l,.i 0,.i (l.length:Int),.s nm,.b o,.l ps,.i r,.l bs,.l []] (0,[.l ((l.foldl (jY bs.length) []).map iD)]):=by
 unfold eL at v;have C:cD l:=by unfold cD;omega
 refine EU MR (λj(q:List Nat)=>[.l l,.i (j:Int),.i (l.length:Int),.s nm,.b o,.l ps,.i r,.l bs,.l (q.map iD)]) l (jY bs.length) (λq=>(0,[.l (q.map iD)])) (λj q=>q.length<=j) (λj q m y=>⟨?_,?_⟩) (λq y=>?_) (s0:=[]) (Nat.le_refl _)
 ·unfold jY;cases AL bs.length q (gD l j)<;>simp<;>omega
 ·show Ev _ _ (rS _) _;unfold rS;refine aC (aW m) (aC (aE m) ?_);have h:∀s:List Nat,[.l l,.i ((j+1:Nat):Int),.i (l.length:Int),.s nm,.b o,.l ps,.i r,.l bs,.l (s.map iD)]=[.l l,D.i (aG .i64 (j:Int) 1),.i (l.length:Int),.s nm,.b o,.l ps,.i r,.l bs,.l (s.map iD)]:=λs=>nx m C [.l l] _;cases d:(cP 0 (gD l j).toI&&aT (gD l j).toI bs.length)with
  |false=>
   have f:AL bs.length q (gD l j)=false:=by unfold AL;rw[d];rfl
   have e:jY bs.length q (gD l j)=q:=by unfold jY;rw[f];rfl
   rw[e];exact aJ (congrArg (λc=>c&&true) d) (aJ (congrArg (λc=>c&&(!(D.toB (.i 0)))) d) (aO (h q)))
  |true=>
   have t:0<=(gD l j).toI:=by rw[Bool.and_eq_true,eR]at d;exact d.1
   have f:=Xs bs.length q (gD l j) t;refine aC (congrArg (λc=>c&&true) d) (bK (Sz (q.map iD) (gD l j).toI (by unfold cD;rw[List.length_map];omega)) rfl ?_);cases g:AL bs.length q (gD l j)with
   |true=>
    have e:jY bs.length q (gD l j)=q++[(gD l j).toI.toNat]:=by unfold jY;rw[g];rfl
    rw[e];refine aC (f.symm.trans g) ?_;unfold FO;refine aC ?_ (aO ((h _).trans ?_))
    ·show iP ((q.map iD).length+1) 8=true;rw[List.length_map];exact eM (by omega) (by omega)
    ·have u:iD (gD l j).toI.toNat=D.i (gD l j).toI:=congrArg D.i (Int.toNat_of_nonneg t);rw[List.map_append,List.map_cons,List.map_nil,u];rfl
   |false=>
    have e:jY bs.length q (gD l j)=q:=by unfold jY;rw[g];rfl
    rw[e];exact aJ (f.symm.trans g) (aO (h q))
 ·show Ev _ _ (rS _) _;unfold rS;exact aJ (aX _) (bG rfl)
include hT
theorem JE(b:Int):iS E aY sites GE [pM nm o ps r bs,.i b] (.l ((aU bs b).map iD)) []:=by
 refine bA MR (by rfl) rfl ?_;show Ev _ _ (MP _) _;unfold MP aU;rw[Sx];cases d:(cP 0 b&&aT b bs.length)with
 |false=>
  have g:(aT b 0||cP (bs.length:Int) b)=true:=by
   unfold aT at*;cases h:cP 0 b with
   |false=>rfl
   |true=>rw[h]at d;cases m:cP (bs.length:Int) b with
    |true=>rfl
    |false=>rw[m]at d;cases d
  have f:lM bs b=false:=by unfold lM;rw[d];rfl
  rw[f];exact aC (congrArg (λc=>(!(!c))||aA b bs.length) g) (aC (congrArg (λc=>c||aD (iE (gD bs b.toNat)) 0) g) (bJ rfl rfl))
 |true=>
  have g:(aT b 0||cP (bs.length:Int) b)=false:=by
   unfold aT at*;cases h:cP 0 b with
   |false=>rw[h]at d;cases d
   |true=>rw[h]at d;cases m:cP (bs.length:Int) b with
    |true=>rw[m]at d;cases d
    |false=>rfl
  have s:aA b bs.length=true:=d;refine aC (aH s) ?_;cases j:aD (gD bs b.toNat).els.length 0 with
  |true=>
   have f:lM bs b=false:=by unfold lM;rw[j,Bool.not_true,Bool.and_false]
   rw[f];exact aC (aH j) (bJ rfl rfl)
  |false=>
   have f:lM bs b=true:=by unfold lM;rw[d,j];rfl
   obtain⟨C,F,t⟩:=OQ f;have y:b.toNat<bs.length:=by omega
   have ht:(gD bs b.toNat).els.length<=1000000:=by have:=(hT.2 b.toNat y).ins;unfold eL at this;omega
   have e:Int.toNat (bC .i64 (((gD bs b.toNat).els.length:Int)-1))=(gD bs b.toNat).els.length-1:=Jr t ht;have l:gD (gD bs b.toNat).els (Int.toNat (bC .i64 (((gD bs b.toNat).els.length:Int)-1)))=fK (gD bs b.toNat):=by rw[e];rfl
   rw[f];refine aJ ((congrArg (λc=>c||aD (iE (gD bs b.toNat)) 0) g).trans j) (aC s (aC s (aC ?_ ?_)))
   ·show aA (bC .i64 (((gD bs b.toNat).els.length:Int)-1)) (gD bs b.toNat).els.length=true;rw[DL t ht];exact aE (by omega)
   ·cases u:(aD (vI (fK (gD bs b.toNat)) 0) 27||aD (vI (fK (gD bs b.toNat)) 0) 28)with
    |false=>refine aC ?_ (bJ rfl rfl);show((!(aD (vI (gD (gD bs b.toNat).els (Int.toNat (bC .i64 (((gD bs b.toNat).els.length:Int)-1)))) 0) 27))&&(!(aD (vI (gD (gD bs b.toNat).els (Int.toNat (bC .i64 (((gD bs b.toNat).els.length:Int)-1)))) 0) 28)))=true;rw[l,<-Bool.not_or,u];rfl
    |true=>
     refine aJ ?_ ?_
     ·show((!(aD (vI (gD (gD bs b.toNat).els (Int.toNat (bC .i64 (((gD bs b.toNat).els.length:Int)-1)))) 0) 27))&&(!(aD (vI (gD (gD bs b.toNat).els (Int.toNat (bC .i64 (((gD bs b.toNat).els.length:Int)-1)))) 0) 28)))=false;rw[l,<-Bool.not_or,u];rfl
     ·have v:=Xv nm o ps r bs (eX (fK (gD bs b.toNat)) 6) ((hT.2 b.toNat y).i _ (by omega)).is1;rw[<-l]at v⊢;exact aP v (bD (bJ rfl rfl))
theorem Xw(b:Nat)(nb:Int)(m:b<bs.length):fC ES 2 [.i nb,.i 0,.i (b:Int),.i ((aU bs b).length:Int),.i (b:Int),.s nm,.b o,.l ps,.i r,.l bs,.l (dE bs.length (mC bs b)),.l ((aU bs b).map iD)] (0,[.i nb,.i (b:Int),.s nm,.b o,.l ps,.i r,.l bs,.l (dE bs.length (mC bs (b+1)))]):=by
 have s:=MU bs b hT;have ht:=hT.1;unfold eL at ht;have j:cD ((aU bs b).map iD):=by unfold cD;rw[mB];omega
 have g:dE bs.length (mC bs b)=dE bs.length (mR bs b 0):=EY λi _=>(U7 bs b i).symm;have e1:dE bs.length (mC bs (b+1))=dE bs.length (mR bs b (aU bs b).length):=EY λi _=>(Oi bs b i).symm;rw[g,e1];refine cI ET (λk=>[.i nb,.i (k:Int),.i (b:Int),.i ((aU bs b).length:Int),.i (b:Int),.s nm,.b o,.l ps,.i r,.l bs,.l (dE bs.length (mR bs b k)),.l ((aU bs b).map iD)]) (aU bs b).length (λk c=>?_) ?_
 ·have d:k<((aU bs b).map iD).length:=by rw[mB];exact c
  have hg:gD ((aU bs b).map iD) k=iD (aU bs b)[k]:=SU c;have e:(aU bs b)[k]<bs.length:=OR (List.getElem_mem c);have f:aA (gD ((aU bs b).map iD) k).toI (dE bs.length (mR bs b k)).length=true:=by rw[hg,OS];exact aE e
  obtain⟨h,l⟩:=Ok bs b k c e;show Ev _ _ (rN _) _;unfold rN;refine aC (aW c) (aC (aE d) (aC f (aC ?_ (aC f (aC ?_ (aO ((nx d j [.i nb] _).trans ?_)))))))
  ·show iP ((D.els (gD (dE bs.length (mR bs b k)) (Int.toNat (gD ((aU bs b).map iD) k).toI))).length+1) 8=true;rw[h];refine eM ?_ (by omega);have:=ZZ bs b (aU bs b)[k];simp[D.els];omega
  ·show((Nat.beq (Int.toNat (gD ((aU bs b).map iD) k).toI) (Int.toNat (gD ((aU bs b).map iD) k).toI))&&true)=true;simp
  ·rw[<-l];rfl
 ·show Ev _ _ (rN _) _;unfold rN;exact aJ (aX _) (bG rfl)
theorem Ta:iS E aY sites YR [pM nm o ps r bs] (.l (dE bs.length (gU bs))) []:=by
 refine bA ET (by rfl) rfl ?_;show Ev _ _ (MK _) _;unfold MK;have ht:=hT.1;unfold eL at ht;have f:iP (Int.toNat (bs.length:Int)) 24=true:=eM (by omega) (by omega);have d:fC ES 0 [.i (bs.length:Int),.i 0,.s nm,.b o,.l ps,.i r,.l bs,.l (dE bs.length (mC bs 0))] (0,[.l (dE bs.length (mC bs bs.length))]):=by
  refine cI ET (λj=>[.i (bs.length:Int),.i (j:Int),.s nm,.b o,.l ps,.i r,.l bs,.l (dE bs.length (mC bs j))]) bs.length (λj c=>?_) ?_
  ·show Ev _ _ (rM _) _;unfold rM;refine aC (aW c) (bK (JE nm o ps r bs hT j) rfl ?_);have e:=Xw nm o ps r bs hT j bs.length c;rw[show((aU bs j).length:Int)=iE (.l ((aU bs j).map iD))by simp[iE,D.els]]at e;exact aP e (bD (aO (nx c hT.1.sane [.i (bs.length:Int)] _)))
  ·show Ev _ _ (rM _) _;unfold rM;exact aJ (aX _) (bG rfl)
 refine aC ?_ ?_
 ·show(cP 0 (bs.length:Int)&&(aD (bs.length:Int) (bs.length:Int)&&iP (Int.toNat (bs.length:Int)) 24))=true;rw[jA (by omega),pF,f];rfl
 ·rw[<-Oj]at d;exact aP d (bD (bJ rfl rfl))
end
end Go.Eng.Q

namespace Go.Eng.Q
open Go.Eng
def rC(n:Nat)(f:Nat->Int):List D:=(List.range n).map λi=>.i (f i)
theorem GO(n:Nat)(f:Nat->Int):(rC n f).length=n:=by simp[rC]
theorem Xx{n i:Nat}(f:Nat->Int)(h:i<n):gD (rC n f) i=.i (f i):=by simp[gD,List.getD,rC,h]
def PD(f:Nat->Int)(i:Nat)(v:Int):Nat->Int:=λk=>bif Nat.beq k i then v else f k
theorem GP(f:Nat->Int)(i:Nat)(v:Int):PD f i v i=v:=by simp[PD]
theorem OT(f:Nat->Int){i k:Nat}(v:Int)(h:k≠i):PD f i v k=f k:=by
 unfold PD;cases e:Nat.beq k i with
 |true=>exact absurd (Nat.eq_of_beq_eq_true e) h
 |false=>rfl
theorem Xy{n i:Nat}(f:Nat->Int)(v:Int):(rC n f).set i (.i v)=rC n (PD f i v):=by
 apply List.ext_getElem
 ·simp[rC]
 ·intro k c d;rw[List.getElem_set];by_cases e:i=k
  ·subst e;simp[rC,GP]
  ·simp[rC,e,OT f v (Ne.symm e)]
theorem r9(n:Nat):List.replicate n (D.i 0)=rC n (λ_=>0):=by apply List.ext_getElem<;>simp[rC]
def nz(s:Nat->Int)(i:Nat):Bool:=!(aD (s i) 0)
theorem s6{s:Nat->Int}{i:Nat}:nz s i=true<->s i≠0:=by unfold nz;rw[dW];simp
def AA(nb:Nat)(s:Nat->Int):Nat:=rV nb (nz s)
theorem Jv{nb:Nat}{s t:Nat->Int}(h:∀i,s i≠0->t i≠0):AA nb t<=AA nb s:=Sy nb λi c=>s6.2 (h i (s6.1 c))
theorem Xz{nb:Nat}{s t:Nat->Int}{b:Nat}(h:∀i,s i≠0->t i≠0)(e:b<nb)(c:s b=0)(d:t b≠0):AA nb t<AA nb s:=
 JD nb (λi f=>s6.2 (h i (s6.1 f))) e (by unfold nz;rw[c];rfl) (s6.2 d)
section
variable(nm:List UInt8)(o:Bool)(ps:List D)(r:Int)(bs:List D)
abbrev Cv(s:Nat->Int)(out:List D)(c:Bool):D:=.l [.s nm,.b o,.l ps,.i r,.l bs,.l (rC bs.length s),.l out,.b c]
structure Vis(b:Nat)(s:Nat->Int)(o1:List D)(t:Nat->Int)(o2:List D):Prop where
 mono:∀i,s i≠0->t i≠0
 snd:∀i,t i≠0->s i≠0\/RA bs 0 (-1) i
 cl:∀i,t i≠0->s i≠0\/∀n:Nat,n∈aU bs i->t n≠0
 at1:t b≠0
 cnt:o2.length+AA bs.length t<=o1.length+AA bs.length s
structure Vk(b:Nat)(s:Nat->Int)(o1:List D)(k:Nat)(q:(Nat->Int)×List D×Bool):Prop where
 mono:∀i,s i≠0->q.1 i≠0
 snd:∀i,q.1 i≠0->s i≠0\/RA bs 0 (-1) i
 cl:∀i,q.1 i≠0->s i≠0\/∀n:Nat,n∈aU bs i->q.1 n≠0
 done:∀(i:Nat)(h:i<(aU bs b).length),i<k->q.1 (aU bs b)[i]≠0
 cnt:q.2.1.length+AA bs.length q.1<=o1.length+AA bs.length s
theorem aBW(W:fF bs):∀(N:Nat)(b:Nat)(s:Nat->Int)(out:List D)(G:Bool),AA bs.length s<=N->b<bs.length->s b=0->RA bs 0 (-1) b->out.length+AA bs.length s<=10000->
  ∃t y H,Vis bs b s out t y/\iS E aY sites jP [Cv nm o ps r bs s out G,.i (b:Int)] (.l []) [Cv nm o ps r bs t y H]:=by
 intro N;induction N with
 |zero=>
  intro b s out G v K U;have:AA bs.length (PD s b 1)<AA bs.length s:=Xz (λi d=>by
   by_cases e:i=b
   ·subst e;exact absurd U d
   ·rw[OT s 1 e];exact d) K U (by rw[GP];decide)
  omega
 |succ N b2=>
  intro b s out G b3 L T V b6;have a2:∀i,s i≠0->PD s b 1 i≠0:=λi d=>by
   by_cases e:i=b
   ·subst e;exact absurd T d
   ·rw[OT s 1 e];exact d
  have b7:AA bs.length (PD s b 1)<AA bs.length s:=Xz a2 L T (by rw[GP];decide);have b5:=MU bs b W;have b0:cD ((aU bs b).map iD):=by unfold cD;rw[mB];omega
  have a9:=DI rB (b:=0) (λk(q:(Nat->Int)×List D×Bool)=>[.i (b:Int),.i (k:Int),.i ((aU bs b).length:Int),.s nm,.b o,.l ps,.i r,.l bs,.b q.2.2,.l (rC bs.length q.1),.l q.2.1,.l ((aU bs b).map iD)]) (aU bs b).length (λq=>(0,[.i (b:Int),.s nm,.b o,.l ps,.i r,.l bs,.b q.2.2,.l (rC bs.length q.1),.l q.2.1])) (Vk bs b (PD s b 1) out) (λk q f c=>?_) (λq c=>?_) (s0:=(PD s b 1,out,G)) ⟨λi h=>h,λi h=>.inl h,λi h=>.inl h,λi h v=>by omega,Nat.le_refl _⟩
  ·obtain⟨q,c,a1⟩:=a9;have a0:q.1 b≠0:=c.mono b (by rw[GP];decide);have m:∀i,PD q.1 b 2 i≠0<->q.1 i≠0:=λi=>by
    by_cases e:i=b
    ·subst e;rw[GP];exact⟨λ_=>a0,λ_=>by decide⟩
    ·rw[OT _ 2 e]
   have b1:AA bs.length (PD q.1 b 2)=AA bs.length q.1:=Nat.le_antisymm (Jv λi h=>(m i).2 h) (Jv λi h=>(m i).1 h);refine⟨PD q.1 b 2,q.2.1++[.i (b:Int)],q.2.2,⟨λi d=>(m i).2 (c.mono i (a2 i d)),λi d=>?_,λi d=>?_,(m b).2 a0,?_⟩,?_⟩
   ·rcases c.snd i ((m i).1 d)with h |h
    ·by_cases e:i=b
     ·subst e;exact .inr V
     ·rw[OT s 1 e]at h;exact .inl h
    ·exact .inr h
   ·by_cases e:i=b
    ·subst e;refine .inr λn g=>(m n).2 ?_;obtain⟨k,f,J⟩:=List.getElem_of_mem g;have:=c.done k f f;rw[J]at this;exact this
    ·rcases c.cl i ((m i).1 d)with h |h
     ·rw[OT s 1 e]at h;exact .inl h
     ·exact .inr λn g=>(m n).2 (h n g)
   ·have:=c.cnt;rw[b1,List.length_append,List.length_singleton];omega
   ·refine bA rB (by rfl) rfl ?_;show Ev _ _ (rA _) _;unfold rA;refine aC ?_ (bK (JE nm o ps r bs W b) rfl ?_)
    ·show aA (b:Int) (rC bs.length s).length=true;rw[GO];exact aE L
    ·have e1:(rC bs.length s).set b (.i 1)=rC bs.length (PD s b 1):=Xy s 1;have J:iE (.l ((aU bs b).map iD))=((aU bs b).length:Int):=by simp[iE,D.els]
     rw[<-e1,<-J]at a1;refine aP a1 (bD (aC ?_ (aC ?_ (bJ rfl ?_))))
     ·show aA (b:Int) (rC bs.length q.1).length=true;rw[GO];exact aE L
     ·show iP (q.2.1.length+1) 8=true;have:=c.cnt;exact eM (by omega) (by omega)
     ·have a4:(rC bs.length q.1).set b (.i 2)=rC bs.length (PD q.1 b 2):=Xy q.1 2;show[Cv nm o ps r bs (PD q.1 b 2) (q.2.1++[.i (b:Int)]) q.2.2]=[D.l [.s nm,.b o,.l ps,.i r,.l bs,.l ((rC bs.length q.1).set b (.i 2)),.l (q.2.1++[.i (b:Int)]),.b q.2.2]];rw[a4]
  ·have F:k<((aU bs b).map iD).length:=by rw[mB];exact f
   have hg:gD ((aU bs b).map iD) k=iD (aU bs b)[k]:=SU f;have g:(aU bs b)[k]<bs.length:=OR (List.getElem_mem f);have Q:aA (gD ((aU bs b).map iD) k).toI (rC bs.length q.1).length=true:=by rw[hg,GO];exact aE g
   have a3:(gD (rC bs.length q.1) (Int.toNat (gD ((aU bs b).map iD) k).toI)).toI=q.1 (aU bs b)[k]:=by rw[hg];exact congrArg D.toI (Xx q.1 g)
   have P:=λl=>nx (j:=k) F b0 [.i (b:Int)] l;by_cases C:q.1 (aU bs b)[k]=0
   ·have c0:=Jv (nb:=bs.length) c.mono;have b4:=c.cnt;obtain⟨t,y,H,u,a6⟩:=b2 (aU bs b)[k] q.1 q.2.1 q.2.2 (by omega) g C (RA.step V (List.getElem_mem f) (by omega)) (by omega);refine⟨(t,y,H),⟨λi h=>u.mono i (c.mono i h),λi h=>?_,λi h=>?_,λi v K=>?_,Nat.le_trans u.cnt c.cnt⟩,?_⟩
    ·rcases u.snd i h with h |h
     ·exact c.snd i h
     ·exact .inr h
    ·rcases u.cl i h with h |h
     ·rcases c.cl i h with h |h
      ·exact .inl h
      ·exact .inr λn g=>u.mono n (h n g)
     ·exact .inr h
    ·by_cases e:i=k
     ·subst e;exact u.at1
     ·exact u.mono _ (c.done i v (by omega))
    ·show Ev _ _ (dT _) _;unfold dT;refine aC (aW f) (aC (aE F) (aC Q (aC ?_ ?_)))
     ·show aD (gD (rC bs.length q.1) (Int.toNat (gD ((aU bs b).map iD) k).toI)).toI 0=true;rw[a3,C];rfl
     ·have a5:D.i (gD ((aU bs b).map iD) k).toI=D.i ((aU bs b)[k]:Int):=by rw[hg];rfl
      have a7:iS E aY sites jP [Cv nm o ps r bs q.1 q.2.1 q.2.2,.i (gD ((aU bs b).map iD) k).toI] (.l []) [Cv nm o ps r bs t y H]:=by rw[a5];exact a6
      exact bK a7 rfl (aO (P _))
   ·have Y:aD (gD (rC bs.length q.1) (Int.toNat (gD ((aU bs b).map iD) k).toI)).toI 0=false:=by rw[a3];exact lY C
    have hd:∀(i:Nat)(h:i<(aU bs b).length),i<k+1->q.1 (aU bs b)[i]≠0:=λi v K=>by
     by_cases e:i=k
     ·subst e;exact C
     ·exact c.done i v (by omega)
    cases e1:aD (gD (rC bs.length q.1) (Int.toNat (gD ((aU bs b).map iD) k).toI)).toI 1 with
    |true=>refine⟨(q.1,q.2.1,true),⟨c.mono,c.snd,c.cl,hd,c.cnt⟩,?_⟩;show Ev _ _ (dT _) _;unfold dT;exact aC (aW f) (aC (aE F) (aC Q (aJ Y (aC e1 (aO (P _))))))
    |false=>refine⟨q,⟨c.mono,c.snd,c.cl,hd,c.cnt⟩,?_⟩;show Ev _ _ (dT _) _;unfold dT;exact aC (aW f) (aC (aE F) (aC Q (aJ Y (aJ e1 (aO (P _))))))
  ·show Ev _ _ (dT _) _;unfold dT;exact aJ (aX _) (bG rfl)
end
end Go.Eng.Q

namespace Go.Eng.Q
open Go.Eng
theorem Jw{n j:Nat}(f:Nat->Bool)(h:j<n):(aZ n (λi=>decide (i<j)&&f i)).set j (.b (f j))=aZ n (λi=>decide (i<j+1)&&f i):=by
 apply List.ext_getElem
 ·simp[aZ]
 ·intro k d g;rw[List.getElem_set];by_cases e:j=k
  ·subst e;simp[aZ]
  ·simp only[aZ,List.getElem_map,List.getElem_range,e,if_false];have:decide (k<j)=decide (k<j+1):=by
    by_cases c:k<j
    ·rw[decide_eq_true c,decide_eq_true (by omega:k<j+1)]
    ·rw[decide_eq_false c,decide_eq_false (by omega:¬k<j+1)]
   rw[this]
section
variable(nm:List UInt8)(o:Bool)(ps:List D)(r:Int)(bs:List D)(hT:fF bs)(h0:0<bs.length)
include hT h0
theorem Jx:∃t out c,Vis bs 0 (λ_=>0) [] t out/\iS E aY sites LV [pM nm o ps r bs] (.l [Cv nm o ps r bs t out c]) []:=by
 have ht:=hT.1;unfold eL at ht;have l:AA bs.length (λ_=>0)<=bs.length:=by
  have:∀(n:Nat)(f:Nat->Bool),rV n f<=n:=λn f=>by
   induction n with
   |zero=>exact Nat.le_refl _
   |succ n m=>unfold rV;cases f n<;>simp<;>omega
  exact this _ _
 obtain⟨t,out,c,d,g⟩:=aBW nm o ps r bs hT _ 0 (λ_=>0) [] false (Nat.le_refl _) h0 rfl (RA.base (start:=0) (by omega) (by omega) (by omega)) (by simp;omega);refine⟨t,out,c,d,bA QD (by rfl) rfl ?_⟩;show Ev _ _ (FN _) _;unfold FN;have j:iP (Int.toNat (bs.length:Int)) 8=true:=eM (by omega) (by omega);refine aC ?_ (aC ?_ ?_)
 ·show(cP 0 (bs.length:Int)&&(aD (bs.length:Int) (bs.length:Int)&&iP (Int.toNat (bs.length:Int)) 8))=true;rw[jA (by omega),pF,j];rfl
 ·exact Sw (by show(0:Int)<(bs.length:Int);omega)
 ·have e:List.replicate bs.length (D.i 0)=rC bs.length (λ_=>0):=r9 _;have h:iS E aY sites jP [.l [.s nm,.b o,.l ps,.i r,.l bs,.l (List.replicate bs.length (D.i 0)),.l [],.b false],.i 0] (.l []) [Cv nm o ps r bs t out c]:=by rw[e];exact g
  exact bK h rfl (bJ rfl rfl)
theorem QG:iS E aY sites IK [pM nm o ps r bs] (.l (cO bs 0 (-1))) []:=by
 obtain⟨t,out,y,d,m⟩:=Jx nm o ps r bs hT h0;refine bA IT (by rfl) rfl ?_;show Ev _ _ (IN _) _;unfold IN;have ht:=hT.1;unfold eL at ht;have s:iP (Int.toNat (bs.length:Int)) 1=true:=eM (by omega) (by omega);have F:cD (rC bs.length t):=by unfold cD;rw[GO];omega
 have g:List.replicate bs.length (D.b false)=aZ bs.length (λi=>decide (i<0)&&nz t i):=by rw[<-lZ];exact mA λi _=>rfl
 have e1:cO bs 0 (-1)=aZ bs.length (λi=>decide (i<bs.length)&&nz t i):=by
  refine mA λi e=>?_;rw[decide_eq_true e,Bool.true_and,Bool.eq_iff_iff,yP,s6];constructor
  ·intro h;clear e;induction h with
   |base _ _ _=>exact d.at1
   |step C u _ v=>
    rcases d.cl _ v with h |h
    ·exact absurd rfl h
    ·exact h _ u
  ·intro h;rcases d.snd i h with h |h
   ·exact absurd rfl h
   ·exact h
 have f:fC IS 0 [.i (bs.length:Int),.i 0,.l (aZ bs.length (λi=>decide (i<0)&&nz t i)),.l (rC bs.length t)] (0,[.l (aZ bs.length (λi=>decide (i<bs.length)&&nz t i))]):=by
  refine cI IT (λj=>[.i (bs.length:Int),.i (j:Int),.l (aZ bs.length (λi=>decide (i<j)&&nz t i)),.l (rC bs.length t)]) bs.length (λj c=>?_) ?_
  ·show Ev _ _ (pU _) _;unfold pU;refine aC (aW c) (aC ?_ (aC ?_ (aO ((nx c hT.1.sane [.i (bs.length:Int)] _).trans ?_))))
   ·show aA (j:Int) (rC bs.length t).length=true;rw[GO];exact aE c
   ·show aA (j:Int) (aZ bs.length (λi=>decide (i<j)&&nz t i)).length=true;rw[eN];exact aE c
   ·rw[<-Jw (nz t) c];have:D.b (nz t j)=D.b (!(aD (gD (rC bs.length t) j).toI 0)):=by rw[Xx t c];rfl
    rw[this];rfl
  ·show Ev _ _ (pU _) _;unfold pU;exact aJ (aX _) (bG rfl)
 have l:iX (Cv nm o ps r bs t out y) 5=(bs.length:Int):=by show((rC bs.length t).length:Int)=_;rw[GO]
 rw[<-g,<-e1,<-l]at f;refine bK m rfl (aJ rfl (aC ?_ (aP f (bD (bJ rfl rfl)))));show(cP 0 (bs.length:Int)&&(aD (bs.length:Int) (bs.length:Int)&&iP (Int.toNat (bs.length:Int)) 1))=true;rw[jA (by omega),pF,s];rfl
end
end Go.Eng.Q

namespace Go.Eng.Q
open Go.Eng
abbrev GQ(l:List D)(k:Nat):Int:=vI (gD l k) 0
def Rw(l:List D)(k:Nat):Bool:=bif fS (GQ l k)then aD (k:Int) ((l.length-1:Nat):Int)else !(aD (k:Int) ((l.length-1:Nat):Int))
def phB(l:List D)(k:Nat):Bool:=(aT 0 (k:Int)&&aD (GQ l k) 26)&&!(aD (GQ l (k-1)) 26)
def MW(l:List D)(k:Nat):Bool:=!(Rw l k)||phB l k
def pI(nb:Nat)(x:D):Bool:=aT x.toI 1||cP (nb:Int) x.toI
def Cw(x:D):Bool:=aD (vI x 0) 28&&aD (gD (eX x 6) 0).toI (gD (eX x 6) 1).toI
def K1(nb:Nat)(b:D):Bool:=aD (b.els.length:Int) 0||(dS b.els.length (MW b.els)||((eX (fK b) 6).any (pI nb)||Cw (fK b)))
def mS(a b:List D):Bool:=aD (a.length:Int) b.length&&!dS a.length λi=>!aD (gD a i).toI (gD b i).toI
def DM(bs:List D)(b:Nat)(x:D):Bool:=aD (vI x 0) 26&&(aD (b:Int) 0||!(mS (eX x 6) ((gU bs b).map iD)))
noncomputable def QZ(bs:List D)(b:Nat):Bool:=!(Dp bs 0 (-1) b)||(gD bs b).els.any (DM bs b)
noncomputable def lP(bs:List D):Bool:=!(bs.any (K1 bs.length))&&!(dS bs.length (QZ bs))
theorem SV(a b:List D)(f:cD a):iS E aY sites OG [.l a,.l b] (.b (mS a b)) []:=by
 refine bA ZP (by rfl) rfl ?_;show Ev _ _ (YX _) _;unfold YX mS;cases e:aD (a.length:Int) b.length with
 |false=>exact aC (congrArg Bool.not e) (bJ rfl rfl)
 |true=>
  have l:a.length=b.length:=by have:=(bT _ _).1 e;omega
  refine aJ (congrArg Bool.not e) ?_;have h:fC ZO 0 [.l a,.l b,.i 0] (bif dS a.length (λi=>!aD (gD a i).toI (gD b i).toI)then(0,[.b false])else(1,[])):=by
   refine xD ZP (λj=>[.l a,.l b,.i (j:Int)]) a.length _ (λj c=>?_) ?_
   ·show O2 _ _ (zJ _) _ _;unfold zJ;have g:j<b.length:=by omega
    exact oT (aW c) (oT (aE c) (oT (aE g) (oE rfl rfl (nx c f [.l a,.l b] []))))
   ·show Ev _ _ (zJ _) _;unfold zJ;exact aJ (aX _) (bG rfl)
  cases d:dS a.length (λi=>!aD (gD a i).toI (gD b i).toI)with
  |true=>rw[d]at h;exact aP h (bD (bJ rfl rfl))
  |false=>rw[d]at h;exact aP h (eB (bD (bJ rfl rfl)))
def U8(x:D):Prop:=U2 (vI x 0) (vI x 1) (vI x 2) (vI x 3) (vI x 4) (eX x 5).length (eX x 6).length
def mQ(bs:List D):Prop:=∀b,b<bs.length->∀j,j<(gD bs b).els.length->U8 (gD (gD bs b).els j)
theorem aBX{x:D}(h:qC x=false):U8 x:=form_says (vI x 0) (vI x 1) (vI x 2) (vI x 3) (vI x 4) (eX x 5) (eX x 6) (by
 unfold qC at h;cases c:D.toB (dG (Cr x))with
 |true=>exact c
 |false=>rw[c]at h;cases h)
theorem Aa{xs fs:List D}(h:lG xs fs=true):∀j,j<fs.length->mQ (eX (gD fs j) 4):=λj g m l i f=>by
 unfold lG at h;have d:fs.any pH=false:=by
  cases e:fs.any pH with
  |false=>rfl
  |true=>rw[e,Bool.not_true,Bool.and_false]at h;cases h
 have c:=WB d j g;unfold pH at c;simp only[Bool.or_eq_false_iff]at c;exact aBX (WB (WB c.2.2 m l) i f)
theorem aGM(X e:Bool){k c:Nat}(h:k<c)(f:c<=1000000):((!(X&&(((aT 0 (k:Int))&&e)&&true)))||aA (bC .i64 ((k:Int)-1)) c)=true:=by
 by_cases d:k=0
 ·subst d;rw[show aT 0 ((0:Nat):Int)=false from rfl,Bool.false_and,Bool.false_and,Bool.and_false];rfl
 ·rw[DL (by omega) (by omega),aE (by omega),Bool.or_true]
section
variable(nm:List UInt8)(o:Bool)(ps:List D)(r:Int)(bs:List D)
theorem K3(d:Int)(l:List D)(g:0<l.length)(f:eL l):
  fC sS 2 [.i d,.i 0,.l l,.s nm,.b o,.l ps,.i r,.l bs] (bif dS l.length (MW l)then(0,[.i d,.b false,.l l,.s nm,.b o,.l ps,.i r,.l bs])else(1,[.i d,.l l,.s nm,.b o,.l ps,.i r,.l bs])):=by
 have m:=f.sane;unfold eL at f;have h:l.length<=1000000:=by omega
 refine xD sT (λj=>[.i d,.i (j:Int),.l l,.s nm,.b o,.l ps,.i r,.l bs]) l.length (MW l) (λj c=>?_) ?_
 ·show O2 _ _ (vV _) _ _;unfold vV;refine oT (aW c) (oT (aE c) (oC (Jf (GQ l j)) rfl (oT (aH (aE c)) (oT (aGM _ _ c h) (oE ?_ rfl (nx c m [.i d] _))))));unfold MW Rw phB;show((!(bif fS (GQ l j)then aD (j:Int) (bC .i64 ((l.length:Int)-1))else !(aD (j:Int) (bC .i64 ((l.length:Int)-1)))))||(((aT 0 (j:Int))&&(aD (GQ l j) 26))&&(!(aD (vI (gD l (Int.toNat (bC .i64 ((j:Int)-1)))) 0) 26))))=_;rw[DL g (by omega)];by_cases e:j=0
  ·subst e;rw[show aT 0 ((0:Nat):Int)=false from rfl,Bool.false_and,Bool.false_and,Bool.false_and]
  ·rw[Jr (by omega) (by omega)]
 ·show Ev _ _ (vV _) _;unfold vV;exact aJ (aX _) (bG rfl)
theorem K4(jb op ty to sym num:Int)(as1 l:List D)(d:cD l):
  fC sS 4 [.i jb,.i 0,.s nm,.b o,.l ps,.i r,.l bs,.i op,.i ty,.i to,.i sym,.i num,.l as1,.l l] (bif l.any (pI bs.length)then(0,[.i jb,.b false,.s nm,.b o,.l ps,.i r,.l bs,.i op,.i ty,.i to,.i sym,.i num,.l as1,.l l])else(1,[.i jb,.s nm,.b o,.l ps,.i r,.l bs,.i op,.i ty,.i to,.i sym,.i num,.l as1,.l l])):=by
 refine GL sT (λj=>[.i jb,.i (j:Int),.s nm,.b o,.l ps,.i r,.l bs,.i op,.i ty,.i to,.i sym,.i num,.l as1,.l l]) l (pI bs.length) (λj c=>?_) ?_
 ·show O2 _ _ (vX _) _ _;unfold vX;exact oT (aW c) (oT (aE c) (oT (aH (aE c)) (oE rfl rfl (nx c d [.i jb] _))))
 ·show Ev _ _ (vX _) _;unfold vX;exact aJ (aX _) (bG rfl)
theorem K5(h:fF bs)(v:mQ bs):
  fC sS 0 [.i 0,.s nm,.b o,.l ps,.i r,.l bs] (bif bs.any (K1 bs.length)then(0,[.b false,.s nm,.b o,.l ps,.i r,.l bs])else(1,[.s nm,.b o,.l ps,.i r,.l bs])):=by
 refine GL sT (λj=>[.i (j:Int),.s nm,.b o,.l ps,.i r,.l bs]) bs (K1 bs.length) (λj c=>?_) ?_
 ·have g:=h.2 j c;show O2 _ _ (vU _) _ _;unfold vU;refine oT (aW c) (oT (aE c) (oO (b2:=dS (gD bs j).els.length (MW (gD bs j).els)||((eX (fK (gD bs j)) 6).any (pI bs.length)||Cw (fK (gD bs j)))) rfl rfl (λy=>?_)));have d:0<(gD bs j).els.length:=by
   rcases Nat.eq_zero_or_pos (gD bs j).els.length with e |e
   ·have:aD ((gD bs j).els.length:Int) 0=false:=y;rw[e]at this;cases this
   ·exact e
  have m:=g.ins;refine oLO (b1:=dS (gD bs j).els.length (MW (gD bs j).els)) (b2:=(eX (fK (gD bs j)) 6).any (pI bs.length)||Cw (fK (gD bs j))) rfl (K3 nm o ps r bs j (gD bs j).els d m) rfl (λC=>?_);have f:(gD bs j).els.length-1<(gD bs j).els.length:=by omega
  have hx:=g.i _ f;unfold eL at m;have u:fK (gD bs j)=gD (gD bs j).els (Int.toNat (bC .i64 (((gD bs j).els.length:Int)-1))):=by rw[Jr d (by omega)];rfl
  have l:U8 (fK (gD bs j)):=v j c _ f;refine oT ?_ ?_
  ·show aA (bC .i64 (((gD bs j).els.length:Int)-1)) (gD bs j).els.length=true;rw[DL d (by omega)];exact aE f
  ·have s:cD (eX (fK (gD bs j)) 6):=hx.is1.sane;rw[u]at s l⊢;have t:∀i,i<2->((!((aD (vI (gD (gD bs j).els (Int.toNat (bC .i64 (((gD bs j).els.length:Int)-1)))) 0) 28)&&true))||aA (i:Nat) (eX (gD (gD bs j).els (Int.toNat (bC .i64 (((gD bs j).els.length:Int)-1)))) 6).length)=true:=λi F=>by
    cases e:aD (vI (gD (gD bs j).els (Int.toNat (bC .i64 (((gD bs j).els.length:Int)-1)))) 0) 28 with
    |false=>rfl
    |true=>have:=l.i2 ((bT _ _).1 e);rw[aE (by omega),Bool.or_true]
   exact oLO (b1:=(eX (gD (gD bs j).els (Int.toNat (bC .i64 (((gD bs j).els.length:Int)-1)))) 6).any (pI bs.length)) (b2:=Cw (gD (gD bs j).els (Int.toNat (bC .i64 (((gD bs j).els.length:Int)-1))))) rfl (K4 nm o ps r bs j (vI (gD (gD bs j).els (Int.toNat (bC .i64 (((gD bs j).els.length:Int)-1)))) 0) (vI (gD (gD bs j).els (Int.toNat (bC .i64 (((gD bs j).els.length:Int)-1)))) 1) (vI (gD (gD bs j).els (Int.toNat (bC .i64 (((gD bs j).els.length:Int)-1)))) 2) (vI (gD (gD bs j).els (Int.toNat (bC .i64 (((gD bs j).els.length:Int)-1)))) 3) (vI (gD (gD bs j).els (Int.toNat (bC .i64 (((gD bs j).els.length:Int)-1)))) 4) (eX (gD (gD bs j).els (Int.toNat (bC .i64 (((gD bs j).els.length:Int)-1)))) 5) (eX (gD (gD bs j).els (Int.toNat (bC .i64 (((gD bs j).els.length:Int)-1)))) 6) s) rfl (λ_=>oT (t 0 (by omega)) (oT (t 1 (by omega)) (oE rfl rfl (nx c h.1.sane [] _))))
 ·show Ev _ _ (vU _) _;unfold vU;exact aJ (aX _) (bG rfl)
theorem K6(b:Nat)(l:List D)(e:List D)(g:b<bs.length)(s:eL l)(m:∀j,j<l.length->Xq (gD l j)):
  fC sS 8 [.l l,.i 0,.i (b:Int),.s nm,.b o,.l ps,.i r,.l bs,.l e,.l (dE bs.length (gU bs))] (bif l.any (DM bs b)then(0,[.b false,.i (b:Int),.s nm,.b o,.l ps,.i r,.l bs,.l e,.l (dE bs.length (gU bs))])else(1,[.i (b:Int),.s nm,.b o,.l ps,.i r,.l bs,.l e,.l (dE bs.length (gU bs))])):=by
 refine GL sT (λj=>[.l l,.i (j:Int),.i (b:Int),.s nm,.b o,.l ps,.i r,.l bs,.l e,.l (dE bs.length (gU bs))]) l (DM bs b) (λj d=>?_) ?_
 ·have t:aA (b:Int) (dE bs.length (gU bs)).length=true:=by rw[OS];exact aE g
  have hx:=nx d s.sane [.l l] [.i (b:Int),.s nm,.b o,.l ps,.i r,.l bs,.l e,.l (dE bs.length (gU bs))];show O2 _ _ (vZ _) _ _;unfold vZ;refine oT (aW d) (oT (aE d) (oT (aH (aE d)) (oT (aH t) ?_)));cases e1:aD (vI (gD l j) 0) 26 with
  |false=>refine oF (congrArg (λc=>(c&&true)&&(!(aD (b:Int) 0))) e1) (oE ?_ rfl hx);unfold DM;rw[e1];exact congrArg (λc=>c&&((aD (b:Int) 0)||(!(D.toB (.i 0))))) e1
  |true=>
   cases f:aD (b:Int) 0 with
   |true=>refine oF ((congrArg (λc=>(c&&true)&&(!(aD (b:Int) 0))) e1).trans (congrArg (λc=>(true&&true)&&(!c)) f)) (oE ?_ rfl hx);unfold DM;rw[e1,f];exact(congrArg (λc=>c&&((aD (b:Int) 0)||(!(D.toB (.i 0))))) e1).trans (congrArg (λc=>true&&(c||(!(D.toB (.i 0))))) f)
   |false=>
    refine oT ((congrArg (λc=>(c&&true)&&(!(aD (b:Int) 0))) e1).trans (congrArg (λc=>(true&&true)&&(!c)) f)) ?_;have hg:gD (dE bs.length (gU bs)) b=.l ((gU bs b).map iD):=ZY _ g;have h:iS E aY sites OG [.l (eX (gD l j) 6),.l (D.els (gD (dE bs.length (gU bs)) b))] (.b (mS (eX (gD l j) 6) ((gU bs b).map iD))) []:=by rw[hg];exact SV _ _ (m j d).is1.sane
    exact oC h rfl (oE rfl rfl hx)
 ·show Ev _ _ (vZ _) _;unfold vZ;exact aJ (aX _) (bG rfl)
theorem K7(e:fF bs):
  fC sS 6 [.i 0,.s nm,.b o,.l ps,.i r,.l bs,.l (cO bs 0 (-1)),.l (dE bs.length (gU bs))] (bif dS bs.length (QZ bs)then(0,[.b false])else(1,[])):=by
 refine xD sT (λj=>[.i (j:Int),.s nm,.b o,.l ps,.i r,.l bs,.l (cO bs 0 (-1)),.l (dE bs.length (gU bs))]) bs.length (QZ bs) (λj c=>?_) ?_
 ·have d:=e.2 j c;have hg:(gD (cO bs 0 (-1)) j).toB=Dp bs 0 (-1) j:=congrArg D.toB (jR _ c);show O2 _ _ (vY _) _ _;unfold vY;refine oT (aW c) (oT ?_ (oO (b2:=(gD bs j).els.any (DM bs j)) ?_ rfl (λ_=>oT (aE c) (oL (K6 nm o ps r bs j (gD bs j).els (cO bs 0 (-1)) c d.ins d.i) rfl (congrArg IX.again (nx c e.1.sane [] _).symm)))))
  ·show aA (j:Int) (cO bs 0 (-1)).length=true;unfold cO;rw[eN];exact aE c
  ·unfold QZ;rw[<-hg];rfl
 ·show Ev _ _ (vY _) _;unfold vY;exact aJ (aX _) (bG rfl)
theorem Ya(e:fF bs)(g:mQ bs):iS E aY sites Ic [pM nm o ps r bs] (.b (lP bs)) []:=by
 refine bA sT (by rfl) rfl ?_;show Ev _ _ (SD _) _;unfold SD lP;have c:=K5 nm o ps r bs e g;have d:=K7 nm o ps r bs e;cases e1:bs.any (K1 bs.length)with
 |true=>rw[e1]at c;exact aP c (bD (bJ rfl rfl))
 |false=>
 rw[e1]at c;refine aP c (eB (bD (bK (Cu nm o ps r bs e) rfl (bK (J9 nm o ps r bs e) rfl ?_))));cases f:dS bs.length (QZ bs)with
 |true=>rw[f]at d;exact aP d (bD (bJ rfl rfl))
 |false=>rw[f]at d;exact aP d (eB (bD (bJ rfl rfl)))
end
end Go.Eng.Q

namespace Go.Eng.Q
open Go.Eng
def beh(l:List D)(k:Nat):Bool:=dS k λi=>!(aD (GQ l i) 26)
def MX(b:Nat)(l:List D)(k:Nat):Bool:=!(Rw l k)||(aD (GQ l k) 26&&(beh l k||aD (b:Int) 0))
def MY(x:D):Bool:=aD ((eX x 6).length:Int) 2&&aD (gD (eX x 6) 0).toI (gD (eX x 6) 1).toI
def Ol(bs:List D)(b:Nat):Bool:=aD ((gD bs b).els.length:Int) 0||(dS (gD bs b).els.length (MX b (gD bs b).els)||((eX (fK (gD bs b)) 6).any (pI bs.length)||MY (fK (gD bs b))))
def BD(bs:List D)(b:Nat)(x:D):Bool:=aD (vI x 0) 26&&!(mS (eX x 6) ((gU bs b).map iD))
noncomputable def Tc(bs:List D):Bool:=!(dS bs.length (Ol bs))&&(!((cO bs 0 (-1)).any λx=>!x.toB)&&!(dS bs.length λb=>(gD bs b).els.any (BD bs b)))
theorem K8(l:List D)(s:cD l):∃k:Int,cP 0 k=(l.any λx=>!x.toB)/\iS E aY sites mY [.l l,.b false] (.i k) []:=by
 cases h:l.any (λx=>!x.toB)with
 |false=>
  refine⟨-1,rfl,bA fR (by rfl) rfl ?_⟩;show Ev _ _ (fP _) _;unfold fP;have f:fC iO 0 [.l l,.b false,.i (l.length:Int),.i 0] (1,[]):=by
   refine cI fR (λj=>[.l l,.b false,.i (l.length:Int),.i (j:Int)]) l.length (λj c=>?_) ?_
   ·show Ev _ _ (cN _) _;unfold cN;exact aC (aW c) (aC (aE c) (aJ (WB h j c) (aO (nx c s [.l l,.b false,.i (l.length:Int)] []))))
   ·show Ev _ _ (cN _) _;unfold cN;exact aJ (aX _) (bG rfl)
  exact aP f (eB (bD (bJ rfl rfl)))
 |true=>
  have t:dS l.length (λj=>!(gD l j).toB)=true:=by
   cases g:dS l.length (λj=>!(gD l j).toB)with
   |true=>rfl
   |false=>rw[List.any_eq_true]at h;obtain⟨x,hx,m⟩:=h;obtain⟨i,d,e⟩:=List.getElem_of_mem hx;have:=bQ.1 g i d;rw[show gD l i=x by simp[gD,List.getD,d,e],m]at this;cases this
  obtain⟨j,c,g,m⟩:=xS t;refine⟨j,jA (by omega),bA fR (by rfl) rfl ?_⟩;show Ev _ _ (fP _) _;unfold fP;have f:fC iO 0 [.l l,.b false,.i (l.length:Int),.i 0] (0,[.i (j:Int)]):=by
   refine cI fR (λj=>[.l l,.b false,.i (l.length:Int),.i (j:Int)]) j (λi d=>?_) ?_
   ·show Ev _ _ (cN _) _;unfold cN;have r:i<l.length:=by omega
    exact aC (aW r) (aC (aE r) (aJ (m i d) (aO (nx r s [.l l,.b false,.i (l.length:Int)] []))))
   ·show Ev _ _ (cN _) _;unfold cN;exact aC (aW c) (aC (aE c) (aC g (bG rfl)))
  exact aP f (bD (bJ rfl rfl))
theorem Jy(l:List D)(e:cD l):iS E aY sites kY [.l l,.b false] (.b (l.any λx=>!x.toB)) []:=by obtain⟨k,c,d⟩:=K8 l e;refine bA oW (by rfl) rfl ?_;show Ev _ _ (jU _) _;unfold jU;exact bK d rfl (bJ (congrArg D.b c.symm) rfl)
theorem s7(a b:List D)(f:cD a):iS E aY sites lL [.l a,.l b] (.b (mS a b)) []:=by
 refine bA nC (by rfl) rfl ?_;show Ev _ _ (mZ _) _;unfold mZ mS;cases e:aD (a.length:Int) b.length with
 |false=>exact aC (congrArg Bool.not e) (bJ rfl rfl)
 |true=>
  have l:a.length=b.length:=by have:=(bT _ _).1 e;omega
  refine aJ (congrArg Bool.not e) ?_;have h:fC nA 0 [.l a,.l b,.i 0,.i (a.length:Int)] (bif dS a.length (λi=>!aD (gD a i).toI (gD b i).toI)then(0,[.b false])else(1,[])):=by
   refine xD nC (λj=>[.l a,.l b,.i (j:Int),.i (a.length:Int)]) a.length _ (λj c=>?_) ?_
   ·show O2 _ _ (fQ _) _ _;unfold fQ;have g:j<b.length:=by omega
    exact oT (aW c) (oT (aE c) (oT (aE g) (oE rfl rfl (nx c f [.l a,.l b] [.i (a.length:Int)]))))
   ·show Ev _ _ (fQ _) _;unfold fQ;exact aJ (aX _) (bG rfl)
  cases d:dS a.length (λi=>!aD (gD a i).toI (gD b i).toI)with
  |true=>rw[d]at h;exact aP h (bD (bJ rfl rfl))
  |false=>rw[d]at h;exact aP h (eB (bD (bJ rfl rfl)))
section
variable(nm:List UInt8)(o:Bool)(ps:List D)(r:Int)(bs:List D)
theorem K9(c:Nat)(nb:Int)(l:List D)(f:0<l.length)(e:eL l):
  fC sQ 2 [.i (c:Int),.i 0,.i (c:Int),.b false,.l bs,.l l,.i nb,.i (l.length:Int),.s nm,.b o,.l ps,.i r,.l bs,.l l] (bif dS l.length (MX c l)then(0,[.i (c:Int),.l bs,.b false,.i nb,.s nm,.b o,.l ps,.i r,.l bs,.l l])else(1,[.i (c:Int),.l bs,.i nb,.s nm,.b o,.l ps,.i r,.l bs,.l l])):=by
 have g:=e.sane;unfold eL at e;refine xD sR (λj=>[.i (c:Int),.i (j:Int),.i (c:Int),.b (beh l j),.l bs,.l l,.i nb,.i (l.length:Int),.s nm,.b o,.l ps,.i r,.l bs,.l l]) l.length (MX c l) (λj d=>?_) ?_
 ·show O2 _ _ (vJ _) _ _;unfold vJ;refine oT (aW d) (oT (aE d) (oC (Jd (GQ l j)) rfl (oE ?_ rfl (nx d g [.i (c:Int)] _))));unfold MX Rw;show((!(bif fS (GQ l j)then aD (j:Int) (bC .i64 ((l.length:Int)-1))else !(aD (j:Int) (bC .i64 ((l.length:Int)-1)))))||(aD (GQ l j) 26&&(beh l j||aD (c:Int) 0)))=_;rw[DL f (by omega)]
 ·show Ev _ _ (vJ _) _;unfold vJ;exact aJ (aX _) (bG rfl)
theorem L1(c nb:Int)(l:List D)(e:cD l):
  fC sQ 4 [.i c,.i (l.length:Int),.l bs,.l l,.i 0,.i nb,.l l,.s nm,.b o,.l ps,.i r,.l bs] (bif l.any (pI bs.length)then(0,[.i c,.l bs,.b false,.l l,.i nb,.s nm,.b o,.l ps,.i r,.l bs])else(1,[.i c,.l bs,.l l,.i nb,.s nm,.b o,.l ps,.i r,.l bs])):=by
 refine GL sR (λj=>[.i c,.i (l.length:Int),.l bs,.l l,.i (j:Int),.i nb,.l l,.s nm,.b o,.l ps,.i r,.l bs]) l (pI bs.length) (λj d=>?_) ?_
 ·show O2 _ _ (vK _) _ _;unfold vK;exact oT (aW d) (oT (aE d) (oE rfl rfl (nx d e [.i c,.i (l.length:Int),.l bs,.l l] _)))
 ·show Ev _ _ (vK _) _;unfold vK;exact aJ (aX _) (bG rfl)
theorem L2(g:fF bs):
  fC sQ 0 [.i 0,.l bs,.i (bs.length:Int),.s nm,.b o,.l ps,.i r,.l bs] (bif dS bs.length (Ol bs)then(0,[.b false,.s nm,.b o,.l ps,.i r,.l bs])else(1,[.s nm,.b o,.l ps,.i r,.l bs])):=by
 refine xD sR (λj=>[.i (j:Int),.l bs,.i (bs.length:Int),.s nm,.b o,.l ps,.i r,.l bs]) bs.length (Ol bs) (λj c=>?_) ?_
 ·have f:=g.2 j c;show O2 _ _ (vH _) _ _;unfold vH;refine oT (aW c) (oT (aE c) (oO (b2:=dS (gD bs j).els.length (MX j (gD bs j).els)||((eX (fK (gD bs j)) 6).any (pI bs.length)||MY (fK (gD bs j)))) rfl rfl (λu=>?_)));have d:0<(gD bs j).els.length:=by
   rcases Nat.eq_zero_or_pos (gD bs j).els.length with e |e
   ·have:aD ((gD bs j).els.length:Int) 0=false:=u;rw[e]at this;cases this
   ·exact e
  have h:=f.ins;refine oLO (b1:=dS (gD bs j).els.length (MX j (gD bs j).els)) (b2:=(eX (fK (gD bs j)) 6).any (pI bs.length)||MY (fK (gD bs j))) rfl (K9 nm o ps r bs j bs.length (gD bs j).els d h) rfl (λv=>?_);have l:(gD bs j).els.length-1<(gD bs j).els.length:=by omega
  have hx:=f.i _ l;unfold eL at h;have t:fK (gD bs j)=gD (gD bs j).els (Int.toNat (bC .i64 (((gD bs j).els.length:Int)-1))):=by rw[Jr d (by omega)];rfl
  refine oT ?_ ?_
  ·show aA (bC .i64 (((gD bs j).els.length:Int)-1)) (gD bs j).els.length=true;rw[DL d (by omega)];exact aE l
  ·have m:cD (eX (fK (gD bs j)) 6):=hx.is1.sane;rw[t]at m⊢;have s:∀i,i<2->((!((aD ((eX (gD (gD bs j).els (Int.toNat (bC .i64 (((gD bs j).els.length:Int)-1)))) 6).length:Int) 2)&&true))||aA (i:Nat) (eX (gD (gD bs j).els (Int.toNat (bC .i64 (((gD bs j).els.length:Int)-1)))) 6).length)=true:=λi y=>by
    cases e:aD ((eX (gD (gD bs j).els (Int.toNat (bC .i64 (((gD bs j).els.length:Int)-1)))) 6).length:Int) 2 with
    |false=>rfl
    |true=>have:=(bT _ _).1 e;rw[aE (by omega),Bool.or_true]
   exact oLO (b1:=(eX (gD (gD bs j).els (Int.toNat (bC .i64 (((gD bs j).els.length:Int)-1)))) 6).any (pI bs.length)) (b2:=MY (gD (gD bs j).els (Int.toNat (bC .i64 (((gD bs j).els.length:Int)-1))))) rfl (L1 nm o ps r bs j bs.length _ m) rfl (λ_=>oT (s 0 (by omega)) (oT (s 1 (by omega)) (oE rfl rfl (nx c g.1.sane [] _))))
 ·show Ev _ _ (vH _) _;unfold vH;exact aJ (aX _) (bG rfl)
theorem L3(b:Nat)(l:List D)(nb:Int)(e:b<bs.length)(h:eL l)(g:∀j,j<l.length->Xq (gD l j)):
  fC sQ 8 [.i (b:Int),.i 0,.l l,.l bs,.i (b:Int),.i (l.length:Int),.i nb,.l (dE bs.length (gU bs))] (bif l.any (BD bs b)then(0,[.i (b:Int),.l bs,.b false,.i nb,.l (dE bs.length (gU bs))])else(1,[.i (b:Int),.l bs,.i nb,.l (dE bs.length (gU bs))])):=by
 refine GL sR (λj=>[.i (b:Int),.i (j:Int),.l l,.l bs,.i (b:Int),.i (l.length:Int),.i nb,.l (dE bs.length (gU bs))]) l (BD bs b) (λj d=>?_) ?_
 ·have m:aA (b:Int) (dE bs.length (gU bs)).length=true:=by rw[OS];exact aE e
  have hx:=nx d h.sane [.i (b:Int)] [.l l,.l bs,.i (b:Int),.i (l.length:Int),.i nb,.l (dE bs.length (gU bs))];show O2 _ _ (vM _) _ _;unfold vM;refine oT (aW d) (oT (aE d) (oT (aH m) ?_));cases e1:aD (vI (gD l j) 0) 26 with
  |false=>refine oF (congrArg (λc=>c&&true) e1) (oE ?_ rfl hx);unfold BD;rw[e1];exact congrArg (λc=>c&&(!(D.toB (.i 0)))) e1
  |true=>
   refine oT (congrArg (λc=>c&&true) e1) ?_;have hg:gD (dE bs.length (gU bs)) b=.l ((gU bs b).map iD):=ZY _ e;have f:iS E aY sites lL [.l (eX (gD l j) 6),.l (D.els (gD (dE bs.length (gU bs)) b))] (.b (mS (eX (gD l j) 6) ((gU bs b).map iD))) []:=by rw[hg];exact s7 _ _ (g j d).is1.sane
   exact oC f rfl (oE rfl rfl hx)
 ·show Ev _ _ (vM _) _;unfold vM;exact aJ (aX _) (bG rfl)
theorem L4(e:fF bs):
  fC sQ 6 [.i 0,.l bs,.i (bs.length:Int),.l (dE bs.length (gU bs))] (bif dS bs.length (λb=>(gD bs b).els.any (BD bs b))then(0,[.b false])else(1,[])):=by
 refine xD sR (λj=>[.i (j:Int),.l bs,.i (bs.length:Int),.l (dE bs.length (gU bs))]) bs.length (λb=>(gD bs b).els.any (BD bs b)) (λj c=>?_) ?_
 ·have d:=e.2 j c;show O2 _ _ (vL _) _ _;unfold vL;exact oT (aW c) (oT (aE c) (oL (L3 bs j (gD bs j).els bs.length c d.ins d.i) rfl (congrArg IX.again (nx c e.1.sane [] _).symm)))
 ·show Ev _ _ (vL _) _;unfold vL;exact aJ (aX _) (bG rfl)
theorem L5(c:fF bs)(h:0<bs.length):iS E aY sites VS [pM nm o ps r bs] (.b (Tc bs)) []:=by
 refine bA sR (by rfl) rfl ?_;show Ev _ _ (RY _) _;unfold RY Tc;have d:=L2 nm o ps r bs c;have e:=L4 bs c;cases e1:dS bs.length (Ol bs)with
 |true=>rw[e1]at d;exact aP d (bD (bJ rfl rfl))
 |false=>
 rw[e1]at d;have j:cD (cO bs 0 (-1)):=by unfold cD cO;rw[eN];exact c.1.sane
 refine aP d (eB (bD (bK (QG nm o ps r bs c h) rfl (bK (Jy _ j) rfl ?_))));cases g:(cO bs 0 (-1)).any (λx=>!x.toB)with
 |true=>exact aC g (bJ rfl rfl)
 |false=>
 refine aJ g (bK (Ta nm o ps r bs c) rfl ?_);cases f:dS bs.length (λb=>(gD bs b).els.any (BD bs b))with
 |true=>rw[f]at e;exact aP e (bD (bJ rfl rfl))
 |false=>rw[f]at e;exact aP e (eB (bD (bJ rfl rfl)))
end
theorem pG{b:Bool}:(!b)=true<->b=false:=by cases b<;>simp
theorem kK{l:List D}{p:D->Bool}:l.any p=false<->∀j,j<l.length->p (gD l j)=false:=
 ⟨WB,λh=>by rw[List.any_eq_false];intro x hx;obtain⟨i,c,e⟩:=List.getElem_of_mem hx;have:=h i c;rw[show gD l i=x by simp[gD,List.getD,c,e]]at this;rw[this];simp⟩
theorem Yb{l:List D}:∀(k:Nat),(∀i,i<=k->phB l i=false)->aD (GQ l k) 26=true->beh l k=false
 |0,_,_=>rfl
 |k+1,h,g=>by
  have c:=h (k+1) (Nat.le_refl _);unfold phB at c;rw[g,Sw (by omega),Nat.add_sub_cancel]at c;have d:aD (GQ l k) 26=true:=by
   cases e:aD (GQ l k) 26 with
   |true=>rfl
   |false=>rw[e]at c;cases c
  have f:=Yb k (λi j=>h i (by omega)) d;show(beh l k||!(aD (GQ l k) 26))=false;rw[f,d];rfl
theorem s8(op:Int):fS op=true<->27<=op/\op<=30:=by rw[<-Je,Bool.and_eq_true,eR,eR]
theorem aFG{x:D}(c:U8 x)(f:fS (vI x 0)=true):MY x=Cw x:=by
 unfold MY Cw;have g:=(s8 _).1 f;by_cases e:vI x 0=28
 ·rw[e,c.i2 e];try rfl
 ·rw[lY e];have:(eX x 6).length≠2:=by
   by_cases d:vI x 0=27
   ·rw[c.i1 d];omega
   ·rw[c.i0 (by omega) d e];omega
  rw[lY (by omega)];try rfl
theorem aBY{l:List D}(c:0<l.length)(h:Rw l (l.length-1)=true):fS (GQ l (l.length-1))=true:=by
 unfold Rw at h;cases e:fS (GQ l (l.length-1))with
 |true=>rfl
 |false=>rw[e,pF]at h;cases h
theorem aBZ(bs:List D)(K:mQ bs):Tc bs=lP bs:=by
 rw[Bool.eq_iff_iff];unfold Tc lP;rw[Bool.and_eq_true,Bool.and_eq_true,Bool.and_eq_true,pG,pG,pG,pG,pG,bQ,bQ,bQ,kK,kK];have Q:(cO bs 0 (-1)).length=bs.length:=by unfold cO;exact eN _ _
 have G:∀j,j<bs.length->(gD (cO bs 0 (-1)) j).toB=Dp bs 0 (-1) j:=λj P=>congrArg D.toB (jR _ P);rw[Q];have key:∀b,b<bs.length->(gD bs b).els.length≠0->Rw (gD bs b).els ((gD bs b).els.length-1)=true->MY (fK (gD bs b))=Cw (fK (gD bs b)):=λb c U L=>
  aFG (K b c _ (by omega)) (aBY (by omega) L)
 constructor
 ·rintro⟨v,y,J⟩;have m:∀b,b<bs.length->(gD bs b).els.length≠0/\(∀k,k<(gD bs b).els.length->MX b (gD bs b).els k=false)/\(eX (fK (gD bs b)) 6).any (pI bs.length)=false/\MY (fK (gD bs b))=false:=λb c=>by
   have:=v b c;unfold Ol at this;rw[Bool.or_eq_false_iff,Bool.or_eq_false_iff,Bool.or_eq_false_iff,bQ]at this;exact⟨λe=>(by have l:=this.1;rw[e]at l;cases l),this.2.1,this.2.2.1,this.2.2.2⟩
  refine⟨λb c=>?_,λb c=>?_⟩
  ·obtain⟨r,h,s,t⟩:=m b c;unfold K1;rw[Bool.or_eq_false_iff,Bool.or_eq_false_iff,Bool.or_eq_false_iff,bQ];refine⟨lY (by omega),λk g=>?_,s,?_⟩
   ·have d:=h k g;unfold MX at d;unfold MW;rw[Bool.or_eq_false_iff]at d⊢;refine⟨d.1,?_⟩;unfold phB;by_cases H:k=0
    ·subst H;rfl
    ·cases e1:aD (GQ (gD bs b).els k) 26 with
     |false=>rw[Bool.and_false];rfl
     |true=>rw[e1,Bool.true_and,Bool.or_eq_false_iff]at d;have:=bQ.1 d.2.1 (k-1) (by omega);rw[this,Bool.and_false]
   ·rw[<-key b c r (by
     have d:=h _ (show(gD bs b).els.length-1<(gD bs b).els.length by omega);unfold MX at d;rw[Bool.or_eq_false_iff,Bool.not_eq_false']at d;exact d.1)]
    exact t
  ·unfold QZ;rw[Bool.or_eq_false_iff,kK];have F:=y b c;rw[G b c]at F;refine⟨F,λk g=>?_⟩;unfold DM;have d:=(m b c).2.1 k g;unfold MX at d;rw[Bool.or_eq_false_iff]at d;cases e1:aD (vI (gD (gD bs b).els k) 0) 26 with
   |false=>rfl
   |true=>have f:=d.2;rw[show aD (GQ (gD bs b).els k) 26=true from e1,Bool.true_and,Bool.or_eq_false_iff]at f;have u:=kK.1 (J b c) k g;unfold BD at u;rw[e1,Bool.true_and]at u;rw[f.2,u];rfl
 ·rintro⟨v,y⟩;have m:∀b,b<bs.length->(gD bs b).els.length≠0/\(∀k,k<(gD bs b).els.length->MW (gD bs b).els k=false)/\(eX (fK (gD bs b)) 6).any (pI bs.length)=false/\Cw (fK (gD bs b))=false:=λb c=>by
   have:=v b c;unfold K1 at this;rw[Bool.or_eq_false_iff,Bool.or_eq_false_iff,Bool.or_eq_false_iff,bQ]at this;exact⟨λe=>(by have l:=this.1;rw[e]at l;cases l),this.2.1,this.2.2.1,this.2.2.2⟩
  have C:∀b,b<bs.length->Dp bs 0 (-1) b=true/\∀k,k<(gD bs b).els.length->DM bs b (gD (gD bs b).els k)=false:=λb c=>by have:=y b c;unfold QZ at this;rw[Bool.or_eq_false_iff,Bool.not_eq_false',kK]at this;exact this
  refine⟨λb c=>?_,λb c=>?_,λb c=>?_⟩
  ·obtain⟨r,h,s,t⟩:=m b c;unfold Ol;rw[Bool.or_eq_false_iff,Bool.or_eq_false_iff,Bool.or_eq_false_iff,bQ];refine⟨lY (by omega),λk g=>?_,s,?_⟩
   ·have d:=h k g;unfold MW at d;unfold MX;rw[Bool.or_eq_false_iff]at d⊢;refine⟨d.1,?_⟩;cases e1:aD (GQ (gD bs b).els k) 26 with
    |false=>rfl
    |true=>have f:=(C b c).2 k g;unfold DM at f;rw[show aD (vI (gD (gD bs b).els k) 0) 26=true from e1,Bool.true_and,Bool.or_eq_false_iff]at f;rw[f.1,Yb k (λi T=>by have:=h i (by omega);unfold MW at this;rw[Bool.or_eq_false_iff]at this;exact this.2) e1];rfl
   ·rw[key b c r (by
     have d:=h _ (show(gD bs b).els.length-1<(gD bs b).els.length by omega);unfold MW at d;rw[Bool.or_eq_false_iff,Bool.not_eq_false']at d;exact d.1)]
    exact t
  ·rw[G b c,(C b c).1];rfl
  ·rw[kK];intro k g;have f:=(C b c).2 k g;unfold DM at f;unfold BD;cases e1:aD (vI (gD (gD bs b).els k) 0) 26 with
   |false=>rfl
   |true=>rw[e1,Bool.true_and,Bool.or_eq_false_iff]at f;rw[f.2];rfl
theorem Yc(nm:List UInt8)(o:Bool)(ps:List D)(r:Int)(bs:List D)(e:fF bs)(d:mQ bs)(c:0<bs.length):iS E aY sites VS [pM nm o ps r bs] (.b (lP bs)) []:=by rw[<-aBZ bs d];exact L5 nm o ps r bs e c
end Go.Eng.Q

namespace Go.Eng.Q
open Go.Eng
section
variable{bs:List D}
theorem Td{a:Nat}:¬RA bs 0 (a:Int) a:=λh=>by
 generalize e:a=n at h;cases h with
 |base d f c=>exact c (by omega)
 |step _ _ c=>exact c (by omega)
theorem aGf{a:Int}{c:Nat}(h:RA bs 0 a c):RA bs 0 (-1) c:=by
 induction h with
 |base e d _=>exact RA.base e d (by omega)
 |step _ d _ f=>exact RA.step f d (by omega)
theorem aEH{a:Int}{b c:Nat}(h:RA bs 0 a c)(g:¬RA bs 0 (b:Int) c):RA bs 0 a b:=by
 induction h with
 |base f d l=>
  by_cases e:(0:Int)=b
  ·have:(b:Nat)=(0:Int).toNat:=by omega
   rw[this];exact RA.base f d l
  ·exact absurd (RA.base f d e) g
 |@step p c r j m s=>
  by_cases e:(c:Int)=b
  ·have:b=c:=by omega
   rw[this];exact RA.step r j m
  ·refine s λd=>g (RA.step d j e)
theorem aDd{a b:Nat}(m:RA bs 0 (-1) a)(t:a≠b):RA bs 0 (b:Int) a\/RA bs 0 (a:Int) b:=by
 have key:∀c,RA bs 0 (-1) c->(RA bs 0 (a:Int) c/\RA bs 0 (b:Int) c)\/RA bs 0 (b:Int) a\/RA bs 0 (a:Int) b:=by
  intro c l;induction l with
  |base d f s=>
   by_cases e:(0:Int)=a
   ·right;left;have:a=(0:Int).toNat:=by omega
    rw[this];exact RA.base d f (by omega)
   ·by_cases j:(0:Int)=b
    ·right;right;have:b=(0:Int).toNat:=by omega
     rw[this];exact RA.base d f (by omega)
    ·exact .inl ⟨RA.base d f e,RA.base d f j⟩
  |@step p c u g l r=>
   rcases r with⟨d,f⟩ |h
   ·by_cases e:(c:Int)=a
    ·right;left;have:a=c:=by omega
     rw[this];exact RA.step f g (by omega)
    ·by_cases j:(c:Int)=b
     ·right;right;have:b=c:=by omega
      rw[this];exact RA.step d g (by omega)
     ·exact .inl ⟨RA.step d g e,RA.step f g j⟩
   ·exact .inr h
 rcases key a m with⟨h,_⟩ |h
 ·exact absurd h Td
 ·exact h
theorem aB0{a b:Nat}(t:a≠b)(l:RA bs 0 (a:Int) b)(m:RA bs 0 (b:Int) a):∀{c:Nat},RA bs 0 (-1) c->RA bs 0 (a:Int) c\/RA bs 0 (b:Int) c:=by
 intro c g;induction g with
 |base d f s=>
  by_cases e:(0:Int)=a
  ·exact .inr (RA.base d f (by omega))
  ·exact .inl (RA.base d f e)
 |@step p c u j g r=>
  rcases r with h |h
  ·by_cases e:(c:Int)=a
   ·have:c=a:=by omega
    rw[this];exact .inr m
   ·exact .inl (RA.step h j e)
  ·by_cases e:(c:Int)=b
   ·have:c=b:=by omega
    rw[this];exact .inl l
   ·exact .inr (RA.step h j e)
end
noncomputable def dB(bs:List D)(a b:Nat):Bool:=Dp bs 0 (-1) a&&(Dp bs 0 (-1) b&&!(Dp bs 0 (a:Int) b))
def aM(n:Nat)(g:Nat->D):List D:=(List.range n).map g
theorem cQ(n:Nat)(g:Nat->D):(aM n g).length=n:=by simp[aM]
theorem dU{n i:Nat}(g:Nat->D)(h:i<n):gD (aM n g) i=g i:=by simp[gD,List.getD,aM,h]
theorem dL{n:Nat}{f g:Nat->D}(h:∀i,i<n->f i=g i):aM n f=aM n g:=by
 apply List.ext_getElem
 ·simp[aM]
 ·intro k c d;simp only[aM,List.length_map,List.length_range]at c;simp[aM,h k c]
def eZ(g:Nat->D)(a:Nat)(v:D):Nat->D:=λi=>bif Nat.beq i a then v else g i
theorem eP(g:Nat->D)(a:Nat)(v:D):eZ g a v a=v:=by simp[eZ]
theorem mV(g:Nat->D){a i:Nat}(v:D)(h:i≠a):eZ g a v i=g i:=by
 unfold eZ;cases e:Nat.beq i a with
 |true=>exact absurd (Nat.eq_of_beq_eq_true e) h
 |false=>rfl
theorem mW{n a:Nat}(g:Nat->D)(v:D):(aM n g).set a v=aM n (eZ g a v):=by
 apply List.ext_getElem
 ·simp[aM]
 ·intro k c d;rw[List.getElem_set];by_cases e:a=k
  ·subst e;simp[aM,eP]
  ·simp[aM,e,mV g v (Ne.symm e)]
theorem GR(g:Nat->D)(a:Nat)(v w:D):eZ (eZ g a v) a w=eZ g a w:=by
 funext i;by_cases e:i=a
 ·subst e;rw[eP,eP]
 ·rw[mV _ _ e,mV _ _ e,mV _ _ e]
noncomputable def GS(bs:List D)(a i:Nat):D:=bif decide (i<a)then .l (aZ bs.length (dB bs i))else .l []
theorem Eh{bs:List D}{a i:Nat}(h:i<a):GS bs a i=.l (aZ bs.length (dB bs i)):=by unfold GS;rw[decide_eq_true h];rfl
theorem U9{bs:List D}{a i:Nat}(h:¬i<a):GS bs a i=.l []:=by unfold GS;rw[decide_eq_false h];rfl
theorem s9(bs:List D)(a:Nat):∀i,eZ (GS bs a) a (.l (aZ bs.length (dB bs a))) i=GS bs (a+1) i:=λi=>by
 by_cases e:i=a
 ·subst e;rw[eP,Eh (by omega)]
 ·rw[mV _ _ e];by_cases h:i<a
  ·rw[Eh h,Eh (by omega)]
  ·rw[U9 h,U9 (by omega)]
noncomputable def fT(bs:List D):List D:=aM bs.length (λa=>.l (aZ bs.length (dB bs a)))
theorem AB(bs:List D):(fT bs).length=bs.length:=cQ _ _
theorem WJ{bs:List D}{a:Nat}(h:a<bs.length):gD (fT bs) a=.l (aZ bs.length (dB bs a)):=dU _ h
theorem Yd{n j:Nat}(f:Nat->Bool)(h:j<n):(aZ n (λi=>decide (i<j)&&f i)).set j (.b (f j))=aZ n (λi=>decide (i<j+1)&&f i):=Jw f h
theorem Ye(n:Nat)(f:Nat->Bool):aZ n (λi=>decide (i<n)&&f i)=aZ n f:=mA λi c=>by rw[decide_eq_true c,Bool.true_and]
theorem Om(n:Nat)(f:Nat->Bool):aZ n (λi=>decide (i<0)&&f i)=List.replicate n (.b false):=by rw[<-lZ];exact mA λi _=>rfl
section
variable(nm:List UInt8)(o:Bool)(ps:List D)(r:Int)(bs:List D)(hT:fF bs)
include hT
theorem t7(a:Nat)(h:a<bs.length)(s:Dp bs 0 (-1) a=true)(g:Nat->D):
  fC ON 2 [.i 0,.i (a:Int),.s nm,.b o,.l ps,.i r,.l bs,.l (aM bs.length (eZ g a (.l (List.replicate bs.length (.b false))))),.l (cO bs 0 (-1)),.l (cO bs 0 a)] (0,[.i (a:Int),.s nm,.b o,.l ps,.i r,.l bs,.l (aM bs.length (eZ g a (.l (aZ bs.length (dB bs a))))),.l (cO bs 0 (-1))]):=by
 rw[<-Om bs.length (dB bs a),<-Ye bs.length (dB bs a)];have f:(cO bs 0 (-1)).length=bs.length:=by unfold cO;exact eN _ _
 have t:(cO bs 0 a).length=bs.length:=by unfold cO;exact eN _ _
 refine cI OO (λj=>[.i (j:Int),.i (a:Int),.s nm,.b o,.l ps,.i r,.l bs,.l (aM bs.length (eZ g a (.l (aZ bs.length (λi=>decide (i<j)&&dB bs a i))))),.l (cO bs 0 (-1)),.l (cO bs 0 a)]) bs.length (λj c=>?_) ?_
 ·have hg:gD (aM bs.length (eZ g a (.l (aZ bs.length (λi=>decide (i<j)&&dB bs a i))))) a=.l (aZ bs.length (λi=>decide (i<j)&&dB bs a i)):=(dU _ h).trans (eP _ _ _);show Ev _ _ (zX _) _;unfold zX;refine aC ?_ (aC ?_ (aC ?_ (aC ?_ (aC ?_ (aO ((nx c hT.1.sane [] _).trans ?_))))))
  ·show aT (j:Int) (cO bs 0 (-1)).length=true;rw[f];exact aW c
  ·show aA (a:Int) (aM bs.length _).length=true;rw[cQ];exact aE h
  ·show aA (j:Int) (cO bs 0 (-1)).length=true;rw[f];exact aE c
  ·refine aH ?_;show aA (j:Int) (cO bs 0 a).length=true;rw[t];exact aE c
  ·show aA (j:Int) (D.els (gD (aM bs.length (eZ g a (.l (aZ bs.length (λi=>decide (i<j)&&dB bs a i))))) a)).length=true;rw[hg];show aA (j:Int) (aZ bs.length _).length=true;rw[eN];exact aE c
  ·have e1:(gD (cO bs 0 (-1)) j).toB=Dp bs 0 (-1) j:=congrArg D.toB (jR _ c);have l:(gD (cO bs 0 a) j).toB=Dp bs 0 a j:=congrArg D.toB (jR _ c);have m:((gD (cO bs 0 (-1)) j).toB&&(aD (a:Int) (j:Int)||!(gD (cO bs 0 a) j).toB))=dB bs a j:=by
    rw[e1,l];unfold dB;rw[s,Bool.true_and];by_cases e:a=j
    ·subst e;have:Dp bs 0 (a:Int) a=false:=by
      cases d:Dp bs 0 (a:Int) a with
      |false=>rfl
      |true=>exact absurd (yP.1 d) Td
     rw[this,pF];rfl
    ·rw[lY (by omega)];rfl
   have d:(aM bs.length (eZ g a (.l (aZ bs.length (λi=>decide (i<j)&&dB bs a i))))).set a (.l ((D.els (gD (aM bs.length (eZ g a (.l (aZ bs.length (λi=>decide (i<j)&&dB bs a i))))) a)).set j (.b ((gD (cO bs 0 (-1)) j).toB&&(aD (a:Int) (j:Int)||!(gD (cO bs 0 a) j).toB)))))=aM bs.length (eZ g a (.l (aZ bs.length (λi=>decide (i<j+1)&&dB bs a i)))):=by rw[hg,m,mW,GR];show aM bs.length (eZ g a (.l ((aZ bs.length (λi=>decide (i<j)&&dB bs a i)).set j (.b (dB bs a j)))))=_;rw[Yd _ c]
   rw[<-d];rfl
 ·show Ev _ _ (zX _) _;unfold zX;refine aJ ?_ (bG rfl);show aT (bs.length:Int) (cO bs 0 (-1)).length=false;rw[f];exact aX _
theorem L6:iS E aY sites Si [pM nm o ps r bs] (.l (fT bs)) []:=by
 refine bA OO (by rfl) rfl ?_;show Ev _ _ (ZG _) _;unfold ZG;have ht:=hT.1;unfold eL at ht;have m:∀k,k<=1000->iP (Int.toNat (bs.length:Int)) k=true:=λk v=>eM (by omega) v;have f:(cO bs 0 (-1)).length=bs.length:=by unfold cO;exact eN _ _
 have l:fC ON 0 [.i 0,.s nm,.b o,.l ps,.i r,.l bs,.l (aM bs.length (GS bs 0)),.l (cO bs 0 (-1))] (0,[.l (aM bs.length (GS bs bs.length))]):=by
  refine cI OO (λj=>[.i (j:Int),.s nm,.b o,.l ps,.i r,.l bs,.l (aM bs.length (GS bs j)),.l (cO bs 0 (-1))]) bs.length (λj c=>?_) ?_
  ·have s:List.replicate (cO bs 0 (-1)).length (D.b false)=List.replicate bs.length (.b false):=by rw[f]
   have e1:(gD (cO bs 0 (-1)) j).toB=Dp bs 0 (-1) j:=congrArg D.toB (jR _ c);have g:(aM bs.length (GS bs j)).set j (.l (List.replicate (cO bs 0 (-1)).length (.b false)))=aM bs.length (eZ (GS bs j) j (.l (List.replicate bs.length (.b false)))):=by rw[s,mW]
   have h:aM bs.length (eZ (GS bs j) j (.l (aZ bs.length (dB bs j))))=aM bs.length (GS bs (j+1)):=dL λi _=>s9 bs j i;show Ev _ _ (zW _) _;unfold zW;refine aC (show aT (j:Int) (aM bs.length (GS bs j)).length=true by rw[cQ];exact aW c) (aC ?_ (aC ?_ (aC ?_ ?_)))
   ·show(cP 0 ((cO bs 0 (-1)).length:Int)&&(aD ((cO bs 0 (-1)).length:Int) ((cO bs 0 (-1)).length:Int)&&iP (Int.toNat ((cO bs 0 (-1)).length:Int)) 1))=true;rw[f,jA (by omega),pF,m 1 (by omega)];rfl
   ·show aA (j:Int) (aM bs.length (GS bs j)).length=true;rw[cQ];exact aE c
   ·show aA (j:Int) (cO bs 0 (-1)).length=true;rw[f];exact aE c
   ·cases e:Dp bs 0 (-1) j with
    |false=>
     refine aC ?_ (aO ((nx c hT.1.sane [] _).trans ?_))
     ·show(!(gD (cO bs 0 (-1)) j).toB)=true;rw[e1,e];rfl
     ·have t:aZ bs.length (dB bs j)=List.replicate bs.length (.b false):=by
       rw[<-lZ];exact mA λi _=>by unfold dB;rw[e];rfl
      rw[<-h,t,<-g];rfl
    |true=>
     refine aJ ?_ (bK (Jt nm o ps r bs hT 0 j) rfl ?_)
     ·show(!(gD (cO bs 0 (-1)) j).toB)=false;rw[e1,e];rfl
     ·have d:=t7 nm o ps r bs hT j c e (GS bs j);rw[<-g,h]at d;exact aP d (bD (aO (nx c hT.1.sane [] _)))
  ·show Ev _ _ (zW _) _;unfold zW;exact aJ (show aT (bs.length:Int) (aM bs.length (GS bs bs.length)).length=false by rw[cQ];exact aX _) (bG rfl)
 have y:aM bs.length (GS bs 0)=List.replicate bs.length (D.l []):=by
  apply List.ext_getElem
  ·simp[aM]
  ·intro k F d;simp[aM,GS]
 have C:aM bs.length (GS bs bs.length)=fT bs:=dL λi u=>Eh u;rw[y,C]at l;refine aC ?_ (bK (Cu nm o ps r bs hT) rfl (aP l (bD (bJ rfl rfl))));show(cP 0 (bs.length:Int)&&(aD (bs.length:Int) (bs.length:Int)&&iP (Int.toNat (bs.length:Int)) 24))=true;rw[jA (by omega),pF,m 24 (by omega)];rfl
end
end Go.Eng.Q

namespace Go.Eng.Q
open Go.Eng
def dY(x:D):Bool:=!(aD (vI x 1) 0)
def BE(q l:List D):List D:=l.foldl (λq x=>bif dY x then q++[.i (vI x 1)]else q) q
def bE(ps bs:List D):List D:=bs.foldl (λq b=>BE q b.els) ([.i 0]++ps)
def dV(l:List D):Nat->Nat
 |0=>0
 |k+1=>dV l k+bif dY (gD l k)then 1 else 0
def aK(np:Nat)(bs:List D):Nat->Nat
 |0=>np
 |b+1=>aK np bs b+dV (gD bs b).els (gD bs b).els.length
def kU(np:Nat)(bs:List D)(b k:Nat):Nat:=aK np bs b+dV (gD bs b).els k+1
theorem WK(l:List D):∀k,dV l k<=k
 |0=>Nat.le_refl _
 |k+1=>by have:=WK l k;unfold dV;cases dY (gD l k)<;>simp<;>omega
theorem OU(l:List D){i:Nat}:∀{k:Nat},i<=k->dV l i<=dV l k
 |0,h=>by rw[Nat.le_zero.1 h];exact Nat.le_refl _
 |k+1,h=>by
  by_cases e:i=k+1
  ·rw[e];exact Nat.le_refl _
  ·have:=OU l (i:=i) (k:=k) (by omega);rw[dV];omega
theorem Ei{l:List D}{i k:Nat}(h:i<k)(ht:dY (gD l i)=true):dV l i<dV l k:=by
 have c:dV l (i+1)=dV l i+1:=by rw[dV,ht];rfl
 have d:=OU l (show i+1<=k by omega);omega
theorem DN(np:Nat)(bs:List D){a:Nat}:∀{b:Nat},a<=b->aK np bs a<=aK np bs b
 |0,h=>by rw[Nat.le_zero.1 h];exact Nat.le_refl _
 |b+1,h=>by
  by_cases e:a=b+1
  ·rw[e];exact Nat.le_refl _
  ·have:=DN np bs (a:=a) (b:=b) (by omega);rw[aK];omega
theorem Yf{np:Nat}{bs:List D}(hT:fF bs):∀b,b<=bs.length->aK np bs b<=np+b*10000
 |0,_=>by simp[aK]
 |b+1,h=>by have d:=Yf (np:=np) hT b (by omega);have e:=WK (gD bs b).els (gD bs b).els.length;have c:=(hT.2 b (by omega)).ins;unfold eL at c;rw[aK];omega
theorem MZ(np:Nat)(bs:List D)(b:Nat):np<=aK np bs b:=DN np bs (Nat.zero_le b)
structure JZ(np:Nat)(bs:List D)(v:Nat)(q:Nat×Nat):Prop where
 b:q.1<bs.length
 k:q.2<(gD bs q.1).els.length
 t:dY (gD (gD bs q.1).els q.2)=true
 v:v=kU np bs q.1 q.2
theorem aEI{np:Nat}{bs:List D}{b k b' d:Nat}(h:b<b'\/b=b'/\k<d)(e:k<(gD bs b).els.length)(ht:dY (gD (gD bs b).els k)=true):kU np bs b k<kU np bs b' d:=by
 unfold kU;rcases h with h |⟨h,c⟩
 ·have f:=Ei e ht;have c:=DN np bs (show b+1<=b' by omega);rw[aK]at c;omega
 ·subst h;have:=Ei c ht;omega
theorem WL{np:Nat}{bs:List D}{v:Nat}{q p:Nat×Nat}(d:JZ np bs v q)(e:JZ np bs v p):q=p:=by
 obtain⟨b,k⟩:=q;obtain⟨b',j⟩:=p;have e1:=d.v;have f:=e.v;simp only at e1 f;have key:∀{x c:Nat×Nat},JZ np bs v x->JZ np bs v c->¬(x.1<c.1\/x.1=c.1/\x.2<c.2):=λhx g h=>by have:=aEI (np:=np) h hx.k hx.t;rw[<-hx.v,<-g.v]at this;omega
 have l:=key d e;have m:=key e d;simp only at l m;have:b=b':=by omega
 subst this;have:k=j:=by omega
 subst this;rfl
open Classical in
noncomputable def Tv(np:Nat)(bs:List D)(v:Nat):Int×Int:=if h:∃q,JZ np bs v q then(((Classical.choose h).1 :Int),((Classical.choose h).2 :Int))else(-1,-1)
theorem EZ{np:Nat}{bs:List D}{v:Nat}{q:Nat×Nat}(h:JZ np bs v q):Tv np bs v=((q.1:Int),(q.2:Int)):=by have c:∃q,JZ np bs v q:=⟨q,h⟩;unfold Tv;rw[dif_pos c,WL (Classical.choose_spec c) h]
theorem V0{np:Nat}{bs:List D}{v:Nat}(h:v<=np):Tv np bs v=(-1,-1):=by unfold Tv;rw[dif_neg];rintro⟨q,d⟩;have c:=d.v;have e:=MZ np bs q.1;unfold kU at c;omega
theorem Jz{np:Nat}{bs:List D}:∀(b:Nat),b<=bs.length->∀v,np<v->v<=aK np bs b->∃q,q.1<b/\JZ np bs v q
 |0,_,v,l,d=>by unfold aK at d;omega
 |b+1,s,v,l,d=>by
  by_cases h:v<=aK np bs b
  ·obtain⟨q,c,f⟩:=Jz b (by omega) v l h;exact⟨q,by omega,f⟩
  ·have key:∀k,k<=(gD bs b).els.length->v<=aK np bs b+dV (gD bs b).els k->∃i,i<k/\dY (gD (gD bs b).els i)=true/\v=kU np bs b i:=by
    intro k;induction k with
    |zero=>intro _ c;unfold dV at c;omega
    |succ k r=>
     intro t c;by_cases f:v<=aK np bs b+dV (gD bs b).els k
     ·obtain⟨i,m,g,j⟩:=r (by omega) f;exact⟨i,by omega,g,j⟩
     ·rw[dV]at c;cases e:dY (gD (gD bs b).els k)with
      |false=>rw[e]at c;simp at c;omega
      |true=>rw[e]at c;simp at c;exact⟨k,by omega,e,by unfold kU;omega⟩
   rw[aK]at d;obtain⟨i,m,g,j⟩:=key _ (Nat.le_refl _) d;exact⟨(b,i),by simp,⟨by show b<bs.length;omega,m,g,j⟩⟩
theorem GT:∀(l q:List D),(BE q l).length=q.length+(l.filter dY).length
 |[],q=>rfl
 |x::l,q=>by
  show(BE (bif dY x then q++[.i (vI x 1)]else q) l).length=_;rw[GT l];cases e:dY x with
  |true=>simp[e];omega
  |false=>simp[e]
theorem Ab(l:List D):∀k,k<=l.length->dV l k=((l.take k).filter dY).length
 |0,_=>by simp[dV]
 |k+1,h=>by
  have c:k<l.length:=by omega
  have d:gD l k=l[k]:=by simp[gD,List.getD,c]
  rw[dV,Ab l k (by omega),List.take_succ_eq_append_getElem c,List.filter_append,List.length_append,d];cases e:dY l[k]<;>simp[e]
theorem WM(l:List D):dV l l.length=(l.filter dY).length:=by rw[Ab l _ (Nat.le_refl _),List.take_length]
theorem yD(ps bs:List D):(bE ps bs).length=aK ps.length bs bs.length+1:=by
 have key:∀b,b<=bs.length->((bs.take b).foldl (λq b=>BE q b.els) ([.i 0]++ps)).length=aK ps.length bs b+1:=by
  intro b;induction b with
  |zero=>intro _;simp[aK]
  |succ b e=>
   intro h;have c:b<bs.length:=by omega
   have d:gD bs b=bs[b]:=by simp[gD,List.getD,c]
   rw[List.take_succ_eq_append_getElem c,List.foldl_append,aK,d,WM];show(BE _ bs[b].els).length=_;rw[GT,e (by omega)];omega
 have:=key bs.length (Nat.le_refl _);rw[List.take_length]at this;exact this
section
variable(nm:List UInt8)(o:Bool)(ps:List D)(r:Int)(bs:List D)(hp:eL ps)(hT:fF bs)
include hT
theorem L7(b:Nat)(c:b<bs.length)(q:List D)(m:q.length<=100000+b*10000):
  fC IW 2 [.i 0,.i (b:Int),.s nm,.b o,.l ps,.i r,.l bs,.l q] (0,[.i (b:Int),.s nm,.b o,.l ps,.i r,.l bs,.l (BE q (gD bs b).els)]):=by
 have f:=(hT.2 b c).ins;have l:=hT.1;have g:=f.sane;unfold eL at f l;refine EU IY (λj(q:List D)=>[.i (j:Int),.i (b:Int),.s nm,.b o,.l ps,.i r,.l bs,.l q]) (gD bs b).els (λq x=>bif dY x then q++[.i (vI x 1)]else q) (λq=>(0,[.i (b:Int),.s nm,.b o,.l ps,.i r,.l bs,.l q])) (λj p=>p.length<=q.length+j) (λj p d hp=>⟨?_,?_⟩) (λp hp=>?_) (s0:=q) (Nat.le_refl _)
 ·cases dY (gD (gD bs b).els j)<;>simp<;>omega
 ·show Ev _ _ (vT _) _;unfold vT;refine aC (aE c) (aC (aW d) (aC (aE c) (aC (aE d) ?_)));cases e:dY (gD (gD bs b).els j)with
  |true=>
   have h:p.length+1<=1000000000:=by have:=Nat.mul_le_mul (show b<=10000 by omega) (Nat.le_refl 10000);omega
   exact aC e (aC (eM h (by omega)) (aO (nx d g [] _)))
  |false=>exact aJ e (aO (nx d g [] _))
 ·show Ev _ _ (vT _) _;unfold vT;exact aC (aE c) (aJ (aX _) (bG rfl))
include hp
theorem NA:iS E aY sites LS [pM nm o ps r bs] (.l (bE ps bs)) []:=by
 refine bA IY (by rfl) rfl ?_;show Ev _ _ (SC _) _;unfold SC;unfold eL at hp;have e:fC IW 0 [.i 0,.s nm,.b o,.l ps,.i r,.l bs,.l ([.i 0]++ps)] (0,[.l (bE ps bs)]):=by
  refine EU IY (λj(q:List D)=>[.i (j:Int),.s nm,.b o,.l ps,.i r,.l bs,.l q]) bs (λq b=>BE q b.els) (λq=>(0,[.l q])) (λj p=>p.length<=100000+j*10000) (λj p c hp=>⟨?_,?_⟩) (λp hp=>?_) (s0:=[.i 0]++ps) (by simp;omega)
  ·have d:=(hT.2 j c).ins;unfold eL at d;rw[GT,<-WM];have:=WK (gD bs j).els (gD bs j).els.length;omega
  ·show Ev _ _ (vS _) _;unfold vS;exact aC (aW c) (aP (L7 nm o ps r bs hT j c p hp) (bD (aO (nx c hT.1.sane [] _))))
  ·show Ev _ _ (vS _) _;unfold vS;exact aJ (aX _) (bG rfl)
 refine aC ?_ (aP e (bD (bJ rfl rfl)));show iP (1+ps.length) 8=true;exact eM (by omega) (by omega)
theorem GU:aK ps.length bs bs.length<=200000000:=by unfold eL at hp;have d:=Yf (np:=ps.length) hT bs.length (Nat.le_refl _);have c:=hT.1;unfold eL at c;have:=Nat.mul_le_mul (show bs.length<=10000 by omega) (Nat.le_refl 10000);omega
theorem WN:iS E aY sites OF [pM nm o ps r bs] (.i (aK ps.length bs bs.length:Int)) []:=by refine bA Cg (by rfl) rfl ?_;show Ev _ _ (LY _) _;unfold LY;refine bK (NA nm o ps r bs hp hT) rfl (bJ (congrArg D.i ?_) rfl);have c:=GU ps bs hp hT;show _=bC .i64 (((bE ps bs).length:Int)-1);rw[yD,uJ (by omega) (by omega)];omega
end
end Go.Eng.Q

namespace Go.Eng.Q
open Go.Eng
theorem Te{n:Nat}(h:n<=1000000000):aG .i64 (n:Int) 1=((n+1:Nat):Int):=eY (n:=n+1) (by omega) (by omega)
theorem qT(n:Nat)(z:D):aM n (λ_=>z)=List.replicate n z:=by simp[aM,List.map_const']
noncomputable def Ej(np:Nat)(bs:List D)(v:Nat):D:=.l [.i (Tv np bs v).1,.i (Tv np bs v).2]
noncomputable def gW(np:Nat)(bs:List D)(c v:Nat):D:=bif decide (v<c)then Ej np bs v else .l [.i 0,.i 0]
theorem V1{np:Nat}{bs:List D}{c v:Nat}(h:v<c):gW np bs c v=Ej np bs v:=by unfold gW;rw[decide_eq_true h];rfl
theorem Yg{np:Nat}{bs:List D}{c v:Nat}(h:¬v<c):gW np bs c v=.l [.i 0,.i 0]:=by unfold gW;rw[decide_eq_false h];rfl
theorem V2(np:Nat)(bs:List D)(c:Nat)(w:D)(d:w=Ej np bs c):∀i,eZ (gW np bs c) c w i=gW np bs (c+1) i:=λi=>by
 by_cases e:i=c
 ·subst e;rw[eP,V1 (by omega),d]
 ·rw[mV _ _ e];by_cases h:i<c
  ·rw[V1 h,V1 (by omega)]
  ·rw[Yg h,Yg (by omega)]
noncomputable def DZ(np:Nat)(bs:List D):List D:=aM (aK np bs bs.length+1) (Ej np bs)
theorem aB1{N k:Nat}{g:Nat->D}{c d:D}(a b:D)(e:k<N)(hg:g k=.l [c,d]):
  (let z0:=(aM N g).set k (D.l (cK (D.els (gD (aM N g) k)) 0 a));z0.set k (D.l (cK (D.els (gD z0 k)) 1 b)))=aM N (eZ g k (.l [a,b])):=by
 have f:gD (aM N g) k=.l [c,d]:=(dU g e).trans hg;have h:(aM N g).set k (D.l (cK (D.els (gD (aM N g) k)) 0 a))=aM N (eZ g k (.l [a,d])):=by rw[f];exact mW _ _
 dsimp only;rw[h,dU _ e,eP,mW,GR];rfl
theorem On(np:Nat)(bs:List D)(b:Nat):aK np bs (b+1)=aK np bs b+dV (gD bs b).els (gD bs b).els.length:=rfl
theorem Cx{l:List D}{k:Nat}(h:dY (gD l k)=true):dV l (k+1)=dV l k+1:=by rw[dV,h];rfl
theorem Ka{l:List D}{k:Nat}(h:dY (gD l k)=false):dV l (k+1)=dV l k:=by rw[dV,h];rfl
theorem Kb{np:Nat}{bs:List D}{b k:Nat}(f:b<bs.length)(d:k<=(gD bs b).els.length):aK np bs b+dV (gD bs b).els k<=aK np bs bs.length:=by have e:=OU (gD bs b).els d;have c:=DN np bs (show b+1<=bs.length by omega);rw[On]at c;omega
theorem Tf{np:Nat}{bs:List D}{b k:Nat}(d:b<bs.length)(e:k<(gD bs b).els.length)(ht:dY (gD (gD bs b).els k)=true):kU np bs b k<=aK np bs bs.length:=by have c:=Kb (np:=np) d (show k+1<=_ by omega);rw[Cx ht]at c;unfold kU;omega
theorem aEJ{np:Nat}{bs:List D}{b k:Nat}(c:b<bs.length)(d:k<(gD bs b).els.length)(ht:dY (gD (gD bs b).els k)=true):Ej np bs (kU np bs b k)=.l [.i (b:Int),.i (k:Int)]:=by unfold Ej;rw[EZ (q:=(b,k)) ⟨c,d,ht,rfl⟩]
section
variable(nm:List UInt8)(o:Bool)(ps:List D)(r:Int)(bs:List D)(hp:eL ps)(hT:fF bs)
include hp hT
theorem L8(b:Nat)(c:b<bs.length):
  fC xZ 4 [.i 0,.i (aK ps.length bs b:Int),.i (b:Int),.s nm,.b o,.l ps,.i r,.l bs,.l (aM (aK ps.length bs bs.length+1) (gW ps.length bs (aK ps.length bs b+1)))] (0,[.i (aK ps.length bs (b+1):Int),.i (b:Int),.s nm,.b o,.l ps,.i r,.l bs,.l (aM (aK ps.length bs bs.length+1) (gW ps.length bs (aK ps.length bs (b+1)+1)))]):=by
 have f:=(hT.2 b c).ins.sane;have t:=GU ps bs hp hT;refine cI DD (λk=>[.i (k:Int),.i ((aK ps.length bs b+dV (gD bs b).els k:Nat):Int),.i (b:Int),.s nm,.b o,.l ps,.i r,.l bs,.l (aM (aK ps.length bs bs.length+1) (gW ps.length bs (aK ps.length bs b+dV (gD bs b).els k+1)))]) (gD bs b).els.length (λk d=>?_) ?_
 ·show Ev _ _ (wD _) _;unfold wD;refine aC (aE c) (aC (aW d) (aC (aE c) (aC (aE d) ?_)));have u:=Kb (np:=ps.length) c (Nat.le_of_lt d);cases e:dY (gD (gD bs b).els k)with
  |true=>
   have hv:=Tf (np:=ps.length) c d e;have e1:aG .i64 ((aK ps.length bs b+dV (gD bs b).els k:Nat):Int) 1=((kU ps.length bs b k:Nat):Int):=Te (by omega);have h:Int.toNat (aG .i64 ((aK ps.length bs b+dV (gD bs b).els k:Nat):Int) 1)=kU ps.length bs b k:=by rw[e1];rfl
   have s:aK ps.length bs b+dV (gD bs b).els (k+1)=kU ps.length bs b k:=by rw[Cx e];rfl
   have j:=aB1 (N:=aK ps.length bs bs.length+1) (k:=kU ps.length bs b k) (g:=gW ps.length bs (kU ps.length bs b k)) (.i (b:Int)) (.i (k:Int)) (by omega) (Yg (by omega));have l:=dL (n:=aK ps.length bs bs.length+1) λi _=>V2 ps.length bs (kU ps.length bs b k) (.l [.i (b:Int),.i (k:Int)]) (aEJ c d e).symm i;have m:(let z0:=(aM (aK ps.length bs bs.length+1) (gW ps.length bs (aK ps.length bs b+dV (gD bs b).els k+1))).set (Int.toNat (aG .i64 ((aK ps.length bs b+dV (gD bs b).els k:Nat):Int) 1)) (D.l (cK (D.els (gD (aM (aK ps.length bs bs.length+1) (gW ps.length bs (aK ps.length bs b+dV (gD bs b).els k+1))) (Int.toNat (aG .i64 ((aK ps.length bs b+dV (gD bs b).els k:Nat):Int) 1)))) 0 (.i (b:Int))));z0.set (Int.toNat (aG .i64 ((aK ps.length bs b+dV (gD bs b).els k:Nat):Int) 1)) (D.l (cK (D.els (gD z0 (Int.toNat (aG .i64 ((aK ps.length bs b+dV (gD bs b).els k:Nat):Int) 1)))) 1 (.i (k:Int)))))=aM (aK ps.length bs bs.length+1) (gW ps.length bs (kU ps.length bs b k+1)):=by rw[h];exact j.trans l
   refine aC e (aC ?_ (aO ((nx d f [] _).trans ?_)))
   ·show aA (aG .i64 ((aK ps.length bs b+dV (gD bs b).els k:Nat):Int) 1) (aM _ _).length=true;rw[e1,cQ];exact aE (by omega)
   ·show D.i (aG .i64 (k:Int) 1)::[.i ((aK ps.length bs b+dV (gD bs b).els (k+1):Nat):Int),.i (b:Int),.s nm,.b o,.l ps,.i r,.l bs,.l (aM (aK ps.length bs bs.length+1) (gW ps.length bs (aK ps.length bs b+dV (gD bs b).els (k+1)+1)))]=_;rw[s,<-m,<-e1];rfl
  |false=>refine aJ e (aO ((nx d f [] _).trans ?_));show D.i (aG .i64 (k:Int) 1)::[.i ((aK ps.length bs b+dV (gD bs b).els (k+1):Nat):Int),.i (b:Int),.s nm,.b o,.l ps,.i r,.l bs,.l (aM (aK ps.length bs bs.length+1) (gW ps.length bs (aK ps.length bs b+dV (gD bs b).els (k+1)+1)))]=_;rw[Ka e];rfl
 ·show Ev _ _ (wD _) _;unfold wD;exact aC (aE c) (aJ (aX _) (bG rfl))
theorem L9:fC xZ 2 [.i (ps.length:Int),.i 0,.s nm,.b o,.l ps,.i r,.l bs,.l (aM (aK ps.length bs bs.length+1) (gW ps.length bs (ps.length+1)))] (0,[.l (DZ ps.length bs)]):=by
 have l:=hT.1.sane;have d:fC xZ 2 [.i (aK ps.length bs 0:Int),.i ((0:Nat):Int),.s nm,.b o,.l ps,.i r,.l bs,.l (aM (aK ps.length bs bs.length+1) (gW ps.length bs (aK ps.length bs 0+1)))] (0,[.l (aM (aK ps.length bs bs.length+1) (gW ps.length bs (aK ps.length bs bs.length+1)))]):=by
  refine cI DD (λj=>[.i (aK ps.length bs j:Int),.i (j:Int),.s nm,.b o,.l ps,.i r,.l bs,.l (aM (aK ps.length bs bs.length+1) (gW ps.length bs (aK ps.length bs j+1)))]) bs.length (λj c=>?_) ?_
  ·show Ev _ _ (wC _) _;unfold wC;exact aC (aW c) (aP (L8 nm o ps r bs hp hT j c) (bD (aO (nx c l [.i (aK ps.length bs (j+1):Int)] _))))
  ·show Ev _ _ (wC _) _;unfold wC;exact aJ (aX _) (bG rfl)
 have e:=dL (n:=aK ps.length bs bs.length+1) (f:=gW ps.length bs (aK ps.length bs bs.length+1)) (g:=Ej ps.length bs) λi h=>V1 h;rw[e]at d;exact d
omit hT in
theorem M0:fC xZ 0 [.i 0,.s nm,.b o,.l ps,.i r,.l bs,.l (List.replicate (aK ps.length bs bs.length+1) (D.l [.i 0,.i 0]))] (0,[.s nm,.b o,.l ps,.i r,.l bs,.l (aM (aK ps.length bs bs.length+1) (gW ps.length bs (ps.length+1)))]):=by
 have s:=MZ ps.length bs bs.length;have l:=hp;unfold eL at l;have d:List.replicate (aK ps.length bs bs.length+1) (D.l [.i 0,.i 0])=aM (aK ps.length bs bs.length+1) (gW ps.length bs 0):=by have:=dL (n:=aK ps.length bs bs.length+1) (f:=gW ps.length bs 0) (g:=λ_=>D.l [.i 0,.i 0]) λi _=>Yg (by omega);rw[this,qT]
 rw[d];refine cI DD (λj=>[.i (j:Int),.s nm,.b o,.l ps,.i r,.l bs,.l (aM (aK ps.length bs bs.length+1) (gW ps.length bs j))]) (ps.length+1) (λj m=>?_) ?_
 ·have e:=aB1 (N:=aK ps.length bs bs.length+1) (k:=j) (g:=gW ps.length bs j) (.i (-1)) (.i (-1)) (by omega) (Yg (by omega));have h:=dL (n:=aK ps.length bs bs.length+1) λi _=>V2 ps.length bs j (.l [.i (-1),.i (-1)]) (by unfold Ej;rw[V0 (by omega)]) i;have c:=e.trans h;dsimp only at c;show Ev _ _ (wA _) _;unfold wA;refine aC (jA (by show(j:Int)<=(ps.length:Int);omega)) (aC ?_ (aO ((nx m (by omega) [] _).trans ?_)))
  ·show aA (j:Int) (aM _ _).length=true;rw[cQ];exact aE (by omega)
  ·show D.i (aG .i64 (j:Int) 1)::[.s nm,.b o,.l ps,.i r,.l bs,.l (aM (aK ps.length bs bs.length+1) (gW ps.length bs (j+1)))]=_;rw[<-c];rfl
 ·show Ev _ _ (wA _) _;unfold wA;exact aJ (J6 (by show(ps.length:Int)<((ps.length+1:Nat):Int);omega)) (bG rfl)
theorem Yh:iS E aY sites Ig [pM nm o ps r bs] (.l (DZ ps.length bs)) []:=by
 refine bA DD (by rfl) rfl ?_;show Ev _ _ (SE _) _;unfold SE;have e:=GU ps bs hp hT;have e1:aG .i64 (aK ps.length bs bs.length:Int) 1=((aK ps.length bs bs.length+1:Nat):Int):=Te (by omega);have c:Int.toNat (aG .i64 (aK ps.length bs bs.length:Int) 1)=aK ps.length bs bs.length+1:=by rw[e1];rfl
 refine bK (WN nm o ps r bs hp hT) rfl (aC ?_ ?_)
 ·show(cP 0 (aG .i64 (aK ps.length bs bs.length:Int) 1)&&(aD (aG .i64 (aK ps.length bs bs.length:Int) 1) (aG .i64 (aK ps.length bs bs.length:Int) 1)&&iP (Int.toNat (aG .i64 (aK ps.length bs bs.length:Int) 1)) 16))=true;rw[c,e1,jA (by omega),pF,eM (by omega) (by omega)];rfl
 ·have d:=M0 nm o ps r bs hp;rw[<-c]at d;refine aP d (bD ?_);rw[c];exact aP (L9 nm o ps r bs hp hT) (bD (bJ rfl rfl))
end
end Go.Eng.Q

namespace Go.Eng.Q
open Go.Eng
def Cy(np:Nat)(bs:List D)(b k:Nat):Bool:=dY (gD (gD bs b).els k)&&!(aD (vI (gD (gD bs b).els k) 2) (kU np bs b k:Int))
def JF(np:Nat)(bs:List D)(b:Nat):Bool:=dS (gD bs b).els.length (Cy np bs b)
abbrev oM(x:D)(j:Nat):Int:=(gD (eX x 5) j).toI
abbrev NB(x:D)(j:Nat):Int:=(gD (eX x 6) j).toI
abbrev wv(d:List D)(v:Int)(c:Nat):Int:=vI (gD d (Int.toNat v)) c
abbrev dt(T:List D)(a b:Int):Bool:=D.toB (gE (gD T (Int.toNat a)) (Int.toNat b))
def t8(nx:Int)(c T:List D)(b k:Nat)(x:D)(j:Nat):Bool:=
 (aT (oM x j) 1||aT nx (oM x j))||(bif aT (wv c (oM x j) 0) 0 then false else bif aD (vI x 0) 26 then !(dt T (wv c (oM x j) 0) (NB x j))else
  ((aD (wv c (oM x j) 0) (b:Int)&&cP (k:Int) (wv c (oM x j) 1))||(!(aD (wv c (oM x j) 0) (b:Int))&&!(dt T (wv c (oM x j) 0) (b:Int)))))
noncomputable def Dq(np:Nat)(bs:List D)(b k:Nat):Bool:=dS (eX (gD (gD bs b).els k) 5).length (t8 (aK np bs bs.length:Int) (DZ np bs) (fT bs) b k (gD (gD bs b).els k))
noncomputable def FA(np:Nat)(bs:List D):Bool:=!(dS bs.length (JF np bs))&&!(dS bs.length λb=>dS (gD bs b).els.length (Dq np bs b))
theorem qD{a b:Int}(h:aT a b=false):¬a<b:=λc=>by rw[Sw c]at h;cases h
theorem Oo{np:Nat}{bs:List D}{v:Nat}(h:v<=aK np bs bs.length):v<=np/\Tv np bs v=(-1,-1)\/np<v/\∃q,JZ np bs v q/\Tv np bs v=((q.1:Int),(q.2:Int)):=by
 by_cases c:v<=np
 ·exact .inl ⟨c,V0 c⟩
 ·obtain⟨q,_,d⟩:=Jz bs.length (Nat.le_refl _) v (by omega) h;exact .inr ⟨by omega,q,d,EZ d⟩
theorem V3{np:Nat}{bs:List D}{v:Nat}(h:v<=aK np bs bs.length):gD (DZ np bs) v=Ej np bs v:=dU _ (by omega)
theorem Kc{bs:List D}(h:lP bs=true){b k:Nat}(r:b<bs.length)(s:k<(gD bs b).els.length)(u:vI (gD (gD bs b).els k) 0=26):
  (eX (gD (gD bs b).els k) 6).length=(gU bs b).length/\∀j,(l:j<(gU bs b).length)->(gD (eX (gD (gD bs b).els k) 6) j).toI=(((gU bs b)[j]:Nat):Int):=by
 unfold lP at h;rw[Bool.and_eq_true,pG,pG]at h;have f:=bQ.1 h.2 b r;unfold QZ at f;rw[Bool.or_eq_false_iff]at f;have c:=kK.1 f.2 k s;unfold DM at c;rw[u,pF,Bool.true_and,Bool.or_eq_false_iff]at c;have d:mS (eX (gD (gD bs b).els k) 6) ((gU bs b).map iD)=true:=by
  cases e:mS (eX (gD (gD bs b).els k) 6) ((gU bs b).map iD)with
  |true=>rfl
  |false=>rw[e]at c;cases c.2
 unfold mS at d;rw[Bool.and_eq_true,pG,bT]at d;have t:(eX (gD (gD bs b).els k) 6).length=(gU bs b).length:=by have:=d.1;rw[mB]at this;omega
 refine⟨t,λj l=>?_⟩;have g:=bQ.1 d.2 j (by omega);have m:aD (gD (eX (gD (gD bs b).els k) 6) j).toI (gD ((gU bs b).map iD) j).toI=true:=by
  cases e:aD (gD (eX (gD (gD bs b).els k) 6) j).toI (gD ((gU bs b).map iD) j).toI with
  |true=>rfl
  |false=>rw[e]at g;cases g
 rw[(bT _ _).1 m,SU l];rfl
theorem V4{bs:List D}{b n:Nat}(h:n∈gU bs b):n<bs.length:=by unfold gU mC at h;simp only[List.mem_filter,List.mem_range]at h;exact h.1
section
variable(nm:List UInt8)(o:Bool)(ps:List D)(r:Int)(bs:List D)(hp:eL ps)(hT:fF bs)
include hp hT
theorem u4(b:Nat)(c:b<bs.length):
  (JF ps.length bs b=true/\∃t,(∃n:Int,t=(0,[.i n,.b false,.i (b:Int),.s nm,.b o,.l ps,.i r,.l bs]))/\fC qQ 2 [.i (aK ps.length bs b:Int),.i 0,.i (b:Int),.s nm,.b o,.l ps,.i r,.l bs] t)\/
  (JF ps.length bs b=false/\fC qQ 2 [.i (aK ps.length bs b:Int),.i 0,.i (b:Int),.s nm,.b o,.l ps,.i r,.l bs] (1,[.i (aK ps.length bs (b+1):Int),.i (b:Int),.s nm,.b o,.l ps,.i r,.l bs])):=by
 have h:=(hT.2 b c).ins.sane;have j:=GU ps bs hp hT;refine aD0 yB (λk=>[.i ((aK ps.length bs b+dV (gD bs b).els k:Nat):Int),.i (k:Int),.i (b:Int),.s nm,.b o,.l ps,.i r,.l bs]) (gD bs b).els.length (Cy ps.length bs b) (λt=>∃n:Int,t=(0,[.i n,.b false,.i (b:Int),.s nm,.b o,.l ps,.i r,.l bs])) (t1:=(1,[.i (aK ps.length bs (b+1):Int),.i (b:Int),.s nm,.b o,.l ps,.i r,.l bs])) (λk d=>?_) ?_
 ·show(_/\∃t,_/\Ev _ _ (tM _) _)\/(_/\Ev _ _ (tM _) _);unfold tM;have l:=Kb (np:=ps.length) c (Nat.le_of_lt d);have e1:aG .i64 ((aK ps.length bs b+dV (gD bs b).els k:Nat):Int) 1=((kU ps.length bs b k:Nat):Int):=Te (by omega);have hx:∀n,[D.i n,D.i ((k+1:Nat):Int),.i (b:Int),.s nm,.b o,.l ps,.i r,.l bs]=[D.i n,.i (aG .i64 (k:Int) 1),.i (b:Int),.s nm,.b o,.l ps,.i r,.l bs]:=λn=>nx d h [D.i n] _;cases e:dY (gD (gD bs b).els k)with
  |false=>refine .inr ⟨by unfold Cy;rw[e];rfl,aC (aE c) (aC (aW d) (aC (aE c) (aC (aE d) (aJ e (aO ?_)))))⟩;show[D.i ((aK ps.length bs b+dV (gD bs b).els (k+1):Nat):Int),D.i ((k+1:Nat):Int),.i (b:Int),.s nm,.b o,.l ps,.i r,.l bs]=_;rw[Ka e];exact hx _
  |true=>
   cases f:aD (vI (gD (gD bs b).els k) 2) (kU ps.length bs b k:Int)with
   |false=>refine .inl ⟨by unfold Cy;rw[e,f];rfl,_,⟨_,rfl⟩,aC (aE c) (aC (aW d) (aC (aE c) (aC (aE d) (aC e (aC ?_ (bG rfl))))))⟩;exact(congrArg (λn=>!(aD (vI (gD (gD bs b).els k) 2) n)) e1).trans (congrArg Bool.not f)
   |true=>
    refine .inr ⟨by unfold Cy;rw[e,f];rfl,aC (aE c) (aC (aW d) (aC (aE c) (aC (aE d) (aC e (aJ ?_ (aO ?_))))))⟩
    ·exact(congrArg (λn=>!(aD (vI (gD (gD bs b).els k) 2) n)) e1).trans (congrArg Bool.not f)
    ·show[D.i ((aK ps.length bs b+dV (gD bs b).els (k+1):Nat):Int),D.i ((k+1:Nat):Int),.i (b:Int),.s nm,.b o,.l ps,.i r,.l bs]=_;have g:((aK ps.length bs b+dV (gD bs b).els (k+1):Nat):Int)=aG .i64 ((aK ps.length bs b+dV (gD bs b).els k:Nat):Int) 1:=by rw[e1,Cx e];rfl
     rw[g];exact hx _
 ·show Ev _ _ (tM _) _;unfold tM;exact aC (aE c) (aJ (aX _) (bG rfl))
theorem u5:
  (dS bs.length (JF ps.length bs)=true/\∃t,(∃n:Int,t=(0,[.i n,.b false,.s nm,.b o,.l ps,.i r,.l bs]))/\fC qQ 0 [.i (ps.length:Int),.i 0,.s nm,.b o,.l ps,.i r,.l bs] t)\/
  (dS bs.length (JF ps.length bs)=false/\fC qQ 0 [.i (ps.length:Int),.i 0,.s nm,.b o,.l ps,.i r,.l bs] (1,[.i (aK ps.length bs bs.length:Int),.s nm,.b o,.l ps,.i r,.l bs])):=by
 refine aD0 yB (λj=>[.i (aK ps.length bs j:Int),.i (j:Int),.s nm,.b o,.l ps,.i r,.l bs]) bs.length (JF ps.length bs) (λt=>∃n:Int,t=(0,[.i n,.b false,.s nm,.b o,.l ps,.i r,.l bs])) (t1:=(1,[.i (aK ps.length bs bs.length:Int),.s nm,.b o,.l ps,.i r,.l bs])) (λj c=>?_) ?_
 ·show(_/\∃t,_/\Ev _ _ (tL _) _)\/(_/\Ev _ _ (tL _) _);unfold tL;rcases u4 nm o ps r bs hp hT j c with⟨d,t,⟨n,rfl⟩,e⟩ |⟨d,e⟩
  ·exact .inl ⟨d,_,⟨_,rfl⟩,aC (aW c) (aP e (bD (bG rfl)))⟩
  ·exact .inr ⟨d,aC (aW c) (aP e (eB (bD (aO (nx c hT.1.sane [_] _)))))⟩
 ·show Ev _ _ (tL _) _;unfold tL;exact aJ (aX _) (bG rfl)
omit hp in
theorem u6(W:mQ bs)(hf:lP bs=true)(b k:Nat)(g:b<bs.length)(s:k<(gD bs b).els.length):
  fC qQ 8 [.i (aK ps.length bs bs.length:Int),.i (b:Int),.i 0,.i (k:Int),.s nm,.b o,.l ps,.i r,.l bs,.i (vI (gD (gD bs b).els k) 0),.i (vI (gD (gD bs b).els k) 1),.i (vI (gD (gD bs b).els k) 2),.i (vI (gD (gD bs b).els k) 3),.i (vI (gD (gD bs b).els k) 4),.l (eX (gD (gD bs b).els k) 5),.l (eX (gD (gD bs b).els k) 6),.l (DZ ps.length bs),.l (fT bs)]
   (bif Dq ps.length bs b k then(0,[.i (aK ps.length bs bs.length:Int),.i (b:Int),.b false,.i (k:Int),.s nm,.b o,.l ps,.i r,.l bs,.l (DZ ps.length bs),.l (fT bs)])else(1,[.i (aK ps.length bs bs.length:Int),.i (b:Int),.i (k:Int),.s nm,.b o,.l ps,.i r,.l bs,.l (DZ ps.length bs),.l (fT bs)])):=by
 have a3:=W b g k s;have has:=((hT.2 b g).i k s).as1;generalize t:gD (gD bs b).els k=x at*;have a4:=has.sane;have Y:(DZ ps.length bs).length=aK ps.length bs bs.length+1:=cQ _ _;have a0:Dq ps.length bs b k=dS (eX x 5).length (t8 (aK ps.length bs bs.length:Int) (DZ ps.length bs) (fT bs) b k x):=by unfold Dq;rw[t]
 rw[a0];refine xD yB (λj=>[.i (aK ps.length bs bs.length:Int),.i (b:Int),.i (j:Int),.i (k:Int),.s nm,.b o,.l ps,.i r,.l bs,.i (vI x 0),.i (vI x 1),.i (vI x 2),.i (vI x 3),.i (vI x 4),.l (eX x 5),.l (eX x 6),.l (DZ ps.length bs),.l (fT bs)]) (eX x 5).length (t8 (aK ps.length bs bs.length:Int) (DZ ps.length bs) (fT bs) b k x) (λj m=>?_) ?_
 ·have hx:=nx m a4 [.i (aK ps.length bs bs.length:Int),.i (b:Int)] [.i (k:Int),.s nm,.b o,.l ps,.i r,.l bs,.i (vI x 0),.i (vI x 1),.i (vI x 2),.i (vI x 3),.i (vI x 4),.l (eX x 5),.l (eX x 6),.l (DZ ps.length bs),.l (fT bs)];show O2 _ _ (zV _) _ _;unfold zV;refine oT (aW m) (oT (aE m) (oO rfl rfl (λa1=>?_)));have hv:∃n:Nat,oM x j=(n:Int)/\n<=aK ps.length bs bs.length:=by
   have l:((aT (oM x j) 1)||(aT (aK ps.length bs bs.length:Int) (oM x j)))=false:=a1;rw[Bool.or_eq_false_iff]at l;have e:=qD l.1;have C:=qD l.2;exact⟨(oM x j).toNat,by omega,by omega⟩
  obtain⟨n,H,J⟩:=hv;have hg:gD (DZ ps.length bs) (Int.toNat (oM x j))=Ej ps.length bs n:=by rw[H];exact V3 J
  have u:wv (DZ ps.length bs) (oM x j) 0=(Tv ps.length bs n).1 :=by unfold wv;rw[hg];rfl
  have a5:aA (oM x j) (DZ ps.length bs).length=true:=by rw[H,Y];exact aE (by omega)
  refine oT a5 (oT rfl (oX (λ(h:aT (wv (DZ ps.length bs) (oM x j) 0) 0=true)=>aFB (by rw[h];rfl) hx) (λ(h:aT (wv (DZ ps.length bs) (oM x j) 0) 0=false)=>?_)));have hd:∃d:Nat,(Tv ps.length bs n).1 =(d:Int)/\d<bs.length:=by
   rcases Oo J with⟨_,e⟩ |⟨_,q,e,C⟩
   ·have c:aT (wv (DZ ps.length bs) (oM x j) 0) 0=false:=h;rw[u,e]at c;cases c
   ·exact⟨q.1,by rw[C],e.b⟩
  obtain⟨d,a2,F⟩:=hd;have v:wv (DZ ps.length bs) (oM x j) 0=(d:Int):=u.trans a2;have P:aA (wv (DZ ps.length bs) (oM x j) 0) (fT bs).length=true:=by rw[v,AB];exact aE F
  have L:nE (gD (fT bs) (Int.toNat (wv (DZ ps.length bs) (oM x j) 0)))=bs.length:=by rw[v];show(D.els (gD (fT bs) d)).length=_;rw[WJ F];exact eN _ _
  have Q:(bif aT (wv (DZ ps.length bs) (oM x j) 0) 0 then false else bif aD (vI x 0) 26 then !(dt (fT bs) (wv (DZ ps.length bs) (oM x j) 0) (NB x j))else((aD (wv (DZ ps.length bs) (oM x j) 0) (b:Int)&&cP (k:Int) (wv (DZ ps.length bs) (oM x j) 1))||(!(aD (wv (DZ ps.length bs) (oM x j) 0) (b:Int))&&!(dt (fT bs) (wv (DZ ps.length bs) (oM x j) 0) (b:Int)))))=bif aD (vI x 0) 26 then !(dt (fT bs) (wv (DZ ps.length bs) (oM x j) 0) (NB x j))else((aD (wv (DZ ps.length bs) (oM x j) 0) (b:Int)&&cP (k:Int) (wv (DZ ps.length bs) (oM x j) 1))||(!(aD (wv (DZ ps.length bs) (oM x j) 0) (b:Int))&&!(dt (fT bs) (wv (DZ ps.length bs) (oM x j) 0) (b:Int)))):=by have c:aT (wv (DZ ps.length bs) (oM x j) 0) 0=false:=h;rw[c];rfl
  rw[Q];refine oX (λ(f:aD (vI x 0) 26=true)=>?_) (λ(f:aD (vI x 0) 26=false)=>?_)
  ·have K:vI x 0=26:=(bT _ _).1 f;obtain⟨T,y⟩:=Kc hf g s (by rw[t];exact K);rw[t]at T y;have b0:=(a3.ap K).2;have G:j<(gU bs b).length:=by omega
   have U:=y j G;have V:=V4 (List.getElem_mem G);have a7:aA (NB x j) (nE (gD (fT bs) (Int.toNat (wv (DZ ps.length bs) (oM x j) 0))))=true:=by rw[L];show aA (gD (eX x 6) j).toI bs.length=true;rw[U];exact aE V
   rw[f];have a9:aA (j:Int) (eX x 6).length=true:=aE (by omega);exact oT rfl (oT P (oT a9 (oT a7 (oE rfl rfl hx))))
  ·rw[f];have a6:aA (b:Int) (nE (gD (fT bs) (Int.toNat (wv (DZ ps.length bs) (oM x j) 0))))=true:=by rw[L];exact aE g
   exact oT rfl (oT (aH rfl) (oT (aH rfl) (oT (aH rfl) (oT (aH P) (oT (aH a6) (oE rfl rfl hx))))))
 ·show Ev _ _ (zV _) _;unfold zV;exact aJ (aX _) (bG rfl)
omit hp in
theorem u7(e:mQ bs)(hf:lP bs=true)(b:Nat)(c:b<bs.length):
  fC qQ 6 [.i (aK ps.length bs bs.length:Int),.i (b:Int),.i 0,.s nm,.b o,.l ps,.i r,.l bs,.l (DZ ps.length bs),.l (fT bs)]
   (bif dS (gD bs b).els.length (Dq ps.length bs b)then(0,[.i (aK ps.length bs bs.length:Int),.i (b:Int),.b false,.s nm,.b o,.l ps,.i r,.l bs,.l (DZ ps.length bs),.l (fT bs)])else(1,[.i (aK ps.length bs bs.length:Int),.i (b:Int),.s nm,.b o,.l ps,.i r,.l bs,.l (DZ ps.length bs),.l (fT bs)])):=by
 have f:=(hT.2 b c).ins.sane;refine xD yB (λk=>[.i (aK ps.length bs bs.length:Int),.i (b:Int),.i (k:Int),.s nm,.b o,.l ps,.i r,.l bs,.l (DZ ps.length bs),.l (fT bs)]) (gD bs b).els.length (Dq ps.length bs b) (λk d=>?_) ?_
 ·show O2 _ _ (zU _) _ _;unfold zU;exact oT (aE c) (oT (aW d) (oT (aE c) (oT (aE d) (oL (u6 nm o ps r bs hT e hf b k c d) rfl (congrArg IX.again (nx d f [_,_] _).symm)))))
 ·show Ev _ _ (zU _) _;unfold zU;exact aC (aE c) (aJ (aX _) (bG rfl))
omit hp in
theorem u9(d:mQ bs)(hf:lP bs=true):
  fC qQ 4 [.i (aK ps.length bs bs.length:Int),.i 0,.s nm,.b o,.l ps,.i r,.l bs,.l (DZ ps.length bs),.l (fT bs)] (bif dS bs.length (λb=>dS (gD bs b).els.length (Dq ps.length bs b))then(0,[.b false])else(1,[])):=by
 refine xD yB (λj=>[.i (aK ps.length bs bs.length:Int),.i (j:Int),.s nm,.b o,.l ps,.i r,.l bs,.l (DZ ps.length bs),.l (fT bs)]) bs.length (λb=>dS (gD bs b).els.length (Dq ps.length bs b)) (λj c=>?_) ?_
 ·show O2 _ _ (zT _) _ _;unfold zT;exact oT (aW c) (oL (u7 nm o ps r bs hT d hf j c) rfl (congrArg IX.again (nx c hT.1.sane [_] _).symm))
 ·show Ev _ _ (zT _) _;unfold zT;exact aJ (aX _) (bG rfl)
theorem M1(g:mQ bs)(hf:lP bs=true):iS E aY sites Se [pM nm o ps r bs] (.b (FA ps.length bs)) []:=by
 refine bA yB (by rfl) rfl ?_;show Ev _ _ (ZF _) _;unfold ZF FA;rcases u5 nm o ps r bs hp hT with⟨d,t,⟨n,rfl⟩,f⟩ |⟨d,f⟩
 ·rw[d];exact aP f (bD (bJ rfl rfl))
 ·rw[d];refine aP f (eB (bD (bK (Yh nm o ps r bs hp hT) rfl (bK (L6 nm o ps r bs hT) rfl ?_))));have c:=u9 nm o ps r bs hT g hf;cases e:dS bs.length (λb=>dS (gD bs b).els.length (Dq ps.length bs b))with
  |true=>rw[e]at c;exact aP c (bD (bJ rfl rfl))
  |false=>rw[e]at c;exact aP c (eB (bD (bJ rfl rfl)))
end
end Go.Eng.Q

namespace Go.Eng.Q
open Go.Eng
def gT(h:Nat->D)(z:D)(c i:Nat):D:=bif decide (i<c)then h i else z
theorem Oq{h:Nat->D}{z:D}{c i:Nat}(e:i<c):gT h z c i=h i:=by unfold gT;rw[decide_eq_true e];rfl
theorem Yi{h:Nat->D}{z:D}{c i:Nat}(e:¬i<c):gT h z c i=z:=by unfold gT;rw[decide_eq_false e];rfl
theorem Tg{n c:Nat}{h:Nat->D}{z w:D}(f:w=h c):(aM n (gT h z c)).set c w=aM n (gT h z (c+1)):=by
 rw[mW];refine dL λi _=>?_;by_cases e:i=c
 ·subst e;rw[eP,Oq (by omega),f]
 ·rw[mV _ _ e];by_cases d:i<c
  ·rw[Oq d,Oq (by omega)]
  ·rw[Yi d,Yi (by omega)]
theorem Th(n:Nat)(h:Nat->D)(z:D):List.replicate n z=aM n (gT h z 0):=by rw[dL (n:=n) (f:=gT h z 0) (g:=λ_=>z) λi _=>Yi (by omega),qT]
theorem M2(n:Nat)(h:Nat->D)(z:D):aM n (gT h z n)=aM n h:=dL λi c=>Oq c
def nD(bs:List D):List D:=aM bs.length λb=>.l ((aU bs b).map iD)
structure WI(bs:List D)(a:Nat)(f:Nat->Bool)(w:List Nat):Prop where
 snd:∀i,f i=true->RA bs 0 (a:Int) i
 wk:∀i,i∈w->f i=true
 fit:w.length+rV bs.length f<=bs.length
structure WIn(bs:List D)(a b:Nat)(f0:Nat->Bool)(w0:List Nat)(k:Nat)(q:(Nat->Bool)×List Nat):Prop where
 wi:WI bs a q.1 q.2
 mono:∀i,f0 i=true->q.1 i=true
 wm:∀i,i∈w0->i∈q.2
 all:∀(j:Nat)(h:j<(aU bs b).length),j<k->(((aU bs b)[j]:Nat):Int)≠a->q.1 (aU bs b)[j]=true
 mu:q.2.length+2*rV bs.length q.1<=w0.length+2*rV bs.length f0
 new:∀i,q.1 i=true->f0 i=true\/i∈q.2
theorem v7(bs:List D)(H:fF bs)(a b:Nat)(V:RA bs 0 (a:Int) b)(f0:Nat->Bool)(w0:List Nat)(a0:WI bs a f0 w0):
  ∃q:(Nat->Bool)×List Nat,WIn bs a b f0 w0 (aU bs b).length q/\fC yN 2 [.l (nD bs),.i (a:Int),.i 0,.l ((aU bs b).map iD),.i (((aU bs b).map iD).length:Int),.l (aZ bs.length f0),.l (w0.map iD)] (0,[.l (nD bs),.i (a:Int),.l (aZ bs.length q.1),.l (q.2.map iD)]):=by
 have a4:=MU bs b H;have W:=H.1;unfold eL at W;refine DI yO (λj(q:(Nat->Bool)×List Nat)=>[.l (nD bs),.i (a:Int),.i (j:Int),.l ((aU bs b).map iD),.i (((aU bs b).map iD).length:Int),.l (aZ bs.length q.1),.l (q.2.map iD)]) (aU bs b).length (λq=>(0,[.l (nD bs),.i (a:Int),.l (aZ bs.length q.1),.l (q.2.map iD)])) (WIn bs a b f0 w0) (λj q m c=>?_) (λq c=>?_) (s0:=(f0,w0)) ⟨a0,λ_ h=>h,λ_ h=>h,λ_ _ h=>absurd h (by omega),Nat.le_refl _,λ_ h=>.inl h⟩
 ·have J:(aU bs b)[j]∈aU bs b:=List.getElem_mem m;have s:(aU bs b)[j]<bs.length:=OR J;have hv:(gD ((aU bs b).map iD) j).toI=(((aU bs b)[j]:Nat):Int):=congrArg D.toI (SU m);have K:Int.toNat (gD ((aU bs b).map iD) j).toI=(aU bs b)[j]:=by rw[hv];rfl
  have hx:∀(u v:D),[.l (nD bs),.i (a:Int),.i ((j+1:Nat):Int),.l ((aU bs b).map iD),.i (((aU bs b).map iD).length:Int),u,v]=[.l (nD bs),.i (a:Int),.i (aG .i64 (j:Int) 1),.l ((aU bs b).map iD),.i (((aU bs b).map iD).length:Int),u,v]:=λu v=>nx m (by omega) [_,_] _;have C:aT (j:Int) (((aU bs b).map iD).length:Int)=true:=by rw[mB];exact aW m
  have F:aA (j:Int) ((aU bs b).map iD).length=true:=by rw[mB];exact aE m
  have y:aA (gD ((aU bs b).map iD) j).toI (aZ bs.length q.1).length=true:=by rw[hv,eN];exact aE s
  have L:D.toB (gD (aZ bs.length q.1) (Int.toNat (gD ((aU bs b).map iD) j).toI))=q.1 (aU bs b)[j]:=by rw[K];exact congrArg D.toB (jR _ s)
  have G:((!(aD (gD ((aU bs b).map iD) j).toI (a:Int)))&&(!(D.toB (gD (aZ bs.length q.1) (Int.toNat (gD ((aU bs b).map iD) j).toI)))))=((!(aD (((aU bs b)[j]:Nat):Int) (a:Int)))&&(!(q.1 (aU bs b)[j]))):=by rw[L,hv]
  cases e:((!(aD (((aU bs b)[j]:Nat):Int) (a:Int)))&&(!(q.1 (aU bs b)[j])))with
  |false=>
   refine⟨q,⟨c.wi,c.mono,c.wm,λi d U r=>?_,c.mu,c.new⟩,?_⟩
   ·by_cases l:i=j
    ·subst l;rw[Bool.and_eq_false_iff]at e;rcases e with e |e
     ·rw[lY r]at e;cases e
     ·cases P:q.1 (aU bs b)[i]with
      |true=>rfl
      |false=>rw[P]at e;cases e
    ·exact c.all i d (by omega) r
   ·show Ev _ _ (jW _) _;unfold jW;exact aC C (aC F (aC (aH y) (aJ (G.trans e) (aO (hx _ _)))))
  |true=>
   rw[Bool.and_eq_true,pG,pG]at e;have Y:(((aU bs b)[j]:Nat):Int)≠a:=λh=>by rw[h,pF]at e;cases e.1
   have t:=GN q.1 (aU bs b)[j];have a2:=JD bs.length (f:=q.1) (g:=rU q.1 (aU bs b)[j]) t s e.2 (jS _ _);have a1:=c.wi.fit;have a3:=c.mu;refine⟨(rU q.1 (aU bs b)[j],q.2++[(aU bs b)[j]]),⟨⟨λi d=>?_,λi d=>?_,?_⟩,λi d=>t i (c.mono i d),λi d=>List.mem_append_left _ (c.wm i d),λi d U r=>?_,?_,λi d=>?_⟩,?_⟩
   ·by_cases l:i=(aU bs b)[j]
    ·rw[l];exact RA.step V J Y
    ·exact c.wi.snd i (by rw[<-BC q.1 l];exact d)
   ·rcases List.mem_append.1 d with h |h
    ·exact t i (c.wi.wk i h)
    ·rw[List.mem_singleton.1 h];exact jS _ _
   ·simp only[List.length_append,List.length_cons,List.length_nil];omega
   ·by_cases l:i=j
    ·subst l;exact jS _ _
    ·exact t _ (c.all i d (by omega) r)
   ·simp only[List.length_append,List.length_cons,List.length_nil];omega
   ·by_cases l:i=(aU bs b)[j]
    ·right;rw[l];simp
    ·rcases c.new i (by rw[<-BC q.1 l];exact d)with h |h
     ·exact .inl h
     ·exact .inr (List.mem_append_left _ h)
   ·show Ev _ _ (jW _) _;unfold jW;refine aC C (aC F (aC (aH y) (aC (G.trans (by rw[e.1,e.2];rfl)) (aC y (aC ?_ (aO ((hx _ _).trans ?_)))))))
    ·show iP ((q.2.map iD).length+1) 8=true;rw[mB];exact eM (by omega) (by omega)
    ·have Q:(aZ bs.length q.1).set (Int.toNat (gD ((aU bs b).map iD) j).toI) (.b true)=aZ bs.length (rU q.1 (aU bs b)[j]):=by rw[K];exact yC _ s
     have T:q.2.map iD++[.i (gD ((aU bs b).map iD) j).toI]=(q.2++[(aU bs b)[j]]).map iD:=by rw[hv,List.map_append];rfl
     show[D.l (nD bs),.i (a:Int),.i (aG .i64 (j:Int) 1),.l ((aU bs b).map iD),.i (((aU bs b).map iD).length:Int),.l (aZ bs.length (rU q.1 (aU bs b)[j])),.l ((q.2++[(aU bs b)[j]]).map iD)]=_;rw[<-Q,<-T];rfl
 ·show Ev _ _ (jW _) _;unfold jW;refine aJ ?_ (bG rfl);show aT ((aU bs b).length:Int) (((aU bs b).map iD).length:Int)=false;rw[mB];exact aX _
structure WO(bs:List D)(a:Nat)(q:(Nat->Bool)×List Nat):Prop where
 wi:WI bs a q.1 q.2
 cl:∀b,q.1 b=true->b∈q.2\/∀n,n∈aU bs b->(n:Int)≠a->q.1 n=true
 st:a≠0->q.1 0=true
theorem Or(bs:List D)(H:fF bs)(a:Nat)(C:(Nat->Bool)×List Nat)(T:WO bs a C):
  fC yN 0 [.l (nD bs),.i (a:Int),.l (aZ bs.length C.1),.l (C.2.map iD)] (0,[.l (cO bs 0 (a:Int))]):=by
 have U:=H.1;unfold eL at U;have h:=GM yO (b:=0) (λ(q:(Nat->Bool)×List Nat)=>[.l (nD bs),.i (a:Int),.l (aZ bs.length q.1),.l (q.2.map iD)]) (WO bs a) (λq=>q.2.length+2*rV bs.length q.1) (λt=>t=(0,[.l (cO bs 0 (a:Int))])) (λq e=>?_) T
 ·obtain⟨t,d,r⟩:=h;subst d;exact r
 ·obtain⟨f,w⟩:=q;rcases List.eq_nil_or_concat w with rfl |⟨w',b,a0⟩
  ·refine .inl ⟨_,rfl,?_⟩;show Ev _ _ (oR _) _;unfold oR;refine aJ rfl (bG ?_);have:cO bs 0 (a:Int)=aZ bs.length f:=by
    refine mA λi y=>?_;rw[Bool.eq_iff_iff,yP];constructor
    ·intro d;clear y;induction d with
     |base _ _ s=>exact e.st (by omega)
     |@step p c a4 l m a2=>
      rcases e.cl p a2 with g |g
      ·cases g
      ·exact g c l m
    ·exact e.wi.snd i
   rw[this];rfl
  ·have a1:w=w'++[b]:=by rw[a0];simp
   subst a1;have W:f b=true:=e.wi.wk b (by simp);have G:=e.wi.snd b W;have K:=Xu bs 0 (a:Int) G;have Y:=e.wi.fit;simp only[List.length_append,List.length_cons,List.length_nil]at Y;obtain⟨a3,d,r⟩:=v7 bs H a b G f w' ⟨e.wi.snd,λi y=>e.wi.wk i (List.mem_append_left _ y),by omega⟩;refine .inr ⟨a3,⟨d.wi,λc V=>?_,λh=>d.mono _ (e.st h)⟩,?_,?_⟩
   ·rcases d.new c V with s |s
    ·rcases e.cl c s with g |g
     ·rcases List.mem_append.1 g with v |v
      ·exact .inl (d.wm c v)
      ·right;intro n l m;rw[List.mem_singleton.1 v]at l;obtain⟨j,J,rfl⟩:=List.mem_iff_getElem.1 l;exact d.all j J J m
     ·exact .inr λn l m=>d.mono _ (g n l m)
    ·exact .inl s
   ·have:=d.mu;simp only[List.length_append,List.length_cons,List.length_nil];omega
   ·have u:((w'++[b]).map iD).length=w'.length+1:=by simp
    have e1:bC .i64 ((((w'++[b]).map iD).length:Int)-1)=(w'.length:Int):=by rw[u,DL (by omega) (by omega)];rfl
    have L:gD ((w'++[b]).map iD) w'.length=iD b:=by simp[gD,List.getD]
    have P:List.drop 0 (List.take (Int.toNat (bC .i64 ((((w'++[b]).map iD).length:Int)-1))) ((w'++[b]).map iD))=w'.map iD:=by rw[e1,List.map_append];show List.drop 0 (List.take w'.length (w'.map iD++_))=_;rw[List.drop_zero,List.take_left' (mB w')]
    have F:(gD ((w'++[b]).map iD) (Int.toNat (bC .i64 ((((w'++[b]).map iD).length:Int)-1)))).toI=(b:Int):=by rw[e1];show(gD ((w'++[b]).map iD) w'.length).toI=_;rw[L];rfl
    have Q:D.els (gD (nD bs) (Int.toNat (gD ((w'++[b]).map iD) (Int.toNat (bC .i64 ((((w'++[b]).map iD).length:Int)-1)))).toI))=(aU bs b).map iD:=by rw[F];exact congrArg D.els (dU _ K)
    rw[<-P,<-Q]at r;show Ev _ _ (oR _) _;unfold oR;refine aC ?_ (aC ?_ (aC ?_ (aC ?_ (aP r (bD (aO rfl))))))
    ·exact Sw (by show(0:Int)<(((w'++[b]).map iD).length:Int);rw[u];omega)
    ·show aA (bC .i64 ((((w'++[b]).map iD).length:Int)-1)) ((w'++[b]).map iD).length=true;rw[e1,u];exact aE (by omega)
    ·show jT 0 (bC .i64 ((((w'++[b]).map iD).length:Int)-1)) (((w'++[b]).map iD).length:Int)=true;rw[e1,u];unfold jT;rw[jA (by omega),jA (by omega),jA (by omega)];rfl
    ·show aA (gD ((w'++[b]).map iD) (Int.toNat (bC .i64 ((((w'++[b]).map iD).length:Int)-1)))).toI (nD bs).length=true;rw[F];exact(congrArg (aA (b:Int)) (cQ _ _)).trans (aE K)
theorem M3(bs:List D)(d:fF bs)(c:0<bs.length)(a:Nat):iS E aY sites LX [.l (nD bs),.i (a:Int)] (.l (cO bs 0 (a:Int))) []:=by
 refine bA yO (by rfl) rfl ?_;show Ev _ _ (FP _) _;unfold FP;have v:=d.1;unfold eL at v;have m:(nD bs).length=bs.length:=cQ _ _;have s:List.replicate (nD bs).length (D.b false)=aZ bs.length (λ_=>false):=by rw[m,lZ]
 have u:∀n,rV n (λ_=>false)=n:=λn=>by
  induction n with
  |zero=>rfl
  |succ n F=>unfold rV;rw[F];rfl
 refine aC ?_ ?_
 ·show(cP 0 ((nD bs).length:Int)&&(aD ((nD bs).length:Int) ((nD bs).length:Int)&&iP (Int.toNat ((nD bs).length:Int)) 1))=true;rw[m,jA (by omega),pF];exact eM (by show bs.length<=_;omega) (by omega)
 ·cases e:aD (a:Int) 0 with
  |true=>
   have l:a=0:=by have:=(bT _ _).1 e;omega
   subst l;have h:=Or bs d 0 (λ_=>false,[]) ⟨⟨λ_ h=>(by cases h),λ_ h=>(by cases h),by rw[u];simp⟩,λ_ h=>(by cases h),λh=>absurd rfl h⟩;rw[<-s]at h;exact aJ (congrArg Bool.not e) (aP h (bD (bJ rfl rfl)))
  |false=>
   have l:(0:Int)≠(a:Int):=λh=>by rw[<-h,pF]at e;cases e
   have C:=yC (n:=bs.length) (λ_=>false) c;have y:=JD bs.length (f:=λ_=>false) (g:=rU (λ_=>false) 0) (GN _ 0) c rfl (jS _ _);rw[u]at y;have t:∀i,rU (λ_=>false) 0 i=true->i=0:=λi h=>by
    by_cases r:i=0
    ·exact r
    ·rw[BC _ r]at h;cases h
   have h:=Or bs d a (rU (λ_=>false) 0,[0]) ⟨⟨λi h=>by rw[t i h];exact RA.base (start:=0) (by omega) (by omega) l,λi h=>by rw[List.mem_singleton.1 h];exact jS (λ_=>false) 0,by simp only[List.length_cons,List.length_nil];omega⟩,λi h=>.inl (by rw[t i h];simp),λ_=>jS (λ_=>false) 0⟩;rw[<-C,<-s]at h;refine aC (congrArg Bool.not e) (aC ?_ (aC rfl (aP h (bD (bJ rfl rfl)))));show aA 0 (List.replicate (nD bs).length (D.b false)).length=true;rw[List.length_replicate,m];exact aE (j:=0) c
end Go.Eng.Q
