/- Part 7 of the proof: what wf.Check and the document's Check reckon. -/
import Derived.Test.YtnajbpjhadmkpaaGreatTrB
set_option linter.unusedSimpArgs false
set_option linter.unusedVariables false
namespace Go.Eng
def d7{c:Type}(step:Nat->D->c->(Nat×LD)⊕c)(d:c->Nat×LD):Nat->LD->c->Nat×LD
 |_,[],s=>d s
 |j,x::l,s=>match step j x s with
  |.inl t=>t
  |.inr e=>d7 step d (j+1) l e
section
variable{E:fC}{B:jR}{Tb:BT jG}{d:FD}
theorem Kv{m:Nat}(v:BY E B Tb m d){b:Nat}{c:Type}(f:Nat->c->LD)(l:LD)(step:Nat->D->c->(Nat×LD)⊕c)(g:c->Nat×LD)(r:Nat->c->Prop)
  (J:∀j s,j<l.length->r j s->(∀t,step j (gD l j) s=.inl t->rO E B Tb d (d.F.lp b (f j s)) (.out t))/\(∀e,step j (gD l j) s=.inr e->r (j+1) e/\rO E B Tb d (d.F.lp b (f j s)) (.again (f (j+1) e))))
  (K:∀s,r l.length s->rO E B Tb d (d.F.lp b (f l.length s)) (.out (g s))){s0:c}(h:r 0 s0):QS E B Tb d b (f 0 s0) (d7 step g 0 l s0).1 (d7 step g 0 l s0).2 :=by
 have key:∀(k j:Nat)(s:c),j+k=l.length->r j s->QS E B Tb d b (f j s) (d7 step g j (l.drop j) s).1 (d7 step g j (l.drop j) s).2 :=by
  intro k;induction k with
  |zero=>
   intro j s L h;have:j=l.length:=by omega
   subst this;rw[List.drop_length];exact yQ v (K s h)
  |succ k P=>
   intro j s L h;have y:j<l.length:=by omega
   have hd:l.drop j=gD l j::l.drop (j+1):=by rw[List.drop_eq_getElem_cons y];congr 1;simp[gD,List.getD,y]
   rw[hd];obtain⟨C,F⟩:=J j s y h;cases u:step j (gD l j) s with
   |inl t=>simp only[d7,u];exact yQ v (C t u)
   |inr e=>simp only[d7,u];obtain⟨G,H⟩:=F e u;exact sR v H (P (j+1) e (by omega) G)
 have:=key l.length 0 s0 (by omega) h;simpa using this
theorem Zg{c:D->Bool}{t0 t1:Nat×LD}:∀(l:LD)(j:Nat),d7 (λ_ x(_:Unit)=>bif c x then .inl t0 else .inr ()) (λ_=>t1) j l ()=bif l.any c then t0 else t1
 |[],_=>rfl
 |x::l,j=>by
  simp only[d7,List.any_cons];cases c x with
  |true=>rfl
  |false=>simp only[cond_false,Bool.false_or];exact Zg l (j+1)
theorem KP{m:Nat}(y:BY E B Tb m d){b:Nat}(f:Nat->LD)(l:LD)(c:D->Bool){t0 t1:Nat×LD}
  (r:∀j,j<l.length->c (gD l j)=true->rO E B Tb d (d.F.lp b (f j)) (.out t0))(u:∀j,j<l.length->c (gD l j)=false->rO E B Tb d (d.F.lp b (f j)) (.again (f (j+1))))
  (v:rO E B Tb d (d.F.lp b (f l.length)) (.out t1)):QS E B Tb d b (f 0) (bif l.any c then t0 else t1).1 (bif l.any c then t0 else t1).2 :=by
 rw[<-Zg l 0];refine Kv y (λj(_:Unit)=>f j) l _ _ (λ_ _=>True) (λj s g _=>⟨λt ht=>?_,λC h=>⟨trivial,?_⟩⟩) (λs _=>v) trivial
 ·cases e:c (gD l j)with
  |true=>rw[e]at ht;simp only[cond_true,Sum.inl.injEq]at ht;subst ht;exact r j g e
  |false=>rw[e]at ht;simp at ht
 ·cases e:c (gD l j)with
  |true=>rw[e]at h;simp at h
  |false=>exact u j g e
theorem rW{m:Nat}(t:BY E B Tb m d){b:Nat}(f:Nat->LD)(l:LD)(e:D->Bool){t0 t1:Nat×LD}
  (h:∀j,j<l.length->(e (gD l j)=true/\rO E B Tb d (d.F.lp b (f j)) (.out t0))\/(e (gD l j)=false/\rO E B Tb d (d.F.lp b (f j)) (.again (f (j+1)))))
  (s:rO E B Tb d (d.F.lp b (f l.length)) (.out t1)):QS E B Tb d b (f 0) (bif l.any e then t0 else t1).1 (bif l.any e then t0 else t1).2 :=
 KP t f l e (λj r g=>by
  rcases h j r with⟨_,c⟩ |⟨c,_⟩
  ·exact c
  ·rw[g]at c;cases c) (λj r g=>by
  rcases h j r with⟨c,_⟩ |⟨_,c⟩
  ·rw[g]at c;cases c
  ·exact c) s
theorem Ur{g:D->Int}{k:Int->Nat×LD}:∀(l:LD)(j:Nat)(a:Int),d7 (λ_ x(a:Int)=>.inr (bJ .i64 a (g x))) k j l a=k (l.foldl (λa x=>bJ .i64 a (g x)) a)
 |[],_,_=>rfl
 |x::l,j,a=>by simp only[d7,List.foldl_cons];exact Ur l (j+1) _
end
theorem fQ{j n:Nat}(c:j<n)(d:(n:Int)<=9223372036854775807):bJ .i64 (j:Int) 1=((j+1:Nat):Int):=by rw[BU _ _ _ (by simp[UU,UV]),vM (by omega) (by omega)];omega
theorem aV{j n:Nat}(h:j<n):aQ (j:Int) (n:Int)=true:=by
 unfold aQ;cases e:cK (n:Int) (j:Int)with
 |true=>have:=(fM _ _).1 e;omega
 |false=>rfl
theorem aE{j n:Nat}(h:j<n):aA (j:Int) n=true:=by unfold aA;rw[aV h,(fM 0 (j:Int)).2 (by omega)];rfl
theorem aX(n:Nat):aQ (n:Int) (n:Int)=false:=by unfold aQ;rw[(fM (n:Int) (n:Int)).2 (Int.le_refl _)];rfl
noncomputable def Nj(C:Nat->LD->D)(t:Sh):D:=
 IX.rec (motive_1:=λ_=>D) (motive_2:=λ_=>Unit)
  (λx _=>x) (λ_=>.i 0) (λ_=>.i 0) (.i 0) (λb _ _ p q=>bif b then p else q) (λm xs _ _ k=>k (C m xs) []) (λ_ _ _ _=>.i 0) () (λ_ _ _ _=>()) t
noncomputable def okT(C:Nat->LD->D)(K:Nat->LD->Bool)(t:Sh):Bool:=
 IX.rec (motive_1:=λ_=>Bool) (motive_2:=λ_=>Unit)
  (λ_ bs=>match bs with|[]=>true |_::_=>false) (λ_=>false) (λ_=>false) false (λ_ _ _ p q=>p&&q) (λm xs nb _ k=>K m xs&&(Nat.beq nb 0&&k (C m xs) [])) (λ_ _ _ _=>false) () (λ_ _ _ _=>()) t
section
variable{E:fC}{B:jR}{Tb:BT jG}{d:FD}
theorem UH{C:Nat->LD->D}{K:Nat->LD->Bool}(c:∀m xs,K m xs=true->iQ E B Tb m xs (C m xs) []):∀(t:Sh),okT C K t=true->rO E B Tb d t (.ret (Nj C t) [])
 |.ret x bs,h=>by
  cases bs with
  |nil=>exact bI rfl rfl
  |cons _ _=>exact absurd h (by simp[okT])
 |.again s,h=>by exact absurd h (by simp[okT])
 |.out t,h=>by exact absurd h (by simp[okT])
 |.bad,h=>by exact absurd h (by simp[okT])
 |.ask b p q,h=>by
  have g:(okT C K p&&okT C K q)=true:=h;obtain⟨e,f⟩:=(Bool.and_eq_true_iff).mp g;cases b with
  |true=>exact aC rfl (UH c p e)
  |false=>exact aJ rfl (UH c q f)
 |.call m xs nb k,h=>by have g:(K m xs&&(Nat.beq nb 0&&okT C K (k (C m xs) [])))=true:=h;obtain⟨e,f⟩:=(Bool.and_eq_true_iff).mp g;obtain⟨j,l⟩:=(Bool.and_eq_true_iff).mp f;exact bK (c m xs e) (Nat.eq_of_beq_eq_true j).symm (UH c (k (C m xs) []) l)
 |.loop b s ks,h=>by exact absurd h (by simp[okT])
end
end Go.Eng

namespace Go.Eng
section
variable{E:fC}{B:jR}{Tb:BT jG}{d:FD}{b:Bool}{o:Nat×LD}{a:LD}{p q t:Sh}
def Qb(E:fC)(B:jR)(Tb:BT jG)(d:FD)(b:Bool)(t:Sh)(o:Nat×LD)(a:LD):Prop:=(b=true/\rO E B Tb d t (.out o))\/(b=false/\rO E B Tb d t (.again a))
theorem oT{c:Bool}(h:c=true)(f:Qb E B Tb d b p o a):Qb E B Tb d b (.ask c p q) o a:=
 f.elim (λe=>.inl ⟨e.1,aC h e.2⟩) (λe=>.inr ⟨e.1,aC h e.2⟩)
theorem oF{c:Bool}(h:c=false)(f:Qb E B Tb d b q o a):Qb E B Tb d b (.ask c p q) o a:=
 f.elim (λe=>.inl ⟨e.1,aJ h e.2⟩) (λe=>.inr ⟨e.1,aJ h e.2⟩)
theorem aGu{o':Nat×LD}(h:b=true)(c:o=o'):Qb E B Tb d b (.out o') o a:=.inl ⟨h,bH c⟩
theorem aGv{a':LD}(h:b=false)(c:a=a'):Qb E B Tb d b (.again a') o a:=.inr ⟨h,aO c⟩
theorem oE{c:Bool}{o':Nat×LD}{a':LD}(h:c=b)(f:o=o')(e:a=a'):Qb E B Tb d b (.ask c (.out o') (.again a')) o a:=by
 subst h;cases c with
 |true=>exact oT rfl (aGu rfl f)
 |false=>exact oF rfl (aGv rfl e)
theorem oO{c b2:Bool}{o':Nat×LD}(h:b=(c||b2))(f:o=o')(e:c=false->Qb E B Tb d b2 q o a):Qb E B Tb d b (.ask c (.out o') q) o a:=by
 subst h;cases c with
 |true=>exact oT rfl (aGu rfl f)
 |false=>exact oF rfl (e rfl)
theorem oC{m nb:Nat}{xs:LD}{k:D->LD->Sh}{x:D}{bs:LD}(e:iQ E B Tb m xs x bs)(f:bs.length=nb)(g:Qb E B Tb d b (k x bs) o a):Qb E B Tb d b (.call m xs nb k) o a:=
 g.elim (λc=>.inl ⟨c.1,bK e f c.2⟩) (λc=>.inr ⟨c.1,bK e f c.2⟩)
theorem oL{l:Nat}{s c e:LD}{f g:LD->Sh}{ks:Tg (LD) (Nat×LD)}(h:QS E B Tb d l s (bif b then(0,c)else(1,e)).1 (bif b then(0,c)else(1,e)).2)(j:f c=.out o)(m:g e=.again a):Qb E B Tb d b (.loop l s (.cons f (.cons g ks))) o a:=by
 cases b with
 |true=>exact .inl ⟨rfl,aP h (bG (show Ev _ _ (f c) _ from by rw[j];exact bH rfl))⟩
 |false=>exact .inr ⟨rfl,aP h (eO (bG (show Ev _ _ (g e) _ from by rw[m];exact aO rfl)))⟩
theorem oLO{l:Nat}{s c m:LD}{j r:LD->Sh}{ks:Tg (LD) (Nat×LD)}{b1 b2:Bool}(h:b=(b1||b2))(e:QS E B Tb d l s (bif b1 then(0,c)else(1,m)).1 (bif b1 then(0,c)else(1,m)).2)(t:j c=.out o)(u:b1=false->Qb E B Tb d b2 (r m) o a):Qb E B Tb d b (.loop l s (.cons j (.cons r ks))) o a:=by
 subst h;cases b1 with
 |true=>exact .inl ⟨rfl,aP e (bG (show Ev _ _ (j c) _ from by rw[t];exact bH rfl))⟩
 |false=>
  rcases u rfl with⟨f,g⟩ |⟨f,g⟩
  ·exact .inl ⟨f,aP e (eO (bG g))⟩
  ·exact .inr ⟨f,aP e (eO (bG g))⟩
theorem HT{m:Nat}(g:BY E B Tb m d){b:Nat}(f:Nat->LD)(l:LD)(c:D->Bool){t0 t1:Nat×LD}
  (h:∀j,j<l.length->Qb E B Tb d (c (gD l j)) (d.F.lp b (f j)) t0 (f (j+1)))
  (e:rO E B Tb d (d.F.lp b (f l.length)) (.out t1)):QS E B Tb d b (f 0) (bif l.any c then t0 else t1).1 (bif l.any c then t0 else t1).2 :=
 rW g f l c h e
theorem yC{m:Nat}(s:BY E B Tb m d){b:Nat}(f:Nat->LD)(n:Nat)(P:Nat->Bool){t0 t1:Nat×LD}
  (h:∀j,j<n->Qb E B Tb d (P j) (d.F.lp b (f j)) t0 (f (j+1)))
  (r:rO E B Tb d (d.F.lp b (f n)) (.out t1)):QS E B Tb d b (f 0) (bif eD n P then t0 else t1).1 (bif eD n P then t0 else t1).2 :=by
 have c:=aDV s f n P (i0:=t0.1) (d0:=t0.2) (i1:=t1.1) (d1:=t1.2) (λj l g=>by
  rcases h j l with⟨c,_⟩ |⟨_,c⟩
  ·rw[g]at c;cases c
  ·exact c) (λj l g=>by
  rcases h j l with⟨_,c⟩ |⟨c,_⟩
  ·exact c
  ·rw[g]at c;cases c) r
 cases e:eD n P with
 |true=>rw[e]at c;exact c
 |false=>rw[e]at c;exact c
theorem aEU{m:Nat}(r:BY E B Tb m d){b:Nat}(f:Nat->LD)(n:Nat)(P:Nat->Bool)(Q:Nat×LD->Prop){t1:Nat×LD}
  (h:∀j,j<n->(P j=true/\∃t,Q t/\rO E B Tb d (d.F.lp b (f j)) (.out t))\/(P j=false/\rO E B Tb d (d.F.lp b (f j)) (.again (f (j+1)))))
  (s:rO E B Tb d (d.F.lp b (f n)) (.out t1)):(eD n P=true/\∃t,Q t/\QS E B Tb d b (f 0) t.1 t.2)\/(eD n P=false/\QS E B Tb d b (f 0) t1.1 t1.2):=by
 cases e:eD n P with
 |true=>
  obtain⟨j,C,u,v⟩:=yR e;rcases h j C with⟨_,t,g,y⟩ |⟨g,_⟩
  ·refine .inl ⟨rfl,t,g,cI r f j (λi l=>?_) y⟩;rcases h i (by omega)with⟨c,_⟩ |⟨_,c⟩
   ·rw[v i l]at c;cases c
   ·exact c
  ·rw[u]at g;cases g
 |false=>
  refine .inr ⟨rfl,cI r f n (λi l=>?_) s⟩;rcases h i l with⟨c,_⟩ |⟨_,c⟩
  ·rw[bQ.1 e i l]at c;cases c
  ·exact c
theorem GC{m:Nat}(C:BY E B Tb m d){b:Nat}{c:Type}(f:Nat->c->LD)(l:LD)(step:c->D->c)(e:c->Nat×LD)(g:Nat->c->Prop)
  (u:∀j s,j<l.length->g j s->g (j+1) (step s (gD l j))/\rO E B Tb d (d.F.lp b (f j s)) (.again (f (j+1) (step s (gD l j)))))
  (v:∀s,g l.length s->rO E B Tb d (d.F.lp b (f l.length s)) (.out (e s))){s0:c}(F:g 0 s0):QS E B Tb d b (f 0 s0) (e (l.foldl step s0)).1 (e (l.foldl step s0)).2 :=by
 have h:=Kv C f l (λ_ x s=>.inr (step s x)) e g (λj s G H=>⟨λt ht=>by simp at ht,λK r=>by simp only[Sum.inr.injEq]at r;subst r;exact u j s G H⟩) v F;have y:∀(l:LD)(j:Nat)(s:c),d7 (λ_ x s=>.inr (step s x)) e j l s=e (l.foldl step s):=by
  intro l;induction l with
  |nil=>intro j s;rfl
  |cons x l J=>intro j s;exact J (j+1) (step s x)
 rw[y]at h;exact h
theorem EP{m:Nat}(r:BY E B Tb m d){b:Nat}{l:Type}(f:Nat->l->LD)(n:Nat)(h:l->Nat×LD)(e:Nat->l->Prop)
  (t:∀j s,j<n->e j s->∃c,e (j+1) c/\rO E B Tb d (d.F.lp b (f j s)) (.again (f (j+1) c)))
  (u:∀s,e n s->rO E B Tb d (d.F.lp b (f n s)) (.out (h s))){s0:l}(g:e 0 s0):∃s,e n s/\QS E B Tb d b (f 0 s0) (h s).1 (h s).2 :=by
 have key:∀(k j:Nat)(s:l),j+k=n->e j s->∃c,e n c/\QS E B Tb d b (f j s) (h c).1 (h c).2 :=by
  intro k;induction k with
  |zero=>
   intro j s G g;have:j=n:=by omega
   subst this;exact⟨s,g,yQ r (u s g)⟩
  |succ k H=>intro j s G g;obtain⟨c,v,y⟩:=t j s (by omega) g;obtain⟨J,C,F⟩:=H (j+1) c (by omega) v;exact⟨J,C,sR r y F⟩
 exact key n 0 s0 (by omega) g
theorem HU{m:Nat}(u:BY E B Tb m d){b:Nat}{l:Type}(f:l->LD)(r:l->Prop)(mu:l->Nat)(Q:Nat×LD->Prop)
  (h:∀s,r s->(∃t,Q t/\rO E B Tb d (d.F.lp b (f s)) (.out t))\/(∃e,r e/\mu e<mu s/\rO E B Tb d (d.F.lp b (f s)) (.again (f e)))){s0:l}(j:r s0):∃t,Q t/\QS E B Tb d b (f s0) t.1 t.2:=by
 have key:∀(k:Nat)(s:l),mu s<=k->r s->∃t,Q t/\QS E B Tb d b (f s) t.1 t.2:=by
  intro k;induction k with
  |zero=>
   intro s F j;rcases h s j with⟨t,c,g⟩ |⟨e,c,g,v⟩
   ·exact⟨t,c,yQ u g⟩
   ·omega
  |succ k G=>
   intro s F j;rcases h s j with⟨t,c,g⟩ |⟨e,c,g,v⟩
   ·exact⟨t,c,yQ u g⟩
   ·obtain⟨t,y,C⟩:=G e (by omega) c;exact⟨t,y,sR u v C⟩
 exact key _ s0 (Nat.le_refl _) j
theorem aG4{m:Nat}(g:BY E B Tb m d){b:Nat}(f:Nat->LD)(n:Nat){i:Nat}{ds:LD}(c:∀j,j<n->rO E B Tb d (d.F.lp b (f j)) (.again (f (j+1))))(e:rO E B Tb d (d.F.lp b (f n)) (.out (i,ds))):QS E B Tb d b (f 0) i ds:=cI g f n c e
theorem oX{c:Bool}(e:c=true->Qb E B Tb d b p o a)(f:c=false->Qb E B Tb d b q o a):Qb E B Tb d b (.ask c p q) o a:=by
 cases c with
 |true=>exact oT rfl (e rfl)
 |false=>exact oF rfl (f rfl)
end
theorem nx{j n:Nat}(c:j<n)(d:(n:Int)<=9223372036854775807)(p q:LD):p++D.i ((j+1:Nat):Int)::q=p++D.i (bJ .i64 (j:Int) 1)::q:=by rw[fQ c d]
theorem aH{a b:Bool}(h:b=true):(a||b)=true:=by rw[h,Bool.or_true]
end Go.Eng

namespace Go.Eng.Q
open Go.Eng
def uG(bs:LD):Int:=bs.foldl (λa x=>bJ .i64 a (iE x)) 0
theorem UI(nm:List UInt8)(o:Bool)(ps:LD)(r:Int)(bs:LD)(d:(bs.length:Int)<=9223372036854775807):iQ E aW sites Gb [.l [.s nm,.b o,.l ps,.i r,.l bs]] (.i (uG bs)) []:=by
 refine bA Az (by rfl) rfl ?_;refine aP (Kv Az (λj(a:Int)=>[.i a,.i (j:Int),.s nm,.b o,.l ps,.i r,.l bs]) bs (λ_ x a=>.inr (bJ .i64 a (iE x))) (λa=>(0,[.i a])) (λ_ _=>True) (λj a e _=>⟨λt ht=>by simp at ht,λf c=>⟨trivial,?_⟩⟩) (λa _=>?_) trivial) ?_
 ·refine aC (by simp;omega) (aC (by simp;omega) (aO ?_));simp only[Sum.inr.injEq]at c;subst c;simp[tI,fQ e d]
 ·exact aJ (by simp) (bH rfl)
 ·rw[Ur];exact bG (bI rfl rfl)
theorem Kw(nm:List UInt8)(o:Bool)(ps:LD)(r:Int)(bs:LD)(d:(bs.length:Int)<=9223372036854775807):iQ E aW sites Uh [.l [.s nm,.b o,.l ps,.i r,.l bs]] (.i (uG bs)) []:=by
 refine bA Bl (by rfl) rfl ?_;refine aP (Kv Bl (λj(a:Int)=>[.i a,.l bs,.i (j:Int),.i (bs.length:Int)]) bs (λ_ x a=>.inr (bJ .i64 a (iE x))) (λa=>(0,[.i a])) (λ_ _=>True) (λj a e _=>⟨λt ht=>by simp at ht,λf c=>⟨trivial,?_⟩⟩) (λa _=>?_) trivial) ?_
 ·refine aC (by simp;omega) (aC (by simp;omega) (aO ?_));simp only[Sum.inr.injEq]at c;subst c;simp[tI,fQ e d]
 ·exact aJ (by simp) (bH rfl)
 ·rw[Ur];exact bG (bI rfl rfl)
def UJ(x:D):Bool:=aQ 5 (iX x 1)
def KQ(x:D):Bool:=aQ (iX x 1) 1||aQ 16 (iX x 1)
def UK(x:D):Bool:=aQ (iX x 1) 1||aQ 12 (iX x 1)
def EQ(x:D):Bool:=((aQ 5 (iX x 2)||aQ (iX x 4) 1)||aQ 40 (iX x 4))||aQ 300 (uG (eX x 4))
def jD(xs gs ts fs:LD):Bool:=!(((aQ 24 (iL fs)||aQ 12 (iL xs))||aQ 12 (iL gs))||aQ 6 (iL ts))&&(!xs.any UJ&&(!gs.any KQ&&(!ts.any UK&&!fs.any EQ)))
theorem kF{a b:Int}(h:aQ b a=false):a<=b:=by
 have:cK a b=true:=by unfold aQ at h;simpa using h
 exact(fM _ _).1 this
theorem Kx{xs gs ts fs:LD}(h:(((aQ 24 (iL fs)||aQ 12 (iL xs))||aQ 12 (iL gs))||aQ 6 (iL ts))=false):(fs.length:Int)<=24/\(xs.length:Int)<=12/\(gs.length:Int)<=12/\(ts.length:Int)<=6:=by simp only[Bool.or_eq_false_iff]at h;exact⟨kF h.1.1.1,kF h.1.1.2,kF h.1.2,kF h.2⟩
theorem CF(x:D):(((aQ 5 (iX x 2)||aQ (iX x 4) 1)||aQ 40 (iX x 4))=true/\EQ x=true)\/(((aQ 5 (iX x 2)||aQ (iX x 4) 1)||aQ 40 (iX x 4))=false/\EQ x=aQ 300 (uG (eX x 4))/\((eX x 4).length:Int)<=40):=by
 cases h:((aQ 5 (iX x 2)||aQ (iX x 4) 1)||aQ 40 (iX x 4))with
 |true=>exact .inl ⟨rfl,by simp only[EQ,h,Bool.true_or]⟩
 |false=>refine .inr ⟨rfl,by simp only[EQ,h,Bool.false_or],?_⟩;simp only[Bool.or_eq_false_iff]at h;exact kF h.2
theorem Us(xs gs ts fs:LD):iQ E aW sites Ad [.l [.l xs,.l gs,.l ts,.l fs]] (.b (jD xs gs ts fs)) []:=by
 refine bA uT (by rfl) rfl ?_;refine aDU (λh=>?_) (λh=>?_)
 ·have f:(((aQ 24 (iL fs)||aQ 12 (iL xs))||aQ 12 (iL gs))||aQ 6 (iL ts))=true:=h;exact bI (by simp only[jD,f,Bool.not_true,Bool.false_and]) rfl
 ·have f:(((aQ 24 (iL fs)||aQ 12 (iL xs))||aQ 12 (iL gs))||aQ 6 (iL ts))=false:=h;obtain⟨y,t,u,v⟩:=Kx f;refine aP (KP uT (λj=>[.i (j:Int),.l xs,.l gs,.l ts,.l fs]) xs UJ (t0:=(0,[.b false,.l xs,.l gs,.l ts,.l fs])) (t1:=(1,[.l xs,.l gs,.l ts,.l fs])) (λj d c=>?_) (λj d c=>?_) ?_) ?_
  ·exact aC (by simp;omega) (aC (by simp;omega) (aC (by simpa[UJ,tI]using c) (bH rfl)))
  ·exact aC (by simp;omega) (aC (by simp;omega) (aJ (by simpa[UJ,tI]using c) (aO (by simp[fQ d (by omega)]))))
  ·exact aJ (by simp) (bH rfl)
  cases e1:xs.any UJ with
  |true=>exact bG (bI (by simp[jD,f,e1]) rfl)
  |false=>
  refine eO (bG (aP (KP uT (λj=>[.i (j:Int),.l xs,.l gs,.l ts,.l fs]) gs KQ (t0:=(0,[.b false,.l xs,.l gs,.l ts,.l fs])) (t1:=(1,[.l xs,.l gs,.l ts,.l fs])) (λj d c=>?_) (λj d c=>?_) ?_) ?_))
  ·exact aC (by simp;omega) (aC (by simp;omega) (aC (by simpa[KQ,tI]using c) (bH rfl)))
  ·exact aC (by simp;omega) (aC (by simp;omega) (aJ (by simpa[KQ,tI]using c) (aO (by simp[fQ d (by omega)]))))
  ·exact aJ (by simp) (bH rfl)
  cases l:gs.any KQ with
  |true=>exact bG (bI (by simp[jD,f,e1,l]) rfl)
  |false=>
  refine eO (bG (aP (KP uT (λj=>[.i (j:Int),.l xs,.l gs,.l ts,.l fs]) ts UK (t0:=(0,[.b false,.l xs,.l gs,.l ts,.l fs])) (t1:=(1,[.l xs,.l gs,.l ts,.l fs])) (λj d c=>?_) (λj d c=>?_) ?_) ?_))
  ·exact aC (by simp;omega) (aC (by simp;omega) (aC (by simpa[UK,tI]using c) (bH rfl)))
  ·exact aC (by simp;omega) (aC (by simp;omega) (aJ (by simpa[UK,tI]using c) (aO (by simp[fQ d (by omega)]))))
  ·exact aJ (by simp) (bH rfl)
  cases m:ts.any UK with
  |true=>exact bG (bI (by simp[jD,f,e1,l,m]) rfl)
  |false=>
  refine eO (bG (aP (KP uT (λj=>[.i (j:Int),.l xs,.l gs,.l ts,.l fs]) fs EQ (t0:=(0,[.b false])) (t1:=(1,[])) (λj d c=>?_) (λj d c=>?_) ?_) ?_))
  ·refine aC (by simp;omega) (aC (by simp;omega) ?_);rcases CF (gD fs j)with⟨e,g⟩ |⟨e,g,s⟩
   ·exact aJ (congrArg Bool.not e) (aC (congrArg (λb=>b||aQ 300 0) e) (bH rfl))
   ·refine aC (congrArg Bool.not e) (bK (x:=.i (uG (eX (gD fs j) 4))) (bs:=[]) ?_ rfl (aC ?_ (bH rfl)))
    ·have:=UI (D.toS (D.fld (gD fs j) 0)) (vB (gD fs j) 1) (eX (gD fs j) 2) (vI (gD fs j) 3) (eX (gD fs j) 4) (by omega);simpa[tI]using this
    ·rw[g]at c;exact(congrArg (λb=>b||aQ 300 (uG (eX (gD fs j) 4))) e).trans c
  ·refine aC (by simp;omega) (aC (by simp;omega) ?_);rcases CF (gD fs j)with⟨e,g⟩ |⟨e,g,s⟩
   ·rw[g]at c;cases c
   ·refine aC (congrArg Bool.not e) (bK (x:=.i (uG (eX (gD fs j) 4))) (bs:=[]) ?_ rfl (aJ ?_ (aO (by simp[fQ d (by omega)]))))
    ·have:=UI (D.toS (D.fld (gD fs j) 0)) (vB (gD fs j) 1) (eX (gD fs j) 2) (vI (gD fs j) 3) (eX (gD fs j) 4) (by omega);simpa[tI]using this
    ·rw[g]at c;exact(congrArg (λb=>b||aQ 300 (uG (eX (gD fs j) 4))) e).trans c
  ·exact aJ (by simp) (bH rfl)
  cases r:fs.any EQ with
  |true=>exact bG (bI (congrArg D.b (show jD xs gs ts fs=false by simp only[jD,f,e1,l,m,r,Bool.not_true,Bool.not_false,Bool.and_self,Bool.and_false])) rfl)
  |false=>exact eO (bG (bI (congrArg D.b (show jD xs gs ts fs=true by simp only[jD,f,e1,l,m,r,Bool.not_true,Bool.not_false,Bool.and_self])) rfl))
theorem Zh(xs gs ts fs:LD):iQ E aW sites Jz [.l [.l xs,.l gs,.l ts,.l fs]] (.b (jD xs gs ts fs)) []:=by
 refine bA zA (by rfl) rfl ?_;refine aDU (λh=>?_) (λh=>?_)
 ·have f:(((aQ 24 (iL fs)||aQ 12 (iL xs))||aQ 12 (iL gs))||aQ 6 (iL ts))=true:=h;exact bI (by simp only[jD,f,Bool.not_true,Bool.false_and]) rfl
 ·have f:(((aQ 24 (iL fs)||aQ 12 (iL xs))||aQ 12 (iL gs))||aQ 6 (iL ts))=false:=h;obtain⟨y,t,u,v⟩:=Kx f;refine aP (KP zA (λj=>[.i (xs.length:Int),.i (j:Int),.l xs,.l xs,.l gs,.l ts,.l fs]) xs UJ (t0:=(0,[.b false,.l xs,.l gs,.l ts,.l fs])) (t1:=(1,[.l xs,.l gs,.l ts,.l fs])) (λj c d=>?_) (λj c d=>?_) ?_) ?_
  ·exact aC (aV c) (aC (aE c) (aC d (bH rfl)))
  ·exact aC (aV c) (aC (aE c) (aJ d (aO (by simp[fQ c (by omega)]))))
  ·exact aJ (aX _) (bH rfl)
  cases e1:xs.any UJ with
  |true=>exact bG (bI (congrArg D.b (show jD xs gs ts fs=false by simp only[jD,f,e1,Bool.not_true,Bool.not_false,Bool.and_self,Bool.and_false,Bool.false_and,Bool.true_and])) rfl)
  |false=>
  refine eO (bG (aP (KP zA (λj=>[.i (gs.length:Int),.i (j:Int),.l gs,.l xs,.l gs,.l ts,.l fs]) gs KQ (t0:=(0,[.b false,.l xs,.l gs,.l ts,.l fs])) (t1:=(1,[.l xs,.l gs,.l ts,.l fs])) (λj c d=>?_) (λj c d=>?_) ?_) ?_))
  ·exact aC (aV c) (aC (aE c) (aC d (bH rfl)))
  ·exact aC (aV c) (aC (aE c) (aJ d (aO (by simp[fQ c (by omega)]))))
  ·exact aJ (aX _) (bH rfl)
  cases l:gs.any KQ with
  |true=>exact bG (bI (congrArg D.b (show jD xs gs ts fs=false by simp only[jD,f,e1,l,Bool.not_true,Bool.not_false,Bool.and_self,Bool.and_false,Bool.false_and,Bool.true_and])) rfl)
  |false=>
  refine eO (bG (aP (KP zA (λj=>[.i (ts.length:Int),.l ts,.i (j:Int),.l xs,.l gs,.l ts,.l fs]) ts UK (t0:=(0,[.b false,.l xs,.l gs,.l ts,.l fs])) (t1:=(1,[.l xs,.l gs,.l ts,.l fs])) (λj c d=>?_) (λj c d=>?_) ?_) ?_))
  ·exact aC (aV c) (aC (aE c) (aC d (bH rfl)))
  ·exact aC (aV c) (aC (aE c) (aJ d (aO (by simp[fQ c (by omega)]))))
  ·exact aJ (aX _) (bH rfl)
  cases m:ts.any UK with
  |true=>exact bG (bI (congrArg D.b (show jD xs gs ts fs=false by simp only[jD,f,e1,l,m,Bool.not_true,Bool.not_false,Bool.and_self,Bool.and_false,Bool.false_and,Bool.true_and])) rfl)
  |false=>
  refine eO (bG (aP (KP zA (λj=>[.i (fs.length:Int),.i (j:Int),.l fs]) fs EQ (t0:=(0,[.b false])) (t1:=(1,[])) (λj c d=>?_) (λj c d=>?_) ?_) ?_))
  ·refine aC (aV c) (aC (aE c) ?_);rcases CF (gD fs j)with⟨e,g⟩ |⟨e,g,s⟩
   ·exact aJ (congrArg Bool.not e) (aC (congrArg (λb=>b||aQ 300 0) e) (bH rfl))
   ·rw[g]at d;exact aC (congrArg Bool.not e) (bK (x:=.i (uG (eX (gD fs j) 4))) (bs:=[]) (Kw (D.toS (D.fld (gD fs j) 0)) (vB (gD fs j) 1) (eX (gD fs j) 2) (vI (gD fs j) 3) (eX (gD fs j) 4) (by omega)) rfl (aC ((congrArg (λb=>b||aQ 300 (uG (eX (gD fs j) 4))) e).trans d) (bH rfl)))
  ·refine aC (aV c) (aC (aE c) ?_);rcases CF (gD fs j)with⟨e,g⟩ |⟨e,g,s⟩
   ·rw[g]at d;cases d
   ·rw[g]at d;exact aC (congrArg Bool.not e) (bK (x:=.i (uG (eX (gD fs j) 4))) (bs:=[]) (Kw (D.toS (D.fld (gD fs j) 0)) (vB (gD fs j) 1) (eX (gD fs j) 2) (vI (gD fs j) 3) (eX (gD fs j) 4) (by omega)) rfl (aJ ((congrArg (λb=>b||aQ 300 (uG (eX (gD fs j) 4))) e).trans d) (aO (by simp[fQ c (by omega)]))))
  ·exact aJ (aX _) (bH rfl)
  cases r:fs.any EQ with
  |true=>exact bG (bI (congrArg D.b (show jD xs gs ts fs=false by simp only[jD,f,e1,l,m,r,Bool.not_true,Bool.not_false,Bool.and_self,Bool.and_false])) rfl)
  |false=>exact eO (bG (bI (congrArg D.b (show jD xs gs ts fs=true by simp only[jD,f,e1,l,m,r,Bool.not_true,Bool.not_false,Bool.and_self])) rfl))
end Go.Eng.Q

namespace Go.Eng.Q
open Go.Eng
def aGw:Nat->LD->D:=λ_ _=>.i 0
def aGx:Nat->LD->Bool:=λ_ _=>false
noncomputable def jU(op:Int):D:=Nj aGw (QA [.i op])
theorem N4(op:Int):iQ E aW sites PY [.i op] (jU op) []:=bA Pt (by rfl) rfl (UH (K:=aGx) (λm xs h=>by cases h) (QA [.i op]) (by kernel_rfl))
theorem N5(op:Int):iQ E aW sites PX [.i op] (jU op) []:=bA Pr (by rfl) rfl (UH (C:=aGw) (K:=aGx) (λm xs h=>by cases h) (Pl [.i op]) (by kernel_rfl))
def gQ(op:Int):Bool:=(((aD op 27||aD op 28)||aD op 29)||aD op 30)
theorem Ky(op:Int):iQ E aW sites FX [.i op] (.b (gQ op)) []:=bA Qa (by rfl) rfl (bI rfl rfl)
theorem Kz(op:Int):(cK 27 op&&cK op 30)=gQ op:=by rw[Bool.eq_iff_iff];simp only[gQ,Bool.and_eq_true,Bool.or_eq_true,fM,bT];omega
theorem La(op:Int):iQ E aW sites BZ [.i op] (.b (gQ op)) []:=bA Pp (by rfl) rfl (bI (congrArg D.b (Kz op).symm) rfl)
theorem jX(t:Int):iQ E aW sites CQ [.i t] (.b (aD t 1||aD t 2)) []:=bA Ee (by rfl) rfl (bI rfl rfl)
noncomputable def C2:Nat->LD->D:=λm xs=>bif Nat.beq m PY||Nat.beq m PX then jU (gI xs 0)else .b (gQ (gI xs 0))
def aFx:LD->Bool
 |[.i _]=>true
 |_=>false
def K2:Nat->LD->Bool:=λm xs=>(Nat.beq m PY||(Nat.beq m PX||(Nat.beq m FX||Nat.beq m BZ)))&&aFx xs
theorem aD5{xs:LD}(h:aFx xs=true):∃n,xs=[.i n]:=by
 unfold aFx at h;split at h
 ·exact⟨_,rfl⟩
 ·cases h
theorem aEV(m:Nat)(xs:LD)(h:K2 m xs=true):iQ E aW sites m xs (C2 m xs) []:=by
 simp only[K2,Bool.and_eq_true,Bool.or_eq_true]at h;obtain⟨c,d⟩:=h;obtain⟨n,rfl⟩:=aD5 d;rcases c with h |h |h |h<;>rw[Nat.eq_of_beq_eq_true h]
 ·exact N4 n
 ·exact N5 n
 ·exact Ky n
 ·exact La n
def dZ(op ty to sym num:Int)(as1 is1:LD):D:=.l [.i op,.i ty,.i to,.i sym,.i num,.l as1,.l is1]
noncomputable def bS(x:D):D:=Nj C2 (bU [x])
noncomputable def dQ(x:D):D:=Nj C2 (cQ [x])
theorem XR(x:D):iQ E aW sites Af [x] (bS x) []:=bA Ej (by rfl) rfl (UH aEV (bU [x]) (by kernel_rfl))
theorem Lb(x:D):iQ E aW sites Ue [x] (dQ x) []:=bA Px (by rfl) rfl (UH aEV (cQ [x]) (by kernel_rfl))
end Go.Eng.Q

namespace Go.Eng.Q
open Go.Eng
def cE(l:LD):Prop:=(l.length:Int)<=9223372036854775807
structure d8(b:D):Prop where
 ins:cE b.els
structure Lc(f:D):Prop where
 ps:cE (eX f 2)
 bs:cE (eX f 4)
 b:∀j,j<(eX f 4).length->d8 (gD (eX f 4) j)
structure Zi(xs gs ts fs:LD):Prop where
 hx:cE xs
 hg:cE gs
 ht:cE ts
 hf:cE fs
 x:∀j,j<xs.length->cE (eX (gD xs j) 1)
 t:∀j,j<ts.length->cE (eX (gD ts j) 1)
 f:∀j,j<fs.length->Lc (gD fs j)
abbrev fV(d:FD)(b:Nat)(ps:LD)(t:Nat×LD):Prop:=QS E aW sites d b ps t.1 t.2
def Fk(t:Int):Bool:=aD t 1||aD t 2
def GY(x:D):Bool:=!Fk x.toI
def Ut(r:Int):Bool:=aQ r 0||aQ 2 r
theorem aAl(r:Int):(!(aD r 0)&&!Fk r)=Ut r:=by rw[Bool.eq_iff_iff];simp only[Fk,Ut,Bool.and_eq_true,Bool.or_eq_true,Bool.not_eq_true',Bool.or_eq_false_iff,<-Bool.not_eq_true,bT,aQ,fM];omega
def GD(x:D):Bool:=Ut (vI x 2)||(eX x 1).any GY
def En(x:D):D:=.l [.i (vI x 0),.i (vI x 1),.i (vI x 2),.i (vI x 3),.i (vI x 4),.l (eX x 5),.l (eX x 6)]
theorem aCC(t:Int):(!(aD t 1)&&!(aD t 2))=!Fk t:=by simp only[Fk,Bool.not_or]
theorem Nk(d:Int)(xs gs ts fs:LD)(nm:List UInt8)(l:LD)(r:Int)(f:cE l):
  fV rC 2 [.i d,.i 0,.l xs,.l gs,.l ts,.l fs,.s nm,.l l,.i r] (bif l.any GY then(0,[.i d,.b false,.l xs,.l gs,.l ts,.l fs])else(1,[.i d,.l xs,.l gs,.l ts,.l fs])):=by
 refine rW rD (λj=>[.i d,.i (j:Int),.l xs,.l gs,.l ts,.l fs,.s nm,.l l,.i r]) l GY (λj c=>?_) ?_
 ·cases e:GY (gD l j)with
  |true=>refine .inl ⟨rfl,?_⟩;exact aC (aV c) (aC (aE c) (aC (by rw[Bool.or_eq_true];right;exact aE c) (aC ((aCC _).trans e) (bH rfl))))
  |false=>refine .inr ⟨rfl,?_⟩;exact aC (aV c) (aC (aE c) (aC (by rw[Bool.or_eq_true];right;exact aE c) (aJ ((aCC _).trans e) (aO (by simp[fQ c f])))))
 ·exact aJ (aX _) (bH rfl)
theorem Nl(xs gs ts fs:LD)(g:cE xs)(h:∀j,j<xs.length->cE (eX (gD xs j) 1)):
  fV rC 0 [.i 0,.l xs,.l gs,.l ts,.l fs] (bif xs.any GD then(0,[.b false,.l xs,.l gs,.l ts,.l fs])else(1,[.l xs,.l gs,.l ts,.l fs])):=by
 refine rW rD (λj=>[.i (j:Int),.l xs,.l gs,.l ts,.l fs]) xs GD (λj c=>?_) ?_
 ·cases d:Ut (vI (gD xs j) 2)with
  |true=>refine .inl ⟨by simp only[GD,d,Bool.true_or],?_⟩;exact aC (aV c) (aC (aE c) (aC d (bH rfl)))
  |false=>
   have e:=Nk (j:Int) xs gs ts fs (D.toS (D.fld (gD xs j) 0)) (eX (gD xs j) 1) (vI (gD xs j) 2) (h j c);cases f:(eX (gD xs j) 1).any GY with
   |true=>rw[f]at e;refine .inl ⟨by simp only[GD,d,f,Bool.or_true],?_⟩;exact aC (aV c) (aC (aE c) (aJ d (aP e (bG (bH rfl)))))
   |false=>rw[f]at e;refine .inr ⟨by simp only[GD,d,f,Bool.or_false],?_⟩;exact aC (aV c) (aC (aE c) (aJ d (aP e (eO (bG (aO (by simp[fQ c g])))))))
 ·exact aJ (aX _) (bH rfl)
def rX(o:Bool)(x:D):Bool:=(aQ x.toI 1||aQ 4 x.toI)||(o&&aQ 2 x.toI)
def QF(o:Bool)(r:Int):Bool:=((aQ r 0||aQ 4 r)||aD r 3)||(o&&aQ 2 r)
noncomputable def rG(x:D):Bool:=!(D.toB (dQ (En x)))
noncomputable def GZ(b:D):Bool:=b.els.any rG
noncomputable def qI(x:D):Bool:=QF (vB x 1) (vI x 3)||((eX x 2).any (rX (vB x 1))||(eX x 4).any GZ)
noncomputable def mC(xs fs:LD):Bool:=!xs.any GD&&!fs.any qI
section
variable(xs gs ts fs ps bs:LD)(nm:List UInt8)(o:Bool)(r jf:Int)
theorem Ld(c:Nat)(e:c<bs.length)(g:cE (gD bs c).els):
  fV rC 10 [.i (c:Int),.i jf,.i 0,.l xs,.l gs,.l ts,.l fs,.s nm,.b o,.l ps,.i r,.l bs] (bif (gD bs c).els.any rG then(0,[.i (c:Int),.b false,.i jf,.l xs,.l gs,.l ts,.l fs,.s nm,.b o,.l ps,.i r,.l bs])else(1,[.i (c:Int),.i jf,.l xs,.l gs,.l ts,.l fs,.s nm,.b o,.l ps,.i r,.l bs])):=by
 refine rW rD (λj=>[.i (c:Int),.i jf,.i (j:Int),.l xs,.l gs,.l ts,.l fs,.s nm,.b o,.l ps,.i r,.l bs]) (gD bs c).els rG (λj d=>?_) ?_
 ·cases f:rG (gD (gD bs c).els j)with
  |true=>refine .inl ⟨rfl,?_⟩;exact aC (aE e) (aC (aV d) (aC (aE e) (aC (aE d) (bK (Lb (En (gD (gD bs c).els j))) rfl (aC f (bH rfl))))))
  |false=>refine .inr ⟨rfl,?_⟩;exact aC (aE e) (aC (aV d) (aC (aE e) (aC (aE d) (bK (Lb (En (gD (gD bs c).els j))) rfl (aJ f (aO (by simp[fQ d g])))))))
 ·exact aC (aE e) (aJ (aX _) (bH rfl))
theorem Nm(g:cE bs)(f:∀j,j<bs.length->d8 (gD bs j)):
  fV rC 8 [.i 0,.i jf,.l xs,.l gs,.l ts,.l fs,.s nm,.b o,.l ps,.i r,.l bs] (bif bs.any GZ then(0,[.b false,.i jf,.l xs,.l gs,.l ts,.l fs])else(1,[.i jf,.l xs,.l gs,.l ts,.l fs])):=by
 refine rW rD (λj=>[.i (j:Int),.i jf,.l xs,.l gs,.l ts,.l fs,.s nm,.b o,.l ps,.i r,.l bs]) bs GZ (λj c=>?_) ?_
 ·have d:=Ld xs gs ts fs ps bs nm o r jf j c (f j c).ins;cases e:GZ (gD bs j)with
  |true=>rw[show(gD bs j).els.any rG=true from e]at d;refine .inl ⟨rfl,?_⟩;exact aC (aV c) (aP d (bG (bH rfl)))
  |false=>rw[show(gD bs j).els.any rG=false from e]at d;refine .inr ⟨rfl,?_⟩;exact aC (aV c) (aP d (eO (bG (aO (by simp[fQ c g])))))
 ·exact aJ (aX _) (bH rfl)
theorem Nn(e:cE ps):
  fV rC 6 [.i 0,.i jf,.l xs,.l gs,.l ts,.l fs,.s nm,.b o,.l ps,.i r,.l bs] (bif ps.any (rX o)then(0,[.b false,.i jf,.l xs,.l gs,.l ts,.l fs,.s nm,.b o,.l ps,.i r,.l bs])else(1,[.i jf,.l xs,.l gs,.l ts,.l fs,.s nm,.b o,.l ps,.i r,.l bs])):=by
 refine rW rD (λj=>[.i (j:Int),.i jf,.l xs,.l gs,.l ts,.l fs,.s nm,.b o,.l ps,.i r,.l bs]) ps (rX o) (λj c=>?_) ?_
 ·cases d:rX o (gD ps j)with
  |true=>refine .inl ⟨rfl,?_⟩;exact aC (aV c) (aC (aE c) (aC (by rw[Bool.or_eq_true];right;exact aE c) (aC (by rw[Bool.or_eq_true];right;exact aE c) (aC d (bH rfl)))))
  |false=>refine .inr ⟨rfl,?_⟩;exact aC (aV c) (aC (aE c) (aC (by rw[Bool.or_eq_true];right;exact aE c) (aC (by rw[Bool.or_eq_true];right;exact aE c) (aJ d (aO (by simp[fQ c e]))))))
 ·exact aJ (aX _) (bH rfl)
end
theorem No(xs gs ts fs:LD)(l:cE fs)(hf:∀j,j<fs.length->Lc (gD fs j)):
  fV rC 4 [.i 0,.l xs,.l gs,.l ts,.l fs] (bif fs.any qI then(0,[.b false])else(1,[])):=by
 refine rW rD (λj=>[.i (j:Int),.l xs,.l gs,.l ts,.l fs]) fs qI (λj c=>?_) ?_
 ·have e:=Nn xs gs ts fs (eX (gD fs j) 2) (eX (gD fs j) 4) (D.toS (D.fld (gD fs j) 0)) (vB (gD fs j) 1) (vI (gD fs j) 3) (j:Int) (hf j c).ps;have g:=Nm xs gs ts fs (eX (gD fs j) 2) (eX (gD fs j) 4) (D.toS (D.fld (gD fs j) 0)) (vB (gD fs j) 1) (vI (gD fs j) 3) (j:Int) (hf j c).bs (hf j c).b;cases d:QF (vB (gD fs j) 1) (vI (gD fs j) 3)with
  |true=>refine .inl ⟨by simp only[qI,d,Bool.true_or],?_⟩;exact aC (aV c) (aC (aE c) (aC d (bH rfl)))
  |false=>
  cases f:(eX (gD fs j) 2).any (rX (vB (gD fs j) 1))with
  |true=>rw[f]at e;refine .inl ⟨by simp only[qI,d,f,Bool.true_or,Bool.or_true],?_⟩;exact aC (aV c) (aC (aE c) (aJ d (aP e (bG (bH rfl)))))
  |false=>
  rw[f]at e;cases h:(eX (gD fs j) 4).any GZ with
  |true=>rw[h]at g;refine .inl ⟨by simp only[qI,d,f,h,Bool.false_or],?_⟩;exact aC (aV c) (aC (aE c) (aJ d (aP e (eO (bG (aP g (bG (bH rfl))))))))
  |false=>rw[h]at g;refine .inr ⟨by simp only[qI,d,f,h,Bool.false_or],?_⟩;exact aC (aV c) (aC (aE c) (aJ d (aP e (eO (bG (aP g (eO (bG (aO (by simp[fQ c l]))))))))))
 ·exact aJ (aX _) (bH rfl)
theorem Zj(xs gs ts fs:LD)(h:Zi xs gs ts fs):iQ E aW sites Jv [.l [.l xs,.l gs,.l ts,.l fs]] (.b (mC xs fs)) []:=by
 refine bA rD (by rfl) rfl ?_;show Ev _ _ (TW _) _;unfold TW;have c:=Nl xs gs ts fs h.hx h.x;have e:=No xs gs ts fs h.hf h.f;cases e1:xs.any GD with
 |true=>rw[e1]at c;exact aP c (bG (bI (congrArg D.b (show mC xs fs=false by simp only[mC,e1,Bool.not_true,Bool.false_and])) rfl))
 |false=>
 rw[e1]at c;cases d:fs.any qI with
 |true=>rw[d]at e;exact aP c (eO (bG (aP e (bG (bI (congrArg D.b (show mC xs fs=false by simp only[mC,d,Bool.not_true,Bool.and_false])) rfl)))))
 |false=>rw[d]at e;exact aP c (eO (bG (aP e (eO (bG (bI (congrArg D.b (show mC xs fs=true by simp only[mC,e1,d,Bool.not_false,Bool.and_self])) rfl))))))
end Go.Eng.Q

namespace Go.Eng.Q
open Go.Eng
theorem dT(C:Nat->LD->D)(x:D)(bs:LD):Nj C (.ret x bs)=x:=rfl
theorem dU(C:Nat->LD->D)(b:Bool)(p q:Sh):Nj C (.ask b p q)=bif b then Nj C p else Nj C q:=rfl
theorem dF(C:Nat->LD->D)(m:Nat)(xs:LD)(nb:Nat)(k:D->LD->Sh):Nj C (.call m xs nb k)=Nj C (k (C m xs) []):=rfl
theorem eG(a b:Int):aD a b=decide (a=b):=ZC a b
theorem eR(a b:Int):cK a b=decide (a<=b):=Ru a b
theorem eN(a b:Int):aQ a b=decide (a<b):=ZB a b
theorem uH(n:Int):C2 PY [.i n]=jU n:=rfl
theorem uI(n:Int):C2 PX [.i n]=jU n:=rfl
theorem uJ(n:Int):C2 FX [.i n]=.b (gQ n):=rfl
theorem uK(n:Int):C2 BZ [.i n]=.b (gQ n):=rfl
theorem aH3(l:LD)(n:Nat):(D.l l).fld n=gD l n:=rfl
theorem aH4(x:D)(l:LD):gD (x::l) 0=x:=rfl
theorem aH5(x:D)(l:LD)(n:Nat):gD (x::l) (n+1)=gD l n:=rfl
theorem aG5(b c d:Bool):D.toB (bif b then D.b c else D.b d)=bif b then c else d:=by cases b<;>rfl
theorem eC(b:Bool)(x c:D):D.toB (bif b then x else c)=bif b then D.toB x else D.toB c:=by cases b<;>rfl
theorem sf1(ty to sym num:Int)(a i:LD):D.toB (bS (dZ 1 ty to sym num a i))=D.toB (dQ (dZ 1 ty to sym num a i)):=by
 have d:jU 1=.l [.i 0,.i 0,.b false,.b true]:=by kernel_rfl
 simp only[bS,dQ,bU,cQ,bN,bM,bO,bL,bY,bW,bZ,cA,dU,dF,dT,dZ,vI,vB,iX,rP,kK,sS,kX,lJ,lS,uH,uI,uJ,uK,d,eC,gQ];simp only[eG,eR,eN];rw[Bool.eq_iff_iff];generalize a.length=x;generalize i.length=y;simp[Bool.cond_eq_ite];by_cases c:ty=0
 ·simp[c];try omega
 ·simp[c];try omega
theorem sf2(ty to sym num:Int)(a i:LD):D.toB (bS (dZ 2 ty to sym num a i))=D.toB (dQ (dZ 2 ty to sym num a i)):=by
 have d:jU 2=.l [.i 0,.i 0,.b true,.b false]:=by kernel_rfl
 simp only[bS,dQ,bU,cQ,bN,bM,bO,bL,bY,bW,bZ,cA,dU,dF,dT,dZ,vI,vB,iX,rP,kK,sS,kX,lJ,lS,uH,uI,uJ,uK,d,eC,gQ];simp only[eG,eR,eN];rw[Bool.eq_iff_iff];generalize a.length=x;generalize i.length=y;simp[Bool.cond_eq_ite];by_cases c:ty=0
 ·simp[c];try omega
 ·simp[c];try omega
theorem sf3(ty to sym num:Int)(a i:LD):D.toB (bS (dZ 3 ty to sym num a i))=D.toB (dQ (dZ 3 ty to sym num a i)):=by
 have d:jU 3=.l [.i 0,.i 0,.b true,.b false]:=by kernel_rfl
 simp only[bS,dQ,bU,cQ,bN,bM,bO,bL,bY,bW,bZ,cA,dU,dF,dT,dZ,vI,vB,iX,rP,kK,sS,kX,lJ,lS,uH,uI,uJ,uK,d,eC,gQ];simp only[eG,eR,eN];rw[Bool.eq_iff_iff];generalize a.length=x;generalize i.length=y;simp[Bool.cond_eq_ite];by_cases c:ty=0
 ·simp[c];try omega
 ·simp[c];try omega
theorem sf4(ty to sym num:Int)(a i:LD):D.toB (bS (dZ 4 ty to sym num a i))=D.toB (dQ (dZ 4 ty to sym num a i)):=by
 have d:jU 4=.l [.i 2,.i 0,.b false,.b false]:=by kernel_rfl
 simp only[bS,dQ,bU,cQ,bN,bM,bO,bL,bY,bW,bZ,cA,dU,dF,dT,dZ,vI,vB,iX,rP,kK,sS,kX,lJ,lS,uH,uI,uJ,uK,d,eC,gQ];simp only[eG,eR,eN];rw[Bool.eq_iff_iff];generalize a.length=x;generalize i.length=y;simp[Bool.cond_eq_ite];by_cases c:ty=0
 ·simp[c];try omega
 ·simp[c];try omega
theorem sf5(ty to sym num:Int)(a i:LD):D.toB (bS (dZ 5 ty to sym num a i))=D.toB (dQ (dZ 5 ty to sym num a i)):=by
 have d:jU 5=.l [.i 2,.i 0,.b false,.b false]:=by kernel_rfl
 simp only[bS,dQ,bU,cQ,bN,bM,bO,bL,bY,bW,bZ,cA,dU,dF,dT,dZ,vI,vB,iX,rP,kK,sS,kX,lJ,lS,uH,uI,uJ,uK,d,eC,gQ];simp only[eG,eR,eN];rw[Bool.eq_iff_iff];generalize a.length=x;generalize i.length=y;simp[Bool.cond_eq_ite];by_cases c:ty=0
 ·simp[c];try omega
 ·simp[c];try omega
theorem sf6(ty to sym num:Int)(a i:LD):D.toB (bS (dZ 6 ty to sym num a i))=D.toB (dQ (dZ 6 ty to sym num a i)):=by
 have d:jU 6=.l [.i 2,.i 0,.b false,.b false]:=by kernel_rfl
 simp only[bS,dQ,bU,cQ,bN,bM,bO,bL,bY,bW,bZ,cA,dU,dF,dT,dZ,vI,vB,iX,rP,kK,sS,kX,lJ,lS,uH,uI,uJ,uK,d,eC,gQ];simp only[eG,eR,eN];rw[Bool.eq_iff_iff];generalize a.length=x;generalize i.length=y;simp[Bool.cond_eq_ite];by_cases c:ty=0
 ·simp[c];try omega
 ·simp[c];try omega
theorem sf7(ty to sym num:Int)(a i:LD):D.toB (bS (dZ 7 ty to sym num a i))=D.toB (dQ (dZ 7 ty to sym num a i)):=by
 have d:jU 7=.l [.i 2,.i 0,.b false,.b false]:=by kernel_rfl
 simp only[bS,dQ,bU,cQ,bN,bM,bO,bL,bY,bW,bZ,cA,dU,dF,dT,dZ,vI,vB,iX,rP,kK,sS,kX,lJ,lS,uH,uI,uJ,uK,d,eC,gQ];simp only[eG,eR,eN];rw[Bool.eq_iff_iff];generalize a.length=x;generalize i.length=y;simp[Bool.cond_eq_ite];by_cases c:ty=0
 ·simp[c];try omega
 ·simp[c];try omega
theorem sf8(ty to sym num:Int)(a i:LD):D.toB (bS (dZ 8 ty to sym num a i))=D.toB (dQ (dZ 8 ty to sym num a i)):=by
 have d:jU 8=.l [.i 2,.i 0,.b false,.b false]:=by kernel_rfl
 simp only[bS,dQ,bU,cQ,bN,bM,bO,bL,bY,bW,bZ,cA,dU,dF,dT,dZ,vI,vB,iX,rP,kK,sS,kX,lJ,lS,uH,uI,uJ,uK,d,eC,gQ];simp only[eG,eR,eN];rw[Bool.eq_iff_iff];generalize a.length=x;generalize i.length=y;simp[Bool.cond_eq_ite];by_cases c:ty=0
 ·simp[c];try omega
 ·simp[c];try omega
theorem sf9(ty to sym num:Int)(a i:LD):D.toB (bS (dZ 9 ty to sym num a i))=D.toB (dQ (dZ 9 ty to sym num a i)):=by
 have d:jU 9=.l [.i 2,.i 0,.b false,.b false]:=by kernel_rfl
 simp only[bS,dQ,bU,cQ,bN,bM,bO,bL,bY,bW,bZ,cA,dU,dF,dT,dZ,vI,vB,iX,rP,kK,sS,kX,lJ,lS,uH,uI,uJ,uK,d,eC,gQ];simp only[eG,eR,eN];rw[Bool.eq_iff_iff];generalize a.length=x;generalize i.length=y;simp[Bool.cond_eq_ite];by_cases c:ty=0
 ·simp[c];try omega
 ·simp[c];try omega
theorem aHh(ty to sym num:Int)(a i:LD):D.toB (bS (dZ 10 ty to sym num a i))=D.toB (dQ (dZ 10 ty to sym num a i)):=by
 have d:jU 10=.l [.i 2,.i 0,.b false,.b false]:=by kernel_rfl
 simp only[bS,dQ,bU,cQ,bN,bM,bO,bL,bY,bW,bZ,cA,dU,dF,dT,dZ,vI,vB,iX,rP,kK,sS,kX,lJ,lS,uH,uI,uJ,uK,d,eC,gQ];simp only[eG,eR,eN];rw[Bool.eq_iff_iff];generalize a.length=x;generalize i.length=y;simp[Bool.cond_eq_ite];by_cases c:ty=0
 ·simp[c];try omega
 ·simp[c];try omega
theorem aHi(ty to sym num:Int)(a i:LD):D.toB (bS (dZ 11 ty to sym num a i))=D.toB (dQ (dZ 11 ty to sym num a i)):=by
 have d:jU 11=.l [.i 2,.i 0,.b false,.b false]:=by kernel_rfl
 simp only[bS,dQ,bU,cQ,bN,bM,bO,bL,bY,bW,bZ,cA,dU,dF,dT,dZ,vI,vB,iX,rP,kK,sS,kX,lJ,lS,uH,uI,uJ,uK,d,eC,gQ];simp only[eG,eR,eN];rw[Bool.eq_iff_iff];generalize a.length=x;generalize i.length=y;simp[Bool.cond_eq_ite];by_cases c:ty=0
 ·simp[c];try omega
 ·simp[c];try omega
theorem aHj(ty to sym num:Int)(a i:LD):D.toB (bS (dZ 12 ty to sym num a i))=D.toB (dQ (dZ 12 ty to sym num a i)):=by
 have d:jU 12=.l [.i 2,.i 0,.b false,.b false]:=by kernel_rfl
 simp only[bS,dQ,bU,cQ,bN,bM,bO,bL,bY,bW,bZ,cA,dU,dF,dT,dZ,vI,vB,iX,rP,kK,sS,kX,lJ,lS,uH,uI,uJ,uK,d,eC,gQ];simp only[eG,eR,eN];rw[Bool.eq_iff_iff];generalize a.length=x;generalize i.length=y;simp[Bool.cond_eq_ite];by_cases c:ty=0
 ·simp[c];try omega
 ·simp[c];try omega
theorem aHk(ty to sym num:Int)(a i:LD):D.toB (bS (dZ 13 ty to sym num a i))=D.toB (dQ (dZ 13 ty to sym num a i)):=by
 have d:jU 13=.l [.i 2,.i 0,.b false,.b false]:=by kernel_rfl
 simp only[bS,dQ,bU,cQ,bN,bM,bO,bL,bY,bW,bZ,cA,dU,dF,dT,dZ,vI,vB,iX,rP,kK,sS,kX,lJ,lS,uH,uI,uJ,uK,d,eC,gQ];simp only[eG,eR,eN];rw[Bool.eq_iff_iff];generalize a.length=x;generalize i.length=y;simp[Bool.cond_eq_ite];by_cases c:ty=0
 ·simp[c];try omega
 ·simp[c];try omega
theorem aHl(ty to sym num:Int)(a i:LD):D.toB (bS (dZ 14 ty to sym num a i))=D.toB (dQ (dZ 14 ty to sym num a i)):=by
 have d:jU 14=.l [.i 2,.i 0,.b false,.b false]:=by kernel_rfl
 simp only[bS,dQ,bU,cQ,bN,bM,bO,bL,bY,bW,bZ,cA,dU,dF,dT,dZ,vI,vB,iX,rP,kK,sS,kX,lJ,lS,uH,uI,uJ,uK,d,eC,gQ];simp only[eG,eR,eN];rw[Bool.eq_iff_iff];generalize a.length=x;generalize i.length=y;simp[Bool.cond_eq_ite];by_cases c:ty=0
 ·simp[c];try omega
 ·simp[c];try omega
theorem aHm(ty to sym num:Int)(a i:LD):D.toB (bS (dZ 15 ty to sym num a i))=D.toB (dQ (dZ 15 ty to sym num a i)):=by
 have d:jU 15=.l [.i 2,.i 0,.b false,.b false]:=by kernel_rfl
 simp only[bS,dQ,bU,cQ,bN,bM,bO,bL,bY,bW,bZ,cA,dU,dF,dT,dZ,vI,vB,iX,rP,kK,sS,kX,lJ,lS,uH,uI,uJ,uK,d,eC,gQ];simp only[eG,eR,eN];rw[Bool.eq_iff_iff];generalize a.length=x;generalize i.length=y;simp[Bool.cond_eq_ite];by_cases c:ty=0
 ·simp[c];try omega
 ·simp[c];try omega
theorem aHn(ty to sym num:Int)(a i:LD):D.toB (bS (dZ 16 ty to sym num a i))=D.toB (dQ (dZ 16 ty to sym num a i)):=by
 have d:jU 16=.l [.i 1,.i 0,.b false,.b false]:=by kernel_rfl
 simp only[bS,dQ,bU,cQ,bN,bM,bO,bL,bY,bW,bZ,cA,dU,dF,dT,dZ,vI,vB,iX,rP,kK,sS,kX,lJ,lS,uH,uI,uJ,uK,d,eC,gQ];simp only[eG,eR,eN];rw[Bool.eq_iff_iff];generalize a.length=x;generalize i.length=y;simp[Bool.cond_eq_ite];by_cases c:ty=0
 ·simp[c];try omega
 ·simp[c];try omega
theorem aHo(ty to sym num:Int)(a i:LD):D.toB (bS (dZ 17 ty to sym num a i))=D.toB (dQ (dZ 17 ty to sym num a i)):=by
 have d:jU 17=.l [.i 3,.i 0,.b false,.b false]:=by kernel_rfl
 simp only[bS,dQ,bU,cQ,bN,bM,bO,bL,bY,bW,bZ,cA,dU,dF,dT,dZ,vI,vB,iX,rP,kK,sS,kX,lJ,lS,uH,uI,uJ,uK,d,eC,gQ];simp only[eG,eR,eN];rw[Bool.eq_iff_iff];generalize a.length=x;generalize i.length=y;simp[Bool.cond_eq_ite];by_cases c:ty=0
 ·simp[c];try omega
 ·simp[c];try omega
theorem aHp(ty to sym num:Int)(a i:LD):D.toB (bS (dZ 18 ty to sym num a i))=D.toB (dQ (dZ 18 ty to sym num a i)):=by
 have d:jU 18=.l [.i 0,.i 0,.b false,.b true]:=by kernel_rfl
 simp only[bS,dQ,bU,cQ,bN,bM,bO,bL,bY,bW,bZ,cA,dU,dF,dT,dZ,vI,vB,iX,rP,kK,sS,kX,lJ,lS,uH,uI,uJ,uK,d,eC,gQ];simp only[eG,eR,eN];rw[Bool.eq_iff_iff];generalize a.length=x;generalize i.length=y;simp[Bool.cond_eq_ite];by_cases c:ty=0
 ·simp[c];try omega
 ·simp[c];try omega
theorem aHq(ty to sym num:Int)(a i:LD):D.toB (bS (dZ 19 ty to sym num a i))=D.toB (dQ (dZ 19 ty to sym num a i)):=by
 have d:jU 19=.l [.i 2,.i 0,.b false,.b false]:=by kernel_rfl
 simp only[bS,dQ,bU,cQ,bN,bM,bO,bL,bY,bW,bZ,cA,dU,dF,dT,dZ,vI,vB,iX,rP,kK,sS,kX,lJ,lS,uH,uI,uJ,uK,d,eC,gQ];simp only[eG,eR,eN];rw[Bool.eq_iff_iff];generalize a.length=x;generalize i.length=y;simp[Bool.cond_eq_ite];by_cases c:ty=0
 ·simp[c];try omega
 ·simp[c];try omega
theorem aHr(ty to sym num:Int)(a i:LD):D.toB (bS (dZ 20 ty to sym num a i))=D.toB (dQ (dZ 20 ty to sym num a i)):=by
 have d:jU 20=.l [.i 1,.i 0,.b false,.b false]:=by kernel_rfl
 simp only[bS,dQ,bU,cQ,bN,bM,bO,bL,bY,bW,bZ,cA,dU,dF,dT,dZ,vI,vB,iX,rP,kK,sS,kX,lJ,lS,uH,uI,uJ,uK,d,eC,gQ];simp only[eG,eR,eN];rw[Bool.eq_iff_iff];generalize a.length=x;generalize i.length=y;simp[Bool.cond_eq_ite];by_cases c:ty=0
 ·simp[c];try omega
 ·simp[c];try omega
theorem aHs(ty to sym num:Int)(a i:LD):D.toB (bS (dZ 21 ty to sym num a i))=D.toB (dQ (dZ 21 ty to sym num a i)):=by
 have d:jU 21=.l [.i 2,.i 0,.b false,.b false]:=by kernel_rfl
 simp only[bS,dQ,bU,cQ,bN,bM,bO,bL,bY,bW,bZ,cA,dU,dF,dT,dZ,vI,vB,iX,rP,kK,sS,kX,lJ,lS,uH,uI,uJ,uK,d,eC,gQ];simp only[eG,eR,eN];rw[Bool.eq_iff_iff];generalize a.length=x;generalize i.length=y;simp[Bool.cond_eq_ite];by_cases c:ty=0
 ·simp[c];try omega
 ·simp[c];try omega
theorem aHt(ty to sym num:Int)(a i:LD):D.toB (bS (dZ 22 ty to sym num a i))=D.toB (dQ (dZ 22 ty to sym num a i)):=by
 have d:jU 22=.l [.i (-1),.i 0,.b true,.b false]:=by kernel_rfl
 simp only[bS,dQ,bU,cQ,bN,bM,bO,bL,bY,bW,bZ,cA,dU,dF,dT,dZ,vI,vB,iX,rP,kK,sS,kX,lJ,lS,uH,uI,uJ,uK,d,eC,gQ];simp only[eG,eR,eN];rw[Bool.eq_iff_iff];generalize a.length=x;generalize i.length=y;simp[Bool.cond_eq_ite];by_cases c:ty=0
 ·simp[c];try omega
 ·simp[c];try omega
theorem aHu(ty to sym num:Int)(a i:LD):D.toB (bS (dZ 23 ty to sym num a i))=D.toB (dQ (dZ 23 ty to sym num a i)):=by
 have d:jU 23=.l [.i (-1),.i 0,.b true,.b false]:=by kernel_rfl
 simp only[bS,dQ,bU,cQ,bN,bM,bO,bL,bY,bW,bZ,cA,dU,dF,dT,dZ,vI,vB,iX,rP,kK,sS,kX,lJ,lS,uH,uI,uJ,uK,d,eC,gQ];simp only[eG,eR,eN];rw[Bool.eq_iff_iff];generalize a.length=x;generalize i.length=y;simp[Bool.cond_eq_ite];by_cases c:ty=0
 ·simp[c];try omega
 ·simp[c];try omega
theorem aHv(ty to sym num:Int)(a i:LD):D.toB (bS (dZ 24 ty to sym num a i))=D.toB (dQ (dZ 24 ty to sym num a i)):=by
 have d:jU 24=.l [.i 1,.i 0,.b true,.b false]:=by kernel_rfl
 simp only[bS,dQ,bU,cQ,bN,bM,bO,bL,bY,bW,bZ,cA,dU,dF,dT,dZ,vI,vB,iX,rP,kK,sS,kX,lJ,lS,uH,uI,uJ,uK,d,eC,gQ];simp only[eG,eR,eN];rw[Bool.eq_iff_iff];generalize a.length=x;generalize i.length=y;simp[Bool.cond_eq_ite];by_cases c:ty=0
 ·simp[c];try omega
 ·simp[c];try omega
theorem aHw(ty to sym num:Int)(a i:LD):D.toB (bS (dZ 25 ty to sym num a i))=D.toB (dQ (dZ 25 ty to sym num a i)):=by
 have d:jU 25=.l [.i (-1),.i 0,.b false,.b false]:=by kernel_rfl
 simp only[bS,dQ,bU,cQ,bN,bM,bO,bL,bY,bW,bZ,cA,dU,dF,dT,dZ,vI,vB,iX,rP,kK,sS,kX,lJ,lS,uH,uI,uJ,uK,d,eC,gQ];simp only[eG,eR,eN];rw[Bool.eq_iff_iff];generalize a.length=x;generalize i.length=y;simp[Bool.cond_eq_ite];by_cases c:ty=0
 ·simp[c];try omega
 ·simp[c];try omega
theorem aHx(ty to sym num:Int)(a i:LD):D.toB (bS (dZ 26 ty to sym num a i))=D.toB (dQ (dZ 26 ty to sym num a i)):=by
 have d:jU 26=.l [.i (-1),.i (-1),.b false,.b false]:=by kernel_rfl
 simp only[bS,dQ,bU,cQ,bN,bM,bO,bL,bY,bW,bZ,cA,dU,dF,dT,dZ,vI,vB,iX,rP,kK,sS,kX,lJ,lS,uH,uI,uJ,uK,d,eC,gQ];simp only[eG,eR,eN];rw[Bool.eq_iff_iff];generalize a.length=x;generalize i.length=y;simp[Bool.cond_eq_ite];by_cases c:ty=0
 ·simp[c];try omega
 ·simp[c];try omega
theorem aHy(ty to sym num:Int)(a i:LD):D.toB (bS (dZ 27 ty to sym num a i))=D.toB (dQ (dZ 27 ty to sym num a i)):=by
 have d:jU 27=.l [.i 0,.i 1,.b false,.b false]:=by kernel_rfl
 simp only[bS,dQ,bU,cQ,bN,bM,bO,bL,bY,bW,bZ,cA,dU,dF,dT,dZ,vI,vB,iX,rP,kK,sS,kX,lJ,lS,uH,uI,uJ,uK,d,eC,gQ];simp only[eG,eR,eN];rw[Bool.eq_iff_iff];generalize a.length=x;generalize i.length=y;simp[Bool.cond_eq_ite];by_cases c:ty=0
 ·simp[c];try omega
 ·simp[c];try omega
theorem aHz(ty to sym num:Int)(a i:LD):D.toB (bS (dZ 28 ty to sym num a i))=D.toB (dQ (dZ 28 ty to sym num a i)):=by
 have d:jU 28=.l [.i 1,.i 2,.b false,.b false]:=by kernel_rfl
 simp only[bS,dQ,bU,cQ,bN,bM,bO,bL,bY,bW,bZ,cA,dU,dF,dT,dZ,vI,vB,iX,rP,kK,sS,kX,lJ,lS,uH,uI,uJ,uK,d,eC,gQ];simp only[eG,eR,eN];rw[Bool.eq_iff_iff];generalize a.length=x;generalize i.length=y;simp[Bool.cond_eq_ite];by_cases c:ty=0
 ·simp[c];try omega
 ·simp[c];try omega
theorem aHA(ty to sym num:Int)(a i:LD):D.toB (bS (dZ 29 ty to sym num a i))=D.toB (dQ (dZ 29 ty to sym num a i)):=by
 have d:jU 29=.l [.i (-1),.i 0,.b false,.b false]:=by kernel_rfl
 simp only[bS,dQ,bU,cQ,bN,bM,bO,bL,bY,bW,bZ,cA,dU,dF,dT,dZ,vI,vB,iX,rP,kK,sS,kX,lJ,lS,uH,uI,uJ,uK,d,eC,gQ];simp only[eG,eR,eN];rw[Bool.eq_iff_iff];generalize a.length=x;generalize i.length=y;simp[Bool.cond_eq_ite];by_cases c:ty=0
 ·simp[c];try omega
 ·simp[c];try omega
theorem aHB(ty to sym num:Int)(a i:LD):D.toB (bS (dZ 30 ty to sym num a i))=D.toB (dQ (dZ 30 ty to sym num a i)):=by
 have d:jU 30=.l [.i 0,.i 0,.b false,.b false]:=by kernel_rfl
 simp only[bS,dQ,bU,cQ,bN,bM,bO,bL,bY,bW,bZ,cA,dU,dF,dT,dZ,vI,vB,iX,rP,kK,sS,kX,lJ,lS,uH,uI,uJ,uK,d,eC,gQ];simp only[eG,eR,eN];rw[Bool.eq_iff_iff];generalize a.length=x;generalize i.length=y;simp[Bool.cond_eq_ite];by_cases c:ty=0
 ·simp[c];try omega
 ·simp[c];try omega
theorem aFy(op ty to sym num:Int)(a i:LD)(h:(aQ op 1||aQ 30 op)=true):D.toB (bS (dZ op ty to sym num a i))=D.toB (dQ (dZ op ty to sym num a i)):=by simp only[bS,dQ,bU,cQ,dU,dF,dT,dZ,vI,rP,kK,kX,h,Bool.true_or,cond_true]
theorem Zk(op ty to sym num:Int)(a i:LD):D.toB (bS (dZ op ty to sym num a i))=D.toB (dQ (dZ op ty to sym num a i)):=by
 cases h:(aQ op 1||aQ 30 op)with
 |true=>exact aFy op ty to sym num a i h
 |false=>
  have d:1<=op/\op<=30:=by simp only[Bool.or_eq_false_iff]at h;exact⟨kF h.1,kF h.2⟩
  obtain⟨d,e⟩:=d;have c:op=1\/op=2\/op=3\/op=4\/op=5\/op=6\/op=7\/op=8\/op=9\/op=10\/op=11\/op=12\/op=13\/op=14\/op=15\/op=16\/op=17\/op=18\/op=19\/op=20\/op=21\/op=22\/op=23\/op=24\/op=25\/op=26\/op=27\/op=28\/op=29\/op=30:=by omega
  rcases c with c |c |c |c |c |c |c |c |c |c |c |c |c |c |c |c |c |c |c |c |c |c |c |c |c |c |c |c |c |c<;>subst c
  ·exact sf1 ty to sym num a i
  ·exact sf2 ty to sym num a i
  ·exact sf3 ty to sym num a i
  ·exact sf4 ty to sym num a i
  ·exact sf5 ty to sym num a i
  ·exact sf6 ty to sym num a i
  ·exact sf7 ty to sym num a i
  ·exact sf8 ty to sym num a i
  ·exact sf9 ty to sym num a i
  ·exact aHh ty to sym num a i
  ·exact aHi ty to sym num a i
  ·exact aHj ty to sym num a i
  ·exact aHk ty to sym num a i
  ·exact aHl ty to sym num a i
  ·exact aHm ty to sym num a i
  ·exact aHn ty to sym num a i
  ·exact aHo ty to sym num a i
  ·exact aHp ty to sym num a i
  ·exact aHq ty to sym num a i
  ·exact aHr ty to sym num a i
  ·exact aHs ty to sym num a i
  ·exact aHt ty to sym num a i
  ·exact aHu ty to sym num a i
  ·exact aHv ty to sym num a i
  ·exact aHw ty to sym num a i
  ·exact aHx ty to sym num a i
  ·exact aHy ty to sym num a i
  ·exact aHz ty to sym num a i
  ·exact aHA ty to sym num a i
  ·exact aHB ty to sym num a i
end Go.Eng.Q

namespace Go.Eng.Q
open Go.Eng
theorem Qc(x:D):(!(D.toB (bS (En x))))=rG x:=by unfold rG;exact congrArg Bool.not (Zk (vI x 0) (vI x 1) (vI x 2) (vI x 3) (vI x 4) (eX x 5) (eX x 6))
theorem N6(o:Bool)(t:Int):((aQ t 1||aQ 4 t)||(o&&!Fk t))=((aQ t 1||aQ 4 t)||(o&&aQ 2 t)):=by rw[Bool.eq_iff_iff];simp only[Fk,eG,eN,eR];cases o<;>simp<;>omega
theorem N7(o:Bool)(r:Int):((!(aD r 0)&&!Fk r)&&(!(aD r 4)||o))=QF o r:=by rw[Bool.eq_iff_iff];simp only[QF,Fk,eG,eN,eR];cases o<;>simp<;>omega
section
variable(xs gs ts fs ps bs:LD)(nm:List UInt8)(o:Bool)(r j:Int)
theorem Lg(n:Int)(l:LD)(e:cE l):
  fV oR 2 [.l l,.i n,.i 0,.l xs,.i (l.length:Int),.i j,.l xs,.l gs,.l ts,.l fs,.s nm,.l l,.i r] (bif l.any GY then(0,[.i n,.b false,.l xs,.i j,.l xs,.l gs,.l ts,.l fs,.s nm,.l l,.i r])else(1,[.i n,.l xs,.i j,.l xs,.l gs,.l ts,.l fs,.s nm,.l l,.i r])):=by
 refine rW oS (λq=>[.l l,.i n,.i (q:Int),.l xs,.i (l.length:Int),.i j,.l xs,.l gs,.l ts,.l fs,.s nm,.l l,.i r]) l GY (λq c=>?_) ?_
 ·cases d:GY (gD l q)with
  |true=>refine .inl ⟨rfl,?_⟩;exact aC (aV c) (aC (aE c) (bK (jX (D.toI (gD l q))) rfl (aC d (bH rfl))))
  |false=>refine .inr ⟨rfl,?_⟩;exact aC (aV c) (aC (aE c) (bK (jX (D.toI (gD l q))) rfl (aJ d (aO (by simp[fQ c e])))))
 ·exact aJ (aX _) (bH rfl)
theorem Fl(ins:LD)(n lb d:Int)(f:cE ins):
  fV oR 10 [.l ins,.i 0,.i n,.i lb,.i (ins.length:Int),.l fs,.l bs,.i j,.i d] (bif ins.any rG then(0,[.i n,.i lb,.b false,.l fs,.l bs,.i j,.i d])else(1,[.i n,.i lb,.l fs,.l bs,.i j,.i d])):=by
 refine rW oS (λq=>[.l ins,.i (q:Int),.i n,.i lb,.i (ins.length:Int),.l fs,.l bs,.i j,.i d]) ins rG (λq c=>?_) ?_
 ·cases e:rG (gD ins q)with
  |true=>refine .inl ⟨rfl,?_⟩;exact aC (aV c) (aC (aE c) (bK (XR (En (gD ins q))) rfl (aC ((Qc _).trans e) (bH rfl))))
  |false=>refine .inr ⟨rfl,?_⟩;exact aC (aV c) (aC (aE c) (bK (XR (En (gD ins q))) rfl (aJ ((Qc _).trans e) (aO (by simp[fQ c f])))))
 ·exact aJ (aX _) (bH rfl)
theorem Lh(n:Int)(g:cE bs)(f:∀j,j<bs.length->d8 (gD bs j)):
  fV oR 8 [.i n,.i (bs.length:Int),.l fs,.l bs,.i j,.i 0] (bif bs.any GZ then(0,[.i n,.b false,.l fs,.i j])else(1,[.i n,.l fs,.i j])):=by
 refine rW oS (λq=>[.i n,.i (bs.length:Int),.l fs,.l bs,.i j,.i (q:Int)]) bs GZ (λq c=>?_) ?_
 ·have d:=Fl fs bs j (gD bs q).els n (bs.length:Int) (q:Int) (f q c).ins;cases e:GZ (gD bs q)with
  |true=>rw[show(gD bs q).els.any rG=true from e]at d;refine .inl ⟨rfl,?_⟩;exact aC (aV c) (aC (aE c) (aP d (bG (bH rfl))))
  |false=>rw[show(gD bs q).els.any rG=false from e]at d;refine .inr ⟨rfl,?_⟩;exact aC (aV c) (aC (aE c) (aP d (eO (bG (aO (by simp[fQ c g]))))))
 ·exact aJ (aX _) (bH rfl)
theorem Li(n:Int)(h:cE ps):
  fV oR 6 [.i 0,.l ps,.i n,.l fs,.i (ps.length:Int),.i j,.s nm,.b o,.l ps,.i r,.l bs] (bif ps.any (rX o)then(0,[.i n,.b false,.l fs,.i j,.s nm,.b o,.l ps,.i r,.l bs])else(1,[.i n,.l fs,.i j,.s nm,.b o,.l ps,.i r,.l bs])):=by
 refine rW oS (λq=>[.i (q:Int),.l ps,.i n,.l fs,.i (ps.length:Int),.i j,.s nm,.b o,.l ps,.i r,.l bs]) ps (rX o) (λq c=>?_) ?_
 ·have f:((aQ (gD ps q).toI 1||aQ 4 (gD ps q).toI)||(o&&!Fk (gD ps q).toI))=rX o (gD ps q):=N6 o _;cases d:(!(aQ (gD ps q).toI 1||aQ 4 (gD ps q).toI)&&(o&&true))with
  |true=>
   cases e:rX o (gD ps q)with
   |true=>refine .inl ⟨rfl,?_⟩;exact aC (aV c) (aC (aE c) (aC d (bK (jX (D.toI (gD ps q))) rfl (aC (f.trans e) (bH rfl)))))
   |false=>refine .inr ⟨rfl,?_⟩;exact aC (aV c) (aC (aE c) (aC d (bK (jX (D.toI (gD ps q))) rfl (aJ (f.trans e) (aO (by simp[fQ c h]))))))
  |false=>
   have g:((aQ (gD ps q).toI 1||aQ 4 (gD ps q).toI)||(o&&true))=rX o (gD ps q):=by
    rw[<-f];cases l:(aQ (gD ps q).toI 1||aQ 4 (gD ps q).toI)with
    |true=>rfl
    |false=>rw[l]at d;cases o with
     |true=>simp at d
     |false=>rfl
   cases e:rX o (gD ps q)with
   |true=>refine .inl ⟨rfl,?_⟩;exact aC (aV c) (aC (aE c) (aJ d (aC (g.trans e) (bH rfl))))
   |false=>refine .inr ⟨rfl,?_⟩;exact aC (aV c) (aC (aE c) (aJ d (aJ (g.trans e) (aO (by simp[fQ c h])))))
 ·exact aJ (aX _) (bH rfl)
end
theorem aCD(x:D):((eX x 1).any GY||(!(aD (vI x 2) 0)&&!Fk (vI x 2)))=GD x:=by unfold GD;rw[aAl,Bool.or_comm]
theorem Lj(xs gs ts fs:LD)(m:cE xs)(r:∀j,j<xs.length->cE (eX (gD xs j) 1)):
  fV oR 0 [.i (xs.length:Int),.l xs,.i 0,.l xs,.l gs,.l ts,.l fs] (bif xs.any GD then(0,[.b false,.l xs,.l gs,.l ts,.l fs])else(1,[.l xs,.l gs,.l ts,.l fs])):=by
 refine rW oS (λj=>[.i (xs.length:Int),.l xs,.i (j:Int),.l xs,.l gs,.l ts,.l fs]) xs GD (λj c=>?_) ?_
 ·have f:=Lg xs gs ts fs (D.toS (D.fld (gD xs j) 0)) (vI (gD xs j) 2) (j:Int) (xs.length:Int) (eX (gD xs j) 1) (r j c);have d:=aCD (gD xs j);cases l:(eX (gD xs j) 1).any GY with
  |true=>rw[l]at f d;refine .inl ⟨by rw[<-d,Bool.true_or],?_⟩;exact aC (aV c) (aC (aE c) (aP f (bG (bH rfl))))
  |false=>
   rw[l]at f d;rw[Bool.false_or]at d;have nx:[D.i (xs.length:Int),D.l xs,D.i ((j+1:Nat):Int),D.l xs,D.l gs,D.l ts,D.l fs]=[D.i (xs.length:Int),D.l xs,D.i (bJ .i64 (j:Int) 1),D.l xs,D.l gs,D.l ts,D.l fs]:=by rw[fQ c m]
   cases e:aD (vI (gD xs j) 2) 0 with
   |true=>rw[e]at d;refine .inr ⟨d.symm,?_⟩;exact aC (aV c) (aC (aE c) (aP f (eO (bG (aJ (congrArg (λb=>(!b)&&true) e) (aJ (congrArg (λb=>(!b)&&(!(D.toB (.i 0)))) e) (aO nx)))))))
   |false=>
    rw[e]at d;have g:((!(aD (vI (gD xs j) 2) 0))&&(!(Fk (vI (gD xs j) 2))))=GD (gD xs j):=by rw[e];exact d
    cases h:GD (gD xs j)with
    |true=>refine .inl ⟨rfl,?_⟩;exact aC (aV c) (aC (aE c) (aP f (eO (bG (aC (congrArg (λb=>(!b)&&true) e) (bK (jX (vI (gD xs j) 2)) rfl (aC (g.trans h) (bH rfl))))))))
    |false=>refine .inr ⟨rfl,?_⟩;exact aC (aV c) (aC (aE c) (aP f (eO (bG (aC (congrArg (λb=>(!b)&&true) e) (bK (jX (vI (gD xs j) 2)) rfl (aJ (g.trans h) (aO nx))))))))
 ·exact aJ (aX _) (bH rfl)
theorem Lk(fs:LD)(s:cE fs)(hf:∀j,j<fs.length->Lc (gD fs j)):
  fV oR 4 [.i (fs.length:Int),.l fs,.i 0] (bif fs.any qI then(0,[.b false])else(1,[])):=by
 refine rW oS (λj=>[.i (fs.length:Int),.l fs,.i (j:Int)]) fs qI (λj c=>?_) ?_
 ·have f:=Li fs (eX (gD fs j) 2) (eX (gD fs j) 4) (D.toS (D.fld (gD fs j) 0)) (vB (gD fs j) 1) (vI (gD fs j) 3) (j:Int) (fs.length:Int) (hf j c).ps;have h:=Lh fs (eX (gD fs j) 4) (j:Int) (fs.length:Int) (hf j c).bs (hf j c).b;have m:=N7 (vB (gD fs j) 1) (vI (gD fs j) 3);have nx:[D.i (fs.length:Int),D.l fs,D.i ((j+1:Nat):Int)]=[D.i (fs.length:Int),D.l fs,D.i (bJ .i64 (j:Int) 1)]:=by rw[fQ c s]
  cases r:aD (vI (gD fs j) 3) 0 with
  |true=>
   rw[r]at m;have d:QF (vB (gD fs j) 1) (vI (gD fs j) 3)=false:=by rw[<-m];rfl
   have l:=congrArg (λb=>(!b)&&true) r;have z2:=congrArg (λb=>((!b)&&(!(D.toB (.i 0))))&&((!(aD (vI (gD fs j) 3) 4))||(vB (gD fs j) 1))) r;cases e:(eX (gD fs j) 2).any (rX (vB (gD fs j) 1))with
   |true=>rw[e]at f;refine .inl ⟨by simp only[qI,d,e,Bool.true_or,Bool.or_true],?_⟩;exact aC (aV c) (aC (aE c) (aJ l (aJ z2 (aP f (bG (bH rfl))))))
   |false=>
   rw[e]at f;cases g:(eX (gD fs j) 4).any GZ with
   |true=>rw[g]at h;refine .inl ⟨by simp only[qI,d,e,g,Bool.false_or],?_⟩;exact aC (aV c) (aC (aE c) (aJ l (aJ z2 (aP f (eO (bG (aP h (bG (bH rfl)))))))))
   |false=>rw[g]at h;refine .inr ⟨by simp only[qI,d,e,g,Bool.false_or],?_⟩;exact aC (aV c) (aC (aE c) (aJ l (aJ z2 (aP f (eO (bG (aP h (eO (bG (aO nx))))))))))
  |false=>
   have l:=congrArg (λb=>(!b)&&true) r;cases d:QF (vB (gD fs j) 1) (vI (gD fs j) 3)with
   |true=>refine .inl ⟨by simp only[qI,d,Bool.true_or],?_⟩;exact aC (aV c) (aC (aE c) (aC l (bK (jX (vI (gD fs j) 3)) rfl (aC (m.trans d) (bH rfl)))))
   |false=>
   cases e:(eX (gD fs j) 2).any (rX (vB (gD fs j) 1))with
   |true=>rw[e]at f;refine .inl ⟨by simp only[qI,d,e,Bool.true_or,Bool.or_true],?_⟩;exact aC (aV c) (aC (aE c) (aC l (bK (jX (vI (gD fs j) 3)) rfl (aJ (m.trans d) (aP f (bG (bH rfl)))))))
   |false=>
   rw[e]at f;cases g:(eX (gD fs j) 4).any GZ with
   |true=>rw[g]at h;refine .inl ⟨by simp only[qI,d,e,g,Bool.false_or],?_⟩;exact aC (aV c) (aC (aE c) (aC l (bK (jX (vI (gD fs j) 3)) rfl (aJ (m.trans d) (aP f (eO (bG (aP h (bG (bH rfl))))))))))
   |false=>rw[g]at h;refine .inr ⟨by simp only[qI,d,e,g,Bool.false_or],?_⟩;exact aC (aV c) (aC (aE c) (aC l (bK (jX (vI (gD fs j) 3)) rfl (aJ (m.trans d) (aP f (eO (bG (aP h (eO (bG (aO nx)))))))))))
 ·exact aJ (aX _) (bH rfl)
theorem Uu(xs gs ts fs:LD)(h:Zi xs gs ts fs):iQ E aW sites Ae [.l [.l xs,.l gs,.l ts,.l fs]] (.b (mC xs fs)) []:=by
 refine bA oS (by rfl) rfl ?_;show Ev _ _ (OC _) _;unfold OC;have c:=Lj xs gs ts fs h.hx h.x;have e:=Lk fs h.hf h.f;cases e1:xs.any GD with
 |true=>rw[e1]at c;exact aP c (bG (bI (congrArg D.b (show mC xs fs=false by simp only[mC,e1,Bool.not_true,Bool.false_and])) rfl))
 |false=>
 rw[e1]at c;cases d:fs.any qI with
 |true=>rw[d]at e;exact aP c (eO (bG (aP e (bG (bI (congrArg D.b (show mC xs fs=false by simp only[mC,d,Bool.not_true,Bool.and_false])) rfl)))))
 |false=>rw[d]at e;exact aP c (eO (bG (aP e (eO (bG (bI (congrArg D.b (show mC xs fs=true by simp only[mC,e1,d,Bool.not_false,Bool.and_self])) rfl))))))
end Go.Eng.Q

namespace Go.Eng.Q
open Go.Eng
structure d9(op ty to sym num:Int)(na ni:Nat):Prop where
 o1:1<=op
 o2:op<=30
 t1:0<=ty
 t2:ty<=4
 to:ty=0/\to=0\/ty≠0/\1<=to
 sy:sym=0\/op=2\/op=3\/op=22\/op=23\/op=24
 room:op=18->1<=num/\num<=16
 a0:(op=1\/op=2\/op=3\/op=18\/op=27\/op=30)->na=0
 a1:(op=16\/op=20\/op=24\/op=28)->na=1
 a2:(4<=op/\op<=15\/op=19\/op=21)->na=2
 a3:op=17->na=3
 ac:(op=22\/op=23)->na<=5
 av:op=25->1<=na/\na<=6
 ap:op=26->1<=na/\ni=na
 ar:op=29->na<=1
 i1:op=27->ni=1
 i2:op=28->ni=2
 i0:op≠26->op≠27->op≠28->ni=0
 s0:(op=21\/27<=op)->ty=0
 s1:op≠21->op<=26->op≠22->op≠23->op≠25->ty≠0
set_option maxHeartbeats 4000000 in
theorem form_says(op ty to sym num:Int)(a i:LD)(h:D.toB (dQ (dZ op ty to sym num a i))=true):d9 op ty to sym num a.length i.length:=by
 have d:(aQ op 1||aQ 30 op)=false:=by
  cases d:(aQ op 1||aQ 30 op)with
  |false=>rfl
  |true=>simp only[dQ,cQ,dU,dF,dT,dZ,vI,rP,kK,kX,d,Bool.true_or,cond_true,lJ]at h;cases h
 have e:1<=op/\op<=30:=by simp only[Bool.or_eq_false_iff]at d;exact⟨kF d.1,kF d.2⟩
 obtain⟨e,f⟩:=e;have c:op=1\/op=2\/op=3\/op=4\/op=5\/op=6\/op=7\/op=8\/op=9\/op=10\/op=11\/op=12\/op=13\/op=14\/op=15\/op=16\/op=17\/op=18\/op=19\/op=20\/op=21\/op=22\/op=23\/op=24\/op=25\/op=26\/op=27\/op=28\/op=29\/op=30:=by omega
 clear d e f;rcases c with c |c |c |c |c |c |c |c |c |c |c |c |c |c |c |c |c |c |c |c |c |c |c |c |c |c |c |c |c |c<;>subst c;all_goals
  simp only[dQ,cQ,bY,bW,bZ,cA,dU,dF,dT,dZ,vI,vB,iX,rP,kK,sS,kX,lJ,lS,uH,uI,uJ,uK,jU,QA,NS,NR,gC,NQ,NP,NO,eC,gQ,eG,eR,eN]at h;generalize a.length=x at h⊢;generalize i.length=y at h⊢;simp[Bool.cond_eq_ite,D.toB,D.toI,rP,kK,sS]at h;constructor<;>omega
end Go.Eng.Q

namespace Go.Eng.Q
open Go.Eng
abbrev O2(d:FD)(b:Bool)(t:Sh)(o:Nat×LD)(a:LD):Prop:=Qb E aW sites d b t o a
def uL(nx ng nt nf op:Int):Int:=bif aD op 2||aD op 22 then nf else bif aD op 3 then ng else bif aD op 23 then nx else bif aD op 24 then nt else 1
def ER(nx ng nt nf:Int)(x:D):Bool:=aQ (vI x 3) 0||cK (uL nx ng nt nf (vI x 0)) (vI x 3)
def Ll(nf:Int)(t:D):Bool:=aQ t.toI (-1)||cK nf t.toI
def CG(nf:Int)(t:D):Bool:=(eX t 1).any (Ll nf)
def XS(nx ng nt nf:Int)(b:D):Bool:=b.els.any (ER nx ng nt nf)
def GE(nx ng nt nf:Int)(f:D):Bool:=(eX f 4).any (XS nx ng nt nf)
def GF(xs gs ts fs:LD):Bool:=!ts.any (CG fs.length)&&!fs.any (GE xs.length gs.length ts.length fs.length)
theorem aEW{nx ng nt nf op:Int}(h:aD op 2=true):uL nx ng nt nf op=nf:=by simp only[uL,h,Bool.true_or,cond_true]
theorem aCE{nx ng nt nf op:Int}(h:aD op 22=true):uL nx ng nt nf op=nf:=by simp only[uL,h,Bool.or_true,cond_true]
theorem aEX{nx ng nt nf op:Int}(h:aD op 2=false)(c:aD op 22=false):uL nx ng nt nf op=bif aD op 3 then ng else bif aD op 23 then nx else bif aD op 24 then nt else 1:=by simp only[uL,h,c,Bool.or_self,cond_false]
section
variable(xs gs ts fs:LD)
theorem aAm(d c:Nat)(hf:c<fs.length)(r:d<(eX (gD fs c) 4).length)(C:cE (gD (eX (gD fs c) 4) d).els):
  fV rR 8 [.i (d:Int),.i 0,.i (c:Int),.l xs,.l gs,.l ts,.l fs] (bif XS xs.length gs.length ts.length fs.length (gD (eX (gD fs c) 4) d)then(0,[.i (d:Int),.b false,.i (c:Int),.l xs,.l gs,.l ts,.l fs])else(1,[.i (d:Int),.i (c:Int),.l xs,.l gs,.l ts,.l fs])):=by
 refine HT yW (λj=>[.i (d:Int),.i (j:Int),.i (c:Int),.l xs,.l gs,.l ts,.l fs]) (gD (eX (gD fs c) 4) d).els (ER xs.length gs.length ts.length fs.length) (λj t=>?_) ?_
 ·refine oT (aE hf) (oT (aE r) (oT (aV t) (oT (aE hf) (oT (aE r) (oT (aE t) ?_)))));have m:=nx t C [.i (d:Int)] [.i (c:Int),.l xs,.l gs,.l ts,.l fs];have key:∀{op s:Int}{n:Int},uL xs.length gs.length ts.length fs.length op=n->(aQ s 0||cK n s)=(aQ s 0||cK (uL xs.length gs.length ts.length fs.length op) s):=λh=>by rw[h]
  have u:∀(v:uL xs.length gs.length ts.length fs.length (vI (gD (gD (eX (gD fs c) 4) d).els j) 0)=fs.length),O2 rR (ER xs.length gs.length ts.length fs.length (gD (gD (eX (gD fs c) 4) d).els j)) (FZ [.i (d:Int),.i (j:Int),.i (c:Int),.l xs,.l gs,.l ts,.l fs]) (0,[.i (d:Int),.b false,.i (c:Int),.l xs,.l gs,.l ts,.l fs]) [.i (d:Int),.i ((j+1:Nat):Int),.i (c:Int),.l xs,.l gs,.l ts,.l fs]:=λv=>by unfold FZ;exact oE (key v) rfl m
  have y:∀(g:aD (vI (gD (gD (eX (gD fs c) 4) d).els j) 0) 2=false)(l:aD (vI (gD (gD (eX (gD fs c) 4) d).els j) 0) 22=false),O2 rR (ER xs.length gs.length ts.length fs.length (gD (gD (eX (gD fs c) 4) d).els j)) (FY [.i (d:Int),.i (j:Int),.i (c:Int),.l xs,.l gs,.l ts,.l fs]) (0,[.i (d:Int),.b false,.i (c:Int),.l xs,.l gs,.l ts,.l fs]) [.i (d:Int),.i ((j+1:Nat):Int),.i (c:Int),.l xs,.l gs,.l ts,.l fs]:=λg l=>by have f:=aEX (nx:=xs.length) (ng:=gs.length) (nt:=ts.length) (nf:=fs.length) g l;unfold FY;refine oX (λe=>oE (key (f.trans (congrArg (λb=>bif b then(gs.length:Int)else _) e))) rfl m) (λe=>?_);have f:=f.trans (congrArg (λb=>bif b then(gs.length:Int)else _) e);refine oX (λe=>oE (key (f.trans (congrArg (λb=>bif b then(xs.length:Int)else _) e))) rfl m) (λe=>?_);have f:=f.trans (congrArg (λb=>bif b then(xs.length:Int)else _) e);refine oX (λe=>oE (key (f.trans (congrArg (λb=>bif b then(ts.length:Int)else _) e))) rfl m) (λe=>?_);exact oE (key (f.trans (congrArg (λb=>bif b then(ts.length:Int)else _) e))) rfl m
  refine oX (λg=>oT g (u (aEW g))) (λg=>oX (λl=>u (aCE l)) (λl=>y g l))
 ·exact aC (aE hf) (aC (aE r) (aJ (aX _) (bH rfl)))
theorem aAn(c:Nat)(hf:c<fs.length)(h:Lc (gD fs c)):
  fV rR 6 [.i 0,.i (c:Int),.l xs,.l gs,.l ts,.l fs] (bif GE xs.length gs.length ts.length fs.length (gD fs c)then(0,[.b false,.i (c:Int),.l xs,.l gs,.l ts,.l fs])else(1,[.i (c:Int),.l xs,.l gs,.l ts,.l fs])):=by
 refine HT yW (λj=>[.i (j:Int),.i (c:Int),.l xs,.l gs,.l ts,.l fs]) (eX (gD fs c) 4) (XS xs.length gs.length ts.length fs.length) (λj d=>?_) ?_
 ·exact oT (aE hf) (oT (aV d) (oL (aAm xs gs ts fs j c hf d (h.b j d).ins) rfl (congrArg IX.again (nx d h.bs [] [.i (c:Int),.l xs,.l gs,.l ts,.l fs]).symm)))
 ·exact aC (aE hf) (aJ (aX _) (bH rfl))
theorem aAo(h:cE fs)(d:∀j,j<fs.length->Lc (gD fs j)):
  fV rR 4 [.i 0,.l xs,.l gs,.l ts,.l fs] (bif fs.any (GE xs.length gs.length ts.length fs.length)then(0,[.b false])else(1,[])):=by
 refine HT yW (λj=>[.i (j:Int),.l xs,.l gs,.l ts,.l fs]) fs (GE xs.length gs.length ts.length fs.length) (λj c=>?_) ?_
 ·exact oT (aV c) (oL (aAn xs gs ts fs j c (d j c)) rfl (congrArg IX.again (nx c h [] [.l xs,.l gs,.l ts,.l fs]).symm))
 ·exact aJ (aX _) (bH rfl)
theorem aAp(c:Nat)(ht:c<ts.length)(h:cE (eX (gD ts c) 1)):
  fV rR 2 [.i (c:Int),.i 0,.l xs,.l gs,.l ts,.l fs] (bif CG fs.length (gD ts c)then(0,[.i (c:Int),.b false,.l xs,.l gs,.l ts,.l fs])else(1,[.i (c:Int),.l xs,.l gs,.l ts,.l fs])):=by
 refine HT yW (λj=>[.i (c:Int),.i (j:Int),.l xs,.l gs,.l ts,.l fs]) (eX (gD ts c) 1) (Ll fs.length) (λj d=>?_) ?_
 ·exact oT (aE ht) (oT (aV d) (oT (aE ht) (oT (aE d) (oE rfl rfl (nx d h [.i (c:Int)] [.l xs,.l gs,.l ts,.l fs])))))
 ·exact aC (aE ht) (aJ (aX _) (bH rfl))
theorem aAq(h:cE ts)(d:∀j,j<ts.length->cE (eX (gD ts j) 1)):
  fV rR 0 [.i 0,.l xs,.l gs,.l ts,.l fs] (bif ts.any (CG fs.length)then(0,[.b false,.l xs,.l gs,.l ts,.l fs])else(1,[.l xs,.l gs,.l ts,.l fs])):=by
 refine HT yW (λj=>[.i (j:Int),.l xs,.l gs,.l ts,.l fs]) ts (CG fs.length) (λj c=>?_) ?_
 ·exact oT (aV c) (oL (aAp xs gs ts fs j c (d j c)) rfl (congrArg IX.again (nx c h [] [.l xs,.l gs,.l ts,.l fs]).symm))
 ·exact aJ (aX _) (bH rfl)
theorem N8(h:Zi xs gs ts fs):iQ E aW sites Ub [.l [.l xs,.l gs,.l ts,.l fs]] (.b (GF xs gs ts fs)) []:=by
 refine bA yW (by rfl) rfl ?_;show Ev _ _ (Aj _) _;unfold Aj;have c:=aAq xs gs ts fs h.ht h.t;have d:=aAo xs gs ts fs h.hf h.f;unfold GF;cases e1:ts.any (CG fs.length)with
 |true=>rw[e1]at c;exact aP c (bG (bI rfl rfl))
 |false=>
 rw[e1]at c;cases e:fs.any (GE xs.length gs.length ts.length fs.length)with
 |true=>rw[e]at d;exact aP c (eO (bG (aP d (bG (bI rfl rfl)))))
 |false=>rw[e]at d;exact aP c (eO (bG (aP d (eO (bG (bI rfl rfl))))))
end
end Go.Eng.Q

namespace Go.Eng.Q
open Go.Eng
def i3(x:D):Prop:=aD (vI x 0) 2=false->aD (vI x 0) 22=false->aD (vI x 0) 3=false->aD (vI x 0) 23=false->aD (vI x 0) 24=false->vI x 3=0
def aCF(f:D):Prop:=∀c,c<(eX f 4).length->∀j,j<(gD (eX f 4) c).els.length->i3 (gD (gD (eX f 4) c).els j)
theorem UL{a b:Int}(h:aD a b=false):a≠b:=λe=>by rw[e,(bT b b).2 rfl]at h;cases h
theorem aCG{x:D}(h:rG x=false):i3 x:=λd e f g j=>by
 have l:=form_says (vI x 0) (vI x 1) (vI x 2) (vI x 3) (vI x 4) (eX x 5) (eX x 6) (by
  unfold rG at h;cases c:D.toB (dQ (En x))with
  |true=>exact c
  |false=>rw[c]at h;cases h)
 have:=l.sy;have:=UL d;have:=UL e;have:=UL f;have:=UL g;have:=UL j;omega
theorem XT{l:LD}{p:D->Bool}(h:l.any p=false):∀j,j<l.length->p (gD l j)=false:=λj c=>by
 have d:=List.any_eq_false.1 h (l[j]'c) (List.getElem_mem c);have e:gD l j=l[j]'c:=by simp[gD,List.getD,c]
 rw[e];simpa using d
theorem aAr{xs fs:LD}(h:mC xs fs=true):∀j,j<fs.length->aCF (gD fs j):=λj g m l i f=>by
 unfold mC at h;have d:fs.any qI=false:=by
  cases e:fs.any qI with
  |false=>rfl
  |true=>rw[e,Bool.not_true,Bool.and_false]at h;cases h
 have c:=XT d j g;unfold qI at c;simp only[Bool.or_eq_false_iff]at c;exact aCG (XT (XT c.2.2 m l) i f)
section
variable(xs gs ts fs:LD)
theorem N9(c d nf nb:Int)(bs ins:LD)(G:cE ins)(H:∀j,j<ins.length->i3 (gD ins j)):
  fV pO 8 [.l bs,.i (ins.length:Int),.i c,.i nf,.i nb,.l fs,.i 0,.i d,.l ins,.l xs,.l gs,.l ts,.l fs] (bif ins.any (ER xs.length gs.length ts.length fs.length)then(0,[.l bs,.i c,.i nf,.b false,.i nb,.l fs,.i d,.l xs,.l gs,.l ts,.l fs])else(1,[.l bs,.i c,.i nf,.i nb,.l fs,.i d,.l xs,.l gs,.l ts,.l fs])):=by
 refine HT uB (λj=>[.l bs,.i (ins.length:Int),.i c,.i nf,.i nb,.l fs,.i (j:Int),.i d,.l ins,.l xs,.l gs,.l ts,.l fs]) ins (ER xs.length gs.length ts.length fs.length) (λj r=>?_) ?_
 ·refine oT (aV r) (oT (aE r) ?_);have m:=nx r G [.l bs,.i (ins.length:Int),.i c,.i nf,.i nb,.l fs] [.i d,.l ins,.l xs,.l gs,.l ts,.l fs];have key:∀{op s:Int}{n:Int},uL xs.length gs.length ts.length fs.length op=n->(aQ s 0||cK n s)=(aQ s 0||cK (uL xs.length gs.length ts.length fs.length op) s):=λh=>by rw[h]
  have y:∀(C:uL xs.length gs.length ts.length fs.length (vI (gD ins j) 0)=fs.length),O2 pO (ER xs.length gs.length ts.length fs.length (gD ins j)) (CD [.l bs,.i (ins.length:Int),.i c,.i nf,.i nb,.l fs,.i (j:Int),.i d,.l ins,.l xs,.l gs,.l ts,.l fs]) (0,[.l bs,.i c,.i nf,.b false,.i nb,.l fs,.i d,.l xs,.l gs,.l ts,.l fs]) [.l bs,.i (ins.length:Int),.i c,.i nf,.i nb,.l fs,.i ((j+1:Nat):Int),.i d,.l ins,.l xs,.l gs,.l ts,.l fs]:=λC=>by unfold CD;exact oE (key C) rfl m
  have F:∀(f:aD (vI (gD ins j) 0) 2=false)(g:aD (vI (gD ins j) 0) 22=false),O2 pO (ER xs.length gs.length ts.length fs.length (gD ins j)) (CC [.l bs,.i (ins.length:Int),.i c,.i nf,.i nb,.l fs,.i (j:Int),.i d,.l ins,.l xs,.l gs,.l ts,.l fs]) (0,[.l bs,.i c,.i nf,.b false,.i nb,.l fs,.i d,.l xs,.l gs,.l ts,.l fs]) [.l bs,.i (ins.length:Int),.i c,.i nf,.i nb,.l fs,.i ((j+1:Nat):Int),.i d,.l ins,.l xs,.l gs,.l ts,.l fs]:=λf g=>by have e:=aEX (nx:=xs.length) (ng:=gs.length) (nt:=ts.length) (nf:=fs.length) f g;unfold CC;refine oX (λl=>oE (key (e.trans (congrArg (λb=>bif b then(gs.length:Int)else _) l))) rfl m) (λt=>?_);have e:=e.trans (congrArg (λb=>bif b then(gs.length:Int)else _) t);refine oX (λl=>oE (key (e.trans (congrArg (λb=>bif b then(xs.length:Int)else _) l))) rfl m) (λu=>?_);have e:=e.trans (congrArg (λb=>bif b then(xs.length:Int)else _) u);refine oX (λl=>oE (key (e.trans (congrArg (λb=>bif b then(ts.length:Int)else _) l))) rfl m) (λv=>?_);have J:vI (gD ins j) 3=0:=H j r f g t u v;have e:=e.trans (congrArg (λb=>bif b then(ts.length:Int)else _) v);refine oE ?_ rfl m;unfold ER;rw[e];show(aQ (vI (gD ins j) 3) 0||cK (bJ .i64 (vI (gD ins j) 3) 1) (vI (gD ins j) 3))=_;rw[J];rfl
  refine oX (λf=>oT f (y (aEW f))) (λf=>oX (λg=>y (aCE g)) (λg=>F f g))
 ·exact aJ (aX _) (bH rfl)
theorem O3(c nf:Int)(bs:LD)(g:cE bs)(f:∀j,j<bs.length->d8 (gD bs j))(h:∀e,e<bs.length->∀j,j<(gD bs e).els.length->i3 (gD (gD bs e).els j)):
  fV pO 6 [.l bs,.i 0,.i nf,.i (bs.length:Int),.l fs,.i c,.l xs,.l gs,.l ts,.l fs] (bif bs.any (XS xs.length gs.length ts.length fs.length)then(0,[.i nf,.b false,.l fs,.i c,.l xs,.l gs,.l ts,.l fs])else(1,[.i nf,.l fs,.i c,.l xs,.l gs,.l ts,.l fs])):=by
 refine HT uB (λj=>[.l bs,.i (j:Int),.i nf,.i (bs.length:Int),.l fs,.i c,.l xs,.l gs,.l ts,.l fs]) bs (XS xs.length gs.length ts.length fs.length) (λj d=>?_) ?_
 ·exact oT (aV d) (oT (aE d) (oL (N9 xs gs ts fs j c nf bs.length bs (gD bs j).els (f j d).ins (h j d)) rfl (congrArg IX.again (nx d g [.l bs] [.i nf,.i (bs.length:Int),.l fs,.i c,.l xs,.l gs,.l ts,.l fs]).symm)))
 ·exact aJ (aX _) (bH rfl)
theorem O4(h:cE fs)(d:∀j,j<fs.length->Lc (gD fs j))(e:∀j,j<fs.length->aCF (gD fs j)):
  fV pO 4 [.i (fs.length:Int),.l fs,.i 0,.l xs,.l gs,.l ts,.l fs] (bif fs.any (GE xs.length gs.length ts.length fs.length)then(0,[.b false])else(1,[])):=by
 refine HT uB (λj=>[.i (fs.length:Int),.l fs,.i (j:Int),.l xs,.l gs,.l ts,.l fs]) fs (GE xs.length gs.length ts.length fs.length) (λj c=>?_) ?_
 ·exact oT (aV c) (oT (aE c) (oL (O3 xs gs ts fs j fs.length (eX (gD fs j) 4) (d j c).bs (d j c).b (e j c)) rfl (congrArg IX.again (nx c h [.i (fs.length:Int),.l fs] [.l xs,.l gs,.l ts,.l fs]).symm)))
 ·exact aJ (aX _) (bH rfl)
theorem O5(l:LD)(nt c:Int)(h:cE l):
  fV pO 2 [.l ts,.i (l.length:Int),.i c,.i nt,.i 0,.l l,.l xs,.l gs,.l ts,.l fs] (bif l.any (Ll fs.length)then(0,[.l ts,.i c,.b false,.i nt,.l xs,.l gs,.l ts,.l fs])else(1,[.l ts,.i c,.i nt,.l xs,.l gs,.l ts,.l fs])):=by
 refine HT uB (λj=>[.l ts,.i (l.length:Int),.i c,.i nt,.i (j:Int),.l l,.l xs,.l gs,.l ts,.l fs]) l (Ll fs.length) (λj d=>?_) ?_
 ·exact oT (aV d) (oT (aE d) (oE rfl rfl (nx d h [.l ts,.i (l.length:Int),.i c,.i nt] [.l l,.l xs,.l gs,.l ts,.l fs])))
 ·exact aJ (aX _) (bH rfl)
theorem O6(h:cE ts)(d:∀j,j<ts.length->cE (eX (gD ts j) 1)):
  fV pO 0 [.l ts,.i 0,.i (ts.length:Int),.l xs,.l gs,.l ts,.l fs] (bif ts.any (CG fs.length)then(0,[.b false,.l xs,.l gs,.l ts,.l fs])else(1,[.l xs,.l gs,.l ts,.l fs])):=by
 refine HT uB (λj=>[.l ts,.i (j:Int),.i (ts.length:Int),.l xs,.l gs,.l ts,.l fs]) ts (CG fs.length) (λj c=>?_) ?_
 ·exact oT (aV c) (oT (aE c) (oL (O5 xs gs ts fs (eX (gD ts j) 1) ts.length j (d j c)) rfl (congrArg IX.again (nx c h [.l ts] [.i (ts.length:Int),.l xs,.l gs,.l ts,.l fs]).symm)))
 ·exact aJ (aX _) (bH rfl)
theorem Zl(h:Zi xs gs ts fs)(f:mC xs fs=true):iQ E aW sites Kb [.l [.l xs,.l gs,.l ts,.l fs]] (.b (GF xs gs ts fs)) []:=by
 refine bA uB (by rfl) rfl ?_;show Ev _ _ (TQ _) _;unfold TQ;have c:=O6 xs gs ts fs h.ht h.t;have d:=O4 xs gs ts fs h.hf h.f (aAr f);unfold GF;cases e1:ts.any (CG fs.length)with
 |true=>rw[e1]at c;exact aP c (bG (bI rfl rfl))
 |false=>
 rw[e1]at c;cases e:fs.any (GE xs.length gs.length ts.length fs.length)with
 |true=>rw[e]at d;exact aP c (eO (bG (aP d (bG (bI rfl rfl)))))
 |false=>rw[e]at d;exact aP c (eO (bG (aP d (eO (bG (bI rfl rfl))))))
end
end Go.Eng.Q

namespace Go.Eng.Q
open Go.Eng
def LM(c:Int):Bool:=((aQ c 97||aQ 122 c)&&(aQ c 48||aQ 57 c))&&!(aD c 95)
def Zm(s:List UInt8):Bool:=aQ s.length 1||aQ 12 s.length
def Eo(s:List UInt8):Bool:=aQ (iZ s 0) 97||aQ 122 (iZ s 0)
def XU(s:List UInt8):Bool:=!Zm s&&(!Eo s&&!eD s.length λj=>LM (iZ s (j:Int)))
theorem aCH{s:List UInt8}(h:Zm s=false):0<s.length/\(s.length:Int)<=12:=by unfold Zm at h;simp only[Bool.or_eq_false_iff]at h;have c:=kF h.1;have d:=kF h.2;omega
theorem O7(s:List UInt8):iQ E aW sites JW [.s s] (.b (XU s)) []:=by
 refine bA Bc (by rfl) rfl ?_;show Ev _ _ (Ao _) _;unfold Ao;cases h:Zm s with
 |true=>refine aC (congrArg (λb=>(!(!b))||aA 0 s.length) h) (aC (congrArg (λb=>(!(!(b||aQ (iZ s 0) 97)))||aA 0 s.length) h) (aC (congrArg (λb=>(b||aQ (iZ s 0) 97)||aQ 122 (iZ s 0)) h) (bI ?_ rfl)));unfold XU;rw[h];rfl
 |false=>
  obtain⟨l,m⟩:=aCH h;have g:aA 0 s.length=true:=aE (j:=0) l;refine aC (aH g) (aC (aH g) ?_);cases c:Eo s with
  |true=>refine aC ((congrArg (λb=>(b||aQ (iZ s 0) 97)||aQ 122 (iZ s 0)) h).trans c) (bI ?_ rfl);unfold XU;rw[h,c];rfl
  |false=>
   refine aJ ((congrArg (λb=>(b||aQ (iZ s 0) 97)||aQ 122 (iZ s 0)) h).trans c) ?_;have d:fV Bb 0 [.s s,.i 0] (bif eD s.length (λj=>LM (iZ s (j:Int)))then(0,[.b false])else(1,[])):=by
    refine yC Bc (λj=>[.s s,.i (j:Int)]) s.length (λj=>LM (iZ s (j:Int))) (λj e=>?_) ?_
    ·exact oT (aV e) (oT (aE e) (oE rfl rfl (nx e (by omega) [.s s] [])))
    ·exact aJ (aX _) (bH rfl)
   unfold XU;rw[h,c];cases f:eD s.length (λj=>LM (iZ s (j:Int)))with
   |true=>rw[f]at d;exact aP d (bG (bI rfl rfl))
   |false=>rw[f]at d;exact aP d (eO (bG (bI rfl rfl)))
def Uv(s:List UInt8)(j:Nat):Bool:=(!(cK 97 (iZ s j)&&cK (iZ s j) 122))&&(aD (j:Int) 0||((!(aD (iZ s j) 95))&&(aQ (iZ s j) 48||aQ 57 (iZ s j))))
theorem aCI(s:List UInt8):Uv s 0=Eo s:=by unfold Uv Eo;rw[show aD ((0:Nat):Int) 0=true from rfl,Bool.true_or,Bool.and_true];unfold aQ;rw[Bool.not_and];rfl
theorem aFz(s:List UInt8){j:Nat}(h:j≠0):Uv s j=LM (iZ s j):=by
 unfold Uv LM;have c:aD (j:Int) 0=false:=by rw[eG];simpa using h
 rw[c,Bool.false_or];unfold aQ;cases cK 97 (iZ s j)<;>cases cK (iZ s j) 122<;>cases aD (iZ s j) 95<;>simp
theorem aAs{c:Int}(h:(aQ c 97||aQ 122 c)=false):LM c=false:=by unfold LM;rw[h];rfl
theorem aCJ(s:List UInt8)(h:0<s.length):eD s.length (Uv s)=(Eo s||eD s.length λj=>LM (iZ s (j:Int))):=by
 cases c:Eo s with
 |true=>
  rw[Bool.true_or];cases d:eD s.length (Uv s)with
  |true=>rfl
  |false=>have:=bQ.1 d 0 h;rw[aCI,c]at this;cases this
 |false=>
  rw[Bool.false_or];have f:∀j,Uv s j=LM (iZ s (j:Int)):=λj=>by
   by_cases e:j=0
   ·subst e;rw[aCI,c];exact(aAs c).symm
   ·exact aFz s e
  congr 1;exact funext f
theorem Lm(s:List UInt8):iQ E aW sites Ui [.s s] (.b (XU s)) []:=by
 refine bA Bg (by rfl) rfl ?_;show Ev _ _ (Ar _) _;unfold Ar;cases h:Zm s with
 |true=>refine aC h (bI ?_ rfl);unfold XU;rw[h];rfl
 |false=>
  refine aJ h ?_;obtain⟨f,l⟩:=aCH h;have c:fV Bf 0 [.s s,.i (s.length:Int),.i 0] (bif eD s.length (Uv s)then(0,[.b false])else(1,[])):=by
   refine yC Bg (λj=>[.s s,.i (s.length:Int),.i (j:Int)]) s.length (Uv s) (λj d=>?_) ?_
   ·exact oT (aV d) (oT (aE d) (oE rfl rfl (nx d (by omega) [.s s,.i (s.length:Int)] [])))
   ·exact aJ (aX _) (bH rfl)
  rw[aCJ s f]at c;have g:XU s=!(Eo s||eD s.length λj=>LM (iZ s (j:Int))):=by unfold XU;rw[h,Bool.not_or];rfl
  rw[g];cases e:(Eo s||eD s.length λj=>LM (iZ s (j:Int)))with
  |true=>rw[e]at c;exact aP c (bG (bI rfl rfl))
  |false=>rw[e]at c;exact aP c (eO (bG (bI rfl rfl)))
def kT(x:D):List UInt8:=D.toS (D.fld x 0)
def aHC(s:List UInt8)(m:LD):Int:=bJ .i64 (D.toI (yF (.int .i64) (iI .str (.s s) 0 m))) 1
def LN(s:List UInt8)(m:LD):LD:=CZ (.s s) (.i (aHC s m)) m (iI .str (.s s) 0 m)
def RU(s:List UInt8)(m:LD):Bool:=!XU s||aQ 1 (D.toI (yF (.int .i64) (iI .str (.s s) 0 (LN s m))))
def gH(q:Nat×LD)(s:List UInt8):Nat×LD:=(bif RU s q.2 then q.1+1 else q.1,LN s q.2)
theorem aFA{n:Nat}(c:(n:Int)<=9223372036854775807):bJ .i64 (n:Int) 0=(n:Int):=by rw[BU _ _ _ (by simp[UU,UV]),vM (by omega) (by omega)];omega
theorem CH(l:LD)(q:Nat×LD):(l.map kT).foldl gH q=l.foldl (λq x=>gH q (kT x)) q:=by rw[List.foldl_map]
section
variable(xs gs ts fs:LD)
theorem XV(q:Nat×LD)(s:List UInt8):(gH q s).1 <=q.1+1:=by
 unfold gH;cases RU s q.2 with
 |true=>exact Nat.le_refl _
 |false=>exact Nat.le_succ _
theorem XW(b j n:Nat)(l:(n:Int)+1<=9223372036854775807)(s:List UInt8)(m:LD)(f:Int->LD->LD)(d:FD)(r:LD)(g:r=f (gH (n,m) s).1 (gH (n,m) s).2):
  rO E aW sites d (.call JW [.s s] 0 λh _=>.ask ((!(D.toB h))||aQ 1 (D.toI (yF (.int .i64) (iI .str (.s s) 0 (CZ (.s s) (.i (bJ .i64 (D.toI (yF (.int .i64) (iI .str (.s s) 0 m))) 1)) m (iI .str (.s s) 0 m))))))
   (.again (f (bJ .i64 (n:Int) 1) (LN s m))) (.again (f (bJ .i64 (n:Int) 0) (LN s m)))) (.again r):=by
 subst g;refine bK (O7 s) rfl ?_;have e:bJ .i64 (n:Int) 1=((n+1:Nat):Int):=by rw[BU _ _ _ (by simp[UU,UV]),vM (by omega) (by omega)];omega
 rw[e,aFA (by omega)];unfold gH;cases c:RU s m with
 |true=>exact aC c (aO rfl)
 |false=>exact aJ c (aO rfl)
theorem O8(m:LD)(h:cE xs)(n:Nat)(e:(n:Int)+xs.length<=9223372036854775807):
  fV nR 0 [.i 0,.i (n:Int),.l xs,.l gs,.l ts,.l fs,.l m] (0,[.i (((xs.map kT).foldl gH (n,m)).1 :Int),.l xs,.l gs,.l ts,.l fs,.l ((xs.map kT).foldl gH (n,m)).2]):=by
 rw[CH];refine GC zB (λj(q:Nat×LD)=>[.i (j:Int),.i (q.1:Int),.l xs,.l gs,.l ts,.l fs,.l q.2]) xs (λq x=>gH q (kT x)) (λq=>(0,[.i (q.1:Int),.l xs,.l gs,.l ts,.l fs,.l q.2])) (λj q=>q.1<=n+j) (λj q c d=>⟨Nat.le_trans (XV _ _) (by omega),?_⟩) (λq d=>?_) (s0:=(n,m)) (Nat.le_refl _)
 ·refine aC (aV c) (aC (aE c) ?_);exact XW 0 j q.1 (by omega) (kT (gD xs j)) q.2 (λn m=>[.i (bJ .i64 (j:Int) 1),.i n,.l xs,.l gs,.l ts,.l fs,.l m]) nR _ (nx c h [] [.i ((gH q (kT (gD xs j))).1 :Int),.l xs,.l gs,.l ts,.l fs,.l (gH q (kT (gD xs j))).2])
 ·exact aJ (aX _) (bH rfl)
theorem O9(m:LD)(h:cE gs)(n:Nat)(e:(n:Int)+gs.length<=9223372036854775807):
  fV nR 2 [.i (n:Int),.i 0,.l xs,.l gs,.l ts,.l fs,.l m] (0,[.i (((gs.map kT).foldl gH (n,m)).1 :Int),.l xs,.l gs,.l ts,.l fs,.l ((gs.map kT).foldl gH (n,m)).2]):=by
 rw[CH];refine GC zB (λj(q:Nat×LD)=>[.i (q.1:Int),.i (j:Int),.l xs,.l gs,.l ts,.l fs,.l q.2]) gs (λq x=>gH q (kT x)) (λq=>(0,[.i (q.1:Int),.l xs,.l gs,.l ts,.l fs,.l q.2])) (λj q=>q.1<=n+j) (λj q c d=>⟨Nat.le_trans (XV _ _) (by omega),?_⟩) (λq d=>?_) (s0:=(n,m)) (Nat.le_refl _)
 ·refine aC (aV c) (aC (aE c) ?_);exact XW 0 j q.1 (by omega) (kT (gD gs j)) q.2 (λn m=>[.i n,.i (bJ .i64 (j:Int) 1),.l xs,.l gs,.l ts,.l fs,.l m]) nR _ (nx c h [.i ((gH q (kT (gD gs j))).1 :Int)] [.l xs,.l gs,.l ts,.l fs,.l (gH q (kT (gD gs j))).2])
 ·exact aJ (aX _) (bH rfl)
theorem P0(m:LD)(h:cE ts)(n:Nat)(e:(n:Int)+ts.length<=9223372036854775807):
  fV nR 4 [.i 0,.i (n:Int),.l xs,.l gs,.l ts,.l fs,.l m] (0,[.i (((ts.map kT).foldl gH (n,m)).1 :Int),.l xs,.l gs,.l ts,.l fs,.l ((ts.map kT).foldl gH (n,m)).2]):=by
 rw[CH];refine GC zB (λj(q:Nat×LD)=>[.i (j:Int),.i (q.1:Int),.l xs,.l gs,.l ts,.l fs,.l q.2]) ts (λq x=>gH q (kT x)) (λq=>(0,[.i (q.1:Int),.l xs,.l gs,.l ts,.l fs,.l q.2])) (λj q=>q.1<=n+j) (λj q c d=>⟨Nat.le_trans (XV _ _) (by omega),?_⟩) (λq d=>?_) (s0:=(n,m)) (Nat.le_refl _)
 ·refine aC (aV c) (aC (aE c) ?_);exact XW 0 j q.1 (by omega) (kT (gD ts j)) q.2 (λn m=>[.i (bJ .i64 (j:Int) 1),.i n,.l xs,.l gs,.l ts,.l fs,.l m]) nR _ (nx c h [] [.i ((gH q (kT (gD ts j))).1 :Int),.l xs,.l gs,.l ts,.l fs,.l (gH q (kT (gD ts j))).2])
 ·exact aJ (aX _) (bH rfl)
theorem P1(m:LD)(h:cE fs)(n:Nat)(e:(n:Int)+fs.length<=9223372036854775807):
  fV nR 6 [.i (n:Int),.i 0,.l xs,.l gs,.l ts,.l fs,.l m] (0,[.i (((fs.map kT).foldl gH (n,m)).1 :Int)]):=by
 rw[CH];refine GC zB (λj(q:Nat×LD)=>[.i (q.1:Int),.i (j:Int),.l xs,.l gs,.l ts,.l fs,.l q.2]) fs (λq x=>gH q (kT x)) (λq=>(0,[.i (q.1:Int)])) (λj q=>q.1<=n+j) (λj q c d=>⟨Nat.le_trans (XV _ _) (by omega),?_⟩) (λq d=>?_) (s0:=(n,m)) (Nat.le_refl _)
 ·refine aC (aV c) (aC (aE c) ?_);exact XW 0 j q.1 (by omega) (kT (gD fs j)) q.2 (λn m=>[.i n,.i (bJ .i64 (j:Int) 1),.l xs,.l gs,.l ts,.l fs,.l m]) nR _ (nx c h [.i ((gH q (kT (gD fs j))).1 :Int)] [.l xs,.l gs,.l ts,.l fs,.l (gH q (kT (gD fs j))).2])
 ·exact aJ (aX _) (bH rfl)
end
def XX(xs gs ts fs:LD):List (List UInt8):=((xs.map kT++gs.map kT)++ts.map kT)++fs.map kT
def Zn:List (List UInt8)->LD->Bool
 |[],_=>true
 |s::l,m=>!RU s m&&Zn l (LN s m)
def OI(xs gs ts fs:LD):Bool:=Zn (XX xs gs ts fs) []
theorem XY:∀(l:List (List UInt8))(n:Nat)(m:LD),n<=(l.foldl gH (n,m)).1 /\(l.foldl gH (n,m)).1 <=n+l.length
 |[],n,m=>⟨Nat.le_refl _,Nat.le_refl _⟩
 |s::l,n,m=>by
  rw[List.foldl_cons];have d:=XV (n,m) s;have e:n<=(gH (n,m) s).1 :=by unfold gH;cases RU s m<;>simp
  have c:=XY l (gH (n,m) s).1 (gH (n,m) s).2;simp only[List.length_cons];simp only at d;exact⟨Nat.le_trans e c.1,Nat.le_trans c.2 (by omega)⟩
theorem i4:∀(l:List (List UInt8))(n:Nat)(m:LD),((l.foldl gH (n,m)).1 =n<->Zn l m=true)
 |[],n,m=>⟨λ_=>rfl,λ_=>rfl⟩
 |s::l,n,m=>by
  rw[List.foldl_cons];unfold Zn;cases h:RU s m with
  |true=>
   have c:gH (n,m) s=(n+1,LN s m):=by simp only[gH,h,cond_true]
   rw[c];have:=(XY l (n+1) (LN s m)).1;constructor
   ·intro d;omega
   ·intro d;cases d
  |false=>
   have c:gH (n,m) s=(n,LN s m):=by simp only[gH,h,cond_false]
   rw[c,i4 l n (LN s m)];simp
theorem aD6(xs gs ts fs:LD)(q:Nat×LD):(XX xs gs ts fs).foldl gH q=(fs.map kT).foldl gH ((ts.map kT).foldl gH ((gs.map kT).foldl gH ((xs.map kT).foldl gH q))):=by unfold XX;rw[List.foldl_append,List.foldl_append,List.foldl_append]
theorem Zo(xs gs ts fs:LD)(v:(xs.length:Int)+gs.length+ts.length+fs.length<=9223372036854775807):iQ E aW sites Jw [.l [.l xs,.l gs,.l ts,.l fs]] (.b (OI xs gs ts fs)) []:=by refine bA zB (by rfl) rfl ?_;show Ev _ _ (UC _) _;unfold UC;have c:=i4 (XX xs gs ts fs) 0 [];rw[aD6]at c;have r:=(XY (xs.map kT) 0 []).2;have j:=O8 xs gs ts fs [] (by unfold cE;omega) 0 (by omega);generalize(xs.map kT).foldl gH (0,[])=q0 at r j c;obtain⟨n0,f⟩:=q0;have d:=(XY (gs.map kT) n0 f).2;simp only[List.length_map]at r d;have l:=O9 xs gs ts fs f (by unfold cE;omega) n0 (by omega);generalize(gs.map kT).foldl gH (n0,f)=q1 at d l c;obtain⟨h,g⟩:=q1;have e:=(XY (ts.map kT) h g).2;simp only[List.length_map]at d e;have m:=P0 xs gs ts fs g (by unfold cE;omega) h (by omega);generalize(ts.map kT).foldl gH (h,g)=q2 at e m c;obtain⟨t,s⟩:=q2;simp only at e;have u:=P1 xs gs ts fs s (by unfold cE;omega) t (by omega);refine aP j (bG (aP l (bG (aP m (bG (aP u (bG (bI (congrArg D.b ?_) rfl))))))));unfold OI;rw[Bool.eq_iff_iff,<-c];show _<->aD (((fs.map kT).foldl gH (t,s)).1 :Int) 0=true;rw[bT];omega
end Go.Eng.Q

namespace Go.Eng.Q
open Go.Eng
theorem i5{n:Nat}(h:n<=10000):jP (n+1) 16=true:=by unfold jP;rw[Bool.and_eq_true,Nat.ble_eq,Nat.ble_eq];omega
def QT(q:LD)(l:LD):LD:=l.foldl (λq x=>q++[.s (kT x)]) q
theorem XZ:∀(l q:LD),QT q l=q++(l.map kT).map D.s
 |[],q=>(List.append_nil q).symm
 |x::l,q=>by show QT (q++[.s (kT x)]) l=_;rw[XZ l];simp
section
variable(xs gs ts fs:LD)
theorem P2(q:LD)(h:cE xs)(d:q.length+xs.length<=10000):
  fV tX 0 [.i (xs.length:Int),.l xs,.i 0,.l xs,.l gs,.l ts,.l fs,.l q] (0,[.l xs,.l gs,.l ts,.l fs,.l (QT q xs)]):=by
 refine GC tY (λj(q:LD)=>[.i (xs.length:Int),.l xs,.i (j:Int),.l xs,.l gs,.l ts,.l fs,.l q]) xs (λq x=>q++[.s (kT x)]) (λq=>(0,[.l xs,.l gs,.l ts,.l fs,.l q])) (λj p=>p.length=q.length+j) (λj q c d=>⟨by rw[List.length_append,d];rfl,?_⟩) (λq d=>?_) (s0:=q) rfl
 ·exact aC (aV c) (aC (aE c) (aC (i5 (n:=q.length) (by omega)) (aO (nx c h [.i (xs.length:Int),.l xs] [.l xs,.l gs,.l ts,.l fs,.l (q++[D.s (kT (gD xs j))])]))))
 ·exact aJ (aX _) (bH rfl)
theorem P3(q:LD)(h:cE gs)(d:q.length+gs.length<=10000):
  fV tX 2 [.i 0,.l gs,.i (gs.length:Int),.l xs,.l gs,.l ts,.l fs,.l q] (0,[.l xs,.l gs,.l ts,.l fs,.l (QT q gs)]):=by
 refine GC tY (λj(q:LD)=>[.i (j:Int),.l gs,.i (gs.length:Int),.l xs,.l gs,.l ts,.l fs,.l q]) gs (λq x=>q++[.s (kT x)]) (λq=>(0,[.l xs,.l gs,.l ts,.l fs,.l q])) (λj p=>p.length=q.length+j) (λj q c d=>⟨by rw[List.length_append,d];rfl,?_⟩) (λq d=>?_) (s0:=q) rfl
 ·exact aC (aV c) (aC (aE c) (aC (i5 (n:=q.length) (by omega)) (aO (nx c h [] [.l gs,.i (gs.length:Int),.l xs,.l gs,.l ts,.l fs,.l (q++[D.s (kT (gD gs j))])]))))
 ·exact aJ (aX _) (bH rfl)
theorem P4(q:LD)(h:cE ts)(d:q.length+ts.length<=10000):
  fV tX 4 [.i (ts.length:Int),.i 0,.l ts,.l xs,.l gs,.l ts,.l fs,.l q] (0,[.l xs,.l gs,.l ts,.l fs,.l (QT q ts)]):=by
 refine GC tY (λj(q:LD)=>[.i (ts.length:Int),.i (j:Int),.l ts,.l xs,.l gs,.l ts,.l fs,.l q]) ts (λq x=>q++[.s (kT x)]) (λq=>(0,[.l xs,.l gs,.l ts,.l fs,.l q])) (λj p=>p.length=q.length+j) (λj q c d=>⟨by rw[List.length_append,d];rfl,?_⟩) (λq d=>?_) (s0:=q) rfl
 ·exact aC (aV c) (aC (aE c) (aC (i5 (n:=q.length) (by omega)) (aO (nx c h [.i (ts.length:Int)] [.l ts,.l xs,.l gs,.l ts,.l fs,.l (q++[D.s (kT (gD ts j))])]))))
 ·exact aJ (aX _) (bH rfl)
theorem P5(q:LD)(h:cE fs)(d:q.length+fs.length<=10000):
  fV tX 6 [.l fs,.i 0,.i (fs.length:Int),.l q] (0,[.l (QT q fs)]):=by
 refine GC tY (λj(q:LD)=>[.l fs,.i (j:Int),.i (fs.length:Int),.l q]) fs (λq x=>q++[.s (kT x)]) (λq=>(0,[.l q])) (λj p=>p.length=q.length+j) (λj q c d=>⟨by rw[List.length_append,d];rfl,?_⟩) (λq d=>?_) (s0:=q) rfl
 ·exact aC (aV c) (aC (aE c) (aC (i5 (n:=q.length) (by omega)) (aO (nx c h [.l fs] [.i (fs.length:Int),.l (q++[D.s (kT (gD fs j))])]))))
 ·exact aJ (aX _) (bH rfl)
end
theorem aCK:∀(l:List (List UInt8))(j:Nat)(m:LD),d7 (λ_ x m=>bif RU x.toS m then Sum.inl (0,[D.b false])else .inr (LN x.toS m)) (λ_=>(1,[])) j (l.map D.s) m=bif Zn l m then(1,[])else(0,[.b false])
 |[],_,_=>rfl
 |s::l,j,m=>by
  rw[List.map_cons];unfold Zn d7;have e:D.toS (D.s s)=s:=rfl;cases h:RU s m with
  |true=>simp only[e,h,cond_true,Bool.not_true,Bool.false_and,cond_false]
  |false=>simp only[e,h,cond_false,Bool.not_false,Bool.true_and];exact aCK l (j+1) (LN s m)
theorem P6(all:List (List UInt8))(h:all.length<=10000):
  fV tX 8 [.i ((all.map D.s).length:Int),.i 0,.l [],.l (all.map D.s)] (bif Zn all []then(1,[])else(0,[.b false])):=by
 rw[<-aCK all 0 []];have f:cE (all.map D.s):=by unfold cE;rw[List.length_map];omega
 refine Kv tY (λj(m:LD)=>[.i ((all.map D.s).length:Int),.i (j:Int),.l m,.l (all.map D.s)]) (all.map D.s) _ _ (λ_ _=>True) (λj m d _=>⟨λt ht=>?_,λg e=>⟨trivial,?_⟩⟩) (λm _=>?_) trivial
 ·cases c:RU (gD (all.map D.s) j).toS m with
  |false=>rw[c]at ht;simp at ht
  |true=>rw[c]at ht;simp only[cond_true,Sum.inl.injEq]at ht;subst ht;exact aC (aV d) (aC (aE d) (bK (Lm (gD (all.map D.s) j).toS) rfl (aC c (bH rfl))))
 ·cases c:RU (gD (all.map D.s) j).toS m with
  |true=>rw[c]at e;simp at e
  |false=>rw[c]at e;simp only[cond_false,Sum.inr.injEq]at e;subst e;exact aC (aV d) (aC (aE d) (bK (Lm (gD (all.map D.s) j).toS) rfl (aJ c (aO (nx d f [.i ((all.map D.s).length:Int)] [.l (LN (gD (all.map D.s) j).toS m),.l (all.map D.s)])))))
 ·exact aJ (aX _) (bH rfl)
theorem Zp(xs gs ts fs:LD)(l:xs.length+gs.length+ts.length+fs.length<=10000):iQ E aW sites Ka [.l [.l xs,.l gs,.l ts,.l fs]] (.b (OI xs gs ts fs)) []:=by
 refine bA tY (by rfl) rfl ?_;show Ev _ _ (TH _) _;unfold TH;have d:=P2 xs gs ts fs [] (by unfold cE;omega) (by simp;omega);have f:=P3 xs gs ts fs (QT [] xs) (by unfold cE;omega) (by simp[XZ];omega);have g:=P4 xs gs ts fs (QT (QT [] xs) gs) (by unfold cE;omega) (by simp[XZ];omega);have j:=P5 fs (QT (QT (QT [] xs) gs) ts) (by unfold cE;omega) (by simp[XZ];omega);have e:QT (QT (QT (QT [] xs) gs) ts) fs=(XX xs gs ts fs).map D.s:=by simp[XZ,XX]
 have c:=P6 (XX xs gs ts fs) (by simp[XX];omega);rw[<-e]at c;refine aP d (bG (aP f (bG (aP g (bG (aP j (bG ?_)))))));unfold OI;cases h:Zn (XX xs gs ts fs) []with
 |true=>rw[h]at c;exact aP c (eO (bG (bI rfl rfl)))
 |false=>rw[h]at c;exact aP c (bG (bI rfl rfl))
end Go.Eng.Q

namespace Go.Eng.Q
open Go.Eng
def fF(l:LD):Prop:=l.length<=10000
theorem fF.sane{l:LD}(h:fF l):cE l:=by unfold fF at h;unfold cE;omega
structure Zq(x:D):Prop where
 as1:fF (eX x 5)
 is1:fF (eX x 6)
structure Zr(b:D):Prop where
 ins:fF b.els
 i:∀j,j<b.els.length->Zq (gD b.els j)
structure Ln(f:D):Prop where
 ps:fF (eX f 2)
 bs:fF (eX f 4)
 b:∀j,j<(eX f 4).length->Zr (gD (eX f 4) j)
theorem Ln.sane{f:D}(h:Ln f):Lc f:=⟨h.ps.sane,h.bs.sane,λj c=>⟨(h.b j c).ins.sane⟩⟩
def fZ(bs:LD):Prop:=fF bs/\∀j,j<bs.length->Zr (gD bs j)
theorem Ln.bbs{f:D}(h:Ln f):fZ (eX f 4):=⟨h.bs,h.b⟩
abbrev oK(nm:List UInt8)(o:Bool)(ps:LD)(r:Int)(bs:LD):D:=.l [.s nm,.b o,.l ps,.i r,.l bs]
abbrev iD(n:Nat):D:=.i (n:Int)
theorem fG{n k:Nat}(h:n<=1000000000)(c:k<=1000):jP n k=true:=by unfold jP;rw[Bool.and_eq_true,Nat.ble_eq,Nat.ble_eq];have:n*k<=1000000000*1000:=Nat.mul_le_mul h c;omega
theorem KR{a b:Int}(h:b<=a):aQ a b=false:=by unfold aQ;rw[(fM b a).2 h];rfl
theorem Np{a b:Int}(h:a<b):aQ a b=true:=by rw[eN];simpa using h
theorem jK{a b:Int}(h:a<=b):cK a b=true:=(fM a b).2 h
theorem Uw{a b:Int}(h:b<a):cK a b=false:=by rw[eR];simpa using h
theorem qF(a:Int):aD a a=true:=(bT a a).2 rfl
theorem gR{a b:Int}(h:a≠b):aD a b=false:=by rw[eG];simpa using h
theorem ES{n:Nat}(h:0<n)(c:n<=1000000):bE .i64 ((n:Int)-1)=((n-1:Nat):Int):=by rw[vM (by omega) (by omega)];omega
theorem Lp{n:Nat}(h:0<n)(c:n<=1000000):Int.toNat (bE .i64 ((n:Int)-1))=n-1:=by rw[ES h c];rfl
def gG(b:D):D:=gD b.els (b.els.length-1)
def aCL(bs:LD)(b:Int):Bool:=((cK 0 b&&aQ b bs.length)&&!(aD (gD bs b.toNat).els.length 0))&&(aD (vI (gG (gD bs b.toNat)) 0) 27||aD (vI (gG (gD bs b.toNat)) 0) 28)
def BP(nb:Nat)(out:List Nat)(x:D):Bool:=(cK 0 x.toI&&aQ x.toI nb)&&!(decide (x.toI.toNat∈out))
def kU(nb:Nat)(out:List Nat)(x:D):List Nat:=bif BP nb out x then out++[x.toI.toNat]else out
def aT(bs:LD)(b:Int):List Nat:=bif aCL bs b then(eX (gG (gD bs b.toNat)) 6).foldl (kU bs.length) []else[]
theorem aFB(out:List Nat)(n:Nat):((out.map iD).any λx=>aD x.toI (n:Int))=decide (n∈out):=by
 rw[Bool.eq_iff_iff];simp only[List.any_map,List.any_eq_true,decide_eq_true_eq,Function.comp];constructor
 ·rintro⟨x,c,d⟩;have:((x:Nat):Int)=n:=(bT _ _).1 d;have e:x=n:=by omega
  subst e;exact c
 ·intro h;exact⟨n,h,qF _⟩
theorem aCM(l:LD)(n:Int)(f:cE l):iQ E aW sites aCB [.l l,.i n] (.b (l.any λx=>aD x.toI n)) []:=by
 refine bA Uo (by rfl) rfl ?_;show Ev _ _ (Uk _) _;unfold Uk;have c:fV Un 0 [.l l,.i n,.i 0] (bif l.any (λx=>aD x.toI n)then(0,[.b true])else(1,[])):=by
  refine HT Uo (λj=>[.l l,.i n,.i (j:Int)]) l (λx=>aD x.toI n) (λj d=>?_) ?_
  ·exact oT (aV d) (oT (aE d) (oE rfl rfl (nx d f [.l l,.i n] [])))
  ·exact aJ (aX _) (bH rfl)
 cases e:l.any (λx=>aD x.toI n)with
 |true=>rw[e]at c;exact aP c (bG (bI rfl rfl))
 |false=>rw[e]at c;exact aP c (eO (bG (bI rfl rfl)))
def LO(x:D):LD:=[.i (vI x 0),.i (vI x 1),.i (vI x 2),.i (vI x 3),.i (vI x 4),.l (eX x 5),.l (eX x 6)]
def RV:D:=.l [.i 0,.i 0,.i 0,.i 0,.i 0,.l [],.l []]
def mI(bs:LD)(b:Int):Bool:=(cK 0 b&&aQ b bs.length)&&!(aD (gD bs b.toNat).els.length 0)
theorem QG{bs:LD}{b:Int}(h:mI bs b=true):0<=b/\b<bs.length/\0<(gD bs b.toNat).els.length:=by
 unfold mI at h;rw[Bool.and_eq_true,Bool.and_eq_true,fM]at h;have c:¬cK (bs.length:Int) b=true:=by have:=h.1.2;unfold aQ at this;intro e;rw[e]at this;cases this
 rw[fM]at c;refine⟨h.1.1,by omega,?_⟩;rcases Nat.eq_zero_or_pos (gD bs b.toNat).els.length with e |e
 ·rw[e]at h;have:=h.2;cases this
 ·exact e
theorem P7(nm:List UInt8)(o:Bool)(ps:LD)(r:Int)(bs:LD)(b:Int)(t:fZ bs):
  iQ E aW sites Uj [oK nm o ps r bs,.i b] (bif mI bs b then .l [.l (LO (gG (gD bs b.toNat))),.b true]else .l [RV,.b false]) []:=by
 refine bA Pv (by rfl) rfl ?_;show Ev _ _ (Ak _) _;unfold Ak;cases d:(cK 0 b&&aQ b bs.length)with
 |false=>
  have g:(aQ b 0||cK (bs.length:Int) b)=true:=by
   unfold aQ at*;cases h:cK 0 b with
   |false=>rfl
   |true=>rw[h]at d;cases l:cK (bs.length:Int) b with
    |true=>rfl
    |false=>rw[l]at d;cases d
  have f:mI bs b=false:=by unfold mI;rw[d];rfl
  rw[f];exact aC (congrArg (λc=>(!(!c))||aA b bs.length) g) (aC (congrArg (λc=>c||aD (iE (gD bs b.toNat)) 0) g) (bI rfl rfl))
 |true=>
  have g:(aQ b 0||cK (bs.length:Int) b)=false:=by
   unfold aQ at*;cases h:cK 0 b with
   |false=>rw[h]at d;cases d
   |true=>rw[h]at d;cases l:cK (bs.length:Int) b with
    |true=>rw[l]at d;cases d
    |false=>rfl
  have s:aA b bs.length=true:=d;refine aC (aH s) ?_;cases j:aD (gD bs b.toNat).els.length 0 with
  |true=>
   have f:mI bs b=false:=by unfold mI;rw[j,Bool.not_true,Bool.and_false]
   rw[f];exact aC (aH j) (bI rfl rfl)
  |false=>
   have f:mI bs b=true:=by unfold mI;rw[d,j];rfl
   obtain⟨v,y,m⟩:=QG f;have u:b.toNat<bs.length:=by omega
   have ht:(gD bs b.toNat).els.length<=1000000:=by have:=(t.2 b.toNat u).ins;unfold fF at this;omega
   rw[f];refine aJ ((congrArg (λc=>c||aD (iE (gD bs b.toNat)) 0) g).trans j) (aC s (aC ?_ ?_))
   ·show aA (bE .i64 (((gD bs b.toNat).els.length:Int)-1)) (gD bs b.toNat).els.length=true;rw[ES m ht];exact aE (by omega)
   ·have e:Int.toNat (bE .i64 (((gD bs b.toNat).els.length:Int)-1))=(gD bs b.toNat).els.length-1:=Lp m ht;refine bI ?_ rfl;show D.l [.l (LO (gD (gD bs b.toNat).els ((gD bs b.toNat).els.length-1))),.b true]=D.l [.l (LO (gD (gD bs b.toNat).els (Int.toNat (bE .i64 (((gD bs b.toNat).els.length:Int)-1))))),.b true];rw[e]
theorem Zs(nb:Nat)(out:List Nat)(x:D)(h:0<=x.toI):BP nb out x=((cK 0 x.toI&&aQ x.toI nb)&&!((out.map iD).any λc=>aD c.toI x.toI)):=by unfold BP;rw[<-aFB out x.toI.toNat];congr 3;funext c;congr 1;omega
theorem Zt(nb:Nat):∀(l:LD)(out:List Nat),(l.foldl (kU nb) out).length<=out.length+l.length
 |[],_=>Nat.le_refl _
 |x::l,out=>by rw[List.foldl_cons];refine Nat.le_trans (Zt nb l _) ?_;unfold kU;cases BP nb out x<;>simp<;>omega
theorem aAt(nm:List UInt8)(o:Bool)(ps:LD)(r:Int)(bs:LD)(op ty to sym num:Int)(as1 l:LD)(v:fF l):
  fV Bm 0 [.i 0,.s nm,.b o,.l ps,.i r,.l bs,.i op,.i ty,.i to,.i sym,.i num,.l as1,.l l,.l []] (0,[.l ((l.foldl (kU bs.length) []).map iD)]):=by
 unfold fF at v;have C:cE l:=by unfold cE;omega
 refine GC Bn (λj(q:List Nat)=>[.i (j:Int),.s nm,.b o,.l ps,.i r,.l bs,.i op,.i ty,.i to,.i sym,.i num,.l as1,.l l,.l (q.map iD)]) l (kU bs.length) (λq=>(0,[.l (q.map iD)])) (λj q=>q.length<=j) (λj q m y=>⟨?_,?_⟩) (λq y=>?_) (s0:=[]) (Nat.le_refl _)
 ·unfold kU;cases BP bs.length q (gD l j)<;>simp<;>omega
 ·refine aC (aV m) (aC (aE m) ?_);have h:∀s:List Nat,[.i ((j+1:Nat):Int),.s nm,.b o,.l ps,.i r,.l bs,.i op,.i ty,.i to,.i sym,.i num,.l as1,.l l,.l (s.map iD)]=[D.i (bJ .i64 (j:Int) 1),.s nm,.b o,.l ps,.i r,.l bs,.i op,.i ty,.i to,.i sym,.i num,.l as1,.l l,.l (s.map iD)]:=λs=>nx m C [] _;cases d:(cK 0 (gD l j).toI&&aQ (gD l j).toI bs.length)with
  |false=>
   have f:BP bs.length q (gD l j)=false:=by unfold BP;rw[d];rfl
   have e:kU bs.length q (gD l j)=q:=by unfold kU;rw[f];rfl
   rw[e];exact aJ (congrArg (λc=>c&&true) d) (aJ (congrArg (λc=>c&&(!(D.toB (.i 0)))) d) (aO (h q)))
  |true=>
   have t:0<=(gD l j).toI:=by rw[Bool.and_eq_true,fM]at d;exact d.1
   have f:=Zs bs.length q (gD l j) t;refine aC (congrArg (λc=>c&&true) d) (bK (aCM (q.map iD) (gD l j).toI (by unfold cE;rw[List.length_map];omega)) rfl ?_);cases g:BP bs.length q (gD l j)with
   |true=>
    have e:kU bs.length q (gD l j)=q++[(gD l j).toI.toNat]:=by unfold kU;rw[g];rfl
    rw[e];refine aC (f.symm.trans g) ?_;unfold OD;refine aC ?_ (aO ((h _).trans ?_))
    ·show jP ((q.map iD).length+1) 8=true;rw[List.length_map];exact fG (by omega) (by omega)
    ·have u:iD (gD l j).toI.toNat=D.i (gD l j).toI:=congrArg D.i (Int.toNat_of_nonneg t);rw[List.map_append,List.map_cons,List.map_nil,u];rfl
   |false=>
    have e:kU bs.length q (gD l j)=q:=by unfold kU;rw[g];rfl
    rw[e];exact aJ (f.symm.trans g) (aO (h q))
 ·exact aJ (aX _) (bH rfl)
theorem Ux(bs:LD)(b:Int):aCL bs b=(mI bs b&&(aD (vI (gG (gD bs b.toNat)) 0) 27||aD (vI (gG (gD bs b.toNat)) 0) 28)):=rfl
theorem Lq(nm:List UInt8)(o:Bool)(ps:LD)(r:Int)(bs:LD)(b:Int)(e:fZ bs):
  iQ E aW sites Gg [oK nm o ps r bs,.i b] (.l ((aT bs b).map iD)) []:=by
 refine bA Bn (by rfl) rfl ?_;refine bK (P7 nm o ps r bs b e) rfl ?_;unfold aT;rw[Ux];cases h:mI bs b with
 |false=>exact aC rfl (bI rfl rfl)
 |true=>
  obtain⟨g,j,l⟩:=QG h;have f:=e.2 b.toNat (by omega);cases d:(aD (vI (gG (gD bs b.toNat)) 0) 27||aD (vI (gG (gD bs b.toNat)) 0) 28)with
  |false=>
   refine aC ?_ (bI rfl rfl);have c:((!(aD (vI (gG (gD bs b.toNat)) 0) 27))&&(!(aD (vI (gG (gD bs b.toNat)) 0) 28)))=true:=by rw[<-Bool.not_or,d];rfl
   exact c
  |true=>
   refine aJ ?_ ?_
   ·have c:((!(aD (vI (gG (gD bs b.toNat)) 0) 27))&&(!(aD (vI (gG (gD bs b.toNat)) 0) 28)))=false:=by rw[<-Bool.not_or,d];rfl
    exact c
   ·refine aP (aAt nm o ps r bs (vI (gG (gD bs b.toNat)) 0) (vI (gG (gD bs b.toNat)) 1) (vI (gG (gD bs b.toNat)) 2) (vI (gG (gD bs b.toNat)) 3) (vI (gG (gD bs b.toNat)) 4) (eX (gG (gD bs b.toNat)) 5) (eX (gG (gD bs b.toNat)) 6) (f.i _ (by omega)).is1) (bG (bI rfl rfl))
end Go.Eng.Q

namespace Go.Eng.Q
open Go.Eng
def aZ(n:Nat)(f:Nat->Bool):LD:=(List.range n).map λi=>.b (f i)
theorem fH(n:Nat)(f:Nat->Bool):(aZ n f).length=n:=by simp[aZ]
theorem kN{n i:Nat}(f:Nat->Bool)(h:i<n):gD (aZ n f) i=.b (f i):=by simp[gD,List.getD,aZ,h]
def tD(f:Nat->Bool)(i:Nat):Nat->Bool:=λk=>bif Nat.beq k i then true else f k
theorem kO(f:Nat->Bool)(i:Nat):tD f i i=true:=by simp[tD]
theorem CI(f:Nat->Bool){i k:Nat}(h:k≠i):tD f i k=f k:=by
 unfold tD;cases e:Nat.beq k i with
 |true=>exact absurd (Nat.eq_of_beq_eq_true e) h
 |false=>rfl
theorem zC{n i:Nat}(f:Nat->Bool)(h:i<n):(aZ n f).set i (.b true)=aZ n (tD f i):=by
 apply List.ext_getElem
 ·simp[aZ]
 ·intro k c d;rw[List.getElem_set];by_cases e:i=k
  ·subst e;simp[aZ,kO]
  ·simp[aZ,e,CI f (Ne.symm e)]
theorem mY(n:Nat):aZ n (λ_=>false)=List.replicate n (.b false):=by apply List.ext_getElem<;>simp[aZ]
theorem mZ{n:Nat}{f g:Nat->Bool}(h:∀i,i<n->f i=g i):aZ n f=aZ n g:=by
 apply List.ext_getElem
 ·simp[aZ]
 ·intro k c d;simp only[aZ,List.length_map,List.length_range]at c;simp[aZ,h k c]
def tE:Nat->(Nat->Bool)->Nat
 |0,_=>0
 |n+1,f=>tE n f+bif f n then 0 else 1
theorem Uy:∀(n:Nat){f g:Nat->Bool},(∀i,f i=true->g i=true)->tE n g<=tE n f
 |0,_,_,_=>Nat.le_refl _
 |n+1,f,g,h=>by
  have:=Uy n h;unfold tE;cases e:f n with
  |true=>rw[h n e];simpa using this
  |false=>cases g n<;>simp<;>omega
theorem KS:∀(n:Nat){f g:Nat->Bool}{i:Nat},(∀i,f i=true->g i=true)->i<n->f i=false->g i=true->tE n g<tE n f
 |0,_,_,_,_,h,_,_=>absurd h (by omega)
 |n+1,f,g,i,h,d,hf,hg=>by
  unfold tE;by_cases e:i=n
  ·subst e;rw[hf,hg];have:=Uy i h;simp;omega
  ·have:=KS n h (by omega) hf hg;have:(bif g n then 0 else 1)<=(bif f n then 0 else 1:Nat):=by
    cases c:f n with
    |true=>rw[h n c];exact Nat.le_refl _
    |false=>cases g n<;>simp
   omega
theorem HV(f:Nat->Bool)(i:Nat):∀k,f k=true->tD f i k=true:=λk h=>by
 by_cases e:k=i
 ·subst e;exact kO f k
 ·rw[CI f e];exact h
theorem i6(nb:Nat):∀(l:LD)(out:List Nat),(∀n,n∈out->n<nb)->∀n,n∈l.foldl (kU nb) out->n<nb
 |[],_,h=>h
 |x::l,out,h=>by
  rw[List.foldl_cons];refine i6 nb l _ (λn c=>?_);unfold kU at c;cases e:BP nb out x with
  |false=>rw[e]at c;exact h n c
  |true=>
   rw[e]at c;simp only[cond_true,List.mem_append,List.mem_singleton]at c;rcases c with d |d
   ·exact h n d
   ·unfold BP at e;rw[Bool.and_eq_true,Bool.and_eq_true,fM,eN]at e;have:=e.1.2;simp at this;omega
theorem QH{bs:LD}{b:Int}{n:Nat}(h:n∈aT bs b):n<bs.length:=by
 unfold aT at h;cases e:aCL bs b with
 |true=>rw[e]at h;exact i6 bs.length _ [] (λ_ h=>by cases h) n h
 |false=>rw[e]at h;cases h
inductive RA(bs:LD)(start gA:Int):Nat->Prop where
 |base:0<=start->start<bs.length->start≠gA->RA bs start gA start.toNat
 |step {b n:Nat}:RA bs start gA b->n∈aT bs b->(n:Int)≠gA->RA bs start gA n
open Classical in
noncomputable def Fm(bs:LD)(start gA:Int)(i:Nat):Bool:=decide (RA bs start gA i)
theorem zR{bs:LD}{start gA:Int}{i:Nat}:Fm bs start gA i=true<->RA bs start gA i:=by simp[Fm]
noncomputable def dB(bs:LD)(start gA:Int):LD:=aZ bs.length (Fm bs start gA)
theorem aD7{bs:LD}{start gA:Int}(h:¬(0<=start/\start<bs.length/\start≠gA)){i:Nat}:¬RA bs start gA i:=by
 intro c;induction c with
 |base d e f=>exact h ⟨d,e,f⟩
 |step _ _ _ g=>exact g
theorem nA(l:List Nat):(l.map iD).length=l.length:=List.length_map ..
theorem OJ(bs:LD)(b:Int)(hT:fZ bs):(aT bs b).length<=10000:=by
 unfold aT;cases e:aCL bs b with
 |false=>exact Nat.zero_le _
 |true=>
  have d:mI bs b=true:=by rw[Ux]at e;exact(Bool.and_eq_true_iff.1 e).1
  obtain⟨f,g,h⟩:=QG d;have c:=((hT.2 b.toNat (by omega)).i _ (show(gD bs b.toNat).els.length-1<_ by omega)).is1;unfold fF at c;exact Nat.le_trans (Zt bs.length _ []) (by simpa[gG]using c)
theorem UM{l:List Nat}{k:Nat}(h:k<l.length):gD (l.map iD) k=iD l[k]:=by simp[gD,List.getD,h]
section
variable(nm:List UInt8)(o:Bool)(ps:LD)(r:Int)(bs:LD)(hT:fZ bs)(start gA:Int)
include hT
structure In4(b:Nat)(f0:Nat->Bool)(ag0:Bool)(k:Nat)(q:Bool×(Nat->Bool)):Prop where
 mono:∀i,f0 i=true->q.2 i=true
 snd:∀i,q.2 i=true->RA bs start gA i
 all:∀(i:Nat)(h:i<(aT bs b).length),i<k->(((aT bs b)[i]:Nat):Int)≠gA->q.2 (aT bs b)[i]=true
 or:(q.1=ag0/\q.2=f0)\/(q.1=true/\tE bs.length q.2<tE bs.length f0)
theorem aAu(b:Nat)(f0:Nat->Bool)(ag0:Bool)(G:RA bs start gA b)(H:∀i,f0 i=true->RA bs start gA i):
  ∃q:Bool×(Nat->Bool),In4 bs start gA b f0 ag0 (aT bs b).length q/\fV HR 4 [.i 0,.i (b:Int),.i gA,.b ag0,.s nm,.b o,.l ps,.i r,.l bs,.l (aZ bs.length f0),.l ((aT bs b).map iD)] (0,[.i (b:Int),.i gA,.b q.1,.s nm,.b o,.l ps,.i r,.l bs,.l (aZ bs.length q.2)]):=by
 have L:=OJ bs b hT;have J:cE ((aT bs b).map iD):=by unfold cE;rw[nA];omega
 refine EP HS (λk(q:Bool×(Nat->Bool))=>[.i (k:Int),.i (b:Int),.i gA,.b q.1,.s nm,.b o,.l ps,.i r,.l bs,.l (aZ bs.length q.2),.l ((aT bs b).map iD)]) (aT bs b).length (λq=>(0,[.i (b:Int),.i gA,.b q.1,.s nm,.b o,.l ps,.i r,.l bs,.l (aZ bs.length q.2)])) (In4 bs start gA b f0 ag0) (λk q u d=>?_) (λq d=>?_) (s0:=(ag0,f0)) ⟨λi h=>h,H,λi g m=>by omega,.inl ⟨rfl,rfl⟩⟩
 ·have f:k<((aT bs b).map iD).length:=by rw[nA];exact u
  have hg:gD ((aT bs b).map iD) k=iD (aT bs b)[k]:=UM u;have v:(aT bs b)[k]<bs.length:=QH (List.getElem_mem u);have y:aA (gD ((aT bs b).map iD) k).toI (aZ bs.length q.2).length=true:=by rw[hg,fH];exact aE v
  have K:(aZ bs.length q.2).set (Int.toNat (gD ((aT bs b).map iD) k).toI) (.b true)=aZ bs.length (tD q.2 (aT bs b)[k]):=by rw[hg];exact zC q.2 v
  have F:(gD (aZ bs.length q.2) (Int.toNat (gD ((aT bs b).map iD) k).toI)).toB=q.2 (aT bs b)[k]:=by rw[hg];exact congrArg D.toB (kN q.2 v)
  have C:=λl=>nx (j:=k) f J [] l;by_cases e1:(((aT bs b)[k]:Nat):Int)=gA
  ·refine⟨q,⟨d.mono,d.snd,λi g m s=>?_,d.or⟩,?_⟩
   ·by_cases e:i=k
    ·subst e;exact absurd e1 s
    ·exact d.all i g (by omega) s
   ·show Ev _ _ (mX _) _;unfold mX;have z:aD (gD ((aT bs b).map iD) k).toI gA=true:=by rw[hg];exact(bT _ _).2 e1
    exact aC (aV f) (aC (aE f) (aC (aH (aE f)) (aC (aH y) (aJ (congrArg (λc=>(!c)&&!(D.toB (gD (aZ bs.length q.2) (Int.toNat (gD ((aT bs b).map iD) k).toI)))) z) (aO (C _))))))
  ·have z:aD (gD ((aT bs b).map iD) k).toI gA=false:=by rw[hg];exact gR e1
   cases t:q.2 (aT bs b)[k]with
   |true=>
    refine⟨q,⟨d.mono,d.snd,λi g m s=>?_,d.or⟩,?_⟩
    ·by_cases e:i=k
     ·subst e;exact t
     ·exact d.all i g (by omega) s
    ·refine aC (aV f) (aC (aE f) (aC (aH (aE f)) (aC (aH y) (aJ ?_ (aO (C _))))));have:((!(aD (gD ((aT bs b).map iD) k).toI gA))&&!(D.toB (gD (aZ bs.length q.2) (Int.toNat (gD ((aT bs b).map iD) k).toI))))=false:=by rw[F,t,Bool.not_true,Bool.and_false]
     exact this
   |false=>
    refine⟨(true,tD q.2 (aT bs b)[k]),⟨λi h=>HV _ _ i (d.mono i h),λi h=>?_,λi g m s=>?_,.inr ⟨rfl,?_⟩⟩,?_⟩
    ·have h:tD q.2 (aT bs b)[k] i=true:=h;by_cases e:i=(aT bs b)[k]
     ·rw[e];exact RA.step G (List.getElem_mem u) e1
     ·rw[CI _ e]at h;exact d.snd i h
    ·by_cases e:i=k
     ·subst e;exact kO _ _
     ·exact HV _ _ _ (d.all i g (by omega) s)
    ·have g:tE bs.length (tD q.2 (aT bs b)[k])<tE bs.length q.2:=KS _ (HV _ _) v t (kO _ _);rcases d.or with⟨_,m⟩ |⟨_,m⟩
     ·rw[m]at g⊢;exact g
     ·exact Nat.lt_trans g m
    ·refine aC (aV f) (aC (aE f) (aC (aH (aE f)) (aC (aH y) (aC ?_ (aC (aE f) (aC y (aO ((C _).trans ?_))))))))
     ·have:((!(aD (gD ((aT bs b).map iD) k).toI gA))&&!(D.toB (gD (aZ bs.length q.2) (Int.toNat (gD ((aT bs b).map iD) k).toI))))=true:=by rw[F,t,z];rfl
      exact this
     ·rw[<-K];rfl
 ·refine aJ ?_ (bH rfl);have:=aX ((aT bs b).map iD).length;rw[nA]at this;show aQ ((aT bs b).length:Int) ((aT bs b).map iD).length=false;rw[nA];exact this
structure In2(f0:Nat->Bool)(j:Nat)(q:Bool×(Nat->Bool)):Prop where
 mono:∀i,f0 i=true->q.2 i=true
 snd:∀i,q.2 i=true->RA bs start gA i
 or:(q.1=false/\q.2=f0/\∀b,b<j->f0 b=true->∀n,n∈aT bs b->(n:Int)≠gA->f0 n=true)\/(q.1=true/\tE bs.length q.2<tE bs.length f0)
theorem aAv(f0:Nat->Bool)(T:∀i,f0 i=true->RA bs start gA i):
  ∃q:Bool×(Nat->Bool),In2 bs start gA f0 bs.length q/\fV HR 2 [.i 0,.i gA,.b false,.s nm,.b o,.l ps,.i r,.l bs,.l (aZ bs.length f0)] (0,[.i gA,.b q.1,.s nm,.b o,.l ps,.i r,.l bs,.l (aZ bs.length q.2)]):=by
 have K:cE bs:=hT.1.sane;refine EP HS (λj(q:Bool×(Nat->Bool))=>[.i (j:Int),.i gA,.b q.1,.s nm,.b o,.l ps,.i r,.l bs,.l (aZ bs.length q.2)]) bs.length (λq=>(0,[.i gA,.b q.1,.s nm,.b o,.l ps,.i r,.l bs,.l (aZ bs.length q.2)])) (In2 bs start gA f0) (λj q m d=>?_) (λq d=>?_) (s0:=(false,f0)) ⟨λi h=>h,T,.inl ⟨rfl,rfl,λb f=>by omega⟩⟩
 ·have J:aQ (j:Int) (aZ bs.length q.2).length=true:=by rw[fH];exact aV m
  have P:aA (j:Int) (aZ bs.length q.2).length=true:=by rw[fH];exact aE m
  have L:(gD (aZ bs.length q.2) j).toB=q.2 j:=congrArg D.toB (kN q.2 m);cases e:q.2 j with
  |false=>
   refine⟨q,⟨d.mono,d.snd,?_⟩,?_⟩
   ·rcases d.or with⟨f,t,g⟩ |h
    ·refine .inl ⟨f,t,λb Q c n u y=>?_⟩;by_cases v:b=j
     ·subst v;rw[t]at e;rw[e]at c;cases c
     ·exact g b (by omega) c n u y
    ·exact .inr h
   ·refine aC J (aC P (aC ?_ (aO (nx m K [] _))));have:(!(D.toB (gD (aZ bs.length q.2) j)))=true:=by rw[L,e];rfl
    exact this
  |true=>
   obtain⟨U,f,t⟩:=aAu nm o ps r bs hT start gA j q.2 q.1 (d.snd j e) d.snd;refine⟨U,⟨λi h=>f.mono i (d.mono i h),f.snd,?_⟩,?_⟩
   ·rcases f.or with⟨s,l⟩ |⟨s,l⟩
    ·rcases d.or with⟨g,c,u⟩ |⟨g,c⟩
     ·refine .inl ⟨s.trans g,l.trans c,λb Q y n F G=>?_⟩;by_cases v:b=j
      ·subst v;obtain⟨i,H,C⟩:=List.getElem_of_mem F;have:=f.all i H H (by rw[C];exact G);rw[C,l,c]at this;exact this
      ·exact u b (by omega) y n F G
     ·exact .inr ⟨s.trans g,by rw[l];exact c⟩
    ·refine .inr ⟨s,?_⟩;rcases d.or with⟨g,c,u⟩ |⟨g,c⟩
     ·rw[c]at l;exact l
     ·omega
   ·refine aC J (aC P (aJ ?_ (bK (Lq nm o ps r bs j hT) rfl (aP t (bG (aO (nx m K [] _)))))));have:(!(D.toB (gD (aZ bs.length q.2) j)))=false:=by rw[L,e];rfl
    exact this
 ·refine aJ ?_ (bH rfl);show aQ (bs.length:Int) (aZ bs.length q.2).length=false;rw[fH];exact aX _
structure In0(q:Bool×(Nat->Bool)):Prop where
 st:q.2 start.toNat=true
 snd:∀i,q.2 i=true->RA bs start gA i
 cl:q.1=false->∀b,b<bs.length->q.2 b=true->∀n,n∈aT bs b->(n:Int)≠gA->q.2 n=true
omit hT in
theorem Zu{i:Nat}(h:RA bs start gA i):i<bs.length:=by
 cases h with
 |base d c _=>omega
 |step _ c _=>exact QH c
theorem aAw(f0:Nat->Bool)(v:In0 bs start gA (true,f0)):
  fV HR 0 [.i gA,.b true,.s nm,.b o,.l ps,.i r,.l bs,.l (aZ bs.length f0)] (0,[.l (dB bs start gA)]):=by
 have h:=HU HS (b:=0) (λ(q:Bool×(Nat->Bool))=>[.i gA,.b q.1,.s nm,.b o,.l ps,.i r,.l bs,.l (aZ bs.length q.2)]) (In0 bs start gA) (λq=>2*tE bs.length q.2+bif q.1 then 1 else 0) (λt=>t=(0,[.l (dB bs start gA)])) (λq g=>?_) v
 ·obtain⟨t,c,l⟩:=h;subst c;exact l
 ·cases e:q.1 with
  |false=>
   refine .inl ⟨_,rfl,?_⟩;refine aJ rfl (bH ?_);have:dB bs start gA=aZ bs.length q.2:=by
    refine mZ λi K=>?_;rw[Bool.eq_iff_iff,zR];constructor
    ·intro c;induction c with
     |base _ _ _=>exact g.st
     |step j F G H=>exact g.cl e _ (Zu bs start gA j) (H (Zu bs start gA j)) _ F G
    ·exact g.snd i
   rw[this];rfl
  |true=>
   obtain⟨J,c,l⟩:=aAv nm o ps r bs hT start gA q.2 g.snd;refine .inr ⟨J,⟨c.mono _ g.st,c.snd,λs b j u n y C=>?_⟩,?_,?_⟩
   ·rcases c.or with⟨d,f,m⟩ |⟨d,f⟩
    ·rw[f]at u⊢;exact m b j u n y C
    ·rw[d]at s;cases s
   ·rcases c.or with⟨d,f,m⟩ |⟨d,f⟩
    ·rw[d,f];simp
    ·rw[d];simp;omega
   ·exact aC rfl (aP l (bG (aO rfl)))
theorem Lr:iQ E aW sites Ge [oK nm o ps r bs,.i start,.i gA] (.l (dB bs start gA)) []:=by
 refine bA HS (by rfl) rfl ?_;show Ev _ _ (As _) _;unfold As;have ht:=hT.1;unfold fF at ht;have v:jP (Int.toNat (bs.length:Int)) 1=true:=fG (by omega) (by omega);refine aC ?_ ?_
 ·show(cK 0 (bs.length:Int)&&(aD (bs.length:Int) (bs.length:Int)&&jP (Int.toNat (bs.length:Int)) 1))=true;rw[jK (by omega),qF,v];rfl
 ·have s:iL (List.replicate bs.length (D.b false))=(bs.length:Int):=by simp[iL]
  by_cases h:0<=start/\start<bs.length/\start≠gA
  ·obtain⟨f,g,l⟩:=h;refine aJ ?_ (aC ?_ ?_)
   ·show((aQ start 0||cK (iL (List.replicate bs.length (D.b false))) start)||aD start gA)=false;rw[s,KR f,Uw g,gR l];rfl
   ·show aA start (List.length (List.replicate bs.length (D.b false)))=true;rw[List.length_replicate];unfold aA;rw[jK f,Np g];rfl
   ·have y:start.toNat<bs.length:=by omega
    have e:(List.replicate bs.length (D.b false)).set start.toNat (.b true)=aZ bs.length (tD (λ_=>false) start.toNat):=by rw[<-mY,zC _ y]
    have m:=aAw nm o ps r bs hT start gA (tD (λ_=>false) start.toNat) ⟨show tD (λ_=>false) start.toNat start.toNat=true from kO _ _,λi c=>(by
     have c:tD (λ_=>false) start.toNat i=true:=c;by_cases j:i=start.toNat
     ·rw[j];exact RA.base f g l
     ·rw[CI _ j]at c;cases c),λh=>by cases h⟩
    rw[<-e]at m;exact aP m (bG (bI rfl rfl))
  ·refine aC ?_ (bI ?_ rfl)
   ·show((aQ start 0||cK (iL (List.replicate bs.length (D.b false))) start)||aD start gA)=true;rw[s];by_cases t:0<=start
    ·by_cases u:start<bs.length
     ·have d:start=gA:=by
       by_cases d:start=gA
       ·exact d
       ·exact absurd ⟨t,u,d⟩ h
      rw[d,qF,Bool.or_true]
     ·rw[jK (by omega),Bool.or_true];rfl
    ·rw[Np (by omega)];rfl
   ·show D.l (dB bs start gA)=.l (List.replicate bs.length (D.b false));rw[<-mY];refine congrArg D.l (mZ λi c=>?_);cases e:Fm bs start gA i with
    |false=>rfl
    |true=>exact absurd (zR.1 e) (aD7 h)
theorem Ep:iQ E aW sites XM [oK nm o ps r bs] (.l (dB bs 0 (-1))) []:=by refine bA Kp (by rfl) rfl ?_;exact bK (Lr nm o ps r bs hT 0 (-1)) rfl (bI rfl rfl)
end
end Go.Eng.Q

namespace Go.Eng.Q
open Go.Eng
theorem Ls(nb:Nat):∀(l:LD)(out:List Nat),out.Nodup->(l.foldl (kU nb) out).Nodup
 |[],_,h=>h
 |x::l,out,h=>by
  rw[List.foldl_cons];refine Ls nb l _ ?_;unfold kU;cases e:BP nb out x with
  |false=>exact h
  |true=>
   unfold BP at e;rw[Bool.and_eq_true]at e;have f:x.toI.toNat∉out:=by simpa using e.2
   simp only[cond_true];rw[List.nodup_append];exact⟨h,by simp,λa g b c=>by simp at c;subst c;intro d;subst d;exact f g⟩
theorem P8(bs:LD)(b:Int):(aT bs b).Nodup:=by
 unfold aT;cases aCL bs b with
 |true=>exact Ls _ _ _ List.nodup_nil
 |false=>exact List.nodup_nil
def dP(n:Nat)(g:Nat->List Nat):LD:=(List.range n).map λi=>.l ((g i).map iD)
theorem QI(n:Nat)(g:Nat->List Nat):(dP n g).length=n:=by simp[dP]
theorem Bo{n i:Nat}(g:Nat->List Nat)(h:i<n):gD (dP n g) i=.l ((g i).map iD):=by simp[gD,List.getD,dP,h]
theorem GG{n:Nat}{f g:Nat->List Nat}(h:∀i,i<n->f i=g i):dP n f=dP n g:=by
 apply List.ext_getElem
 ·simp[dP]
 ·intro k c d;simp only[dP,List.length_map,List.length_range]at c;simp[dP,h k c]
theorem aAx{n x:Nat}{f g:Nat->List Nat}(h:∀i,i<n->i≠x->f i=g i)(v:D)(hv:v=.l ((g x).map iD)):(dP n f).set x v=dP n g:=by
 apply List.ext_getElem
 ·simp[dP]
 ·intro k c d;rw[List.getElem_set];by_cases e:x=k
  ·subst e;simp[dP,hv]
  ·simp only[List.length_set,dP,List.length_map,List.length_range]at c;simp[dP,e,h k c (Ne.symm e)]
def nC(bs:LD)(j i:Nat):List Nat:=(List.range j).filter λb=>decide (i∈aT bs (b:Int))
def iP(bs:LD)(i:Nat):List Nat:=nC bs bs.length i
def nT(bs:LD)(b k i:Nat):List Nat:=bif decide (i∈(aT bs (b:Int)).take k)then nC bs b i++[b]else nC bs b i
theorem i7(bs:LD)(b i:Nat):nT bs b 0 i=nC bs b i:=by simp[nT]
theorem Qd(bs:LD)(b i:Nat):nT bs b (aT bs (b:Int)).length i=nC bs (b+1) i:=by
 unfold nT;rw[List.take_length];conv=>rhs;rw[nC,List.range_succ,List.filter_append,<-nC]
 cases e:decide (i∈aT bs (b:Int))with
 |true=>simp[e]
 |false=>simp[e]
theorem Bp(bs:LD)(j i:Nat):(nC bs j i).length<=j:=by unfold nC;exact Nat.le_trans (List.length_filter_le _ _) (by simp)
theorem Qe(bs:LD):List.replicate bs.length (D.l [])=dP bs.length (nC bs 0):=by
 apply List.ext_getElem
 ·simp[dP]
 ·intro k c d;simp[dP,nC]
theorem Qf(bs:LD)(b k:Nat)(c:k<(aT bs b).length)(l:(aT bs b)[k]<bs.length):
  gD (dP bs.length (nT bs b k)) (Int.toNat (gD ((aT bs b).map iD) k).toI)=.l ((nC bs b (aT bs b)[k]).map iD)/\(dP bs.length (nT bs b k)).set (Int.toNat (gD ((aT bs b).map iD) k).toI) (.l ((D.els (gD (dP bs.length (nT bs b k)) (Int.toNat (gD ((aT bs b).map iD) k).toI)))++[.i (b:Int)]))=dP bs.length (nT bs b (k+1)):=by
 have hg:gD ((aT bs b).map iD) k=iD (aT bs b)[k]:=UM c;have r:(aT bs b)[k]∉(aT bs b).take k:=by intro h;obtain⟨i,j,e⟩:=List.getElem_of_mem h;rw[List.length_take]at j;rw[List.getElem_take]at e;exact(List.pairwise_iff_getElem.1 (P8 bs b)) i k (by omega) c (by omega) e
 have g:nT bs b k (aT bs b)[k]=nC bs b (aT bs b)[k]:=by unfold nT;rw[show decide ((aT bs b)[k]∈(aT bs b).take k)=false by simpa using r];rfl
 have d:gD (dP bs.length (nT bs b k)) (Int.toNat (gD ((aT bs b).map iD) k).toI)=.l ((nC bs b (aT bs b)[k]).map iD):=by rw[hg];have:=Bo (nT bs b k) l;rw[g]at this;exact this
 have s:(dP bs.length (nT bs b k)).set (Int.toNat (gD ((aT bs b).map iD) k).toI) (.l ((D.els (gD (dP bs.length (nT bs b k)) (Int.toNat (gD ((aT bs b).map iD) k).toI)))++[.i (b:Int)]))=dP bs.length (nT bs b (k+1)):=by
  rw[d,hg];refine aAx (λi _ m=>?_) _ ?_
  ·unfold nT;have:(i∈(aT bs b).take (k+1))<->(i∈(aT bs b).take k):=by
    rw[List.take_succ_eq_append_getElem c,List.mem_append,List.mem_singleton];exact⟨λh=>h.elim id (λe=>absurd e m),.inl⟩
   simp only[this]
  ·have f:(aT bs b)[k]∈(aT bs b).take (k+1):=by
    rw[List.take_succ_eq_append_getElem c];exact List.mem_append_right _ (List.mem_singleton.2 rfl)
   show _=D.l ((nT bs b (k+1) (aT bs b)[k]).map iD);unfold nT;rw[show decide ((aT bs b)[k]∈(aT bs b).take (k+1))=true by simpa using f];simp[D.els]
 exact⟨d,s⟩
section
variable(nm:List UInt8)(o:Bool)(ps:LD)(r:Int)(bs:LD)(hT:fZ bs)
include hT
theorem aAy(b:Nat)(m:b<bs.length):fV QD 2 [.i (b:Int),.i 0,.s nm,.b o,.l ps,.i r,.l bs,.l (dP bs.length (nC bs b)),.l ((aT bs b).map iD)] (0,[.i (b:Int),.s nm,.b o,.l ps,.i r,.l bs,.l (dP bs.length (nC bs (b+1)))]):=by
 have s:=OJ bs b hT;have ht:=hT.1;unfold fF at ht;have j:cE ((aT bs b).map iD):=by unfold cE;rw[nA];omega
 have g:dP bs.length (nC bs b)=dP bs.length (nT bs b 0):=GG λi _=>(i7 bs b i).symm;have e1:dP bs.length (nC bs (b+1))=dP bs.length (nT bs b (aT bs b).length):=GG λi _=>(Qd bs b i).symm;rw[g,e1];refine cI QE (λk=>[.i (b:Int),.i (k:Int),.s nm,.b o,.l ps,.i r,.l bs,.l (dP bs.length (nT bs b k)),.l ((aT bs b).map iD)]) (aT bs b).length (λk c=>?_) ?_
 ·have d:k<((aT bs b).map iD).length:=by rw[nA];exact c
  have hg:gD ((aT bs b).map iD) k=iD (aT bs b)[k]:=UM c;have e:(aT bs b)[k]<bs.length:=QH (List.getElem_mem c);have f:aA (gD ((aT bs b).map iD) k).toI (dP bs.length (nT bs b k)).length=true:=by rw[hg,QI];exact aE e
  obtain⟨h,l⟩:=Qf bs b k c e;refine aC (aV d) (aC (aE d) (aC (aE d) (aC f (aC ?_ (aC ?_ (aC f (aC ?_ (aO ((nx d j [.i (b:Int)] _).trans ?_)))))))))
  ·show jP ((D.els (gD (dP bs.length (nT bs b k)) (Int.toNat (gD ((aT bs b).map iD) k).toI))).length+1) 8=true;rw[h];refine fG ?_ (by omega);have:=Bp bs b (aT bs b)[k];simp[D.els];omega
  ·show((aD (gD ((aT bs b).map iD) k).toI (gD ((aT bs b).map iD) k).toI)&&true)=true;rw[qF];rfl
  ·show((Nat.beq (Int.toNat (gD ((aT bs b).map iD) k).toI) (Int.toNat (gD ((aT bs b).map iD) k).toI))&&true)=true;simp
  ·rw[<-l];rfl
 ·refine aJ ?_ (bH rfl);show aQ ((aT bs b).length:Int) ((aT bs b).map iD).length=false;rw[nA];exact aX _
theorem P9:iQ E aW sites Uf [oK nm o ps r bs] (.l (dP bs.length (iP bs))) []:=by
 refine bA QE (by rfl) rfl ?_;show Ev _ _ (Aq _) _;unfold Aq;have ht:=hT.1;unfold fF at ht;have e:jP (Int.toNat (bs.length:Int)) 24=true:=fG (by omega) (by omega);have d:fV QD 0 [.i 0,.s nm,.b o,.l ps,.i r,.l bs,.l (dP bs.length (nC bs 0))] (0,[.l (dP bs.length (nC bs bs.length))]):=by
  refine cI QE (λj=>[.i (j:Int),.s nm,.b o,.l ps,.i r,.l bs,.l (dP bs.length (nC bs j))]) bs.length (λj c=>?_) ?_
  ·exact aC (aV c) (bK (Lq nm o ps r bs j hT) rfl (aP (aAy nm o ps r bs hT j c) (bG (aO (nx c hT.1.sane [] _)))))
  ·exact aJ (aX _) (bH rfl)
 refine aC ?_ ?_
 ·show(cK 0 (bs.length:Int)&&(aD (bs.length:Int) (bs.length:Int)&&jP (Int.toNat (bs.length:Int)) 24))=true;rw[jK (by omega),qF,e];rfl
 ·rw[<-Qe]at d;exact aP d (bG (bI rfl rfl))
end
end Go.Eng.Q

namespace Go.Eng.Q
open Go.Eng
theorem aAz(l:LD)(n:Int)(u:cE l):∃k:Int,cK 0 k=(l.any λx=>aD x.toI n)/\iQ E aW sites qE [.l l,.i n] (.i k) []:=by
 cases h:l.any (λx=>aD x.toI n)with
 |false=>
  refine⟨-1,rfl,bA iO (by rfl) rfl ?_⟩;show Ev _ _ (iN _) _;unfold iN;have g:fV kM 0 [.l l,.i n,.i (l.length:Int),.i 0] (1,[]):=by
   refine cI iO (λj=>[.l l,.i n,.i (l.length:Int),.i (j:Int)]) l.length (λj c=>?_) ?_
   ·show Ev _ _ (dH _) _;unfold dH;have m:=XT h j c;have d:aD n (gD l j).toI=false:=gR (Ne.symm (UL m));exact aC (aV c) (aC (aE c) (aJ d (aO (nx c u [.l l,.i n,.i (l.length:Int)] []))))
   ·exact aJ (aX _) (bH rfl)
  exact aP g (eO (bG (bI rfl rfl)))
 |true=>
  have m:eD l.length (λj=>aD (gD l j).toI n)=true:=by
   cases d:eD l.length (λj=>aD (gD l j).toI n)with
   |true=>rfl
   |false=>rw[List.any_eq_true]at h;obtain⟨x,hx,r⟩:=h;obtain⟨i,f,e⟩:=List.getElem_of_mem hx;have:=bQ.1 d i f;rw[show gD l i=x by simp[gD,List.getD,f,e],r]at this;cases this
  obtain⟨j,c,d,r⟩:=yR m;refine⟨j,jK (by omega),bA iO (by rfl) rfl ?_⟩;show Ev _ _ (iN _) _;unfold iN;have g:fV kM 0 [.l l,.i n,.i (l.length:Int),.i 0] (0,[.i (j:Int)]):=by
   refine cI iO (λj=>[.l l,.i n,.i (l.length:Int),.i (j:Int)]) j (λi f=>?_) ?_
   ·show Ev _ _ (dH _) _;unfold dH;have t:i<l.length:=by omega
    have s:aD n (gD l i).toI=false:=gR (Ne.symm (UL (r i f)));exact aC (aV t) (aC (aE t) (aJ s (aO (nx t u [.l l,.i n,.i (l.length:Int)] []))))
   ·show Ev _ _ (dH _) _;unfold dH;have s:aD n (gD l j).toI=true:=by rw[(bT _ _).1 d];exact qF _
    exact aC (aV c) (aC (aE c) (aC s (bH rfl)))
  exact aP g (bG (bI rfl rfl))
theorem Uz(l:LD)(n:Int)(e:cE l):iQ E aW sites nJ [.l l,.i n] (.b (l.any λx=>aD x.toI n)) []:=by obtain⟨k,c,d⟩:=aAz l n e;refine bA rF (by rfl) rfl ?_;exact bK d rfl (bI (congrArg D.b c.symm) rfl)
section
variable(nm:List UInt8)(o:Bool)(ps:LD)(r:Int)(bs:LD)(hT:fZ bs)
theorem Zv(l:LD)(v:fF l):
  fV OG 0 [.l l,.i 0,.i (l.length:Int),.s nm,.b o,.l ps,.i r,.l bs,.l []] (0,[.l ((l.foldl (kU bs.length) []).map iD)]):=by
 unfold fF at v;have C:cE l:=by unfold cE;omega
 refine GC OH (λj(q:List Nat)=>[.l l,.i (j:Int),.i (l.length:Int),.s nm,.b o,.l ps,.i r,.l bs,.l (q.map iD)]) l (kU bs.length) (λq=>(0,[.l (q.map iD)])) (λj q=>q.length<=j) (λj q m y=>⟨?_,?_⟩) (λq y=>?_) (s0:=[]) (Nat.le_refl _)
 ·unfold kU;cases BP bs.length q (gD l j)<;>simp<;>omega
 ·refine aC (aV m) (aC (aE m) ?_);have h:∀s:List Nat,[.l l,.i ((j+1:Nat):Int),.i (l.length:Int),.s nm,.b o,.l ps,.i r,.l bs,.l (s.map iD)]=[.l l,D.i (bJ .i64 (j:Int) 1),.i (l.length:Int),.s nm,.b o,.l ps,.i r,.l bs,.l (s.map iD)]:=λs=>nx m C [.l l] _;cases d:(cK 0 (gD l j).toI&&aQ (gD l j).toI bs.length)with
  |false=>
   have f:BP bs.length q (gD l j)=false:=by unfold BP;rw[d];rfl
   have e:kU bs.length q (gD l j)=q:=by unfold kU;rw[f];rfl
   rw[e];exact aJ (congrArg (λc=>c&&true) d) (aJ (congrArg (λc=>c&&(!(D.toB (.i 0)))) d) (aO (h q)))
  |true=>
   have t:0<=(gD l j).toI:=by rw[Bool.and_eq_true,fM]at d;exact d.1
   have f:=Zs bs.length q (gD l j) t;refine aC (congrArg (λc=>c&&true) d) (bK (Uz (q.map iD) (gD l j).toI (by unfold cE;rw[List.length_map];omega)) rfl ?_);cases g:BP bs.length q (gD l j)with
   |true=>
    have e:kU bs.length q (gD l j)=q++[(gD l j).toI.toNat]:=by unfold kU;rw[g];rfl
    rw[e];refine aC (f.symm.trans g) ?_;unfold GU;refine aC ?_ (aO ((h _).trans ?_))
    ·show jP ((q.map iD).length+1) 8=true;rw[List.length_map];exact fG (by omega) (by omega)
    ·have u:iD (gD l j).toI.toNat=D.i (gD l j).toI:=congrArg D.i (Int.toNat_of_nonneg t);rw[List.map_append,List.map_cons,List.map_nil,u];rfl
   |false=>
    have e:kU bs.length q (gD l j)=q:=by unfold kU;rw[g];rfl
    rw[e];exact aJ (f.symm.trans g) (aO (h q))
 ·exact aJ (aX _) (bH rfl)
include hT
theorem KT(b:Int):iQ E aW sites HM [oK nm o ps r bs,.i b] (.l ((aT bs b).map iD)) []:=by
 refine bA OH (by rfl) rfl ?_;show Ev _ _ (OB _) _;unfold OB aT;rw[Ux];cases d:(cK 0 b&&aQ b bs.length)with
 |false=>
  have g:(aQ b 0||cK (bs.length:Int) b)=true:=by
   unfold aQ at*;cases h:cK 0 b with
   |false=>rfl
   |true=>rw[h]at d;cases m:cK (bs.length:Int) b with
    |true=>rfl
    |false=>rw[m]at d;cases d
  have f:mI bs b=false:=by unfold mI;rw[d];rfl
  rw[f];exact aC (congrArg (λc=>(!(!c))||aA b bs.length) g) (aC (congrArg (λc=>c||aD (iE (gD bs b.toNat)) 0) g) (bI rfl rfl))
 |true=>
  have g:(aQ b 0||cK (bs.length:Int) b)=false:=by
   unfold aQ at*;cases h:cK 0 b with
   |false=>rw[h]at d;cases d
   |true=>rw[h]at d;cases m:cK (bs.length:Int) b with
    |true=>rw[m]at d;cases d
    |false=>rfl
  have s:aA b bs.length=true:=d;refine aC (aH s) ?_;cases j:aD (gD bs b.toNat).els.length 0 with
  |true=>
   have f:mI bs b=false:=by unfold mI;rw[j,Bool.not_true,Bool.and_false]
   rw[f];exact aC (aH j) (bI rfl rfl)
  |false=>
   have f:mI bs b=true:=by unfold mI;rw[d,j];rfl
   obtain⟨C,F,t⟩:=QG f;have y:b.toNat<bs.length:=by omega
   have ht:(gD bs b.toNat).els.length<=1000000:=by have:=(hT.2 b.toNat y).ins;unfold fF at this;omega
   have e:Int.toNat (bE .i64 (((gD bs b.toNat).els.length:Int)-1))=(gD bs b.toNat).els.length-1:=Lp t ht;have l:gD (gD bs b.toNat).els (Int.toNat (bE .i64 (((gD bs b.toNat).els.length:Int)-1)))=gG (gD bs b.toNat):=by rw[e];rfl
   rw[f];refine aJ ((congrArg (λc=>c||aD (iE (gD bs b.toNat)) 0) g).trans j) (aC s (aC s (aC ?_ ?_)))
   ·show aA (bE .i64 (((gD bs b.toNat).els.length:Int)-1)) (gD bs b.toNat).els.length=true;rw[ES t ht];exact aE (by omega)
   ·cases u:(aD (vI (gG (gD bs b.toNat)) 0) 27||aD (vI (gG (gD bs b.toNat)) 0) 28)with
    |false=>refine aC ?_ (bI rfl rfl);show((!(aD (vI (gD (gD bs b.toNat).els (Int.toNat (bE .i64 (((gD bs b.toNat).els.length:Int)-1)))) 0) 27))&&(!(aD (vI (gD (gD bs b.toNat).els (Int.toNat (bE .i64 (((gD bs b.toNat).els.length:Int)-1)))) 0) 28)))=true;rw[l,<-Bool.not_or,u];rfl
    |true=>
     refine aJ ?_ ?_
     ·show((!(aD (vI (gD (gD bs b.toNat).els (Int.toNat (bE .i64 (((gD bs b.toNat).els.length:Int)-1)))) 0) 27))&&(!(aD (vI (gD (gD bs b.toNat).els (Int.toNat (bE .i64 (((gD bs b.toNat).els.length:Int)-1)))) 0) 28)))=false;rw[l,<-Bool.not_or,u];rfl
     ·have v:=Zv nm o ps r bs (eX (gG (gD bs b.toNat)) 6) ((hT.2 b.toNat y).i _ (by omega)).is1;rw[<-l]at v⊢;exact aP v (bG (bI rfl rfl))
theorem Zw(b:Nat)(nb:Int)(m:b<bs.length):fV GA 2 [.i nb,.i 0,.i (b:Int),.i ((aT bs b).length:Int),.i (b:Int),.s nm,.b o,.l ps,.i r,.l bs,.l (dP bs.length (nC bs b)),.l ((aT bs b).map iD)] (0,[.i nb,.i (b:Int),.s nm,.b o,.l ps,.i r,.l bs,.l (dP bs.length (nC bs (b+1)))]):=by
 have s:=OJ bs b hT;have ht:=hT.1;unfold fF at ht;have j:cE ((aT bs b).map iD):=by unfold cE;rw[nA];omega
 have g:dP bs.length (nC bs b)=dP bs.length (nT bs b 0):=GG λi _=>(i7 bs b i).symm;have e1:dP bs.length (nC bs (b+1))=dP bs.length (nT bs b (aT bs b).length):=GG λi _=>(Qd bs b i).symm;rw[g,e1];refine cI GB (λk=>[.i nb,.i (k:Int),.i (b:Int),.i ((aT bs b).length:Int),.i (b:Int),.s nm,.b o,.l ps,.i r,.l bs,.l (dP bs.length (nT bs b k)),.l ((aT bs b).map iD)]) (aT bs b).length (λk c=>?_) ?_
 ·have d:k<((aT bs b).map iD).length:=by rw[nA];exact c
  have hg:gD ((aT bs b).map iD) k=iD (aT bs b)[k]:=UM c;have e:(aT bs b)[k]<bs.length:=QH (List.getElem_mem c);have f:aA (gD ((aT bs b).map iD) k).toI (dP bs.length (nT bs b k)).length=true:=by rw[hg,QI];exact aE e
  obtain⟨h,l⟩:=Qf bs b k c e;refine aC (aV c) (aC (aE d) (aC f (aC ?_ (aC f (aC ?_ (aO ((nx d j [.i nb] _).trans ?_)))))))
  ·show jP ((D.els (gD (dP bs.length (nT bs b k)) (Int.toNat (gD ((aT bs b).map iD) k).toI))).length+1) 8=true;rw[h];refine fG ?_ (by omega);have:=Bp bs b (aT bs b)[k];simp[D.els];omega
  ·show((Nat.beq (Int.toNat (gD ((aT bs b).map iD) k).toI) (Int.toNat (gD ((aT bs b).map iD) k).toI))&&true)=true;simp
  ·rw[<-l];rfl
 ·exact aJ (aX _) (bH rfl)
theorem Va:iQ E aW sites Ag [oK nm o ps r bs] (.l (dP bs.length (iP bs))) []:=by
 refine bA GB (by rfl) rfl ?_;show Ev _ _ (NX _) _;unfold NX;have ht:=hT.1;unfold fF at ht;have f:jP (Int.toNat (bs.length:Int)) 24=true:=fG (by omega) (by omega);have d:fV GA 0 [.i (bs.length:Int),.i 0,.s nm,.b o,.l ps,.i r,.l bs,.l (dP bs.length (nC bs 0))] (0,[.l (dP bs.length (nC bs bs.length))]):=by
  refine cI GB (λj=>[.i (bs.length:Int),.i (j:Int),.s nm,.b o,.l ps,.i r,.l bs,.l (dP bs.length (nC bs j))]) bs.length (λj c=>?_) ?_
  ·refine aC (aV c) (bK (KT nm o ps r bs hT j) rfl ?_);have e:=Zw nm o ps r bs hT j bs.length c;rw[show((aT bs j).length:Int)=iE (.l ((aT bs j).map iD))by simp[iE,D.els]]at e;exact aP e (bG (aO (nx c hT.1.sane [.i (bs.length:Int)] _)))
  ·exact aJ (aX _) (bH rfl)
 refine aC ?_ ?_
 ·show(cK 0 (bs.length:Int)&&(aD (bs.length:Int) (bs.length:Int)&&jP (Int.toNat (bs.length:Int)) 24))=true;rw[jK (by omega),qF,f];rfl
 ·rw[<-Qe]at d;exact aP d (bG (bI rfl rfl))
end
end Go.Eng.Q

namespace Go.Eng.Q
open Go.Eng
def sI(n:Nat)(f:Nat->Int):LD:=(List.range n).map λi=>.i (f i)
theorem HW(n:Nat)(f:Nat->Int):(sI n f).length=n:=by simp[sI]
theorem Zx{n i:Nat}(f:Nat->Int)(h:i<n):gD (sI n f) i=.i (f i):=by simp[gD,List.getD,sI,h]
def QU(f:Nat->Int)(i:Nat)(v:Int):Nat->Int:=λk=>bif Nat.beq k i then v else f k
theorem HX(f:Nat->Int)(i:Nat)(v:Int):QU f i v i=v:=by simp[QU]
theorem QJ(f:Nat->Int){i k:Nat}(v:Int)(h:k≠i):QU f i v k=f k:=by
 unfold QU;cases e:Nat.beq k i with
 |true=>exact absurd (Nat.eq_of_beq_eq_true e) h
 |false=>rfl
theorem Zy{n i:Nat}(f:Nat->Int)(v:Int):(sI n f).set i (.i v)=sI n (QU f i v):=by
 apply List.ext_getElem
 ·simp[sI]
 ·intro k c d;rw[List.getElem_set];by_cases e:i=k
  ·subst e;simp[sI,HX]
  ·simp[sI,e,QJ f v (Ne.symm e)]
theorem aAA(n:Nat):List.replicate n (D.i 0)=sI n (λ_=>0):=by apply List.ext_getElem<;>simp[sI]
def nz(s:Nat->Int)(i:Nat):Bool:=!(aD (s i) 0)
theorem aAB{s:Nat->Int}{i:Nat}:nz s i=true<->s i≠0:=by unfold nz;rw[eG];simp
def BC(nb:Nat)(s:Nat->Int):Nat:=tE nb (nz s)
theorem Lt{nb:Nat}{s t:Nat->Int}(h:∀i,s i≠0->t i≠0):BC nb t<=BC nb s:=Uy nb λi c=>aAB.2 (h i (aAB.1 c))
theorem Zz{nb:Nat}{s t:Nat->Int}{b:Nat}(h:∀i,s i≠0->t i≠0)(e:b<nb)(c:s b=0)(d:t b≠0):BC nb t<BC nb s:=
 KS nb (λi f=>aAB.2 (h i (aAB.1 f))) e (by unfold nz;rw[c];rfl) (aAB.2 d)
section
variable(nm:List UInt8)(o:Bool)(ps:LD)(r:Int)(bs:LD)
abbrev Eq(s:Nat->Int)(out:LD)(c:Bool):D:=.l [.s nm,.b o,.l ps,.i r,.l bs,.l (sI bs.length s),.l out,.b c]
structure Vis(b:Nat)(s:Nat->Int)(o1:LD)(t:Nat->Int)(o2:LD):Prop where
 mono:∀i,s i≠0->t i≠0
 snd:∀i,t i≠0->s i≠0\/RA bs 0 (-1) i
 cl:∀i,t i≠0->s i≠0\/∀n:Nat,n∈aT bs i->t n≠0
 at1:t b≠0
 cnt:o2.length+BC bs.length t<=o1.length+BC bs.length s
structure Vk(b:Nat)(s:Nat->Int)(o1:LD)(k:Nat)(q:(Nat->Int)×LD×Bool):Prop where
 mono:∀i,s i≠0->q.1 i≠0
 snd:∀i,q.1 i≠0->s i≠0\/RA bs 0 (-1) i
 cl:∀i,q.1 i≠0->s i≠0\/∀n:Nat,n∈aT bs i->q.1 n≠0
 done:∀(i:Nat)(h:i<(aT bs b).length),i<k->q.1 (aT bs b)[i]≠0
 cnt:q.2.1.length+BC bs.length q.1<=o1.length+BC bs.length s
theorem aCN(W:fZ bs):∀(N:Nat)(b:Nat)(s:Nat->Int)(out:LD)(G:Bool),BC bs.length s<=N->b<bs.length->s b=0->RA bs 0 (-1) b->out.length+BC bs.length s<=10000->
  ∃t y H,Vis bs b s out t y/\iQ E aW sites kL [Eq nm o ps r bs s out G,.i (b:Int)] (.l []) [Eq nm o ps r bs t y H]:=by
 intro N;induction N with
 |zero=>
  intro b s out G v K U;have:BC bs.length (QU s b 1)<BC bs.length s:=Zz (λi d=>by
   by_cases e:i=b
   ·subst e;exact absurd U d
   ·rw[QJ s 1 e];exact d) K U (by rw[HX];decide)
  omega
 |succ N b2=>
  intro b s out G b3 L T V b6;have a2:∀i,s i≠0->QU s b 1 i≠0:=λi d=>by
   by_cases e:i=b
   ·subst e;exact absurd T d
   ·rw[QJ s 1 e];exact d
  have b7:BC bs.length (QU s b 1)<BC bs.length s:=Zz a2 L T (by rw[HX];decide);have b5:=OJ bs b W;have b0:cE ((aT bs b).map iD):=by unfold cE;rw[nA];omega
  have a9:=EP sH (b:=0) (λk(q:(Nat->Int)×LD×Bool)=>[.i (b:Int),.i (k:Int),.i ((aT bs b).length:Int),.s nm,.b o,.l ps,.i r,.l bs,.b q.2.2,.l (sI bs.length q.1),.l q.2.1,.l ((aT bs b).map iD)]) (aT bs b).length (λq=>(0,[.i (b:Int),.s nm,.b o,.l ps,.i r,.l bs,.b q.2.2,.l (sI bs.length q.1),.l q.2.1])) (Vk bs b (QU s b 1) out) (λk q f c=>?_) (λq c=>?_) (s0:=(QU s b 1,out,G)) ⟨λi h=>h,λi h=>.inl h,λi h=>.inl h,λi h v=>by omega,Nat.le_refl _⟩
  ·obtain⟨q,c,a1⟩:=a9;have a0:q.1 b≠0:=c.mono b (by rw[HX];decide);have m:∀i,QU q.1 b 2 i≠0<->q.1 i≠0:=λi=>by
    by_cases e:i=b
    ·subst e;rw[HX];exact⟨λ_=>a0,λ_=>by decide⟩
    ·rw[QJ _ 2 e]
   have b1:BC bs.length (QU q.1 b 2)=BC bs.length q.1:=Nat.le_antisymm (Lt λi h=>(m i).2 h) (Lt λi h=>(m i).1 h);refine⟨QU q.1 b 2,q.2.1++[.i (b:Int)],q.2.2,⟨λi d=>(m i).2 (c.mono i (a2 i d)),λi d=>?_,λi d=>?_,(m b).2 a0,?_⟩,?_⟩
   ·rcases c.snd i ((m i).1 d)with h |h
    ·by_cases e:i=b
     ·subst e;exact .inr V
     ·rw[QJ s 1 e]at h;exact .inl h
    ·exact .inr h
   ·by_cases e:i=b
    ·subst e;refine .inr λn g=>(m n).2 ?_;obtain⟨k,f,J⟩:=List.getElem_of_mem g;have:=c.done k f f;rw[J]at this;exact this
    ·rcases c.cl i ((m i).1 d)with h |h
     ·rw[QJ s 1 e]at h;exact .inl h
     ·exact .inr λn g=>(m n).2 (h n g)
   ·have:=c.cnt;rw[b1,List.length_append,List.length_singleton];omega
   ·refine bA sH (by rfl) rfl ?_;refine aC ?_ (bK (KT nm o ps r bs W b) rfl ?_)
    ·show aA (b:Int) (sI bs.length s).length=true;rw[HW];exact aE L
    ·have e1:(sI bs.length s).set b (.i 1)=sI bs.length (QU s b 1):=Zy s 1;have J:iE (.l ((aT bs b).map iD))=((aT bs b).length:Int):=by simp[iE,D.els]
     rw[<-e1,<-J]at a1;refine aP a1 (bG (aC ?_ (aC ?_ (bI rfl ?_))))
     ·show aA (b:Int) (sI bs.length q.1).length=true;rw[HW];exact aE L
     ·show jP (q.2.1.length+1) 8=true;have:=c.cnt;exact fG (by omega) (by omega)
     ·have a4:(sI bs.length q.1).set b (.i 2)=sI bs.length (QU q.1 b 2):=Zy q.1 2;show[Eq nm o ps r bs (QU q.1 b 2) (q.2.1++[.i (b:Int)]) q.2.2]=[D.l [.s nm,.b o,.l ps,.i r,.l bs,.l ((sI bs.length q.1).set b (.i 2)),.l (q.2.1++[.i (b:Int)]),.b q.2.2]];rw[a4]
  ·have F:k<((aT bs b).map iD).length:=by rw[nA];exact f
   have hg:gD ((aT bs b).map iD) k=iD (aT bs b)[k]:=UM f;have g:(aT bs b)[k]<bs.length:=QH (List.getElem_mem f);have Q:aA (gD ((aT bs b).map iD) k).toI (sI bs.length q.1).length=true:=by rw[hg,HW];exact aE g
   have a3:(gD (sI bs.length q.1) (Int.toNat (gD ((aT bs b).map iD) k).toI)).toI=q.1 (aT bs b)[k]:=by rw[hg];exact congrArg D.toI (Zx q.1 g)
   have P:=λl=>nx (j:=k) F b0 [.i (b:Int)] l;by_cases C:q.1 (aT bs b)[k]=0
   ·have c0:=Lt (nb:=bs.length) c.mono;have b4:=c.cnt;obtain⟨t,y,H,u,a6⟩:=b2 (aT bs b)[k] q.1 q.2.1 q.2.2 (by omega) g C (RA.step V (List.getElem_mem f) (by omega)) (by omega);refine⟨(t,y,H),⟨λi h=>u.mono i (c.mono i h),λi h=>?_,λi h=>?_,λi v K=>?_,Nat.le_trans u.cnt c.cnt⟩,?_⟩
    ·rcases u.snd i h with h |h
     ·exact c.snd i h
     ·exact .inr h
    ·rcases u.cl i h with h |h
     ·rcases c.cl i h with h |h
      ·exact .inl h
      ·exact .inr λn g=>u.mono n (h n g)
     ·exact .inr h
    ·by_cases e:i=k
     ·subst e;exact u.at1
     ·exact u.mono _ (c.done i v (by omega))
    ·refine aC (aV f) (aC (aE F) (aC Q (aC ?_ ?_)))
     ·show aD (gD (sI bs.length q.1) (Int.toNat (gD ((aT bs b).map iD) k).toI)).toI 0=true;rw[a3,C];rfl
     ·have a5:D.i (gD ((aT bs b).map iD) k).toI=D.i ((aT bs b)[k]:Int):=by rw[hg];rfl
      have a7:iQ E aW sites kL [Eq nm o ps r bs q.1 q.2.1 q.2.2,.i (gD ((aT bs b).map iD) k).toI] (.l []) [Eq nm o ps r bs t y H]:=by rw[a5];exact a6
      exact bK a7 rfl (aO (P _))
   ·have Y:aD (gD (sI bs.length q.1) (Int.toNat (gD ((aT bs b).map iD) k).toI)).toI 0=false:=by rw[a3];exact gR C
    have hd:∀(i:Nat)(h:i<(aT bs b).length),i<k+1->q.1 (aT bs b)[i]≠0:=λi v K=>by
     by_cases e:i=k
     ·subst e;exact C
     ·exact c.done i v (by omega)
    cases e1:aD (gD (sI bs.length q.1) (Int.toNat (gD ((aT bs b).map iD) k).toI)).toI 1 with
    |true=>refine⟨(q.1,q.2.1,true),⟨c.mono,c.snd,c.cl,hd,c.cnt⟩,?_⟩;exact aC (aV f) (aC (aE F) (aC Q (aJ Y (aC e1 (aO (P _))))))
    |false=>refine⟨q,⟨c.mono,c.snd,c.cl,hd,c.cnt⟩,?_⟩;exact aC (aV f) (aC (aE F) (aC Q (aJ Y (aJ e1 (aO (P _))))))
  ·exact aJ (aX _) (bH rfl)
end
end Go.Eng.Q

namespace Go.Eng.Q
open Go.Eng
theorem Lu{n j:Nat}(f:Nat->Bool)(h:j<n):(aZ n (λi=>decide (i<j)&&f i)).set j (.b (f j))=aZ n (λi=>decide (i<j+1)&&f i):=by
 apply List.ext_getElem
 ·simp[aZ]
 ·intro k d g;rw[List.getElem_set];by_cases e:j=k
  ·subst e;simp[aZ]
  ·simp only[aZ,List.getElem_map,List.getElem_range,e,if_false];have:decide (k<j)=decide (k<j+1):=by
    by_cases c:k<j
    ·rw[decide_eq_true c,decide_eq_true (by omega:k<j+1)]
    ·rw[decide_eq_false c,decide_eq_false (by omega:¬k<j+1)]
   rw[this]
section
variable(nm:List UInt8)(o:Bool)(ps:LD)(r:Int)(bs:LD)(hT:fZ bs)(h0:0<bs.length)
include hT h0
theorem Lv:∃t out c,Vis bs 0 (λ_=>0) [] t out/\iQ E aW sites NK [oK nm o ps r bs] (.l [Eq nm o ps r bs t out c]) []:=by
 have ht:=hT.1;unfold fF at ht;have l:BC bs.length (λ_=>0)<=bs.length:=by
  have:∀(n:Nat)(f:Nat->Bool),tE n f<=n:=λn f=>by
   induction n with
   |zero=>exact Nat.le_refl _
   |succ n m=>unfold tE;cases f n<;>simp<;>omega
  exact this _ _
 obtain⟨t,out,c,d,g⟩:=aCN nm o ps r bs hT _ 0 (λ_=>0) [] false (Nat.le_refl _) h0 rfl (RA.base (start:=0) (by omega) (by omega) (by omega)) (by simp;omega);refine⟨t,out,c,d,bA RT (by rfl) rfl ?_⟩;show Ev _ _ (GV _) _;unfold GV;have j:jP (Int.toNat (bs.length:Int)) 8=true:=fG (by omega) (by omega);refine aC ?_ (aC ?_ ?_)
 ·show(cK 0 (bs.length:Int)&&(aD (bs.length:Int) (bs.length:Int)&&jP (Int.toNat (bs.length:Int)) 8))=true;rw[jK (by omega),qF,j];rfl
 ·exact Np (by show(0:Int)<(bs.length:Int);omega)
 ·have e:List.replicate bs.length (D.i 0)=sI bs.length (λ_=>0):=aAA _;have h:iQ E aW sites kL [.l [.s nm,.b o,.l ps,.i r,.l bs,.l (List.replicate bs.length (D.i 0)),.l [],.b false],.i 0] (.l []) [Eq nm o ps r bs t out c]:=by rw[e];exact g
  exact bK h rfl (bI rfl rfl)
theorem RW:iQ E aW sites JU [oK nm o ps r bs] (.l (dB bs 0 (-1))) []:=by
 obtain⟨t,out,y,d,m⟩:=Lv nm o ps r bs hT h0;refine bA KI (by rfl) rfl ?_;show Ev _ _ (JZ _) _;unfold JZ;have ht:=hT.1;unfold fF at ht;have s:jP (Int.toNat (bs.length:Int)) 1=true:=fG (by omega) (by omega);have F:cE (sI bs.length t):=by unfold cE;rw[HW];omega
 have g:List.replicate bs.length (D.b false)=aZ bs.length (λi=>decide (i<0)&&nz t i):=by rw[<-mY];exact mZ λi _=>rfl
 have e1:dB bs 0 (-1)=aZ bs.length (λi=>decide (i<bs.length)&&nz t i):=by
  refine mZ λi e=>?_;rw[decide_eq_true e,Bool.true_and,Bool.eq_iff_iff,zR,aAB];constructor
  ·intro h;clear e;induction h with
   |base _ _ _=>exact d.at1
   |step C u _ v=>
    rcases d.cl _ v with h |h
    ·exact absurd rfl h
    ·exact h _ u
  ·intro h;rcases d.snd i h with h |h
   ·exact absurd rfl h
   ·exact h
 have f:fV KH 0 [.i (bs.length:Int),.i 0,.l (aZ bs.length (λi=>decide (i<0)&&nz t i)),.l (sI bs.length t)] (0,[.l (aZ bs.length (λi=>decide (i<bs.length)&&nz t i))]):=by
  refine cI KI (λj=>[.i (bs.length:Int),.i (j:Int),.l (aZ bs.length (λi=>decide (i<j)&&nz t i)),.l (sI bs.length t)]) bs.length (λj c=>?_) ?_
  ·refine aC (aV c) (aC ?_ (aC ?_ (aO ((nx c hT.1.sane [.i (bs.length:Int)] _).trans ?_))))
   ·show aA (j:Int) (sI bs.length t).length=true;rw[HW];exact aE c
   ·show aA (j:Int) (aZ bs.length (λi=>decide (i<j)&&nz t i)).length=true;rw[fH];exact aE c
   ·rw[<-Lu (nz t) c];have:D.b (nz t j)=D.b (!(aD (gD (sI bs.length t) j).toI 0)):=by rw[Zx t c];rfl
    rw[this];rfl
  ·exact aJ (aX _) (bH rfl)
 have l:iX (Eq nm o ps r bs t out y) 5=(bs.length:Int):=by show((sI bs.length t).length:Int)=_;rw[HW]
 rw[<-g,<-e1,<-l]at f;refine bK m rfl (aJ rfl (aC ?_ (aP f (bG (bI rfl rfl)))));show(cK 0 (bs.length:Int)&&(aD (bs.length:Int) (bs.length:Int)&&jP (Int.toNat (bs.length:Int)) 1))=true;rw[jK (by omega),qF,s];rfl
end
end Go.Eng.Q

namespace Go.Eng.Q
open Go.Eng
abbrev HY(l:LD)(k:Nat):Int:=vI (gD l k) 0
def Nh(l:LD)(k:Nat):Bool:=bif gQ (HY l k)then aD (k:Int) ((l.length-1:Nat):Int)else !(aD (k:Int) ((l.length-1:Nat):Int))
def phB(l:LD)(k:Nat):Bool:=(aQ 0 (k:Int)&&aD (HY l k) 26)&&!(aD (HY l (k-1)) 26)
def OK(l:LD)(k:Nat):Bool:=!(Nh l k)||phB l k
def qJ(nb:Nat)(x:D):Bool:=aQ x.toI 1||cK (nb:Int) x.toI
def Er(x:D):Bool:=aD (vI x 0) 28&&aD (gD (eX x 6) 0).toI (gD (eX x 6) 1).toI
def Q0(nb:Nat)(b:D):Bool:=aD (b.els.length:Int) 0||(eD b.els.length (OK b.els)||((eX (gG b) 6).any (qJ nb)||Er (gG b)))
def nU(a b:LD):Bool:=aD (a.length:Int) b.length&&!eD a.length λi=>!aD (gD a i).toI (gD b i).toI
def ET(bs:LD)(b:Nat)(x:D):Bool:=aD (vI x 0) 26&&(aD (b:Int) 0||!(nU (eX x 6) ((iP bs b).map iD)))
noncomputable def SS(bs:LD)(b:Nat):Bool:=!(Fm bs 0 (-1) b)||(gD bs b).els.any (ET bs b)
noncomputable def mL(bs:LD):Bool:=!(bs.any (Q0 bs.length))&&!(eD bs.length (SS bs))
theorem UN(a b:LD)(f:cE a):iQ E aW sites PW [.l a,.l b] (.b (nU a b)) []:=by
 refine bA Bk (by rfl) rfl ?_;show Ev _ _ (Av _) _;unfold Av nU;cases e:aD (a.length:Int) b.length with
 |false=>exact aC (congrArg Bool.not e) (bI rfl rfl)
 |true=>
  have l:a.length=b.length:=by have:=(bT _ _).1 e;omega
  refine aJ (congrArg Bool.not e) ?_;have h:fV Bj 0 [.l a,.l b,.i 0] (bif eD a.length (λi=>!aD (gD a i).toI (gD b i).toI)then(0,[.b false])else(1,[])):=by
   refine yC Bk (λj=>[.l a,.l b,.i (j:Int)]) a.length _ (λj c=>?_) ?_
   ·show O2 _ _ (AZ _) _ _;unfold AZ;have g:j<b.length:=by omega
    exact oT (aV c) (oT (aE c) (oT (aE g) (oE rfl rfl (nx c f [.l a,.l b] []))))
   ·exact aJ (aX _) (bH rfl)
  cases d:eD a.length (λi=>!aD (gD a i).toI (gD b i).toI)with
  |true=>rw[d]at h;exact aP h (bG (bI rfl rfl))
  |false=>rw[d]at h;exact aP h (eO (bG (bI rfl rfl)))
def i9(x:D):Prop:=d9 (vI x 0) (vI x 1) (vI x 2) (vI x 3) (vI x 4) (eX x 5).length (eX x 6).length
def nS(bs:LD):Prop:=∀b,b<bs.length->∀j,j<(gD bs b).els.length->i9 (gD (gD bs b).els j)
theorem aCO{x:D}(h:rG x=false):i9 x:=form_says (vI x 0) (vI x 1) (vI x 2) (vI x 3) (vI x 4) (eX x 5) (eX x 6) (by
 unfold rG at h;cases c:D.toB (dQ (En x))with
 |true=>exact c
 |false=>rw[c]at h;cases h)
theorem Bq{xs fs:LD}(h:mC xs fs=true):∀j,j<fs.length->nS (eX (gD fs j) 4):=λj g m l i f=>by
 unfold mC at h;have d:fs.any qI=false:=by
  cases e:fs.any qI with
  |false=>rfl
  |true=>rw[e,Bool.not_true,Bool.and_false]at h;cases h
 have c:=XT d j g;unfold qI at c;simp only[Bool.or_eq_false_iff]at c;exact aCO (XT (XT c.2.2 m l) i f)
theorem aHD(X e:Bool){k c:Nat}(h:k<c)(f:c<=1000000):((!(X&&(((aQ 0 (k:Int))&&e)&&true)))||aA (bE .i64 ((k:Int)-1)) c)=true:=by
 by_cases d:k=0
 ·subst d;rw[show aQ 0 ((0:Nat):Int)=false from rfl,Bool.false_and,Bool.false_and,Bool.and_false];rfl
 ·rw[ES (by omega) (by omega),aE (by omega),Bool.or_true]
section
variable(nm:List UInt8)(o:Bool)(ps:LD)(r:Int)(bs:LD)
theorem Q1(d:Int)(l:LD)(g:0<l.length)(f:fF l):
  fV tZ 2 [.i d,.i 0,.l l,.s nm,.b o,.l ps,.i r,.l bs] (bif eD l.length (OK l)then(0,[.i d,.b false,.l l,.s nm,.b o,.l ps,.i r,.l bs])else(1,[.i d,.l l,.s nm,.b o,.l ps,.i r,.l bs])):=by
 have m:=f.sane;unfold fF at f;have h:l.length<=1000000:=by omega
 refine yC uA (λj=>[.i d,.i (j:Int),.l l,.s nm,.b o,.l ps,.i r,.l bs]) l.length (OK l) (λj c=>?_) ?_
 ·refine oT (aV c) (oT (aE c) (oC (La (HY l j)) rfl (oT (aH (aE c)) (oT (aHD _ _ c h) (oE ?_ rfl (nx c m [.i d] _))))));unfold OK Nh phB;show((!(bif gQ (HY l j)then aD (j:Int) (bE .i64 ((l.length:Int)-1))else !(aD (j:Int) (bE .i64 ((l.length:Int)-1)))))||(((aQ 0 (j:Int))&&(aD (HY l j) 26))&&(!(aD (vI (gD l (Int.toNat (bE .i64 ((j:Int)-1)))) 0) 26))))=_;rw[ES g (by omega)];by_cases e:j=0
  ·subst e;rw[show aQ 0 ((0:Nat):Int)=false from rfl,Bool.false_and,Bool.false_and,Bool.false_and]
  ·rw[Lp (by omega) (by omega)]
 ·exact aJ (aX _) (bH rfl)
theorem Q2(jb op ty to sym num:Int)(as1 l:LD)(d:cE l):
  fV tZ 4 [.i jb,.i 0,.s nm,.b o,.l ps,.i r,.l bs,.i op,.i ty,.i to,.i sym,.i num,.l as1,.l l] (bif l.any (qJ bs.length)then(0,[.i jb,.b false,.s nm,.b o,.l ps,.i r,.l bs,.i op,.i ty,.i to,.i sym,.i num,.l as1,.l l])else(1,[.i jb,.s nm,.b o,.l ps,.i r,.l bs,.i op,.i ty,.i to,.i sym,.i num,.l as1,.l l])):=by
 refine HT uA (λj=>[.i jb,.i (j:Int),.s nm,.b o,.l ps,.i r,.l bs,.i op,.i ty,.i to,.i sym,.i num,.l as1,.l l]) l (qJ bs.length) (λj c=>?_) ?_
 ·exact oT (aV c) (oT (aE c) (oT (aH (aE c)) (oE rfl rfl (nx c d [.i jb] _))))
 ·exact aJ (aX _) (bH rfl)
theorem Q3(h:fZ bs)(v:nS bs):
  fV tZ 0 [.i 0,.s nm,.b o,.l ps,.i r,.l bs] (bif bs.any (Q0 bs.length)then(0,[.b false,.s nm,.b o,.l ps,.i r,.l bs])else(1,[.s nm,.b o,.l ps,.i r,.l bs])):=by
 refine HT uA (λj=>[.i (j:Int),.s nm,.b o,.l ps,.i r,.l bs]) bs (Q0 bs.length) (λj c=>?_) ?_
 ·have g:=h.2 j c;refine oT (aV c) (oT (aE c) (oO (b2:=eD (gD bs j).els.length (OK (gD bs j).els)||((eX (gG (gD bs j)) 6).any (qJ bs.length)||Er (gG (gD bs j)))) rfl rfl (λy=>?_)));have d:0<(gD bs j).els.length:=by
   rcases Nat.eq_zero_or_pos (gD bs j).els.length with e |e
   ·have:aD ((gD bs j).els.length:Int) 0=false:=y;rw[e]at this;cases this
   ·exact e
  have m:=g.ins;refine oLO (b1:=eD (gD bs j).els.length (OK (gD bs j).els)) (b2:=(eX (gG (gD bs j)) 6).any (qJ bs.length)||Er (gG (gD bs j))) rfl (Q1 nm o ps r bs j (gD bs j).els d m) rfl (λC=>?_);have f:(gD bs j).els.length-1<(gD bs j).els.length:=by omega
  have hx:=g.i _ f;unfold fF at m;have u:gG (gD bs j)=gD (gD bs j).els (Int.toNat (bE .i64 (((gD bs j).els.length:Int)-1))):=by rw[Lp d (by omega)];rfl
  have l:i9 (gG (gD bs j)):=v j c _ f;refine oT ?_ ?_
  ·show aA (bE .i64 (((gD bs j).els.length:Int)-1)) (gD bs j).els.length=true;rw[ES d (by omega)];exact aE f
  ·have s:cE (eX (gG (gD bs j)) 6):=hx.is1.sane;rw[u]at s l⊢;have t:∀i,i<2->((!((aD (vI (gD (gD bs j).els (Int.toNat (bE .i64 (((gD bs j).els.length:Int)-1)))) 0) 28)&&true))||aA (i:Nat) (eX (gD (gD bs j).els (Int.toNat (bE .i64 (((gD bs j).els.length:Int)-1)))) 6).length)=true:=λi F=>by
    cases e:aD (vI (gD (gD bs j).els (Int.toNat (bE .i64 (((gD bs j).els.length:Int)-1)))) 0) 28 with
    |false=>rfl
    |true=>have:=l.i2 ((bT _ _).1 e);rw[aE (by omega),Bool.or_true]
   exact oLO (b1:=(eX (gD (gD bs j).els (Int.toNat (bE .i64 (((gD bs j).els.length:Int)-1)))) 6).any (qJ bs.length)) (b2:=Er (gD (gD bs j).els (Int.toNat (bE .i64 (((gD bs j).els.length:Int)-1))))) rfl (Q2 nm o ps r bs j (vI (gD (gD bs j).els (Int.toNat (bE .i64 (((gD bs j).els.length:Int)-1)))) 0) (vI (gD (gD bs j).els (Int.toNat (bE .i64 (((gD bs j).els.length:Int)-1)))) 1) (vI (gD (gD bs j).els (Int.toNat (bE .i64 (((gD bs j).els.length:Int)-1)))) 2) (vI (gD (gD bs j).els (Int.toNat (bE .i64 (((gD bs j).els.length:Int)-1)))) 3) (vI (gD (gD bs j).els (Int.toNat (bE .i64 (((gD bs j).els.length:Int)-1)))) 4) (eX (gD (gD bs j).els (Int.toNat (bE .i64 (((gD bs j).els.length:Int)-1)))) 5) (eX (gD (gD bs j).els (Int.toNat (bE .i64 (((gD bs j).els.length:Int)-1)))) 6) s) rfl (λ_=>oT (t 0 (by omega)) (oT (t 1 (by omega)) (oE rfl rfl (nx c h.1.sane [] _))))
 ·exact aJ (aX _) (bH rfl)
theorem Q4(b:Nat)(l:LD)(e:LD)(g:b<bs.length)(s:fF l)(m:∀j,j<l.length->Zq (gD l j)):
  fV tZ 8 [.l l,.i 0,.i (b:Int),.s nm,.b o,.l ps,.i r,.l bs,.l e,.l (dP bs.length (iP bs))] (bif l.any (ET bs b)then(0,[.b false,.i (b:Int),.s nm,.b o,.l ps,.i r,.l bs,.l e,.l (dP bs.length (iP bs))])else(1,[.i (b:Int),.s nm,.b o,.l ps,.i r,.l bs,.l e,.l (dP bs.length (iP bs))])):=by
 refine HT uA (λj=>[.l l,.i (j:Int),.i (b:Int),.s nm,.b o,.l ps,.i r,.l bs,.l e,.l (dP bs.length (iP bs))]) l (ET bs b) (λj d=>?_) ?_
 ·have t:aA (b:Int) (dP bs.length (iP bs)).length=true:=by rw[QI];exact aE g
  have hx:=nx d s.sane [.l l] [.i (b:Int),.s nm,.b o,.l ps,.i r,.l bs,.l e,.l (dP bs.length (iP bs))];refine oT (aV d) (oT (aE d) (oT (aH (aE d)) (oT (aH t) ?_)));cases e1:aD (vI (gD l j) 0) 26 with
  |false=>refine oF (congrArg (λc=>(c&&true)&&(!(aD (b:Int) 0))) e1) (oE ?_ rfl hx);unfold ET;rw[e1];exact congrArg (λc=>c&&((aD (b:Int) 0)||(!(D.toB (.i 0))))) e1
  |true=>
   cases f:aD (b:Int) 0 with
   |true=>refine oF ((congrArg (λc=>(c&&true)&&(!(aD (b:Int) 0))) e1).trans (congrArg (λc=>(true&&true)&&(!c)) f)) (oE ?_ rfl hx);unfold ET;rw[e1,f];exact(congrArg (λc=>c&&((aD (b:Int) 0)||(!(D.toB (.i 0))))) e1).trans (congrArg (λc=>true&&(c||(!(D.toB (.i 0))))) f)
   |false=>
    refine oT ((congrArg (λc=>(c&&true)&&(!(aD (b:Int) 0))) e1).trans (congrArg (λc=>(true&&true)&&(!c)) f)) ?_;have hg:gD (dP bs.length (iP bs)) b=.l ((iP bs b).map iD):=Bo _ g;have h:iQ E aW sites PW [.l (eX (gD l j) 6),.l (D.els (gD (dP bs.length (iP bs)) b))] (.b (nU (eX (gD l j) 6) ((iP bs b).map iD))) []:=by rw[hg];exact UN _ _ (m j d).is1.sane
    exact oC h rfl (oE rfl rfl hx)
 ·exact aJ (aX _) (bH rfl)
theorem Q5(e:fZ bs):
  fV tZ 6 [.i 0,.s nm,.b o,.l ps,.i r,.l bs,.l (dB bs 0 (-1)),.l (dP bs.length (iP bs))] (bif eD bs.length (SS bs)then(0,[.b false])else(1,[])):=by
 refine yC uA (λj=>[.i (j:Int),.s nm,.b o,.l ps,.i r,.l bs,.l (dB bs 0 (-1)),.l (dP bs.length (iP bs))]) bs.length (SS bs) (λj c=>?_) ?_
 ·have d:=e.2 j c;have hg:(gD (dB bs 0 (-1)) j).toB=Fm bs 0 (-1) j:=congrArg D.toB (kN _ c);refine oT (aV c) (oT ?_ (oO (b2:=(gD bs j).els.any (ET bs j)) ?_ rfl (λ_=>oT (aE c) (oL (Q4 nm o ps r bs j (gD bs j).els (dB bs 0 (-1)) c d.ins d.i) rfl (congrArg IX.again (nx c e.1.sane [] _).symm)))))
  ·show aA (j:Int) (dB bs 0 (-1)).length=true;unfold dB;rw[fH];exact aE c
  ·unfold SS;rw[<-hg];rfl
 ·exact aJ (aX _) (bH rfl)
theorem A0(e:fZ bs)(g:nS bs):iQ E aW sites Jx [oK nm o ps r bs] (.b (mL bs)) []:=by
 refine bA uA (by rfl) rfl ?_;show Ev _ _ (TP _) _;unfold TP mL;have c:=Q3 nm o ps r bs e g;have d:=Q5 nm o ps r bs e;cases e1:bs.any (Q0 bs.length)with
 |true=>rw[e1]at c;exact aP c (bG (bI rfl rfl))
 |false=>
 rw[e1]at c;refine aP c (eO (bG (bK (Ep nm o ps r bs e) rfl (bK (P9 nm o ps r bs e) rfl ?_))));cases f:eD bs.length (SS bs)with
 |true=>rw[f]at d;exact aP d (bG (bI rfl rfl))
 |false=>rw[f]at d;exact aP d (eO (bG (bI rfl rfl)))
end
end Go.Eng.Q

namespace Go.Eng.Q
open Go.Eng
def beh(l:LD)(k:Nat):Bool:=eD k λi=>!(aD (HY l i) 26)
def OL(b:Nat)(l:LD)(k:Nat):Bool:=!(Nh l k)||(aD (HY l k) 26&&(beh l k||aD (b:Int) 0))
def OM(x:D):Bool:=aD ((eX x 6).length:Int) 2&&aD (gD (eX x 6) 0).toI (gD (eX x 6) 1).toI
def Qg(bs:LD)(b:Nat):Bool:=aD ((gD bs b).els.length:Int) 0||(eD (gD bs b).els.length (OL b (gD bs b).els)||((eX (gG (gD bs b)) 6).any (qJ bs.length)||OM (gG (gD bs b))))
def CJ(bs:LD)(b:Nat)(x:D):Bool:=aD (vI x 0) 26&&!(nU (eX x 6) ((iP bs b).map iD))
noncomputable def Vb(bs:LD):Bool:=!(eD bs.length (Qg bs))&&(!((dB bs 0 (-1)).any λx=>!x.toB)&&!(eD bs.length λb=>(gD bs b).els.any (CJ bs b)))
theorem Q6(l:LD)(s:cE l):∃k:Int,cK 0 k=(l.any λx=>!x.toB)/\iQ E aW sites oA [.l l,.b false] (.i k) []:=by
 cases h:l.any (λx=>!x.toB)with
 |false=>
  refine⟨-1,rfl,bA gO (by rfl) rfl ?_⟩;show Ev _ _ (gK _) _;unfold gK;have f:fV jN 0 [.l l,.b false,.i (l.length:Int),.i 0] (1,[]):=by
   refine cI gO (λj=>[.l l,.b false,.i (l.length:Int),.i (j:Int)]) l.length (λj c=>?_) ?_
   ·exact aC (aV c) (aC (aE c) (aJ (XT h j c) (aO (nx c s [.l l,.b false,.i (l.length:Int)] []))))
   ·exact aJ (aX _) (bH rfl)
  exact aP f (eO (bG (bI rfl rfl)))
 |true=>
  have t:eD l.length (λj=>!(gD l j).toB)=true:=by
   cases g:eD l.length (λj=>!(gD l j).toB)with
   |true=>rfl
   |false=>rw[List.any_eq_true]at h;obtain⟨x,hx,m⟩:=h;obtain⟨i,d,e⟩:=List.getElem_of_mem hx;have:=bQ.1 g i d;rw[show gD l i=x by simp[gD,List.getD,d,e],m]at this;cases this
  obtain⟨j,c,g,m⟩:=yR t;refine⟨j,jK (by omega),bA gO (by rfl) rfl ?_⟩;show Ev _ _ (gK _) _;unfold gK;have f:fV jN 0 [.l l,.b false,.i (l.length:Int),.i 0] (0,[.i (j:Int)]):=by
   refine cI gO (λj=>[.l l,.b false,.i (l.length:Int),.i (j:Int)]) j (λi d=>?_) ?_
   ·show Ev _ _ (cZ _) _;unfold cZ;have r:i<l.length:=by omega
    exact aC (aV r) (aC (aE r) (aJ (m i d) (aO (nx r s [.l l,.b false,.i (l.length:Int)] []))))
   ·exact aC (aV c) (aC (aE c) (aC g (bH rfl)))
  exact aP f (bG (bI rfl rfl))
theorem Lw(l:LD)(e:cE l):iQ E aW sites lU [.l l,.b false] (.b (l.any λx=>!x.toB)) []:=by obtain⟨k,c,d⟩:=Q6 l e;refine bA pX (by rfl) rfl ?_;exact bK d rfl (bI (congrArg D.b c.symm) rfl)
theorem aAC(a b:LD)(f:cE a):iQ E aW sites mH [.l a,.l b] (.b (nU a b)) []:=by
 refine bA oG (by rfl) rfl ?_;show Ev _ _ (oB _) _;unfold oB nU;cases e:aD (a.length:Int) b.length with
 |false=>exact aC (congrArg Bool.not e) (bI rfl rfl)
 |true=>
  have l:a.length=b.length:=by have:=(bT _ _).1 e;omega
  refine aJ (congrArg Bool.not e) ?_;have h:fV oD 0 [.l a,.l b,.i 0,.i (a.length:Int)] (bif eD a.length (λi=>!aD (gD a i).toI (gD b i).toI)then(0,[.b false])else(1,[])):=by
   refine yC oG (λj=>[.l a,.l b,.i (j:Int),.i (a.length:Int)]) a.length _ (λj c=>?_) ?_
   ·show O2 _ _ (gM _) _ _;unfold gM;have g:j<b.length:=by omega
    exact oT (aV c) (oT (aE c) (oT (aE g) (oE rfl rfl (nx c f [.l a,.l b] [.i (a.length:Int)]))))
   ·exact aJ (aX _) (bH rfl)
  cases d:eD a.length (λi=>!aD (gD a i).toI (gD b i).toI)with
  |true=>rw[d]at h;exact aP h (bG (bI rfl rfl))
  |false=>rw[d]at h;exact aP h (eO (bG (bI rfl rfl)))
section
variable(nm:List UInt8)(o:Bool)(ps:LD)(r:Int)(bs:LD)
theorem Q7(c:Nat)(nb:Int)(l:LD)(f:0<l.length)(e:fF l):
  fV uC 2 [.i (c:Int),.i 0,.i (c:Int),.b false,.l bs,.l l,.i nb,.i (l.length:Int),.s nm,.b o,.l ps,.i r,.l bs,.l l] (bif eD l.length (OL c l)then(0,[.i (c:Int),.l bs,.b false,.i nb,.s nm,.b o,.l ps,.i r,.l bs,.l l])else(1,[.i (c:Int),.l bs,.i nb,.s nm,.b o,.l ps,.i r,.l bs,.l l])):=by
 have g:=e.sane;unfold fF at e;refine yC uD (λj=>[.i (c:Int),.i (j:Int),.i (c:Int),.b (beh l j),.l bs,.l l,.i nb,.i (l.length:Int),.s nm,.b o,.l ps,.i r,.l bs,.l l]) l.length (OL c l) (λj d=>?_) ?_
 ·refine oT (aV d) (oT (aE d) (oC (Ky (HY l j)) rfl (oE ?_ rfl (nx d g [.i (c:Int)] _))));unfold OL Nh;show((!(bif gQ (HY l j)then aD (j:Int) (bE .i64 ((l.length:Int)-1))else !(aD (j:Int) (bE .i64 ((l.length:Int)-1)))))||(aD (HY l j) 26&&(beh l j||aD (c:Int) 0)))=_;rw[ES f (by omega)]
 ·exact aJ (aX _) (bH rfl)
theorem Q8(c nb:Int)(l:LD)(e:cE l):
  fV uC 4 [.i c,.i (l.length:Int),.l bs,.l l,.i 0,.i nb,.l l,.s nm,.b o,.l ps,.i r,.l bs] (bif l.any (qJ bs.length)then(0,[.i c,.l bs,.b false,.l l,.i nb,.s nm,.b o,.l ps,.i r,.l bs])else(1,[.i c,.l bs,.l l,.i nb,.s nm,.b o,.l ps,.i r,.l bs])):=by
 refine HT uD (λj=>[.i c,.i (l.length:Int),.l bs,.l l,.i (j:Int),.i nb,.l l,.s nm,.b o,.l ps,.i r,.l bs]) l (qJ bs.length) (λj d=>?_) ?_
 ·exact oT (aV d) (oT (aE d) (oE rfl rfl (nx d e [.i c,.i (l.length:Int),.l bs,.l l] _)))
 ·exact aJ (aX _) (bH rfl)
theorem Q9(g:fZ bs):
  fV uC 0 [.i 0,.l bs,.i (bs.length:Int),.s nm,.b o,.l ps,.i r,.l bs] (bif eD bs.length (Qg bs)then(0,[.b false,.s nm,.b o,.l ps,.i r,.l bs])else(1,[.s nm,.b o,.l ps,.i r,.l bs])):=by
 refine yC uD (λj=>[.i (j:Int),.l bs,.i (bs.length:Int),.s nm,.b o,.l ps,.i r,.l bs]) bs.length (Qg bs) (λj c=>?_) ?_
 ·have f:=g.2 j c;refine oT (aV c) (oT (aE c) (oO (b2:=eD (gD bs j).els.length (OL j (gD bs j).els)||((eX (gG (gD bs j)) 6).any (qJ bs.length)||OM (gG (gD bs j)))) rfl rfl (λu=>?_)));have d:0<(gD bs j).els.length:=by
   rcases Nat.eq_zero_or_pos (gD bs j).els.length with e |e
   ·have:aD ((gD bs j).els.length:Int) 0=false:=u;rw[e]at this;cases this
   ·exact e
  have h:=f.ins;refine oLO (b1:=eD (gD bs j).els.length (OL j (gD bs j).els)) (b2:=(eX (gG (gD bs j)) 6).any (qJ bs.length)||OM (gG (gD bs j))) rfl (Q7 nm o ps r bs j bs.length (gD bs j).els d h) rfl (λv=>?_);have l:(gD bs j).els.length-1<(gD bs j).els.length:=by omega
  have hx:=f.i _ l;unfold fF at h;have t:gG (gD bs j)=gD (gD bs j).els (Int.toNat (bE .i64 (((gD bs j).els.length:Int)-1))):=by rw[Lp d (by omega)];rfl
  refine oT ?_ ?_
  ·show aA (bE .i64 (((gD bs j).els.length:Int)-1)) (gD bs j).els.length=true;rw[ES d (by omega)];exact aE l
  ·have m:cE (eX (gG (gD bs j)) 6):=hx.is1.sane;rw[t]at m⊢;have s:∀i,i<2->((!((aD ((eX (gD (gD bs j).els (Int.toNat (bE .i64 (((gD bs j).els.length:Int)-1)))) 6).length:Int) 2)&&true))||aA (i:Nat) (eX (gD (gD bs j).els (Int.toNat (bE .i64 (((gD bs j).els.length:Int)-1)))) 6).length)=true:=λi y=>by
    cases e:aD ((eX (gD (gD bs j).els (Int.toNat (bE .i64 (((gD bs j).els.length:Int)-1)))) 6).length:Int) 2 with
    |false=>rfl
    |true=>have:=(bT _ _).1 e;rw[aE (by omega),Bool.or_true]
   exact oLO (b1:=(eX (gD (gD bs j).els (Int.toNat (bE .i64 (((gD bs j).els.length:Int)-1)))) 6).any (qJ bs.length)) (b2:=OM (gD (gD bs j).els (Int.toNat (bE .i64 (((gD bs j).els.length:Int)-1))))) rfl (Q8 nm o ps r bs j bs.length _ m) rfl (λ_=>oT (s 0 (by omega)) (oT (s 1 (by omega)) (oE rfl rfl (nx c g.1.sane [] _))))
 ·exact aJ (aX _) (bH rfl)
theorem R0(b:Nat)(l:LD)(nb:Int)(e:b<bs.length)(h:fF l)(g:∀j,j<l.length->Zq (gD l j)):
  fV uC 8 [.i (b:Int),.i 0,.l l,.l bs,.i (b:Int),.i (l.length:Int),.i nb,.l (dP bs.length (iP bs))] (bif l.any (CJ bs b)then(0,[.i (b:Int),.l bs,.b false,.i nb,.l (dP bs.length (iP bs))])else(1,[.i (b:Int),.l bs,.i nb,.l (dP bs.length (iP bs))])):=by
 refine HT uD (λj=>[.i (b:Int),.i (j:Int),.l l,.l bs,.i (b:Int),.i (l.length:Int),.i nb,.l (dP bs.length (iP bs))]) l (CJ bs b) (λj d=>?_) ?_
 ·have m:aA (b:Int) (dP bs.length (iP bs)).length=true:=by rw[QI];exact aE e
  have hx:=nx d h.sane [.i (b:Int)] [.l l,.l bs,.i (b:Int),.i (l.length:Int),.i nb,.l (dP bs.length (iP bs))];refine oT (aV d) (oT (aE d) (oT (aH m) ?_));cases e1:aD (vI (gD l j) 0) 26 with
  |false=>refine oF (congrArg (λc=>c&&true) e1) (oE ?_ rfl hx);unfold CJ;rw[e1];exact congrArg (λc=>c&&(!(D.toB (.i 0)))) e1
  |true=>
   refine oT (congrArg (λc=>c&&true) e1) ?_;have hg:gD (dP bs.length (iP bs)) b=.l ((iP bs b).map iD):=Bo _ e;have f:iQ E aW sites mH [.l (eX (gD l j) 6),.l (D.els (gD (dP bs.length (iP bs)) b))] (.b (nU (eX (gD l j) 6) ((iP bs b).map iD))) []:=by rw[hg];exact aAC _ _ (g j d).is1.sane
   exact oC f rfl (oE rfl rfl hx)
 ·exact aJ (aX _) (bH rfl)
theorem R1(e:fZ bs):
  fV uC 6 [.i 0,.l bs,.i (bs.length:Int),.l (dP bs.length (iP bs))] (bif eD bs.length (λb=>(gD bs b).els.any (CJ bs b))then(0,[.b false])else(1,[])):=by
 refine yC uD (λj=>[.i (j:Int),.l bs,.i (bs.length:Int),.l (dP bs.length (iP bs))]) bs.length (λb=>(gD bs b).els.any (CJ bs b)) (λj c=>?_) ?_
 ·have d:=e.2 j c;exact oT (aV c) (oT (aE c) (oL (R0 bs j (gD bs j).els bs.length c d.ins d.i) rfl (congrArg IX.again (nx c e.1.sane [] _).symm)))
 ·exact aJ (aX _) (bH rfl)
theorem R2(c:fZ bs)(h:0<bs.length):iQ E aW sites XK [oK nm o ps r bs] (.b (Vb bs)) []:=by
 refine bA uD (by rfl) rfl ?_;show Ev _ _ (TY _) _;unfold TY Vb;have d:=Q9 nm o ps r bs c;have e:=R1 bs c;cases e1:eD bs.length (Qg bs)with
 |true=>rw[e1]at d;exact aP d (bG (bI rfl rfl))
 |false=>
 rw[e1]at d;have j:cE (dB bs 0 (-1)):=by unfold cE dB;rw[fH];exact c.1.sane
 refine aP d (eO (bG (bK (RW nm o ps r bs c h) rfl (bK (Lw _ j) rfl ?_))));cases g:(dB bs 0 (-1)).any (λx=>!x.toB)with
 |true=>exact aC g (bI rfl rfl)
 |false=>
 refine aJ g (bK (Va nm o ps r bs c) rfl ?_);cases f:eD bs.length (λb=>(gD bs b).els.any (CJ bs b))with
 |true=>rw[f]at e;exact aP e (bG (bI rfl rfl))
 |false=>rw[f]at e;exact aP e (eO (bG (bI rfl rfl)))
end
theorem qG{b:Bool}:(!b)=true<->b=false:=by cases b<;>simp
theorem lG{l:LD}{p:D->Bool}:l.any p=false<->∀j,j<l.length->p (gD l j)=false:=
 ⟨XT,λh=>by rw[List.any_eq_false];intro x hx;obtain⟨i,c,e⟩:=List.getElem_of_mem hx;have:=h i c;rw[show gD l i=x by simp[gD,List.getD,c,e]]at this;rw[this];simp⟩
theorem A1{l:LD}:∀(k:Nat),(∀i,i<=k->phB l i=false)->aD (HY l k) 26=true->beh l k=false
 |0,_,_=>rfl
 |k+1,h,g=>by
  have c:=h (k+1) (Nat.le_refl _);unfold phB at c;rw[g,Np (by omega),Nat.add_sub_cancel]at c;have d:aD (HY l k) 26=true:=by
   cases e:aD (HY l k) 26 with
   |true=>rfl
   |false=>rw[e]at c;cases c
  have f:=A1 k (λi j=>h i (by omega)) d;show(beh l k||!(aD (HY l k) 26))=false;rw[f,d];rfl
theorem aAD(op:Int):gQ op=true<->27<=op/\op<=30:=by rw[<-Kz,Bool.and_eq_true,fM,fM]
theorem aGA{x:D}(c:i9 x)(f:gQ (vI x 0)=true):OM x=Er x:=by
 unfold OM Er;have g:=(aAD _).1 f;by_cases e:vI x 0=28
 ·rw[e,c.i2 e];try rfl
 ·rw[gR e];have:(eX x 6).length≠2:=by
   by_cases d:vI x 0=27
   ·rw[c.i1 d];omega
   ·rw[c.i0 (by omega) d e];omega
  rw[gR (by omega)];try rfl
theorem aCP{l:LD}(c:0<l.length)(h:Nh l (l.length-1)=true):gQ (HY l (l.length-1))=true:=by
 unfold Nh at h;cases e:gQ (HY l (l.length-1))with
 |true=>rfl
 |false=>rw[e,qF]at h;cases h
theorem aCQ(bs:LD)(K:nS bs):Vb bs=mL bs:=by
 rw[Bool.eq_iff_iff];unfold Vb mL;rw[Bool.and_eq_true,Bool.and_eq_true,Bool.and_eq_true,qG,qG,qG,qG,qG,bQ,bQ,bQ,lG,lG];have Q:(dB bs 0 (-1)).length=bs.length:=by unfold dB;exact fH _ _
 have G:∀j,j<bs.length->(gD (dB bs 0 (-1)) j).toB=Fm bs 0 (-1) j:=λj P=>congrArg D.toB (kN _ P);rw[Q];have key:∀b,b<bs.length->(gD bs b).els.length≠0->Nh (gD bs b).els ((gD bs b).els.length-1)=true->OM (gG (gD bs b))=Er (gG (gD bs b)):=λb c U L=>
  aGA (K b c _ (by omega)) (aCP (by omega) L)
 constructor
 ·rintro⟨v,y,J⟩;have m:∀b,b<bs.length->(gD bs b).els.length≠0/\(∀k,k<(gD bs b).els.length->OL b (gD bs b).els k=false)/\(eX (gG (gD bs b)) 6).any (qJ bs.length)=false/\OM (gG (gD bs b))=false:=λb c=>by
   have:=v b c;unfold Qg at this;rw[Bool.or_eq_false_iff,Bool.or_eq_false_iff,Bool.or_eq_false_iff,bQ]at this;exact⟨λe=>(by have l:=this.1;rw[e]at l;cases l),this.2.1,this.2.2.1,this.2.2.2⟩
  refine⟨λb c=>?_,λb c=>?_⟩
  ·obtain⟨r,h,s,t⟩:=m b c;unfold Q0;rw[Bool.or_eq_false_iff,Bool.or_eq_false_iff,Bool.or_eq_false_iff,bQ];refine⟨gR (by omega),λk g=>?_,s,?_⟩
   ·have d:=h k g;unfold OL at d;unfold OK;rw[Bool.or_eq_false_iff]at d⊢;refine⟨d.1,?_⟩;unfold phB;by_cases H:k=0
    ·subst H;rfl
    ·cases e1:aD (HY (gD bs b).els k) 26 with
     |false=>rw[Bool.and_false];rfl
     |true=>rw[e1,Bool.true_and,Bool.or_eq_false_iff]at d;have:=bQ.1 d.2.1 (k-1) (by omega);rw[this,Bool.and_false]
   ·rw[<-key b c r (by
     have d:=h _ (show(gD bs b).els.length-1<(gD bs b).els.length by omega);unfold OL at d;rw[Bool.or_eq_false_iff,Bool.not_eq_false']at d;exact d.1)]
    exact t
  ·unfold SS;rw[Bool.or_eq_false_iff,lG];have F:=y b c;rw[G b c]at F;refine⟨F,λk g=>?_⟩;unfold ET;have d:=(m b c).2.1 k g;unfold OL at d;rw[Bool.or_eq_false_iff]at d;cases e1:aD (vI (gD (gD bs b).els k) 0) 26 with
   |false=>rfl
   |true=>have f:=d.2;rw[show aD (HY (gD bs b).els k) 26=true from e1,Bool.true_and,Bool.or_eq_false_iff]at f;have u:=lG.1 (J b c) k g;unfold CJ at u;rw[e1,Bool.true_and]at u;rw[f.2,u];rfl
 ·rintro⟨v,y⟩;have m:∀b,b<bs.length->(gD bs b).els.length≠0/\(∀k,k<(gD bs b).els.length->OK (gD bs b).els k=false)/\(eX (gG (gD bs b)) 6).any (qJ bs.length)=false/\Er (gG (gD bs b))=false:=λb c=>by
   have:=v b c;unfold Q0 at this;rw[Bool.or_eq_false_iff,Bool.or_eq_false_iff,Bool.or_eq_false_iff,bQ]at this;exact⟨λe=>(by have l:=this.1;rw[e]at l;cases l),this.2.1,this.2.2.1,this.2.2.2⟩
  have C:∀b,b<bs.length->Fm bs 0 (-1) b=true/\∀k,k<(gD bs b).els.length->ET bs b (gD (gD bs b).els k)=false:=λb c=>by have:=y b c;unfold SS at this;rw[Bool.or_eq_false_iff,Bool.not_eq_false',lG]at this;exact this
  refine⟨λb c=>?_,λb c=>?_,λb c=>?_⟩
  ·obtain⟨r,h,s,t⟩:=m b c;unfold Qg;rw[Bool.or_eq_false_iff,Bool.or_eq_false_iff,Bool.or_eq_false_iff,bQ];refine⟨gR (by omega),λk g=>?_,s,?_⟩
   ·have d:=h k g;unfold OK at d;unfold OL;rw[Bool.or_eq_false_iff]at d⊢;refine⟨d.1,?_⟩;cases e1:aD (HY (gD bs b).els k) 26 with
    |false=>rfl
    |true=>have f:=(C b c).2 k g;unfold ET at f;rw[show aD (vI (gD (gD bs b).els k) 0) 26=true from e1,Bool.true_and,Bool.or_eq_false_iff]at f;rw[f.1,A1 k (λi T=>by have:=h i (by omega);unfold OK at this;rw[Bool.or_eq_false_iff]at this;exact this.2) e1];rfl
   ·rw[key b c r (by
     have d:=h _ (show(gD bs b).els.length-1<(gD bs b).els.length by omega);unfold OK at d;rw[Bool.or_eq_false_iff,Bool.not_eq_false']at d;exact d.1)]
    exact t
  ·rw[G b c,(C b c).1];rfl
  ·rw[lG];intro k g;have f:=(C b c).2 k g;unfold ET at f;unfold CJ;cases e1:aD (vI (gD (gD bs b).els k) 0) 26 with
   |false=>rfl
   |true=>rw[e1,Bool.true_and,Bool.or_eq_false_iff]at f;rw[f.2];rfl
theorem A2(nm:List UInt8)(o:Bool)(ps:LD)(r:Int)(bs:LD)(e:fZ bs)(d:nS bs)(c:0<bs.length):iQ E aW sites XK [oK nm o ps r bs] (.b (mL bs)) []:=by rw[<-aCQ bs d];exact R2 nm o ps r bs e c
end Go.Eng.Q

namespace Go.Eng.Q
open Go.Eng
section
variable{bs:LD}
theorem Vc{a:Nat}:¬RA bs 0 (a:Int) a:=λh=>by
 generalize e:a=n at h;cases h with
 |base d f c=>exact c (by omega)
 |step _ _ c=>exact c (by omega)
theorem aG6{a:Int}{c:Nat}(h:RA bs 0 a c):RA bs 0 (-1) c:=by
 induction h with
 |base e d _=>exact RA.base e d (by omega)
 |step _ d _ f=>exact RA.step f d (by omega)
theorem aFC{a:Int}{b c:Nat}(h:RA bs 0 a c)(g:¬RA bs 0 (b:Int) c):RA bs 0 a b:=by
 induction h with
 |base f d l=>
  by_cases e:(0:Int)=b
  ·have:(b:Nat)=(0:Int).toNat:=by omega
   rw[this];exact RA.base f d l
  ·exact absurd (RA.base f d e) g
 |@step p c r j m s=>
  by_cases e:(c:Int)=b
  ·have:b=c:=by omega
   rw[this];exact RA.step r j m
  ·refine s λd=>g (RA.step d j e)
theorem aD8{a b:Nat}(m:RA bs 0 (-1) a)(t:a≠b):RA bs 0 (b:Int) a\/RA bs 0 (a:Int) b:=by
 have key:∀c,RA bs 0 (-1) c->(RA bs 0 (a:Int) c/\RA bs 0 (b:Int) c)\/RA bs 0 (b:Int) a\/RA bs 0 (a:Int) b:=by
  intro c l;induction l with
  |base d f s=>
   by_cases e:(0:Int)=a
   ·right;left;have:a=(0:Int).toNat:=by omega
    rw[this];exact RA.base d f (by omega)
   ·by_cases j:(0:Int)=b
    ·right;right;have:b=(0:Int).toNat:=by omega
     rw[this];exact RA.base d f (by omega)
    ·exact .inl ⟨RA.base d f e,RA.base d f j⟩
  |@step p c u g l r=>
   rcases r with⟨d,f⟩ |h
   ·by_cases e:(c:Int)=a
    ·right;left;have:a=c:=by omega
     rw[this];exact RA.step f g (by omega)
    ·by_cases j:(c:Int)=b
     ·right;right;have:b=c:=by omega
      rw[this];exact RA.step d g (by omega)
     ·exact .inl ⟨RA.step d g e,RA.step f g j⟩
   ·exact .inr h
 rcases key a m with⟨h,_⟩ |h
 ·exact absurd h Vc
 ·exact h
theorem aCR{a b:Nat}(t:a≠b)(l:RA bs 0 (a:Int) b)(m:RA bs 0 (b:Int) a):∀{c:Nat},RA bs 0 (-1) c->RA bs 0 (a:Int) c\/RA bs 0 (b:Int) c:=by
 intro c g;induction g with
 |base d f s=>
  by_cases e:(0:Int)=a
  ·exact .inr (RA.base d f (by omega))
  ·exact .inl (RA.base d f e)
 |@step p c u j g r=>
  rcases r with h |h
  ·by_cases e:(c:Int)=a
   ·have:c=a:=by omega
    rw[this];exact .inr m
   ·exact .inl (RA.step h j e)
  ·by_cases e:(c:Int)=b
   ·have:c=b:=by omega
    rw[this];exact .inl l
   ·exact .inr (RA.step h j e)
end
noncomputable def dM(bs:LD)(a b:Nat):Bool:=Fm bs 0 (-1) a&&(Fm bs 0 (-1) b&&!(Fm bs 0 (a:Int) b))
def aK(n:Nat)(g:Nat->D):LD:=(List.range n).map g
theorem dA(n:Nat)(g:Nat->D):(aK n g).length=n:=by simp[aK]
theorem eB{n i:Nat}(g:Nat->D)(h:i<n):gD (aK n g) i=g i:=by simp[gD,List.getD,aK,h]
theorem dV{n:Nat}{f g:Nat->D}(h:∀i,i<n->f i=g i):aK n f=aK n g:=by
 apply List.ext_getElem
 ·simp[aK]
 ·intro k c d;simp only[aK,List.length_map,List.length_range]at c;simp[aK,h k c]
def fS(g:Nat->D)(a:Nat)(v:D):Nat->D:=λi=>bif Nat.beq i a then v else g i
theorem fK(g:Nat->D)(a:Nat)(v:D):fS g a v a=v:=by simp[fS]
theorem nW(g:Nat->D){a i:Nat}(v:D)(h:i≠a):fS g a v i=g i:=by
 unfold fS;cases e:Nat.beq i a with
 |true=>exact absurd (Nat.eq_of_beq_eq_true e) h
 |false=>rfl
theorem nY{n a:Nat}(g:Nat->D)(v:D):(aK n g).set a v=aK n (fS g a v):=by
 apply List.ext_getElem
 ·simp[aK]
 ·intro k c d;rw[List.getElem_set];by_cases e:a=k
  ·subst e;simp[aK,fK]
  ·simp[aK,e,nW g v (Ne.symm e)]
theorem HZ(g:Nat->D)(a:Nat)(v w:D):fS (fS g a v) a w=fS g a w:=by
 funext i;by_cases e:i=a
 ·subst e;rw[fK,fK]
 ·rw[nW _ _ e,nW _ _ e,nW _ _ e]
noncomputable def IA(bs:LD)(a i:Nat):D:=bif decide (i<a)then .l (aZ bs.length (dM bs i))else .l []
theorem Gi{bs:LD}{a i:Nat}(h:i<a):IA bs a i=.l (aZ bs.length (dM bs i)):=by unfold IA;rw[decide_eq_true h];rfl
theorem j1{bs:LD}{a i:Nat}(h:¬i<a):IA bs a i=.l []:=by unfold IA;rw[decide_eq_false h];rfl
theorem aAE(bs:LD)(a:Nat):∀i,fS (IA bs a) a (.l (aZ bs.length (dM bs a))) i=IA bs (a+1) i:=λi=>by
 by_cases e:i=a
 ·subst e;rw[fK,Gi (by omega)]
 ·rw[nW _ _ e];by_cases h:i<a
  ·rw[Gi h,Gi (by omega)]
  ·rw[j1 h,j1 (by omega)]
noncomputable def gU(bs:LD):LD:=aK bs.length (λa=>.l (aZ bs.length (dM bs a)))
theorem BD(bs:LD):(gU bs).length=bs.length:=dA _ _
theorem YA{bs:LD}{a:Nat}(h:a<bs.length):gD (gU bs) a=.l (aZ bs.length (dM bs a)):=eB _ h
theorem A3{n j:Nat}(f:Nat->Bool)(h:j<n):(aZ n (λi=>decide (i<j)&&f i)).set j (.b (f j))=aZ n (λi=>decide (i<j+1)&&f i):=Lu f h
theorem A4(n:Nat)(f:Nat->Bool):aZ n (λi=>decide (i<n)&&f i)=aZ n f:=mZ λi c=>by rw[decide_eq_true c,Bool.true_and]
theorem Qh(n:Nat)(f:Nat->Bool):aZ n (λi=>decide (i<0)&&f i)=List.replicate n (.b false):=by rw[<-mY];exact mZ λi _=>rfl
section
variable(nm:List UInt8)(o:Bool)(ps:LD)(r:Int)(bs:LD)(hT:fZ bs)
include hT
theorem aAF(a:Nat)(h:a<bs.length)(s:Fm bs 0 (-1) a=true)(g:Nat->D):
  fV QB 2 [.i 0,.i (a:Int),.s nm,.b o,.l ps,.i r,.l bs,.l (aK bs.length (fS g a (.l (List.replicate bs.length (.b false))))),.l (dB bs 0 (-1)),.l (dB bs 0 a)] (0,[.i (a:Int),.s nm,.b o,.l ps,.i r,.l bs,.l (aK bs.length (fS g a (.l (aZ bs.length (dM bs a))))),.l (dB bs 0 (-1))]):=by
 rw[<-Qh bs.length (dM bs a),<-A4 bs.length (dM bs a)];have f:(dB bs 0 (-1)).length=bs.length:=by unfold dB;exact fH _ _
 have t:(dB bs 0 a).length=bs.length:=by unfold dB;exact fH _ _
 refine cI QC (λj=>[.i (j:Int),.i (a:Int),.s nm,.b o,.l ps,.i r,.l bs,.l (aK bs.length (fS g a (.l (aZ bs.length (λi=>decide (i<j)&&dM bs a i))))),.l (dB bs 0 (-1)),.l (dB bs 0 a)]) bs.length (λj c=>?_) ?_
 ·have hg:gD (aK bs.length (fS g a (.l (aZ bs.length (λi=>decide (i<j)&&dM bs a i))))) a=.l (aZ bs.length (λi=>decide (i<j)&&dM bs a i)):=(eB _ h).trans (fK _ _ _);refine aC ?_ (aC ?_ (aC ?_ (aC ?_ (aC ?_ (aO ((nx c hT.1.sane [] _).trans ?_))))))
  ·show aQ (j:Int) (dB bs 0 (-1)).length=true;rw[f];exact aV c
  ·show aA (a:Int) (aK bs.length _).length=true;rw[dA];exact aE h
  ·show aA (j:Int) (dB bs 0 (-1)).length=true;rw[f];exact aE c
  ·refine aH ?_;show aA (j:Int) (dB bs 0 a).length=true;rw[t];exact aE c
  ·show aA (j:Int) (D.els (gD (aK bs.length (fS g a (.l (aZ bs.length (λi=>decide (i<j)&&dM bs a i))))) a)).length=true;rw[hg];show aA (j:Int) (aZ bs.length _).length=true;rw[fH];exact aE c
  ·have e1:(gD (dB bs 0 (-1)) j).toB=Fm bs 0 (-1) j:=congrArg D.toB (kN _ c);have l:(gD (dB bs 0 a) j).toB=Fm bs 0 a j:=congrArg D.toB (kN _ c);have m:((gD (dB bs 0 (-1)) j).toB&&(aD (a:Int) (j:Int)||!(gD (dB bs 0 a) j).toB))=dM bs a j:=by
    rw[e1,l];unfold dM;rw[s,Bool.true_and];by_cases e:a=j
    ·subst e;have:Fm bs 0 (a:Int) a=false:=by
      cases d:Fm bs 0 (a:Int) a with
      |false=>rfl
      |true=>exact absurd (zR.1 d) Vc
     rw[this,qF];rfl
    ·rw[gR (by omega)];rfl
   have d:(aK bs.length (fS g a (.l (aZ bs.length (λi=>decide (i<j)&&dM bs a i))))).set a (.l ((D.els (gD (aK bs.length (fS g a (.l (aZ bs.length (λi=>decide (i<j)&&dM bs a i))))) a)).set j (.b ((gD (dB bs 0 (-1)) j).toB&&(aD (a:Int) (j:Int)||!(gD (dB bs 0 a) j).toB)))))=aK bs.length (fS g a (.l (aZ bs.length (λi=>decide (i<j+1)&&dM bs a i)))):=by rw[hg,m,nY,HZ];show aK bs.length (fS g a (.l ((aZ bs.length (λi=>decide (i<j)&&dM bs a i)).set j (.b (dM bs a j)))))=_;rw[A3 _ c]
   rw[<-d];rfl
 ·refine aJ ?_ (bH rfl);show aQ (bs.length:Int) (dB bs 0 (-1)).length=false;rw[f];exact aX _
theorem R3:iQ E aW sites Ug [oK nm o ps r bs] (.l (gU bs)) []:=by
 refine bA QC (by rfl) rfl ?_;show Ev _ _ (An _) _;unfold An;have ht:=hT.1;unfold fF at ht;have m:∀k,k<=1000->jP (Int.toNat (bs.length:Int)) k=true:=λk v=>fG (by omega) v;have f:(dB bs 0 (-1)).length=bs.length:=by unfold dB;exact fH _ _
 have l:fV QB 0 [.i 0,.s nm,.b o,.l ps,.i r,.l bs,.l (aK bs.length (IA bs 0)),.l (dB bs 0 (-1))] (0,[.l (aK bs.length (IA bs bs.length))]):=by
  refine cI QC (λj=>[.i (j:Int),.s nm,.b o,.l ps,.i r,.l bs,.l (aK bs.length (IA bs j)),.l (dB bs 0 (-1))]) bs.length (λj c=>?_) ?_
  ·have s:List.replicate (dB bs 0 (-1)).length (D.b false)=List.replicate bs.length (.b false):=by rw[f]
   have e1:(gD (dB bs 0 (-1)) j).toB=Fm bs 0 (-1) j:=congrArg D.toB (kN _ c);have g:(aK bs.length (IA bs j)).set j (.l (List.replicate (dB bs 0 (-1)).length (.b false)))=aK bs.length (fS (IA bs j) j (.l (List.replicate bs.length (.b false)))):=by rw[s,nY]
   have h:aK bs.length (fS (IA bs j) j (.l (aZ bs.length (dM bs j))))=aK bs.length (IA bs (j+1)):=dV λi _=>aAE bs j i;refine aC (show aQ (j:Int) (aK bs.length (IA bs j)).length=true by rw[dA];exact aV c) (aC ?_ (aC ?_ (aC ?_ ?_)))
   ·show(cK 0 ((dB bs 0 (-1)).length:Int)&&(aD ((dB bs 0 (-1)).length:Int) ((dB bs 0 (-1)).length:Int)&&jP (Int.toNat ((dB bs 0 (-1)).length:Int)) 1))=true;rw[f,jK (by omega),qF,m 1 (by omega)];rfl
   ·show aA (j:Int) (aK bs.length (IA bs j)).length=true;rw[dA];exact aE c
   ·show aA (j:Int) (dB bs 0 (-1)).length=true;rw[f];exact aE c
   ·cases e:Fm bs 0 (-1) j with
    |false=>
     refine aC ?_ (aO ((nx c hT.1.sane [] _).trans ?_))
     ·show(!(gD (dB bs 0 (-1)) j).toB)=true;rw[e1,e];rfl
     ·have t:aZ bs.length (dM bs j)=List.replicate bs.length (.b false):=by
       rw[<-mY];exact mZ λi _=>by unfold dM;rw[e];rfl
      rw[<-h,t,<-g];rfl
    |true=>
     refine aJ ?_ (bK (Lr nm o ps r bs hT 0 j) rfl ?_)
     ·show(!(gD (dB bs 0 (-1)) j).toB)=false;rw[e1,e];rfl
     ·have d:=aAF nm o ps r bs hT j c e (IA bs j);rw[<-g,h]at d;exact aP d (bG (aO (nx c hT.1.sane [] _)))
  ·exact aJ (show aQ (bs.length:Int) (aK bs.length (IA bs bs.length)).length=false by rw[dA];exact aX _) (bH rfl)
 have y:aK bs.length (IA bs 0)=List.replicate bs.length (D.l []):=by
  apply List.ext_getElem
  ·simp[aK]
  ·intro k F d;simp[aK,IA]
 have C:aK bs.length (IA bs bs.length)=gU bs:=dV λi u=>Gi u;rw[y,C]at l;refine aC ?_ (bK (Ep nm o ps r bs hT) rfl (aP l (bG (bI rfl rfl))));show(cK 0 (bs.length:Int)&&(aD (bs.length:Int) (bs.length:Int)&&jP (Int.toNat (bs.length:Int)) 24))=true;rw[jK (by omega),qF,m 24 (by omega)];rfl
end
end Go.Eng.Q

namespace Go.Eng.Q
open Go.Eng
def eJ(x:D):Bool:=!(aD (vI x 1) 0)
def CK(q l:LD):LD:=l.foldl (λq x=>bif eJ x then q++[.i (vI x 1)]else q) q
def bB(ps bs:LD):LD:=bs.foldl (λq b=>CK q b.els) ([.i 0]++ps)
def eF(l:LD):Nat->Nat
 |0=>0
 |k+1=>eF l k+bif eJ (gD l k)then 1 else 0
def aM(np:Nat)(bs:LD):Nat->Nat
 |0=>np
 |b+1=>aM np bs b+eF (gD bs b).els (gD bs b).els.length
def lQ(np:Nat)(bs:LD)(b k:Nat):Nat:=aM np bs b+eF (gD bs b).els k+1
theorem YB(l:LD):∀k,eF l k<=k
 |0=>Nat.le_refl _
 |k+1=>by have:=YB l k;unfold eF;cases eJ (gD l k)<;>simp<;>omega
theorem QK(l:LD){i:Nat}:∀{k:Nat},i<=k->eF l i<=eF l k
 |0,h=>by rw[Nat.le_zero.1 h];exact Nat.le_refl _
 |k+1,h=>by
  by_cases e:i=k+1
  ·rw[e];exact Nat.le_refl _
  ·have:=QK l (i:=i) (k:=k) (by omega);rw[eF];omega
theorem Gn{l:LD}{i k:Nat}(h:i<k)(ht:eJ (gD l i)=true):eF l i<eF l k:=by
 have c:eF l (i+1)=eF l i+1:=by rw[eF,ht];rfl
 have d:=QK l (show i+1<=k by omega);omega
theorem EU(np:Nat)(bs:LD){a:Nat}:∀{b:Nat},a<=b->aM np bs a<=aM np bs b
 |0,h=>by rw[Nat.le_zero.1 h];exact Nat.le_refl _
 |b+1,h=>by
  by_cases e:a=b+1
  ·rw[e];exact Nat.le_refl _
  ·have:=EU np bs (a:=a) (b:=b) (by omega);rw[aM];omega
theorem A5{np:Nat}{bs:LD}(hT:fZ bs):∀b,b<=bs.length->aM np bs b<=np+b*10000
 |0,_=>by simp[aM]
 |b+1,h=>by have d:=A5 (np:=np) hT b (by omega);have e:=YB (gD bs b).els (gD bs b).els.length;have c:=(hT.2 b (by omega)).ins;unfold fF at c;rw[aM];omega
theorem ON(np:Nat)(bs:LD)(b:Nat):np<=aM np bs b:=EU np bs (Nat.zero_le b)
structure LQ(np:Nat)(bs:LD)(v:Nat)(q:Nat×Nat):Prop where
 b:q.1<bs.length
 k:q.2<(gD bs q.1).els.length
 t:eJ (gD (gD bs q.1).els q.2)=true
 v:v=lQ np bs q.1 q.2
theorem aFD{np:Nat}{bs:LD}{b k b' d:Nat}(h:b<b'\/b=b'/\k<d)(e:k<(gD bs b).els.length)(ht:eJ (gD (gD bs b).els k)=true):lQ np bs b k<lQ np bs b' d:=by
 unfold lQ;rcases h with h |⟨h,c⟩
 ·have f:=Gn e ht;have c:=EU np bs (show b+1<=b' by omega);rw[aM]at c;omega
 ·subst h;have:=Gn c ht;omega
theorem YC{np:Nat}{bs:LD}{v:Nat}{q p:Nat×Nat}(d:LQ np bs v q)(e:LQ np bs v p):q=p:=by
 obtain⟨b,k⟩:=q;obtain⟨b',j⟩:=p;have e1:=d.v;have f:=e.v;simp only at e1 f;have key:∀{x c:Nat×Nat},LQ np bs v x->LQ np bs v c->¬(x.1<c.1\/x.1=c.1/\x.2<c.2):=λhx g h=>by have:=aFD (np:=np) h hx.k hx.t;rw[<-hx.v,<-g.v]at this;omega
 have l:=key d e;have m:=key e d;simp only at l m;have:b=b':=by omega
 subst this;have:k=j:=by omega
 subst this;rfl
open Classical in
noncomputable def Vt(np:Nat)(bs:LD)(v:Nat):Int×Int:=if h:∃q,LQ np bs v q then(((Classical.choose h).1 :Int),((Classical.choose h).2 :Int))else(-1,-1)
theorem GH{np:Nat}{bs:LD}{v:Nat}{q:Nat×Nat}(h:LQ np bs v q):Vt np bs v=((q.1:Int),(q.2:Int)):=by have c:∃q,LQ np bs v q:=⟨q,h⟩;unfold Vt;rw[dif_pos c,YC (Classical.choose_spec c) h]
theorem j2{np:Nat}{bs:LD}{v:Nat}(h:v<=np):Vt np bs v=(-1,-1):=by unfold Vt;rw[dif_neg];rintro⟨q,d⟩;have c:=d.v;have e:=ON np bs q.1;unfold lQ at c;omega
theorem Lx{np:Nat}{bs:LD}:∀(b:Nat),b<=bs.length->∀v,np<v->v<=aM np bs b->∃q,q.1<b/\LQ np bs v q
 |0,_,v,l,d=>by unfold aM at d;omega
 |b+1,s,v,l,d=>by
  by_cases h:v<=aM np bs b
  ·obtain⟨q,c,f⟩:=Lx b (by omega) v l h;exact⟨q,by omega,f⟩
  ·have key:∀k,k<=(gD bs b).els.length->v<=aM np bs b+eF (gD bs b).els k->∃i,i<k/\eJ (gD (gD bs b).els i)=true/\v=lQ np bs b i:=by
    intro k;induction k with
    |zero=>intro _ c;unfold eF at c;omega
    |succ k r=>
     intro t c;by_cases f:v<=aM np bs b+eF (gD bs b).els k
     ·obtain⟨i,m,g,j⟩:=r (by omega) f;exact⟨i,by omega,g,j⟩
     ·rw[eF]at c;cases e:eJ (gD (gD bs b).els k)with
      |false=>rw[e]at c;simp at c;omega
      |true=>rw[e]at c;simp at c;exact⟨k,by omega,e,by unfold lQ;omega⟩
   rw[aM]at d;obtain⟨i,m,g,j⟩:=key _ (Nat.le_refl _) d;exact⟨(b,i),by simp,⟨by show b<bs.length;omega,m,g,j⟩⟩
theorem IB:∀(l q:LD),(CK q l).length=q.length+(l.filter eJ).length
 |[],q=>rfl
 |x::l,q=>by
  show(CK (bif eJ x then q++[.i (vI x 1)]else q) l).length=_;rw[IB l];cases e:eJ x with
  |true=>simp[e];omega
  |false=>simp[e]
theorem Br(l:LD):∀k,k<=l.length->eF l k=((l.take k).filter eJ).length
 |0,_=>by simp[eF]
 |k+1,h=>by
  have c:k<l.length:=by omega
  have d:gD l k=l[k]:=by simp[gD,List.getD,c]
  rw[eF,Br l k (by omega),List.take_succ_eq_append_getElem c,List.filter_append,List.length_append,d];cases e:eJ l[k]<;>simp[e]
theorem YD(l:LD):eF l l.length=(l.filter eJ).length:=by rw[Br l _ (Nat.le_refl _),List.take_length]
theorem zD(ps bs:LD):(bB ps bs).length=aM ps.length bs bs.length+1:=by
 have key:∀b,b<=bs.length->((bs.take b).foldl (λq b=>CK q b.els) ([.i 0]++ps)).length=aM ps.length bs b+1:=by
  intro b;induction b with
  |zero=>intro _;simp[aM]
  |succ b e=>
   intro h;have c:b<bs.length:=by omega
   have d:gD bs b=bs[b]:=by simp[gD,List.getD,c]
   rw[List.take_succ_eq_append_getElem c,List.foldl_append,aM,d,YD];show(CK _ bs[b].els).length=_;rw[IB,e (by omega)];omega
 have:=key bs.length (Nat.le_refl _);rw[List.take_length]at this;exact this
section
variable(nm:List UInt8)(o:Bool)(ps:LD)(r:Int)(bs:LD)(hp:fF ps)(hT:fZ bs)
include hT
theorem R4(b:Nat)(c:b<bs.length)(q:LD)(m:q.length<=100000+b*10000):
  fV KA 2 [.i 0,.i (b:Int),.s nm,.b o,.l ps,.i r,.l bs,.l q] (0,[.i (b:Int),.s nm,.b o,.l ps,.i r,.l bs,.l (CK q (gD bs b).els)]):=by
 have f:=(hT.2 b c).ins;have l:=hT.1;have g:=f.sane;unfold fF at f l;refine GC KB (λj(q:LD)=>[.i (j:Int),.i (b:Int),.s nm,.b o,.l ps,.i r,.l bs,.l q]) (gD bs b).els (λq x=>bif eJ x then q++[.i (vI x 1)]else q) (λq=>(0,[.i (b:Int),.s nm,.b o,.l ps,.i r,.l bs,.l q])) (λj p=>p.length<=q.length+j) (λj p d hp=>⟨?_,?_⟩) (λp hp=>?_) (s0:=q) (Nat.le_refl _)
 ·cases eJ (gD (gD bs b).els j)<;>simp<;>omega
 ·refine aC (aE c) (aC (aV d) (aC (aE c) (aC (aE d) ?_)));cases e:eJ (gD (gD bs b).els j)with
  |true=>
   have h:p.length+1<=1000000000:=by have:=Nat.mul_le_mul (show b<=10000 by omega) (Nat.le_refl 10000);omega
   exact aC e (aC (fG h (by omega)) (aO (nx d g [] _)))
  |false=>exact aJ e (aO (nx d g [] _))
 ·exact aC (aE c) (aJ (aX _) (bH rfl))
include hp
theorem OO:iQ E aW sites NI [oK nm o ps r bs] (.l (bB ps bs)) []:=by
 refine bA KB (by rfl) rfl ?_;show Ev _ _ (TG _) _;unfold TG;unfold fF at hp;have e:fV KA 0 [.i 0,.s nm,.b o,.l ps,.i r,.l bs,.l ([.i 0]++ps)] (0,[.l (bB ps bs)]):=by
  refine GC KB (λj(q:LD)=>[.i (j:Int),.s nm,.b o,.l ps,.i r,.l bs,.l q]) bs (λq b=>CK q b.els) (λq=>(0,[.l q])) (λj p=>p.length<=100000+j*10000) (λj p c hp=>⟨?_,?_⟩) (λp hp=>?_) (s0:=[.i 0]++ps) (by simp;omega)
  ·have d:=(hT.2 j c).ins;unfold fF at d;rw[IB,<-YD];have:=YB (gD bs j).els (gD bs j).els.length;omega
  ·exact aC (aV c) (aP (R4 nm o ps r bs hT j c p hp) (bG (aO (nx c hT.1.sane [] _))))
  ·exact aJ (aX _) (bH rfl)
 refine aC ?_ (aP e (bG (bI rfl rfl)));show jP (1+ps.length) 8=true;exact fG (by omega) (by omega)
theorem IC:aM ps.length bs bs.length<=200000000:=by unfold fF at hp;have d:=A5 (np:=ps.length) hT bs.length (Nat.le_refl _);have c:=hT.1;unfold fF at c;have:=Nat.mul_le_mul (show bs.length<=10000 by omega) (Nat.le_refl 10000);omega
theorem YE:iQ E aW sites PV [oK nm o ps r bs] (.i (aM ps.length bs bs.length:Int)) []:=by refine bA El (by rfl) rfl ?_;refine bK (OO nm o ps r bs hp hT) rfl (bI (congrArg D.i ?_) rfl);have c:=IC ps bs hp hT;show _=bE .i64 (((bB ps bs).length:Int)-1);rw[zD,vM (by omega) (by omega)];omega
end
end Go.Eng.Q

namespace Go.Eng.Q
open Go.Eng
theorem Vd{n:Nat}(h:n<=1000000000):bJ .i64 (n:Int) 1=((n+1:Nat):Int):=fQ (n:=n+1) (by omega) (by omega)
theorem rY(n:Nat)(z:D):aK n (λ_=>z)=List.replicate n z:=by simp[aK,List.map_const']
noncomputable def Gp(np:Nat)(bs:LD)(v:Nat):D:=.l [.i (Vt np bs v).1,.i (Vt np bs v).2]
noncomputable def gW(np:Nat)(bs:LD)(c v:Nat):D:=bif decide (v<c)then Gp np bs v else .l [.i 0,.i 0]
theorem j3{np:Nat}{bs:LD}{c v:Nat}(h:v<c):gW np bs c v=Gp np bs v:=by unfold gW;rw[decide_eq_true h];rfl
theorem A6{np:Nat}{bs:LD}{c v:Nat}(h:¬v<c):gW np bs c v=.l [.i 0,.i 0]:=by unfold gW;rw[decide_eq_false h];rfl
theorem j4(np:Nat)(bs:LD)(c:Nat)(w:D)(d:w=Gp np bs c):∀i,fS (gW np bs c) c w i=gW np bs (c+1) i:=λi=>by
 by_cases e:i=c
 ·subst e;rw[fK,j3 (by omega),d]
 ·rw[nW _ _ e];by_cases h:i<c
  ·rw[j3 h,j3 (by omega)]
  ·rw[A6 h,A6 (by omega)]
noncomputable def FH(np:Nat)(bs:LD):LD:=aK (aM np bs bs.length+1) (Gp np bs)
theorem aCS{N k:Nat}{g:Nat->D}{c d:D}(a b:D)(e:k<N)(hg:g k=.l [c,d]):
  (let z0:=(aK N g).set k (D.l (cN (D.els (gD (aK N g) k)) 0 a));z0.set k (D.l (cN (D.els (gD z0 k)) 1 b)))=aK N (fS g k (.l [a,b])):=by
 have f:gD (aK N g) k=.l [c,d]:=(eB g e).trans hg;have h:(aK N g).set k (D.l (cN (D.els (gD (aK N g) k)) 0 a))=aK N (fS g k (.l [a,d])):=by rw[f];exact nY _ _
 dsimp only;rw[h,eB _ e,fK,nY,HZ];rfl
theorem Qi(np:Nat)(bs:LD)(b:Nat):aM np bs (b+1)=aM np bs b+eF (gD bs b).els (gD bs b).els.length:=rfl
theorem Es{l:LD}{k:Nat}(h:eJ (gD l k)=true):eF l (k+1)=eF l k+1:=by rw[eF,h];rfl
theorem Ly{l:LD}{k:Nat}(h:eJ (gD l k)=false):eF l (k+1)=eF l k:=by rw[eF,h];rfl
theorem Lz{np:Nat}{bs:LD}{b k:Nat}(f:b<bs.length)(d:k<=(gD bs b).els.length):aM np bs b+eF (gD bs b).els k<=aM np bs bs.length:=by have e:=QK (gD bs b).els d;have c:=EU np bs (show b+1<=bs.length by omega);rw[Qi]at c;omega
theorem Ve{np:Nat}{bs:LD}{b k:Nat}(d:b<bs.length)(e:k<(gD bs b).els.length)(ht:eJ (gD (gD bs b).els k)=true):lQ np bs b k<=aM np bs bs.length:=by have c:=Lz (np:=np) d (show k+1<=_ by omega);rw[Es ht]at c;unfold lQ;omega
theorem aFE{np:Nat}{bs:LD}{b k:Nat}(c:b<bs.length)(d:k<(gD bs b).els.length)(ht:eJ (gD (gD bs b).els k)=true):Gp np bs (lQ np bs b k)=.l [.i (b:Int),.i (k:Int)]:=by unfold Gp;rw[GH (q:=(b,k)) ⟨c,d,ht,rfl⟩]
section
variable(nm:List UInt8)(o:Bool)(ps:LD)(r:Int)(bs:LD)(hp:fF ps)(hT:fZ bs)
include hp hT
theorem R5(b:Nat)(c:b<bs.length):
  fV yX 4 [.i 0,.i (aM ps.length bs b:Int),.i (b:Int),.s nm,.b o,.l ps,.i r,.l bs,.l (aK (aM ps.length bs bs.length+1) (gW ps.length bs (aM ps.length bs b+1)))] (0,[.i (aM ps.length bs (b+1):Int),.i (b:Int),.s nm,.b o,.l ps,.i r,.l bs,.l (aK (aM ps.length bs bs.length+1) (gW ps.length bs (aM ps.length bs (b+1)+1)))]):=by
 have f:=(hT.2 b c).ins.sane;have t:=IC ps bs hp hT;refine cI EE (λk=>[.i (k:Int),.i ((aM ps.length bs b+eF (gD bs b).els k:Nat):Int),.i (b:Int),.s nm,.b o,.l ps,.i r,.l bs,.l (aK (aM ps.length bs bs.length+1) (gW ps.length bs (aM ps.length bs b+eF (gD bs b).els k+1)))]) (gD bs b).els.length (λk d=>?_) ?_
 ·refine aC (aE c) (aC (aV d) (aC (aE c) (aC (aE d) ?_)));have u:=Lz (np:=ps.length) c (Nat.le_of_lt d);cases e:eJ (gD (gD bs b).els k)with
  |true=>
   have hv:=Ve (np:=ps.length) c d e;have e1:bJ .i64 ((aM ps.length bs b+eF (gD bs b).els k:Nat):Int) 1=((lQ ps.length bs b k:Nat):Int):=Vd (by omega);have h:Int.toNat (bJ .i64 ((aM ps.length bs b+eF (gD bs b).els k:Nat):Int) 1)=lQ ps.length bs b k:=by rw[e1];rfl
   have s:aM ps.length bs b+eF (gD bs b).els (k+1)=lQ ps.length bs b k:=by rw[Es e];rfl
   have j:=aCS (N:=aM ps.length bs bs.length+1) (k:=lQ ps.length bs b k) (g:=gW ps.length bs (lQ ps.length bs b k)) (.i (b:Int)) (.i (k:Int)) (by omega) (A6 (by omega));have l:=dV (n:=aM ps.length bs bs.length+1) λi _=>j4 ps.length bs (lQ ps.length bs b k) (.l [.i (b:Int),.i (k:Int)]) (aFE c d e).symm i;have m:(let z0:=(aK (aM ps.length bs bs.length+1) (gW ps.length bs (aM ps.length bs b+eF (gD bs b).els k+1))).set (Int.toNat (bJ .i64 ((aM ps.length bs b+eF (gD bs b).els k:Nat):Int) 1)) (D.l (cN (D.els (gD (aK (aM ps.length bs bs.length+1) (gW ps.length bs (aM ps.length bs b+eF (gD bs b).els k+1))) (Int.toNat (bJ .i64 ((aM ps.length bs b+eF (gD bs b).els k:Nat):Int) 1)))) 0 (.i (b:Int))));z0.set (Int.toNat (bJ .i64 ((aM ps.length bs b+eF (gD bs b).els k:Nat):Int) 1)) (D.l (cN (D.els (gD z0 (Int.toNat (bJ .i64 ((aM ps.length bs b+eF (gD bs b).els k:Nat):Int) 1)))) 1 (.i (k:Int)))))=aK (aM ps.length bs bs.length+1) (gW ps.length bs (lQ ps.length bs b k+1)):=by rw[h];exact j.trans l
   refine aC e (aC ?_ (aO ((nx d f [] _).trans ?_)))
   ·show aA (bJ .i64 ((aM ps.length bs b+eF (gD bs b).els k:Nat):Int) 1) (aK _ _).length=true;rw[e1,dA];exact aE (by omega)
   ·show D.i (bJ .i64 (k:Int) 1)::[.i ((aM ps.length bs b+eF (gD bs b).els (k+1):Nat):Int),.i (b:Int),.s nm,.b o,.l ps,.i r,.l bs,.l (aK (aM ps.length bs bs.length+1) (gW ps.length bs (aM ps.length bs b+eF (gD bs b).els (k+1)+1)))]=_;rw[s,<-m,<-e1];rfl
  |false=>refine aJ e (aO ((nx d f [] _).trans ?_));show D.i (bJ .i64 (k:Int) 1)::[.i ((aM ps.length bs b+eF (gD bs b).els (k+1):Nat):Int),.i (b:Int),.s nm,.b o,.l ps,.i r,.l bs,.l (aK (aM ps.length bs bs.length+1) (gW ps.length bs (aM ps.length bs b+eF (gD bs b).els (k+1)+1)))]=_;rw[Ly e];rfl
 ·exact aC (aE c) (aJ (aX _) (bH rfl))
theorem R6:fV yX 2 [.i (ps.length:Int),.i 0,.s nm,.b o,.l ps,.i r,.l bs,.l (aK (aM ps.length bs bs.length+1) (gW ps.length bs (ps.length+1)))] (0,[.l (FH ps.length bs)]):=by
 have l:=hT.1.sane;have d:fV yX 2 [.i (aM ps.length bs 0:Int),.i ((0:Nat):Int),.s nm,.b o,.l ps,.i r,.l bs,.l (aK (aM ps.length bs bs.length+1) (gW ps.length bs (aM ps.length bs 0+1)))] (0,[.l (aK (aM ps.length bs bs.length+1) (gW ps.length bs (aM ps.length bs bs.length+1)))]):=by
  refine cI EE (λj=>[.i (aM ps.length bs j:Int),.i (j:Int),.s nm,.b o,.l ps,.i r,.l bs,.l (aK (aM ps.length bs bs.length+1) (gW ps.length bs (aM ps.length bs j+1)))]) bs.length (λj c=>?_) ?_
  ·exact aC (aV c) (aP (R5 nm o ps r bs hp hT j c) (bG (aO (nx c l [.i (aM ps.length bs (j+1):Int)] _))))
  ·exact aJ (aX _) (bH rfl)
 have e:=dV (n:=aM ps.length bs bs.length+1) (f:=gW ps.length bs (aM ps.length bs bs.length+1)) (g:=Gp ps.length bs) λi h=>j3 h;rw[e]at d;exact d
omit hT in
theorem R7:fV yX 0 [.i 0,.s nm,.b o,.l ps,.i r,.l bs,.l (List.replicate (aM ps.length bs bs.length+1) (D.l [.i 0,.i 0]))] (0,[.s nm,.b o,.l ps,.i r,.l bs,.l (aK (aM ps.length bs bs.length+1) (gW ps.length bs (ps.length+1)))]):=by
 have s:=ON ps.length bs bs.length;have l:=hp;unfold fF at l;have d:List.replicate (aM ps.length bs bs.length+1) (D.l [.i 0,.i 0])=aK (aM ps.length bs bs.length+1) (gW ps.length bs 0):=by have:=dV (n:=aM ps.length bs bs.length+1) (f:=gW ps.length bs 0) (g:=λ_=>D.l [.i 0,.i 0]) λi _=>A6 (by omega);rw[this,rY]
 rw[d];refine cI EE (λj=>[.i (j:Int),.s nm,.b o,.l ps,.i r,.l bs,.l (aK (aM ps.length bs bs.length+1) (gW ps.length bs j))]) (ps.length+1) (λj m=>?_) ?_
 ·have e:=aCS (N:=aM ps.length bs bs.length+1) (k:=j) (g:=gW ps.length bs j) (.i (-1)) (.i (-1)) (by omega) (A6 (by omega));have h:=dV (n:=aM ps.length bs bs.length+1) λi _=>j4 ps.length bs j (.l [.i (-1),.i (-1)]) (by unfold Gp;rw[j2 (by omega)]) i;have c:=e.trans h;dsimp only at c;refine aC (jK (by show(j:Int)<=(ps.length:Int);omega)) (aC ?_ (aO ((nx m (by omega) [] _).trans ?_)))
  ·show aA (j:Int) (aK _ _).length=true;rw[dA];exact aE (by omega)
  ·show D.i (bJ .i64 (j:Int) 1)::[.s nm,.b o,.l ps,.i r,.l bs,.l (aK (aM ps.length bs bs.length+1) (gW ps.length bs (j+1)))]=_;rw[<-c];rfl
 ·exact aJ (Uw (by show(ps.length:Int)<((ps.length+1:Nat):Int);omega)) (bH rfl)
theorem A7:iQ E aW sites Ke [oK nm o ps r bs] (.l (FH ps.length bs)) []:=by
 refine bA EE (by rfl) rfl ?_;show Ev _ _ (TK _) _;unfold TK;have e:=IC ps bs hp hT;have e1:bJ .i64 (aM ps.length bs bs.length:Int) 1=((aM ps.length bs bs.length+1:Nat):Int):=Vd (by omega);have c:Int.toNat (bJ .i64 (aM ps.length bs bs.length:Int) 1)=aM ps.length bs bs.length+1:=by rw[e1];rfl
 refine bK (YE nm o ps r bs hp hT) rfl (aC ?_ ?_)
 ·show(cK 0 (bJ .i64 (aM ps.length bs bs.length:Int) 1)&&(aD (bJ .i64 (aM ps.length bs bs.length:Int) 1) (bJ .i64 (aM ps.length bs bs.length:Int) 1)&&jP (Int.toNat (bJ .i64 (aM ps.length bs bs.length:Int) 1)) 16))=true;rw[c,e1,jK (by omega),qF,fG (by omega) (by omega)];rfl
 ·have d:=R7 nm o ps r bs hp;rw[<-c]at d;refine aP d (bG ?_);rw[c];exact aP (R6 nm o ps r bs hp hT) (bG (bI rfl rfl))
end
end Go.Eng.Q

namespace Go.Eng.Q
open Go.Eng
def Et(np:Nat)(bs:LD)(b k:Nat):Bool:=eJ (gD (gD bs b).els k)&&!(aD (vI (gD (gD bs b).els k) 2) (lQ np bs b k:Int))
def KU(np:Nat)(bs:LD)(b:Nat):Bool:=eD (gD bs b).els.length (Et np bs b)
abbrev pP(x:D)(j:Nat):Int:=(gD (eX x 5) j).toI
abbrev OP(x:D)(j:Nat):Int:=(gD (eX x 6) j).toI
abbrev wv(d:LD)(v:Int)(c:Nat):Int:=vI (gD d (Int.toNat v)) c
abbrev dt(T:LD)(a b:Int):Bool:=D.toB (gE (gD T (Int.toNat a)) (Int.toNat b))
def aAG(nx:Int)(c T:LD)(b k:Nat)(x:D)(j:Nat):Bool:=
 (aQ (pP x j) 1||aQ nx (pP x j))||(bif aQ (wv c (pP x j) 0) 0 then false else bif aD (vI x 0) 26 then !(dt T (wv c (pP x j) 0) (OP x j))else
  ((aD (wv c (pP x j) 0) (b:Int)&&cK (k:Int) (wv c (pP x j) 1))||(!(aD (wv c (pP x j) 0) (b:Int))&&!(dt T (wv c (pP x j) 0) (b:Int)))))
noncomputable def Fo(np:Nat)(bs:LD)(b k:Nat):Bool:=eD (eX (gD (gD bs b).els k) 5).length (aAG (aM np bs bs.length:Int) (FH np bs) (gU bs) b k (gD (gD bs b).els k))
noncomputable def GI(np:Nat)(bs:LD):Bool:=!(eD bs.length (KU np bs))&&!(eD bs.length λb=>eD (gD bs b).els.length (Fo np bs b))
theorem qH{a b:Int}(h:aQ a b=false):¬a<b:=λc=>by rw[Np c]at h;cases h
theorem Qj{np:Nat}{bs:LD}{v:Nat}(h:v<=aM np bs bs.length):v<=np/\Vt np bs v=(-1,-1)\/np<v/\∃q,LQ np bs v q/\Vt np bs v=((q.1:Int),(q.2:Int)):=by
 by_cases c:v<=np
 ·exact .inl ⟨c,j2 c⟩
 ·obtain⟨q,_,d⟩:=Lx bs.length (Nat.le_refl _) v (by omega) h;exact .inr ⟨by omega,q,d,GH d⟩
theorem j5{np:Nat}{bs:LD}{v:Nat}(h:v<=aM np bs bs.length):gD (FH np bs) v=Gp np bs v:=eB _ (by omega)
theorem Ma{bs:LD}(h:mL bs=true){b k:Nat}(r:b<bs.length)(s:k<(gD bs b).els.length)(u:vI (gD (gD bs b).els k) 0=26):
  (eX (gD (gD bs b).els k) 6).length=(iP bs b).length/\∀j,(l:j<(iP bs b).length)->(gD (eX (gD (gD bs b).els k) 6) j).toI=(((iP bs b)[j]:Nat):Int):=by
 unfold mL at h;rw[Bool.and_eq_true,qG,qG]at h;have f:=bQ.1 h.2 b r;unfold SS at f;rw[Bool.or_eq_false_iff]at f;have c:=lG.1 f.2 k s;unfold ET at c;rw[u,qF,Bool.true_and,Bool.or_eq_false_iff]at c;have d:nU (eX (gD (gD bs b).els k) 6) ((iP bs b).map iD)=true:=by
  cases e:nU (eX (gD (gD bs b).els k) 6) ((iP bs b).map iD)with
  |true=>rfl
  |false=>rw[e]at c;cases c.2
 unfold nU at d;rw[Bool.and_eq_true,qG,bT]at d;have t:(eX (gD (gD bs b).els k) 6).length=(iP bs b).length:=by have:=d.1;rw[nA]at this;omega
 refine⟨t,λj l=>?_⟩;have g:=bQ.1 d.2 j (by omega);have m:aD (gD (eX (gD (gD bs b).els k) 6) j).toI (gD ((iP bs b).map iD) j).toI=true:=by
  cases e:aD (gD (eX (gD (gD bs b).els k) 6) j).toI (gD ((iP bs b).map iD) j).toI with
  |true=>rfl
  |false=>rw[e]at g;cases g
 rw[(bT _ _).1 m,UM l];rfl
theorem j6{bs:LD}{b n:Nat}(h:n∈iP bs b):n<bs.length:=by unfold iP nC at h;simp only[List.mem_filter,List.mem_range]at h;exact h.1
section
variable(nm:List UInt8)(o:Bool)(ps:LD)(r:Int)(bs:LD)(hp:fF ps)(hT:fZ bs)
include hp hT
theorem aAH(b:Nat)(c:b<bs.length):
  (KU ps.length bs b=true/\∃t,(∃n:Int,t=(0,[.i n,.b false,.i (b:Int),.s nm,.b o,.l ps,.i r,.l bs]))/\fV rS 2 [.i (aM ps.length bs b:Int),.i 0,.i (b:Int),.s nm,.b o,.l ps,.i r,.l bs] t)\/
  (KU ps.length bs b=false/\fV rS 2 [.i (aM ps.length bs b:Int),.i 0,.i (b:Int),.s nm,.b o,.l ps,.i r,.l bs] (1,[.i (aM ps.length bs (b+1):Int),.i (b:Int),.s nm,.b o,.l ps,.i r,.l bs])):=by
 have h:=(hT.2 b c).ins.sane;have j:=IC ps bs hp hT;refine aEU yZ (λk=>[.i ((aM ps.length bs b+eF (gD bs b).els k:Nat):Int),.i (k:Int),.i (b:Int),.s nm,.b o,.l ps,.i r,.l bs]) (gD bs b).els.length (Et ps.length bs b) (λt=>∃n:Int,t=(0,[.i n,.b false,.i (b:Int),.s nm,.b o,.l ps,.i r,.l bs])) (t1:=(1,[.i (aM ps.length bs (b+1):Int),.i (b:Int),.s nm,.b o,.l ps,.i r,.l bs])) (λk d=>?_) ?_
 ·show(_/\∃t,_/\Ev _ _ (uS _) _)\/(_/\Ev _ _ (uS _) _);unfold uS;have l:=Lz (np:=ps.length) c (Nat.le_of_lt d);have e1:bJ .i64 ((aM ps.length bs b+eF (gD bs b).els k:Nat):Int) 1=((lQ ps.length bs b k:Nat):Int):=Vd (by omega);have hx:∀n,[D.i n,D.i ((k+1:Nat):Int),.i (b:Int),.s nm,.b o,.l ps,.i r,.l bs]=[D.i n,.i (bJ .i64 (k:Int) 1),.i (b:Int),.s nm,.b o,.l ps,.i r,.l bs]:=λn=>nx d h [D.i n] _;cases e:eJ (gD (gD bs b).els k)with
  |false=>refine .inr ⟨by unfold Et;rw[e];rfl,aC (aE c) (aC (aV d) (aC (aE c) (aC (aE d) (aJ e (aO ?_)))))⟩;show[D.i ((aM ps.length bs b+eF (gD bs b).els (k+1):Nat):Int),D.i ((k+1:Nat):Int),.i (b:Int),.s nm,.b o,.l ps,.i r,.l bs]=_;rw[Ly e];exact hx _
  |true=>
   cases f:aD (vI (gD (gD bs b).els k) 2) (lQ ps.length bs b k:Int)with
   |false=>refine .inl ⟨by unfold Et;rw[e,f];rfl,_,⟨_,rfl⟩,aC (aE c) (aC (aV d) (aC (aE c) (aC (aE d) (aC e (aC ?_ (bH rfl))))))⟩;exact(congrArg (λn=>!(aD (vI (gD (gD bs b).els k) 2) n)) e1).trans (congrArg Bool.not f)
   |true=>
    refine .inr ⟨by unfold Et;rw[e,f];rfl,aC (aE c) (aC (aV d) (aC (aE c) (aC (aE d) (aC e (aJ ?_ (aO ?_))))))⟩
    ·exact(congrArg (λn=>!(aD (vI (gD (gD bs b).els k) 2) n)) e1).trans (congrArg Bool.not f)
    ·show[D.i ((aM ps.length bs b+eF (gD bs b).els (k+1):Nat):Int),D.i ((k+1:Nat):Int),.i (b:Int),.s nm,.b o,.l ps,.i r,.l bs]=_;have g:((aM ps.length bs b+eF (gD bs b).els (k+1):Nat):Int)=bJ .i64 ((aM ps.length bs b+eF (gD bs b).els k:Nat):Int) 1:=by rw[e1,Es e];rfl
     rw[g];exact hx _
 ·exact aC (aE c) (aJ (aX _) (bH rfl))
theorem aAI:
  (eD bs.length (KU ps.length bs)=true/\∃t,(∃n:Int,t=(0,[.i n,.b false,.s nm,.b o,.l ps,.i r,.l bs]))/\fV rS 0 [.i (ps.length:Int),.i 0,.s nm,.b o,.l ps,.i r,.l bs] t)\/
  (eD bs.length (KU ps.length bs)=false/\fV rS 0 [.i (ps.length:Int),.i 0,.s nm,.b o,.l ps,.i r,.l bs] (1,[.i (aM ps.length bs bs.length:Int),.s nm,.b o,.l ps,.i r,.l bs])):=by
 refine aEU yZ (λj=>[.i (aM ps.length bs j:Int),.i (j:Int),.s nm,.b o,.l ps,.i r,.l bs]) bs.length (KU ps.length bs) (λt=>∃n:Int,t=(0,[.i n,.b false,.s nm,.b o,.l ps,.i r,.l bs])) (t1:=(1,[.i (aM ps.length bs bs.length:Int),.s nm,.b o,.l ps,.i r,.l bs])) (λj c=>?_) ?_
 ·show(_/\∃t,_/\Ev _ _ (uR _) _)\/(_/\Ev _ _ (uR _) _);unfold uR;rcases aAH nm o ps r bs hp hT j c with⟨d,t,⟨n,rfl⟩,e⟩ |⟨d,e⟩
  ·exact .inl ⟨d,_,⟨_,rfl⟩,aC (aV c) (aP e (bG (bH rfl)))⟩
  ·exact .inr ⟨d,aC (aV c) (aP e (eO (bG (aO (nx c hT.1.sane [_] _)))))⟩
 ·exact aJ (aX _) (bH rfl)
omit hp in
theorem aAJ(W:nS bs)(hf:mL bs=true)(b k:Nat)(g:b<bs.length)(s:k<(gD bs b).els.length):
  fV rS 8 [.i (aM ps.length bs bs.length:Int),.i (b:Int),.i 0,.i (k:Int),.s nm,.b o,.l ps,.i r,.l bs,.i (vI (gD (gD bs b).els k) 0),.i (vI (gD (gD bs b).els k) 1),.i (vI (gD (gD bs b).els k) 2),.i (vI (gD (gD bs b).els k) 3),.i (vI (gD (gD bs b).els k) 4),.l (eX (gD (gD bs b).els k) 5),.l (eX (gD (gD bs b).els k) 6),.l (FH ps.length bs),.l (gU bs)]
   (bif Fo ps.length bs b k then(0,[.i (aM ps.length bs bs.length:Int),.i (b:Int),.b false,.i (k:Int),.s nm,.b o,.l ps,.i r,.l bs,.l (FH ps.length bs),.l (gU bs)])else(1,[.i (aM ps.length bs bs.length:Int),.i (b:Int),.i (k:Int),.s nm,.b o,.l ps,.i r,.l bs,.l (FH ps.length bs),.l (gU bs)])):=by
 have a3:=W b g k s;have has:=((hT.2 b g).i k s).as1;generalize t:gD (gD bs b).els k=x at*;have a4:=has.sane;have Y:(FH ps.length bs).length=aM ps.length bs bs.length+1:=dA _ _;have a0:Fo ps.length bs b k=eD (eX x 5).length (aAG (aM ps.length bs bs.length:Int) (FH ps.length bs) (gU bs) b k x):=by unfold Fo;rw[t]
 rw[a0];refine yC yZ (λj=>[.i (aM ps.length bs bs.length:Int),.i (b:Int),.i (j:Int),.i (k:Int),.s nm,.b o,.l ps,.i r,.l bs,.i (vI x 0),.i (vI x 1),.i (vI x 2),.i (vI x 3),.i (vI x 4),.l (eX x 5),.l (eX x 6),.l (FH ps.length bs),.l (gU bs)]) (eX x 5).length (aAG (aM ps.length bs bs.length:Int) (FH ps.length bs) (gU bs) b k x) (λj m=>?_) ?_
 ·have hx:=nx m a4 [.i (aM ps.length bs bs.length:Int),.i (b:Int)] [.i (k:Int),.s nm,.b o,.l ps,.i r,.l bs,.i (vI x 0),.i (vI x 1),.i (vI x 2),.i (vI x 3),.i (vI x 4),.l (eX x 5),.l (eX x 6),.l (FH ps.length bs),.l (gU bs)];refine oT (aV m) (oT (aE m) (oO rfl rfl (λa1=>?_)));have hv:∃n:Nat,pP x j=(n:Int)/\n<=aM ps.length bs bs.length:=by
   have l:((aQ (pP x j) 1)||(aQ (aM ps.length bs bs.length:Int) (pP x j)))=false:=a1;rw[Bool.or_eq_false_iff]at l;have e:=qH l.1;have C:=qH l.2;exact⟨(pP x j).toNat,by omega,by omega⟩
  obtain⟨n,H,J⟩:=hv;have hg:gD (FH ps.length bs) (Int.toNat (pP x j))=Gp ps.length bs n:=by rw[H];exact j5 J
  have u:wv (FH ps.length bs) (pP x j) 0=(Vt ps.length bs n).1 :=by unfold wv;rw[hg];rfl
  have a5:aA (pP x j) (FH ps.length bs).length=true:=by rw[H,Y];exact aE (by omega)
  refine oT a5 (oT rfl (oX (λ(h:aQ (wv (FH ps.length bs) (pP x j) 0) 0=true)=>aGv (by rw[h];rfl) hx) (λ(h:aQ (wv (FH ps.length bs) (pP x j) 0) 0=false)=>?_)));have hd:∃d:Nat,(Vt ps.length bs n).1 =(d:Int)/\d<bs.length:=by
   rcases Qj J with⟨_,e⟩ |⟨_,q,e,C⟩
   ·have c:aQ (wv (FH ps.length bs) (pP x j) 0) 0=false:=h;rw[u,e]at c;cases c
   ·exact⟨q.1,by rw[C],e.b⟩
  obtain⟨d,a2,F⟩:=hd;have v:wv (FH ps.length bs) (pP x j) 0=(d:Int):=u.trans a2;have P:aA (wv (FH ps.length bs) (pP x j) 0) (gU bs).length=true:=by rw[v,BD];exact aE F
  have L:nE (gD (gU bs) (Int.toNat (wv (FH ps.length bs) (pP x j) 0)))=bs.length:=by rw[v];show(D.els (gD (gU bs) d)).length=_;rw[YA F];exact fH _ _
  have Q:(bif aQ (wv (FH ps.length bs) (pP x j) 0) 0 then false else bif aD (vI x 0) 26 then !(dt (gU bs) (wv (FH ps.length bs) (pP x j) 0) (OP x j))else((aD (wv (FH ps.length bs) (pP x j) 0) (b:Int)&&cK (k:Int) (wv (FH ps.length bs) (pP x j) 1))||(!(aD (wv (FH ps.length bs) (pP x j) 0) (b:Int))&&!(dt (gU bs) (wv (FH ps.length bs) (pP x j) 0) (b:Int)))))=bif aD (vI x 0) 26 then !(dt (gU bs) (wv (FH ps.length bs) (pP x j) 0) (OP x j))else((aD (wv (FH ps.length bs) (pP x j) 0) (b:Int)&&cK (k:Int) (wv (FH ps.length bs) (pP x j) 1))||(!(aD (wv (FH ps.length bs) (pP x j) 0) (b:Int))&&!(dt (gU bs) (wv (FH ps.length bs) (pP x j) 0) (b:Int)))):=by have c:aQ (wv (FH ps.length bs) (pP x j) 0) 0=false:=h;rw[c];rfl
  rw[Q];refine oX (λ(f:aD (vI x 0) 26=true)=>?_) (λ(f:aD (vI x 0) 26=false)=>?_)
  ·have K:vI x 0=26:=(bT _ _).1 f;obtain⟨T,y⟩:=Ma hf g s (by rw[t];exact K);rw[t]at T y;have b0:=(a3.ap K).2;have G:j<(iP bs b).length:=by omega
   have U:=y j G;have V:=j6 (List.getElem_mem G);have a7:aA (OP x j) (nE (gD (gU bs) (Int.toNat (wv (FH ps.length bs) (pP x j) 0))))=true:=by rw[L];show aA (gD (eX x 6) j).toI bs.length=true;rw[U];exact aE V
   rw[f];have a9:aA (j:Int) (eX x 6).length=true:=aE (by omega);exact oT rfl (oT P (oT a9 (oT a7 (oE rfl rfl hx))))
  ·rw[f];have a6:aA (b:Int) (nE (gD (gU bs) (Int.toNat (wv (FH ps.length bs) (pP x j) 0))))=true:=by rw[L];exact aE g
   exact oT rfl (oT (aH rfl) (oT (aH rfl) (oT (aH rfl) (oT (aH P) (oT (aH a6) (oE rfl rfl hx))))))
 ·exact aJ (aX _) (bH rfl)
omit hp in
theorem aAK(e:nS bs)(hf:mL bs=true)(b:Nat)(c:b<bs.length):
  fV rS 6 [.i (aM ps.length bs bs.length:Int),.i (b:Int),.i 0,.s nm,.b o,.l ps,.i r,.l bs,.l (FH ps.length bs),.l (gU bs)]
   (bif eD (gD bs b).els.length (Fo ps.length bs b)then(0,[.i (aM ps.length bs bs.length:Int),.i (b:Int),.b false,.s nm,.b o,.l ps,.i r,.l bs,.l (FH ps.length bs),.l (gU bs)])else(1,[.i (aM ps.length bs bs.length:Int),.i (b:Int),.s nm,.b o,.l ps,.i r,.l bs,.l (FH ps.length bs),.l (gU bs)])):=by
 have f:=(hT.2 b c).ins.sane;refine yC yZ (λk=>[.i (aM ps.length bs bs.length:Int),.i (b:Int),.i (k:Int),.s nm,.b o,.l ps,.i r,.l bs,.l (FH ps.length bs),.l (gU bs)]) (gD bs b).els.length (Fo ps.length bs b) (λk d=>?_) ?_
 ·exact oT (aE c) (oT (aV d) (oT (aE c) (oT (aE d) (oL (aAJ nm o ps r bs hT e hf b k c d) rfl (congrArg IX.again (nx d f [_,_] _).symm)))))
 ·exact aC (aE c) (aJ (aX _) (bH rfl))
omit hp in
theorem aAL(d:nS bs)(hf:mL bs=true):
  fV rS 4 [.i (aM ps.length bs bs.length:Int),.i 0,.s nm,.b o,.l ps,.i r,.l bs,.l (FH ps.length bs),.l (gU bs)] (bif eD bs.length (λb=>eD (gD bs b).els.length (Fo ps.length bs b))then(0,[.b false])else(1,[])):=by
 refine yC yZ (λj=>[.i (aM ps.length bs bs.length:Int),.i (j:Int),.s nm,.b o,.l ps,.i r,.l bs,.l (FH ps.length bs),.l (gU bs)]) bs.length (λb=>eD (gD bs b).els.length (Fo ps.length bs b)) (λj c=>?_) ?_
 ·exact oT (aV c) (oL (aAK nm o ps r bs hT d hf j c) rfl (congrArg IX.again (nx c hT.1.sane [_] _).symm))
 ·exact aJ (aX _) (bH rfl)
theorem R8(g:nS bs)(hf:mL bs=true):iQ E aW sites Uc [oK nm o ps r bs] (.b (GI ps.length bs)) []:=by
 refine bA yZ (by rfl) rfl ?_;show Ev _ _ (Ap _) _;unfold Ap GI;rcases aAI nm o ps r bs hp hT with⟨d,t,⟨n,rfl⟩,f⟩ |⟨d,f⟩
 ·rw[d];exact aP f (bG (bI rfl rfl))
 ·rw[d];refine aP f (eO (bG (bK (A7 nm o ps r bs hp hT) rfl (bK (R3 nm o ps r bs hT) rfl ?_))));have c:=aAL nm o ps r bs hT g hf;cases e:eD bs.length (λb=>eD (gD bs b).els.length (Fo ps.length bs b))with
  |true=>rw[e]at c;exact aP c (bG (bI rfl rfl))
  |false=>rw[e]at c;exact aP c (eO (bG (bI rfl rfl)))
end
end Go.Eng.Q

namespace Go.Eng.Q
open Go.Eng
def gT(h:Nat->D)(z:D)(c i:Nat):D:=bif decide (i<c)then h i else z
theorem Qk{h:Nat->D}{z:D}{c i:Nat}(e:i<c):gT h z c i=h i:=by unfold gT;rw[decide_eq_true e];rfl
theorem A8{h:Nat->D}{z:D}{c i:Nat}(e:¬i<c):gT h z c i=z:=by unfold gT;rw[decide_eq_false e];rfl
theorem Vf{n c:Nat}{h:Nat->D}{z w:D}(f:w=h c):(aK n (gT h z c)).set c w=aK n (gT h z (c+1)):=by
 rw[nY];refine dV λi _=>?_;by_cases e:i=c
 ·subst e;rw[fK,Qk (by omega),f]
 ·rw[nW _ _ e];by_cases d:i<c
  ·rw[Qk d,Qk (by omega)]
  ·rw[A8 d,A8 (by omega)]
theorem Vg(n:Nat)(h:Nat->D)(z:D):List.replicate n z=aK n (gT h z 0):=by rw[dV (n:=n) (f:=gT h z 0) (g:=λ_=>z) λi _=>A8 (by omega),rY]
theorem R9(n:Nat)(h:Nat->D)(z:D):aK n (gT h z n)=aK n h:=dV λi c=>Qk c
def oH(bs:LD):LD:=aK bs.length λb=>.l ((aT bs b).map iD)
structure WI(bs:LD)(a:Nat)(f:Nat->Bool)(w:List Nat):Prop where
 snd:∀i,f i=true->RA bs 0 (a:Int) i
 wk:∀i,i∈w->f i=true
 fit:w.length+tE bs.length f<=bs.length
structure WIn(bs:LD)(a b:Nat)(f0:Nat->Bool)(w0:List Nat)(k:Nat)(q:(Nat->Bool)×List Nat):Prop where
 wi:WI bs a q.1 q.2
 mono:∀i,f0 i=true->q.1 i=true
 wm:∀i,i∈w0->i∈q.2
 all:∀(j:Nat)(h:j<(aT bs b).length),j<k->(((aT bs b)[j]:Nat):Int)≠a->q.1 (aT bs b)[j]=true
 mu:q.2.length+2*tE bs.length q.1<=w0.length+2*tE bs.length f0
 new:∀i,q.1 i=true->f0 i=true\/i∈q.2
theorem aAM(bs:LD)(H:fZ bs)(a b:Nat)(V:RA bs 0 (a:Int) b)(f0:Nat->Bool)(w0:List Nat)(a0:WI bs a f0 w0):
  ∃q:(Nat->Bool)×List Nat,WIn bs a b f0 w0 (aT bs b).length q/\fV zP 2 [.l (oH bs),.i (a:Int),.i 0,.l ((aT bs b).map iD),.i (((aT bs b).map iD).length:Int),.l (aZ bs.length f0),.l (w0.map iD)] (0,[.l (oH bs),.i (a:Int),.l (aZ bs.length q.1),.l (q.2.map iD)]):=by
 have a4:=OJ bs b H;have W:=H.1;unfold fF at W;refine EP zQ (λj(q:(Nat->Bool)×List Nat)=>[.l (oH bs),.i (a:Int),.i (j:Int),.l ((aT bs b).map iD),.i (((aT bs b).map iD).length:Int),.l (aZ bs.length q.1),.l (q.2.map iD)]) (aT bs b).length (λq=>(0,[.l (oH bs),.i (a:Int),.l (aZ bs.length q.1),.l (q.2.map iD)])) (WIn bs a b f0 w0) (λj q m c=>?_) (λq c=>?_) (s0:=(f0,w0)) ⟨a0,λ_ h=>h,λ_ h=>h,λ_ _ h=>absurd h (by omega),Nat.le_refl _,λ_ h=>.inl h⟩
 ·have J:(aT bs b)[j]∈aT bs b:=List.getElem_mem m;have s:(aT bs b)[j]<bs.length:=QH J;have hv:(gD ((aT bs b).map iD) j).toI=(((aT bs b)[j]:Nat):Int):=congrArg D.toI (UM m);have K:Int.toNat (gD ((aT bs b).map iD) j).toI=(aT bs b)[j]:=by rw[hv];rfl
  have hx:∀(u v:D),[.l (oH bs),.i (a:Int),.i ((j+1:Nat):Int),.l ((aT bs b).map iD),.i (((aT bs b).map iD).length:Int),u,v]=[.l (oH bs),.i (a:Int),.i (bJ .i64 (j:Int) 1),.l ((aT bs b).map iD),.i (((aT bs b).map iD).length:Int),u,v]:=λu v=>nx m (by omega) [_,_] _;have C:aQ (j:Int) (((aT bs b).map iD).length:Int)=true:=by rw[nA];exact aV m
  have F:aA (j:Int) ((aT bs b).map iD).length=true:=by rw[nA];exact aE m
  have y:aA (gD ((aT bs b).map iD) j).toI (aZ bs.length q.1).length=true:=by rw[hv,fH];exact aE s
  have L:D.toB (gD (aZ bs.length q.1) (Int.toNat (gD ((aT bs b).map iD) j).toI))=q.1 (aT bs b)[j]:=by rw[K];exact congrArg D.toB (kN _ s)
  have G:((!(aD (gD ((aT bs b).map iD) j).toI (a:Int)))&&(!(D.toB (gD (aZ bs.length q.1) (Int.toNat (gD ((aT bs b).map iD) j).toI)))))=((!(aD (((aT bs b)[j]:Nat):Int) (a:Int)))&&(!(q.1 (aT bs b)[j]))):=by rw[L,hv]
  cases e:((!(aD (((aT bs b)[j]:Nat):Int) (a:Int)))&&(!(q.1 (aT bs b)[j])))with
  |false=>
   refine⟨q,⟨c.wi,c.mono,c.wm,λi d U r=>?_,c.mu,c.new⟩,?_⟩
   ·by_cases l:i=j
    ·subst l;rw[Bool.and_eq_false_iff]at e;rcases e with e |e
     ·rw[gR r]at e;cases e
     ·cases P:q.1 (aT bs b)[i]with
      |true=>rfl
      |false=>rw[P]at e;cases e
    ·exact c.all i d (by omega) r
   ·exact aC C (aC F (aC (aH y) (aJ (G.trans e) (aO (hx _ _)))))
  |true=>
   rw[Bool.and_eq_true,qG,qG]at e;have Y:(((aT bs b)[j]:Nat):Int)≠a:=λh=>by rw[h,qF]at e;cases e.1
   have t:=HV q.1 (aT bs b)[j];have a2:=KS bs.length (f:=q.1) (g:=tD q.1 (aT bs b)[j]) t s e.2 (kO _ _);have a1:=c.wi.fit;have a3:=c.mu;refine⟨(tD q.1 (aT bs b)[j],q.2++[(aT bs b)[j]]),⟨⟨λi d=>?_,λi d=>?_,?_⟩,λi d=>t i (c.mono i d),λi d=>List.mem_append_left _ (c.wm i d),λi d U r=>?_,?_,λi d=>?_⟩,?_⟩
   ·by_cases l:i=(aT bs b)[j]
    ·rw[l];exact RA.step V J Y
    ·exact c.wi.snd i (by rw[<-CI q.1 l];exact d)
   ·rcases List.mem_append.1 d with h |h
    ·exact t i (c.wi.wk i h)
    ·rw[List.mem_singleton.1 h];exact kO _ _
   ·simp only[List.length_append,List.length_cons,List.length_nil];omega
   ·by_cases l:i=j
    ·subst l;exact kO _ _
    ·exact t _ (c.all i d (by omega) r)
   ·simp only[List.length_append,List.length_cons,List.length_nil];omega
   ·by_cases l:i=(aT bs b)[j]
    ·right;rw[l];simp
    ·rcases c.new i (by rw[<-CI q.1 l];exact d)with h |h
     ·exact .inl h
     ·exact .inr (List.mem_append_left _ h)
   ·refine aC C (aC F (aC (aH y) (aC (G.trans (by rw[e.1,e.2];rfl)) (aC y (aC ?_ (aO ((hx _ _).trans ?_)))))))
    ·show jP ((q.2.map iD).length+1) 8=true;rw[nA];exact fG (by omega) (by omega)
    ·have Q:(aZ bs.length q.1).set (Int.toNat (gD ((aT bs b).map iD) j).toI) (.b true)=aZ bs.length (tD q.1 (aT bs b)[j]):=by rw[K];exact zC _ s
     have T:q.2.map iD++[.i (gD ((aT bs b).map iD) j).toI]=(q.2++[(aT bs b)[j]]).map iD:=by rw[hv,List.map_append];rfl
     show[D.l (oH bs),.i (a:Int),.i (bJ .i64 (j:Int) 1),.l ((aT bs b).map iD),.i (((aT bs b).map iD).length:Int),.l (aZ bs.length (tD q.1 (aT bs b)[j])),.l ((q.2++[(aT bs b)[j]]).map iD)]=_;rw[<-Q,<-T];rfl
 ·refine aJ ?_ (bH rfl);show aQ ((aT bs b).length:Int) (((aT bs b).map iD).length:Int)=false;rw[nA];exact aX _
structure WO(bs:LD)(a:Nat)(q:(Nat->Bool)×List Nat):Prop where
 wi:WI bs a q.1 q.2
 cl:∀b,q.1 b=true->b∈q.2\/∀n,n∈aT bs b->(n:Int)≠a->q.1 n=true
 st:a≠0->q.1 0=true
theorem Ql(bs:LD)(H:fZ bs)(a:Nat)(C:(Nat->Bool)×List Nat)(T:WO bs a C):
  fV zP 0 [.l (oH bs),.i (a:Int),.l (aZ bs.length C.1),.l (C.2.map iD)] (0,[.l (dB bs 0 (a:Int))]):=by
 have U:=H.1;unfold fF at U;have h:=HU zQ (b:=0) (λ(q:(Nat->Bool)×List Nat)=>[.l (oH bs),.i (a:Int),.l (aZ bs.length q.1),.l (q.2.map iD)]) (WO bs a) (λq=>q.2.length+2*tE bs.length q.1) (λt=>t=(0,[.l (dB bs 0 (a:Int))])) (λq e=>?_) T
 ·obtain⟨t,d,r⟩:=h;subst d;exact r
 ·obtain⟨f,w⟩:=q;rcases List.eq_nil_or_concat w with rfl |⟨w',b,a0⟩
  ·refine .inl ⟨_,rfl,?_⟩;refine aJ rfl (bH ?_);have:dB bs 0 (a:Int)=aZ bs.length f:=by
    refine mZ λi y=>?_;rw[Bool.eq_iff_iff,zR];constructor
    ·intro d;clear y;induction d with
     |base _ _ s=>exact e.st (by omega)
     |@step p c a4 l m a2=>
      rcases e.cl p a2 with g |g
      ·cases g
      ·exact g c l m
    ·exact e.wi.snd i
   rw[this];rfl
  ·have a1:w=w'++[b]:=by rw[a0];simp
   subst a1;have W:f b=true:=e.wi.wk b (by simp);have G:=e.wi.snd b W;have K:=Zu bs 0 (a:Int) G;have Y:=e.wi.fit;simp only[List.length_append,List.length_cons,List.length_nil]at Y;obtain⟨a3,d,r⟩:=aAM bs H a b G f w' ⟨e.wi.snd,λi y=>e.wi.wk i (List.mem_append_left _ y),by omega⟩;refine .inr ⟨a3,⟨d.wi,λc V=>?_,λh=>d.mono _ (e.st h)⟩,?_,?_⟩
   ·rcases d.new c V with s |s
    ·rcases e.cl c s with g |g
     ·rcases List.mem_append.1 g with v |v
      ·exact .inl (d.wm c v)
      ·right;intro n l m;rw[List.mem_singleton.1 v]at l;obtain⟨j,J,rfl⟩:=List.mem_iff_getElem.1 l;exact d.all j J J m
     ·exact .inr λn l m=>d.mono _ (g n l m)
    ·exact .inl s
   ·have:=d.mu;simp only[List.length_append,List.length_cons,List.length_nil];omega
   ·have u:((w'++[b]).map iD).length=w'.length+1:=by simp
    have e1:bE .i64 ((((w'++[b]).map iD).length:Int)-1)=(w'.length:Int):=by rw[u,ES (by omega) (by omega)];rfl
    have L:gD ((w'++[b]).map iD) w'.length=iD b:=by simp[gD,List.getD]
    have P:List.drop 0 (List.take (Int.toNat (bE .i64 ((((w'++[b]).map iD).length:Int)-1))) ((w'++[b]).map iD))=w'.map iD:=by rw[e1,List.map_append];show List.drop 0 (List.take w'.length (w'.map iD++_))=_;rw[List.drop_zero,List.take_left' (nA w')]
    have F:(gD ((w'++[b]).map iD) (Int.toNat (bE .i64 ((((w'++[b]).map iD).length:Int)-1)))).toI=(b:Int):=by rw[e1];show(gD ((w'++[b]).map iD) w'.length).toI=_;rw[L];rfl
    have Q:D.els (gD (oH bs) (Int.toNat (gD ((w'++[b]).map iD) (Int.toNat (bE .i64 ((((w'++[b]).map iD).length:Int)-1)))).toI))=(aT bs b).map iD:=by rw[F];exact congrArg D.els (eB _ K)
    rw[<-P,<-Q]at r;refine aC ?_ (aC ?_ (aC ?_ (aC ?_ (aP r (bG (aO rfl))))))
    ·exact Np (by show(0:Int)<(((w'++[b]).map iD).length:Int);rw[u];omega)
    ·show aA (bE .i64 ((((w'++[b]).map iD).length:Int)-1)) ((w'++[b]).map iD).length=true;rw[e1,u];exact aE (by omega)
    ·show kP 0 (bE .i64 ((((w'++[b]).map iD).length:Int)-1)) (((w'++[b]).map iD).length:Int)=true;rw[e1,u];unfold kP;rw[jK (by omega),jK (by omega),jK (by omega)];rfl
    ·show aA (gD ((w'++[b]).map iD) (Int.toNat (bE .i64 ((((w'++[b]).map iD).length:Int)-1)))).toI (oH bs).length=true;rw[F];exact(congrArg (aA (b:Int)) (dA _ _)).trans (aE K)
theorem S0(bs:LD)(d:fZ bs)(c:0<bs.length)(a:Nat):iQ E aW sites NM [.l (oH bs),.i (a:Int)] (.l (dB bs 0 (a:Int))) []:=by
 refine bA zQ (by rfl) rfl ?_;show Ev _ _ (GX _) _;unfold GX;have v:=d.1;unfold fF at v;have m:(oH bs).length=bs.length:=dA _ _;have s:List.replicate (oH bs).length (D.b false)=aZ bs.length (λ_=>false):=by rw[m,mY]
 have u:∀n,tE n (λ_=>false)=n:=λn=>by
  induction n with
  |zero=>rfl
  |succ n F=>unfold tE;rw[F];rfl
 refine aC ?_ ?_
 ·show(cK 0 ((oH bs).length:Int)&&(aD ((oH bs).length:Int) ((oH bs).length:Int)&&jP (Int.toNat ((oH bs).length:Int)) 1))=true;rw[m,jK (by omega),qF];exact fG (by show bs.length<=_;omega) (by omega)
 ·cases e:aD (a:Int) 0 with
  |true=>
   have l:a=0:=by have:=(bT _ _).1 e;omega
   subst l;have h:=Ql bs d 0 (λ_=>false,[]) ⟨⟨λ_ h=>(by cases h),λ_ h=>(by cases h),by rw[u];simp⟩,λ_ h=>(by cases h),λh=>absurd rfl h⟩;rw[<-s]at h;exact aJ (congrArg Bool.not e) (aP h (bG (bI rfl rfl)))
  |false=>
   have l:(0:Int)≠(a:Int):=λh=>by rw[<-h,qF]at e;cases e
   have C:=zC (n:=bs.length) (λ_=>false) c;have y:=KS bs.length (f:=λ_=>false) (g:=tD (λ_=>false) 0) (HV _ 0) c rfl (kO _ _);rw[u]at y;have t:∀i,tD (λ_=>false) 0 i=true->i=0:=λi h=>by
    by_cases r:i=0
    ·exact r
    ·rw[CI _ r]at h;cases h
   have h:=Ql bs d a (tD (λ_=>false) 0,[0]) ⟨⟨λi h=>by rw[t i h];exact RA.base (start:=0) (by omega) (by omega) l,λi h=>by rw[List.mem_singleton.1 h];exact kO (λ_=>false) 0,by simp only[List.length_cons,List.length_nil];omega⟩,λi h=>.inl (by rw[t i h];simp),λ_=>kO (λ_=>false) 0⟩;rw[<-C,<-s]at h;refine aC (congrArg Bool.not e) (aC ?_ (aC rfl (aP h (bG (bI rfl rfl)))));show aA 0 (List.replicate (oH bs).length (D.b false)).length=true;rw[List.length_replicate,m];exact aE (j:=0) c
end Go.Eng.Q
