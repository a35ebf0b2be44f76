/- Part 7 of the proof: what wf.Check and the document's Check reckon. -/
import Derived.Test.YtglojhiigapkbabGreatTrB
set_option linter.unusedSimpArgs false
set_option linter.unusedVariables false
namespace Go.Eng
def e8{c:Type}(step:Nat->D->c->(Nat×LD)⊕c)(d:c->Nat×LD):Nat->LD->c->Nat×LD
 |_,[],s=>d s
 |j,x::l,s=>match step j x s with
  |.inl t=>t
  |.inr e=>e8 step d (j+1) l e
section
variable{E:fM}{B:mA}{Tb:BT lJ}{d:FD}
theorem Lp{m:Nat}(v:CR E B Tb m d){b:Nat}{c:Type}(f:Nat->c->LD)(l:LD)(step:Nat->D->c->(Nat×LD)⊕c)(g:c->Nat×LD)(r:Nat->c->Prop)
  (J:∀j s,j<l.length->r j s->(∀t,step j (gD l j) s=.inl t->sW E B Tb d (d.F.lp b (f j s)) (.out t))/\(∀e,step j (gD l j) s=.inr e->r (j+1) e/\sW E B Tb d (d.F.lp b (f j s)) (.again (f (j+1) e))))
  (K:∀s,r l.length s->sW E B Tb d (d.F.lp b (f l.length s)) (.out (g s))){s0:c}(h:r 0 s0):RG E B Tb d b (f 0 s0) (e8 step g 0 l s0).1 (e8 step g 0 l s0).2 :=by
 have key:∀(k j:Nat)(s:c),j+k=l.length->r j s->RG E B Tb d b (f j s) (e8 step g j (l.drop j) s).1 (e8 step g j (l.drop j) s).2 :=by
  intro k;induction k with
  |zero=>
   intro j s L h;have:j=l.length:=by omega
   subst this;rw[List.drop_length];exact zF v (K s h)
  |succ k P=>
   intro j s L h;have y:j<l.length:=by omega
   have hd:l.drop j=gD l j::l.drop (j+1):=by rw[List.drop_eq_getElem_cons y];congr 1;simp[gD,List.getD,y]
   rw[hd];obtain⟨C,F⟩:=J j s y h;cases u:step j (gD l j) s with
   |inl t=>simp only[e8,u];exact zF v (C t u)
   |inr e=>simp only[e8,u];obtain⟨G,H⟩:=F e u;exact sX v H (P (j+1) e (by omega) G)
 have:=key l.length 0 s0 (by omega) h;simpa using this
theorem Zs{c:D->Bool}{t0 t1:Nat×LD}:∀(l:LD)(j:Nat),e8 (λ_ x(_:Unit)=>bif c x then .inl t0 else .inr ()) (λ_=>t1) j l ()=bif l.any c then t0 else t1
 |[],_=>rfl
 |x::l,j=>by
  simp only[e8,List.any_cons];cases c x with
  |true=>rfl
  |false=>simp only[cond_false,Bool.false_or];exact Zs l (j+1)
theorem LA{m:Nat}(y:CR E B Tb m d){b:Nat}(f:Nat->LD)(l:LD)(c:D->Bool){t0 t1:Nat×LD}
  (r:∀j,j<l.length->c (gD l j)=true->sW E B Tb d (d.F.lp b (f j)) (.out t0))(u:∀j,j<l.length->c (gD l j)=false->sW E B Tb d (d.F.lp b (f j)) (.again (f (j+1))))
  (v:sW E B Tb d (d.F.lp b (f l.length)) (.out t1)):RG E B Tb d b (f 0) (bif l.any c then t0 else t1).1 (bif l.any c then t0 else t1).2 :=by
 rw[<-Zs l 0];refine Lp y (λj(_:Unit)=>f j) l _ _ (λ_ _=>True) (λj s g _=>⟨λt ht=>?_,λC h=>⟨trivial,?_⟩⟩) (λs _=>v) trivial
 ·cases e:c (gD l j)with
  |true=>rw[e]at ht;simp only[cond_true,Sum.inl.injEq]at ht;subst ht;exact r j g e
  |false=>rw[e]at ht;simp at ht
 ·cases e:c (gD l j)with
  |true=>rw[e]at h;simp at h
  |false=>exact u j g e
theorem rT{m:Nat}(t:CR E B Tb m d){b:Nat}(f:Nat->LD)(l:LD)(e:D->Bool){t0 t1:Nat×LD}
  (h:∀j,j<l.length->(e (gD l j)=true/\sW E B Tb d (d.F.lp b (f j)) (.out t0))\/(e (gD l j)=false/\sW E B Tb d (d.F.lp b (f j)) (.again (f (j+1)))))
  (s:sW E B Tb d (d.F.lp b (f l.length)) (.out t1)):RG E B Tb d b (f 0) (bif l.any e then t0 else t1).1 (bif l.any e then t0 else t1).2 :=
 LA t f l e (λj r g=>by
  rcases h j r with⟨_,c⟩ |⟨c,_⟩
  ·exact c
  ·rw[g]at c;cases c) (λj r g=>by
  rcases h j r with⟨c,_⟩ |⟨_,c⟩
  ·rw[g]at c;cases c
  ·exact c) s
theorem Vh{g:D->Int}{k:Int->Nat×LD}:∀(l:LD)(j:Nat)(a:Int),e8 (λ_ x(a:Int)=>.inr (bJ .i64 a (g x))) k j l a=k (l.foldl (λa x=>bJ .i64 a (g x)) a)
 |[],_,_=>rfl
 |x::l,j,a=>by simp only[e8,List.foldl_cons];exact Vh l (j+1) _
end
theorem fU{j n:Nat}(c:j<n)(d:(n:Int)<=9223372036854775807):bJ .i64 (j:Int) 1=((j+1:Nat):Int):=by rw[CN _ _ _ (by simp[VH,VI]),wA (by omega) (by omega)];omega
theorem aU{j n:Nat}(h:j<n):aT (j:Int) (n:Int)=true:=by
 unfold aT;cases e:cX (n:Int) (j:Int)with
 |true=>have:=(fN _ _).1 e;omega
 |false=>rfl
theorem aF{j n:Nat}(h:j<n):aA (j:Int) n=true:=by unfold aA;rw[aU h,(fN 0 (j:Int)).2 (by omega)];rfl
theorem aX(n:Nat):aT (n:Int) (n:Int)=false:=by unfold aT;rw[(fN (n:Int) (n:Int)).2 (Int.le_refl _)];rfl
noncomputable def Ob(C:Nat->LD->D)(t:Sh):D:=
 IX.rec (motive_1:=λ_=>D) (motive_2:=λ_=>Unit)
  (λx _=>x) (λ_=>.i 0) (λ_=>.i 0) (.i 0) (λb _ _ p q=>bif b then p else q) (λm xs _ _ k=>k (C m xs) []) (λ_ _ _ _=>.i 0) () (λ_ _ _ _=>()) t
noncomputable def okT(C:Nat->LD->D)(K:Nat->LD->Bool)(t:Sh):Bool:=
 IX.rec (motive_1:=λ_=>Bool) (motive_2:=λ_=>Unit)
  (λ_ bs=>match bs with|[]=>true |_::_=>false) (λ_=>false) (λ_=>false) false (λ_ _ _ p q=>p&&q) (λm xs nb _ k=>K m xs&&(Nat.beq nb 0&&k (C m xs) [])) (λ_ _ _ _=>false) () (λ_ _ _ _=>()) t
section
variable{E:fM}{B:mA}{Tb:BT lJ}{d:FD}
theorem UT{C:Nat->LD->D}{K:Nat->LD->Bool}(c:∀m xs,K m xs=true->jZ E B Tb m xs (C m xs) []):∀(t:Sh),okT C K t=true->sW E B Tb d t (.ret (Ob C t) [])
 |.ret x bs,h=>by
  cases bs with
  |nil=>exact bM rfl rfl
  |cons _ _=>exact absurd h (by simp[okT])
 |.again s,h=>by exact absurd h (by simp[okT])
 |.out t,h=>by exact absurd h (by simp[okT])
 |.bad,h=>by exact absurd h (by simp[okT])
 |.ask b p q,h=>by
  have g:(okT C K p&&okT C K q)=true:=h;obtain⟨e,f⟩:=(Bool.and_eq_true_iff).mp g;cases b with
  |true=>exact aC rfl (UT c p e)
  |false=>exact aM rfl (UT c q f)
 |.call m xs nb k,h=>by have g:(K m xs&&(Nat.beq nb 0&&okT C K (k (C m xs) [])))=true:=h;obtain⟨e,f⟩:=(Bool.and_eq_true_iff).mp g;obtain⟨j,l⟩:=(Bool.and_eq_true_iff).mp f;exact bW (c m xs e) (Nat.eq_of_beq_eq_true j).symm (UT c (k (C m xs) []) l)
 |.loop b s ks,h=>by exact absurd h (by simp[okT])
end
section
variable{E:fM}{B:mA}{Tb:BT lJ}{d:FD}{b:Bool}{o:Nat×LD}{a:LD}{p q t:Sh}
def Qo(E:fM)(B:mA)(Tb:BT lJ)(d:FD)(b:Bool)(t:Sh)(o:Nat×LD)(a:LD):Prop:=(b=true/\sW E B Tb d t (.out o))\/(b=false/\sW E B Tb d t (.again a))
theorem oT{c:Bool}(h:c=true)(f:Qo E B Tb d b p o a):Qo E B Tb d b (.ask c p q) o a:=
 f.elim (λe=>.inl ⟨e.1,aC h e.2⟩) (λe=>.inr ⟨e.1,aC h e.2⟩)
theorem oF{c:Bool}(h:c=false)(f:Qo E B Tb d b q o a):Qo E B Tb d b (.ask c p q) o a:=
 f.elim (λe=>.inl ⟨e.1,aM h e.2⟩) (λe=>.inr ⟨e.1,aM h e.2⟩)
theorem aG2{o':Nat×LD}(h:b=true)(c:o=o'):Qo E B Tb d b (.out o') o a:=.inl ⟨h,bG c⟩
theorem aCN{a':LD}(h:b=false)(c:a=a'):Qo E B Tb d b (.again a') o a:=.inr ⟨h,aP c⟩
theorem oE{c:Bool}{o':Nat×LD}{a':LD}(h:c=b)(f:o=o')(e:a=a'):Qo E B Tb d b (.ask c (.out o') (.again a')) o a:=by
 subst h;cases c with
 |true=>exact oT rfl (aG2 rfl f)
 |false=>exact oF rfl (aCN rfl e)
theorem oO{c b2:Bool}{o':Nat×LD}(h:b=(c||b2))(f:o=o')(e:c=false->Qo E B Tb d b2 q o a):Qo E B Tb d b (.ask c (.out o') q) o a:=by
 subst h;cases c with
 |true=>exact oT rfl (aG2 rfl f)
 |false=>exact oF rfl (e rfl)
theorem oC{m nb:Nat}{xs:LD}{k:D->LD->Sh}{x:D}{bs:LD}(e:jZ E B Tb m xs x bs)(f:bs.length=nb)(g:Qo E B Tb d b (k x bs) o a):Qo E B Tb d b (.call m xs nb k) o a:=
 g.elim (λc=>.inl ⟨c.1,bW e f c.2⟩) (λc=>.inr ⟨c.1,bW e f c.2⟩)
theorem oL{l:Nat}{s c e:LD}{f g:LD->Sh}{ks:Ts (LD) (Nat×LD)}(h:RG E B Tb d l s (bif b then(0,c)else(1,e)).1 (bif b then(0,c)else(1,e)).2)(j:f c=.out o)(m:g e=.again a):Qo E B Tb d b (.loop l s (.cons f (.cons g ks))) o a:=by
 cases b with
 |true=>exact .inl ⟨rfl,aO h (bB (show Ev _ _ (f c) _ from by rw[j];exact bG rfl))⟩
 |false=>exact .inr ⟨rfl,aO h (fD (bB (show Ev _ _ (g e) _ from by rw[m];exact aP rfl)))⟩
theorem oLO{l:Nat}{s c m:LD}{j r:LD->Sh}{ks:Ts (LD) (Nat×LD)}{b1 b2:Bool}(h:b=(b1||b2))(e:RG E B Tb d l s (bif b1 then(0,c)else(1,m)).1 (bif b1 then(0,c)else(1,m)).2)(t:j c=.out o)(u:b1=false->Qo E B Tb d b2 (r m) o a):Qo E B Tb d b (.loop l s (.cons j (.cons r ks))) o a:=by
 subst h;cases b1 with
 |true=>exact .inl ⟨rfl,aO e (bB (show Ev _ _ (j c) _ from by rw[t];exact bG rfl))⟩
 |false=>
  rcases u rfl with⟨f,g⟩ |⟨f,g⟩
  ·exact .inl ⟨f,aO e (fD (bB g))⟩
  ·exact .inr ⟨f,aO e (fD (bB g))⟩
theorem FE{m:Nat}(g:CR E B Tb m d){b:Nat}(f:Nat->LD)(l:LD)(c:D->Bool){t0 t1:Nat×LD}
  (h:∀j,j<l.length->Qo E B Tb d (c (gD l j)) (d.F.lp b (f j)) t0 (f (j+1)))
  (e:sW E B Tb d (d.F.lp b (f l.length)) (.out t1)):RG E B Tb d b (f 0) (bif l.any c then t0 else t1).1 (bif l.any c then t0 else t1).2 :=
 rT g f l c h e
theorem tO{m:Nat}(s:CR E B Tb m d){b:Nat}(f:Nat->LD)(n:Nat)(P:Nat->Bool){t0 t1:Nat×LD}
  (h:∀j,j<n->Qo E B Tb d (P j) (d.F.lp b (f j)) t0 (f (j+1)))
  (r:sW E B Tb d (d.F.lp b (f n)) (.out t1)):RG E B Tb d b (f 0) (bif dW n P then t0 else t1).1 (bif dW n P then t0 else t1).2 :=by
 have c:=aEk s f n P (i0:=t0.1) (d0:=t0.2) (i1:=t1.1) (d1:=t1.2) (λj l g=>by
  rcases h j l with⟨c,_⟩ |⟨_,c⟩
  ·rw[g]at c;cases c
  ·exact c) (λj l g=>by
  rcases h j l with⟨_,c⟩ |⟨c,_⟩
  ·exact c
  ·rw[g]at c;cases c) r
 cases e:dW n P with
 |true=>rw[e]at c;exact c
 |false=>rw[e]at c;exact c
theorem aFk{m:Nat}(r:CR E B Tb m d){b:Nat}(f:Nat->LD)(n:Nat)(P:Nat->Bool)(Q:Nat×LD->Prop){t1:Nat×LD}
  (h:∀j,j<n->(P j=true/\∃t,Q t/\sW E B Tb d (d.F.lp b (f j)) (.out t))\/(P j=false/\sW E B Tb d (d.F.lp b (f j)) (.again (f (j+1)))))
  (s:sW E B Tb d (d.F.lp b (f n)) (.out t1)):(dW n P=true/\∃t,Q t/\RG E B Tb d b (f 0) t.1 t.2)\/(dW n P=false/\RG E B Tb d b (f 0) t1.1 t1.2):=by
 cases e:dW n P with
 |true=>
  obtain⟨j,C,u,v⟩:=rP e;rcases h j C with⟨_,t,g,y⟩ |⟨g,_⟩
  ·refine .inl ⟨rfl,t,g,dF r f j (λi l=>?_) y⟩;rcases h i (by omega)with⟨c,_⟩ |⟨_,c⟩
   ·rw[v i l]at c;cases c
   ·exact c
  ·rw[u]at g;cases g
 |false=>
  refine .inr ⟨rfl,dF r f n (λi l=>?_) s⟩;rcases h i l with⟨c,_⟩ |⟨_,c⟩
  ·rw[bU.1 e i l]at c;cases c
  ·exact c
theorem sB{m:Nat}(C:CR E B Tb m d){b:Nat}{c:Type}(f:Nat->c->LD)(l:LD)(step:c->D->c)(e:c->Nat×LD)(g:Nat->c->Prop)
  (u:∀j s,j<l.length->g j s->g (j+1) (step s (gD l j))/\sW E B Tb d (d.F.lp b (f j s)) (.again (f (j+1) (step s (gD l j)))))
  (v:∀s,g l.length s->sW E B Tb d (d.F.lp b (f l.length s)) (.out (e s))){s0:c}(F:g 0 s0):RG E B Tb d b (f 0 s0) (e (l.foldl step s0)).1 (e (l.foldl step s0)).2 :=by
 have h:=Lp C f l (λ_ x s=>.inr (step s x)) e g (λj s G H=>⟨λt ht=>by simp at ht,λK r=>by simp only[Sum.inr.injEq]at r;subst r;exact u j s G H⟩) v F;have y:∀(l:LD)(j:Nat)(s:c),e8 (λ_ x s=>.inr (step s x)) e j l s=e (l.foldl step s):=by
  intro l;induction l with
  |nil=>intro j s;rfl
  |cons x l J=>intro j s;exact J (j+1) (step s x)
 rw[y]at h;exact h
theorem FF{m:Nat}(r:CR E B Tb m d){b:Nat}{l:Type}(f:Nat->l->LD)(n:Nat)(h:l->Nat×LD)(e:Nat->l->Prop)
  (t:∀j s,j<n->e j s->∃c,e (j+1) c/\sW E B Tb d (d.F.lp b (f j s)) (.again (f (j+1) c)))
  (u:∀s,e n s->sW E B Tb d (d.F.lp b (f n s)) (.out (h s))){s0:l}(g:e 0 s0):∃s,e n s/\RG E B Tb d b (f 0 s0) (h s).1 (h s).2 :=by
 have key:∀(k j:Nat)(s:l),j+k=n->e j s->∃c,e n c/\RG E B Tb d b (f j s) (h c).1 (h c).2 :=by
  intro k;induction k with
  |zero=>
   intro j s G g;have:j=n:=by omega
   subst this;exact⟨s,g,zF r (u s g)⟩
  |succ k H=>intro j s G g;obtain⟨c,v,y⟩:=t j s (by omega) g;obtain⟨J,C,F⟩:=H (j+1) c (by omega) v;exact⟨J,C,sX r y F⟩
 exact key n 0 s0 (by omega) g
theorem IG{m:Nat}(u:CR E B Tb m d){b:Nat}{l:Type}(f:l->LD)(r:l->Prop)(mu:l->Nat)(Q:Nat×LD->Prop)
  (h:∀s,r s->(∃t,Q t/\sW E B Tb d (d.F.lp b (f s)) (.out t))\/(∃e,r e/\mu e<mu s/\sW E B Tb d (d.F.lp b (f s)) (.again (f e)))){s0:l}(j:r s0):∃t,Q t/\RG E B Tb d b (f s0) t.1 t.2:=by
 have key:∀(k:Nat)(s:l),mu s<=k->r s->∃t,Q t/\RG E B Tb d b (f s) t.1 t.2:=by
  intro k;induction k with
  |zero=>
   intro s F j;rcases h s j with⟨t,c,g⟩ |⟨e,c,g,v⟩
   ·exact⟨t,c,zF u g⟩
   ·omega
  |succ k G=>
   intro s F j;rcases h s j with⟨t,c,g⟩ |⟨e,c,g,v⟩
   ·exact⟨t,c,zF u g⟩
   ·obtain⟨t,y,C⟩:=G e (by omega) c;exact⟨t,y,sX u v C⟩
 exact key _ s0 (Nat.le_refl _) j
theorem aHB{m:Nat}(g:CR E B Tb m d){b:Nat}(f:Nat->LD)(n:Nat){i:Nat}{ds:LD}(c:∀j,j<n->sW E B Tb d (d.F.lp b (f j)) (.again (f (j+1))))(e:sW E B Tb d (d.F.lp b (f n)) (.out (i,ds))):RG E B Tb d b (f 0) i ds:=dF g f n c e
theorem oX{c:Bool}(e:c=true->Qo E B Tb d b p o a)(f:c=false->Qo E B Tb d b q o a):Qo E B Tb d b (.ask c p q) o a:=by
 cases c with
 |true=>exact oT rfl (e rfl)
 |false=>exact oF rfl (f rfl)
end
theorem nx{j n:Nat}(c:j<n)(d:(n:Int)<=9223372036854775807)(p q:LD):p++D.i ((j+1:Nat):Int)::q=p++D.i (bJ .i64 (j:Int) 1)::q:=by rw[fU c d]
theorem aH{a b:Bool}(h:b=true):(a||b)=true:=by rw[h,Bool.or_true]
end Go.Eng

namespace Go.Eng.Q
open Go.Eng
def uQ(U:LD):Int:=U.foldl (λa x=>bJ .i64 a (iE x)) 0
theorem UU(nm:List UInt8)(o:Bool)(V:LD)(r:Int)(U:LD)(d:(U.length:Int)<=9223372036854775807):jZ E aZ sites Hd [.l [.s nm,.b o,.l V,.i r,.l U]] (.i (uQ U)) []:=by
 refine bE Bu (by rfl) rfl ?_;refine aO (Lp Bu (λj(a:Int)=>[.i a,.i (j:Int),.s nm,.b o,.l V,.i r,.l U]) U (λ_ x a=>.inr (bJ .i64 a (iE x))) (λa=>(0,[.i a])) (λ_ _=>True) (λj a e _=>⟨λt ht=>by simp at ht,λf c=>⟨trivial,?_⟩⟩) (λa _=>?_) trivial) ?_
 ·refine aC (by simp;omega) (aC (by simp;omega) (aP ?_));simp only[Sum.inr.injEq]at c;subst c;simp[tI,fU e d]
 ·exact aM (by simp) (bG rfl)
 ·rw[Vh];exact bB (bM rfl rfl)
theorem Lq(nm:List UInt8)(o:Bool)(V:LD)(r:Int)(U:LD)(d:(U.length:Int)<=9223372036854775807):jZ E aZ sites Ut [.l [.s nm,.b o,.l V,.i r,.l U]] (.i (uQ U)) []:=by
 refine bE Cg (by rfl) rfl ?_;refine aO (Lp Cg (λj(a:Int)=>[.i a,.l U,.i (j:Int),.i (U.length:Int)]) U (λ_ x a=>.inr (bJ .i64 a (iE x))) (λa=>(0,[.i a])) (λ_ _=>True) (λj a e _=>⟨λt ht=>by simp at ht,λf c=>⟨trivial,?_⟩⟩) (λa _=>?_) trivial) ?_
 ·refine aC (by simp;omega) (aC (by simp;omega) (aP ?_));simp only[Sum.inr.injEq]at c;subst c;simp[tI,fU e d]
 ·exact aM (by simp) (bG rfl)
 ·rw[Vh];exact bB (bM rfl rfl)
def UV(x:D):Bool:=aT 5 (iX x 1)
def LB(x:D):Bool:=aT (iX x 1) 1||aT 16 (iX x 1)
def UW(x:D):Bool:=aT (iX x 1) 1||aT 12 (iX x 1)
def FG(x:D):Bool:=((aT 5 (iX x 2)||aT (iX x 4) 1)||aT 40 (iX x 4))||aT 300 (uQ (eX x 4))
def iW(J W y Y:LD):Bool:=!(((aT 24 (iL Y)||aT 12 (iL J))||aT 12 (iL W))||aT 6 (iL y))&&(!J.any UV&&(!W.any LB&&(!y.any UW&&!Y.any FG)))
theorem kJ{a b:Int}(h:aT b a=false):a<=b:=by
 have:cX a b=true:=by unfold aT at h;simpa using h
 exact(fN _ _).1 this
theorem Lr{J W y Y:LD}(h:(((aT 24 (iL Y)||aT 12 (iL J))||aT 12 (iL W))||aT 6 (iL y))=false):(Y.length:Int)<=24/\(J.length:Int)<=12/\(W.length:Int)<=12/\(y.length:Int)<=6:=by simp only[Bool.or_eq_false_iff]at h;exact⟨kJ h.1.1.1,kJ h.1.1.2,kJ h.1.2,kJ h.2⟩
theorem CW(x:D):(((aT 5 (iX x 2)||aT (iX x 4) 1)||aT 40 (iX x 4))=true/\FG x=true)\/(((aT 5 (iX x 2)||aT (iX x 4) 1)||aT 40 (iX x 4))=false/\FG x=aT 300 (uQ (eX x 4))/\((eX x 4).length:Int)<=40):=by
 cases h:((aT 5 (iX x 2)||aT (iX x 4) 1)||aT 40 (iX x 4))with
 |true=>exact .inl ⟨rfl,by simp only[FG,h,Bool.true_or]⟩
 |false=>refine .inr ⟨rfl,by simp only[FG,h,Bool.false_or],?_⟩;simp only[Bool.or_eq_false_iff]at h;exact kJ h.2
theorem Vi(J W y Y:LD):jZ E aZ sites Av [.l [.l J,.l W,.l y,.l Y]] (.b (iW J W y Y)) []:=by
 refine bE vJ (by rfl) rfl ?_;refine aG0 (λh=>?_) (λh=>?_)
 ·have f:(((aT 24 (iL Y)||aT 12 (iL J))||aT 12 (iL W))||aT 6 (iL y))=true:=h;exact bM (by simp only[iW,f,Bool.not_true,Bool.false_and]) rfl
 ·have f:(((aT 24 (iL Y)||aT 12 (iL J))||aT 12 (iL W))||aT 6 (iL y))=false:=h;obtain⟨C,t,u,v⟩:=Lr f;refine aO (LA vJ (λj=>[.i (j:Int),.l J,.l W,.l y,.l Y]) J UV (t0:=(0,[.b false,.l J,.l W,.l y,.l Y])) (t1:=(1,[.l J,.l W,.l y,.l Y])) (λj d c=>?_) (λj d c=>?_) ?_) ?_
  ·exact aC (by simp;omega) (aC (by simp;omega) (aC (by simpa[UV,tI]using c) (bG rfl)))
  ·exact aC (by simp;omega) (aC (by simp;omega) (aM (by simpa[UV,tI]using c) (aP (by simp[fU d (by omega)]))))
  ·exact aM (by simp) (bG rfl)
  cases e1:J.any UV with
  |true=>exact bB (bM (by simp[iW,f,e1]) rfl)
  |false=>
  refine fD (bB (aO (LA vJ (λj=>[.i (j:Int),.l J,.l W,.l y,.l Y]) W LB (t0:=(0,[.b false,.l J,.l W,.l y,.l Y])) (t1:=(1,[.l J,.l W,.l y,.l Y])) (λj d c=>?_) (λj d c=>?_) ?_) ?_))
  ·exact aC (by simp;omega) (aC (by simp;omega) (aC (by simpa[LB,tI]using c) (bG rfl)))
  ·exact aC (by simp;omega) (aC (by simp;omega) (aM (by simpa[LB,tI]using c) (aP (by simp[fU d (by omega)]))))
  ·exact aM (by simp) (bG rfl)
  cases l:W.any LB with
  |true=>exact bB (bM (by simp[iW,f,e1,l]) rfl)
  |false=>
  refine fD (bB (aO (LA vJ (λj=>[.i (j:Int),.l J,.l W,.l y,.l Y]) y UW (t0:=(0,[.b false,.l J,.l W,.l y,.l Y])) (t1:=(1,[.l J,.l W,.l y,.l Y])) (λj d c=>?_) (λj d c=>?_) ?_) ?_))
  ·exact aC (by simp;omega) (aC (by simp;omega) (aC (by simpa[UW,tI]using c) (bG rfl)))
  ·exact aC (by simp;omega) (aC (by simp;omega) (aM (by simpa[UW,tI]using c) (aP (by simp[fU d (by omega)]))))
  ·exact aM (by simp) (bG rfl)
  cases m:y.any UW with
  |true=>exact bB (bM (by simp[iW,f,e1,l,m]) rfl)
  |false=>
  refine fD (bB (aO (LA vJ (λj=>[.i (j:Int),.l J,.l W,.l y,.l Y]) Y FG (t0:=(0,[.b false])) (t1:=(1,[])) (λj d c=>?_) (λj d c=>?_) ?_) ?_))
  ·refine aC (by simp;omega) (aC (by simp;omega) ?_);rcases CW (gD Y j)with⟨e,g⟩ |⟨e,g,s⟩
   ·exact aM (congrArg Bool.not e) (aC (congrArg (λb=>b||aT 300 0) e) (bG rfl))
   ·refine aC (congrArg Bool.not e) (bW (x:=.i (uQ (eX (gD Y j) 4))) (bs:=[]) ?_ rfl (aC ?_ (bG rfl)))
    ·have:=UU (D.toS (D.fld (gD Y j) 0)) (vB (gD Y j) 1) (eX (gD Y j) 2) (vI (gD Y j) 3) (eX (gD Y j) 4) (by omega);simpa[tI]using this
    ·rw[g]at c;exact(congrArg (λb=>b||aT 300 (uQ (eX (gD Y j) 4))) e).trans c
  ·refine aC (by simp;omega) (aC (by simp;omega) ?_);rcases CW (gD Y j)with⟨e,g⟩ |⟨e,g,s⟩
   ·rw[g]at c;cases c
   ·refine aC (congrArg Bool.not e) (bW (x:=.i (uQ (eX (gD Y j) 4))) (bs:=[]) ?_ rfl (aM ?_ (aP (by simp[fU d (by omega)]))))
    ·have:=UU (D.toS (D.fld (gD Y j) 0)) (vB (gD Y j) 1) (eX (gD Y j) 2) (vI (gD Y j) 3) (eX (gD Y j) 4) (by omega);simpa[tI]using this
    ·rw[g]at c;exact(congrArg (λb=>b||aT 300 (uQ (eX (gD Y j) 4))) e).trans c
  ·exact aM (by simp) (bG rfl)
  cases r:Y.any FG with
  |true=>exact bB (bM (congrArg D.b (show iW J W y Y=false by simp only[iW,f,e1,l,m,r,Bool.not_true,Bool.not_false,Bool.and_self,Bool.and_false])) rfl)
  |false=>exact fD (bB (bM (congrArg D.b (show iW J W y Y=true by simp only[iW,f,e1,l,m,r,Bool.not_true,Bool.not_false,Bool.and_self])) rfl))
theorem Zt(J W y Y:LD):jZ E aZ sites Kr [.l [.l J,.l W,.l y,.l Y]] (.b (iW J W y Y)) []:=by
 refine bE zO (by rfl) rfl ?_;refine aG0 (λh=>?_) (λh=>?_)
 ·have f:(((aT 24 (iL Y)||aT 12 (iL J))||aT 12 (iL W))||aT 6 (iL y))=true:=h;exact bM (by simp only[iW,f,Bool.not_true,Bool.false_and]) rfl
 ·have f:(((aT 24 (iL Y)||aT 12 (iL J))||aT 12 (iL W))||aT 6 (iL y))=false:=h;obtain⟨C,t,u,v⟩:=Lr f;refine aO (LA zO (λj=>[.i (J.length:Int),.i (j:Int),.l J,.l J,.l W,.l y,.l Y]) J UV (t0:=(0,[.b false,.l J,.l W,.l y,.l Y])) (t1:=(1,[.l J,.l W,.l y,.l Y])) (λj c d=>?_) (λj c d=>?_) ?_) ?_
  ·exact aC (aU c) (aC (aF c) (aC d (bG rfl)))
  ·exact aC (aU c) (aC (aF c) (aM d (aP (by simp[fU c (by omega)]))))
  ·exact aM (aX _) (bG rfl)
  cases e1:J.any UV with
  |true=>exact bB (bM (congrArg D.b (show iW J W y Y=false by simp only[iW,f,e1,Bool.not_true,Bool.not_false,Bool.and_self,Bool.and_false,Bool.false_and,Bool.true_and])) rfl)
  |false=>
  refine fD (bB (aO (LA zO (λj=>[.i (W.length:Int),.i (j:Int),.l W,.l J,.l W,.l y,.l Y]) W LB (t0:=(0,[.b false,.l J,.l W,.l y,.l Y])) (t1:=(1,[.l J,.l W,.l y,.l Y])) (λj c d=>?_) (λj c d=>?_) ?_) ?_))
  ·exact aC (aU c) (aC (aF c) (aC d (bG rfl)))
  ·exact aC (aU c) (aC (aF c) (aM d (aP (by simp[fU c (by omega)]))))
  ·exact aM (aX _) (bG rfl)
  cases l:W.any LB with
  |true=>exact bB (bM (congrArg D.b (show iW J W y Y=false by simp only[iW,f,e1,l,Bool.not_true,Bool.not_false,Bool.and_self,Bool.and_false,Bool.false_and,Bool.true_and])) rfl)
  |false=>
  refine fD (bB (aO (LA zO (λj=>[.i (y.length:Int),.l y,.i (j:Int),.l J,.l W,.l y,.l Y]) y UW (t0:=(0,[.b false,.l J,.l W,.l y,.l Y])) (t1:=(1,[.l J,.l W,.l y,.l Y])) (λj c d=>?_) (λj c d=>?_) ?_) ?_))
  ·exact aC (aU c) (aC (aF c) (aC d (bG rfl)))
  ·exact aC (aU c) (aC (aF c) (aM d (aP (by simp[fU c (by omega)]))))
  ·exact aM (aX _) (bG rfl)
  cases m:y.any UW with
  |true=>exact bB (bM (congrArg D.b (show iW J W y Y=false by simp only[iW,f,e1,l,m,Bool.not_true,Bool.not_false,Bool.and_self,Bool.and_false,Bool.false_and,Bool.true_and])) rfl)
  |false=>
  refine fD (bB (aO (LA zO (λj=>[.i (Y.length:Int),.i (j:Int),.l Y]) Y FG (t0:=(0,[.b false])) (t1:=(1,[])) (λj c d=>?_) (λj c d=>?_) ?_) ?_))
  ·refine aC (aU c) (aC (aF c) ?_);rcases CW (gD Y j)with⟨e,g⟩ |⟨e,g,s⟩
   ·exact aM (congrArg Bool.not e) (aC (congrArg (λb=>b||aT 300 0) e) (bG rfl))
   ·rw[g]at d;exact aC (congrArg Bool.not e) (bW (x:=.i (uQ (eX (gD Y j) 4))) (bs:=[]) (Lq (D.toS (D.fld (gD Y j) 0)) (vB (gD Y j) 1) (eX (gD Y j) 2) (vI (gD Y j) 3) (eX (gD Y j) 4) (by omega)) rfl (aC ((congrArg (λb=>b||aT 300 (uQ (eX (gD Y j) 4))) e).trans d) (bG rfl)))
  ·refine aC (aU c) (aC (aF c) ?_);rcases CW (gD Y j)with⟨e,g⟩ |⟨e,g,s⟩
   ·rw[g]at d;cases d
   ·rw[g]at d;exact aC (congrArg Bool.not e) (bW (x:=.i (uQ (eX (gD Y j) 4))) (bs:=[]) (Lq (D.toS (D.fld (gD Y j) 0)) (vB (gD Y j) 1) (eX (gD Y j) 2) (vI (gD Y j) 3) (eX (gD Y j) 4) (by omega)) rfl (aM ((congrArg (λb=>b||aT 300 (uQ (eX (gD Y j) 4))) e).trans d) (aP (by simp[fU c (by omega)]))))
  ·exact aM (aX _) (bG rfl)
  cases r:Y.any FG with
  |true=>exact bB (bM (congrArg D.b (show iW J W y Y=false by simp only[iW,f,e1,l,m,r,Bool.not_true,Bool.not_false,Bool.and_self,Bool.and_false])) rfl)
  |false=>exact fD (bB (bM (congrArg D.b (show iW J W y Y=true by simp only[iW,f,e1,l,m,r,Bool.not_true,Bool.not_false,Bool.and_self])) rfl))
def aG4:Nat->LD->D:=λ_ _=>.i 0
def aG5:Nat->LD->Bool:=λ_ _=>false
noncomputable def jX(op:Int):D:=Ob aG4 (QN [.i op])
theorem N9(op:Int):jZ E aZ sites QM [.i op] (jX op) []:=bE Qg (by rfl) rfl (UT (K:=aG5) (λm J h=>by cases h) (QN [.i op]) (by kernel_rfl))
theorem O3(op:Int):jZ E aZ sites QL [.i op] (jX op) []:=bE Qk (by rfl) rfl (UT (C:=aG4) (K:=aG5) (λm J h=>by cases h) (Py [.i op]) (by kernel_rfl))
def gU(op:Int):Bool:=(((aD op 27||aD op 28)||aD op 29)||aD op 30)
theorem Ls(op:Int):jZ E aZ sites GM [.i op] (.b (gU op)) []:=bE Qn (by rfl) rfl (bM rfl rfl)
theorem Lt(op:Int):(cX 27 op&&cX op 30)=gU op:=by rw[Bool.eq_iff_iff];simp only[gU,Bool.and_eq_true,Bool.or_eq_true,fN,bT];omega
theorem Lu(op:Int):jZ E aZ sites CS [.i op] (.b (gU op)) []:=bE Qi (by rfl) rfl (bM (congrArg D.b (Lt op).symm) rfl)
theorem kB(t:Int):jZ E aZ sites DI [.i t] (.b (aD t 1||aD t 2)) []:=bE Ey (by rfl) rfl (bM rfl rfl)
noncomputable def C2:Nat->LD->D:=λm J=>bif Nat.beq m QM||Nat.beq m QL then jX (gI J 0)else .b (gU (gI J 0))
def aF1:LD->Bool
 |[.i _]=>true
 |_=>false
def K2:Nat->LD->Bool:=λm J=>(Nat.beq m QM||(Nat.beq m QL||(Nat.beq m GM||Nat.beq m CS)))&&aF1 J
theorem aEo{J:LD}(h:aF1 J=true):∃n,J=[.i n]:=by
 unfold aF1 at h;split at h
 ·exact⟨_,rfl⟩
 ·cases h
theorem aFl(m:Nat)(J:LD)(h:K2 m J=true):jZ E aZ sites m J (C2 m J) []:=by
 simp only[K2,Bool.and_eq_true,Bool.or_eq_true]at h;obtain⟨c,d⟩:=h;obtain⟨n,rfl⟩:=aEo d;rcases c with h |h |h |h<;>rw[Nat.eq_of_beq_eq_true h]
 ·exact N9 n
 ·exact O3 n
 ·exact Ls n
 ·exact Lu n
def eC(op ty to sym num:Int)(as1 is1:LD):D:=.l [.i op,.i ty,.i to,.i sym,.i num,.l as1,.l is1]
noncomputable def bS(x:D):D:=Ob C2 (bV [x])
noncomputable def dR(x:D):D:=Ob C2 (cV [x])
theorem YL(x:D):jZ E aZ sites Ay [x] (bS x) []:=bE Fc (by rfl) rfl (UT aFl (bV [x]) (by kernel_rfl))
theorem Lv(x:D):jZ E aZ sites Un [x] (dR x) []:=bE Qe (by rfl) rfl (UT aFl (cV [x]) (by kernel_rfl))
def cG(l:LD):Prop:=(l.length:Int)<=9223372036854775807
structure i3(b:D):Prop where
 ins:cG b.els
structure Lw(f:D):Prop where
 ps:cG (eX f 2)
 bs:cG (eX f 4)
 b:∀j,j<(eX f 4).length->i3 (gD (eX f 4) j)
structure Zu(J W y Y:LD):Prop where
 hx:cG J
 hg:cG W
 ht:cG y
 hf:cG Y
 x:∀j,j<J.length->cG (eX (gD J j) 1)
 t:∀j,j<y.length->cG (eX (gD y j) 1)
 f:∀j,j<Y.length->Lw (gD Y j)
abbrev fS(d:FD)(b:Nat)(V:LD)(t:Nat×LD):Prop:=RG E aZ sites d b V t.1 t.2
def Ge(t:Int):Bool:=aD t 1||aD t 2
def HK(x:D):Bool:=!Ge x.toI
def Vj(r:Int):Bool:=aT r 0||aT 2 r
theorem aAu(r:Int):(!(aD r 0)&&!Ge r)=Vj r:=by rw[Bool.eq_iff_iff];simp only[Ge,Vj,Bool.and_eq_true,Bool.or_eq_true,Bool.not_eq_true',Bool.or_eq_false_iff,<-Bool.not_eq_true,bT,aT,fN];omega
def GT(x:D):Bool:=Vj (vI x 2)||(eX x 1).any HK
def Fh(x:D):D:=.l [.i (vI x 0),.i (vI x 1),.i (vI x 2),.i (vI x 3),.i (vI x 4),.l (eX x 5),.l (eX x 6)]
theorem aCO(t:Int):(!(aD t 1)&&!(aD t 2))=!Ge t:=by simp only[Ge,Bool.not_or]
theorem Oc(d:Int)(J W y Y:LD)(nm:List UInt8)(l:LD)(r:Int)(f:cG l):
  fS rE 2 [.i d,.i 0,.l J,.l W,.l y,.l Y,.s nm,.l l,.i r] (bif l.any HK then(0,[.i d,.b false,.l J,.l W,.l y,.l Y])else(1,[.i d,.l J,.l W,.l y,.l Y])):=by
 refine rT rF (λj=>[.i d,.i (j:Int),.l J,.l W,.l y,.l Y,.s nm,.l l,.i r]) l HK (λj c=>?_) ?_
 ·cases e:HK (gD l j)with
  |true=>refine .inl ⟨rfl,?_⟩;exact aC (aU c) (aC (aF c) (aC (by rw[Bool.or_eq_true];right;exact aF c) (aC ((aCO _).trans e) (bG rfl))))
  |false=>refine .inr ⟨rfl,?_⟩;exact aC (aU c) (aC (aF c) (aC (by rw[Bool.or_eq_true];right;exact aF c) (aM ((aCO _).trans e) (aP (by simp[fU c f])))))
 ·exact aM (aX _) (bG rfl)
theorem Od(J W y Y:LD)(g:cG J)(h:∀j,j<J.length->cG (eX (gD J j) 1)):
  fS rE 0 [.i 0,.l J,.l W,.l y,.l Y] (bif J.any GT then(0,[.b false,.l J,.l W,.l y,.l Y])else(1,[.l J,.l W,.l y,.l Y])):=by
 refine rT rF (λj=>[.i (j:Int),.l J,.l W,.l y,.l Y]) J GT (λj c=>?_) ?_
 ·cases d:Vj (vI (gD J j) 2)with
  |true=>refine .inl ⟨by simp only[GT,d,Bool.true_or],?_⟩;exact aC (aU c) (aC (aF c) (aC d (bG rfl)))
  |false=>
   have e:=Oc (j:Int) J W y Y (D.toS (D.fld (gD J j) 0)) (eX (gD J j) 1) (vI (gD J j) 2) (h j c);cases f:(eX (gD J j) 1).any HK with
   |true=>rw[f]at e;refine .inl ⟨by simp only[GT,d,f,Bool.or_true],?_⟩;exact aC (aU c) (aC (aF c) (aM d (aO e (bB (bG rfl)))))
   |false=>rw[f]at e;refine .inr ⟨by simp only[GT,d,f,Bool.or_false],?_⟩;exact aC (aU c) (aC (aF c) (aM d (aO e (fD (bB (aP (by simp[fU c g])))))))
 ·exact aM (aX _) (bG rfl)
def rU(o:Bool)(x:D):Bool:=(aT x.toI 1||aT 4 x.toI)||(o&&aT 2 x.toI)
def QS(o:Bool)(r:Int):Bool:=((aT r 0||aT 4 r)||aD r 3)||(o&&aT 2 r)
noncomputable def rG(x:D):Bool:=!(D.toB (dR (Fh x)))
noncomputable def HL(b:D):Bool:=b.els.any rG
noncomputable def qJ(x:D):Bool:=QS (vB x 1) (vI x 3)||((eX x 2).any (rU (vB x 1))||(eX x 4).any HL)
noncomputable def lN(J Y:LD):Bool:=!J.any GT&&!Y.any qJ
section
variable(J W y Y V U:LD)(nm:List UInt8)(o:Bool)(r jf:Int)
theorem Lx(c:Nat)(e:c<U.length)(g:cG (gD U c).els):
  fS rE 10 [.i (c:Int),.i jf,.i 0,.l J,.l W,.l y,.l Y,.s nm,.b o,.l V,.i r,.l U] (bif (gD U c).els.any rG then(0,[.i (c:Int),.b false,.i jf,.l J,.l W,.l y,.l Y,.s nm,.b o,.l V,.i r,.l U])else(1,[.i (c:Int),.i jf,.l J,.l W,.l y,.l Y,.s nm,.b o,.l V,.i r,.l U])):=by
 refine rT rF (λj=>[.i (c:Int),.i jf,.i (j:Int),.l J,.l W,.l y,.l Y,.s nm,.b o,.l V,.i r,.l U]) (gD U c).els rG (λj d=>?_) ?_
 ·cases f:rG (gD (gD U c).els j)with
  |true=>refine .inl ⟨rfl,?_⟩;exact aC (aF e) (aC (aU d) (aC (aF e) (aC (aF d) (bW (Lv (Fh (gD (gD U c).els j))) rfl (aC f (bG rfl))))))
  |false=>refine .inr ⟨rfl,?_⟩;exact aC (aF e) (aC (aU d) (aC (aF e) (aC (aF d) (bW (Lv (Fh (gD (gD U c).els j))) rfl (aM f (aP (by simp[fU d g])))))))
 ·exact aC (aF e) (aM (aX _) (bG rfl))
theorem Oe(g:cG U)(f:∀j,j<U.length->i3 (gD U j)):
  fS rE 8 [.i 0,.i jf,.l J,.l W,.l y,.l Y,.s nm,.b o,.l V,.i r,.l U] (bif U.any HL then(0,[.b false,.i jf,.l J,.l W,.l y,.l Y])else(1,[.i jf,.l J,.l W,.l y,.l Y])):=by
 refine rT rF (λj=>[.i (j:Int),.i jf,.l J,.l W,.l y,.l Y,.s nm,.b o,.l V,.i r,.l U]) U HL (λj c=>?_) ?_
 ·have d:=Lx J W y Y V U nm o r jf j c (f j c).ins;cases e:HL (gD U j)with
  |true=>rw[show(gD U j).els.any rG=true from e]at d;refine .inl ⟨rfl,?_⟩;exact aC (aU c) (aO d (bB (bG rfl)))
  |false=>rw[show(gD U j).els.any rG=false from e]at d;refine .inr ⟨rfl,?_⟩;exact aC (aU c) (aO d (fD (bB (aP (by simp[fU c g])))))
 ·exact aM (aX _) (bG rfl)
theorem Of(e:cG V):
  fS rE 6 [.i 0,.i jf,.l J,.l W,.l y,.l Y,.s nm,.b o,.l V,.i r,.l U] (bif V.any (rU o)then(0,[.b false,.i jf,.l J,.l W,.l y,.l Y,.s nm,.b o,.l V,.i r,.l U])else(1,[.i jf,.l J,.l W,.l y,.l Y,.s nm,.b o,.l V,.i r,.l U])):=by
 refine rT rF (λj=>[.i (j:Int),.i jf,.l J,.l W,.l y,.l Y,.s nm,.b o,.l V,.i r,.l U]) V (rU o) (λj c=>?_) ?_
 ·cases d:rU o (gD V j)with
  |true=>refine .inl ⟨rfl,?_⟩;exact aC (aU c) (aC (aF c) (aC (by rw[Bool.or_eq_true];right;exact aF c) (aC (by rw[Bool.or_eq_true];right;exact aF c) (aC d (bG rfl)))))
  |false=>refine .inr ⟨rfl,?_⟩;exact aC (aU c) (aC (aF c) (aC (by rw[Bool.or_eq_true];right;exact aF c) (aC (by rw[Bool.or_eq_true];right;exact aF c) (aM d (aP (by simp[fU c e]))))))
 ·exact aM (aX _) (bG rfl)
end
theorem Og(J W y Y:LD)(l:cG Y)(hf:∀j,j<Y.length->Lw (gD Y j)):
  fS rE 4 [.i 0,.l J,.l W,.l y,.l Y] (bif Y.any qJ then(0,[.b false])else(1,[])):=by
 refine rT rF (λj=>[.i (j:Int),.l J,.l W,.l y,.l Y]) Y qJ (λj c=>?_) ?_
 ·have e:=Of J W y Y (eX (gD Y j) 2) (eX (gD Y j) 4) (D.toS (D.fld (gD Y j) 0)) (vB (gD Y j) 1) (vI (gD Y j) 3) (j:Int) (hf j c).ps;have g:=Oe J W y Y (eX (gD Y j) 2) (eX (gD Y j) 4) (D.toS (D.fld (gD Y j) 0)) (vB (gD Y j) 1) (vI (gD Y j) 3) (j:Int) (hf j c).bs (hf j c).b;cases d:QS (vB (gD Y j) 1) (vI (gD Y j) 3)with
  |true=>refine .inl ⟨by simp only[qJ,d,Bool.true_or],?_⟩;exact aC (aU c) (aC (aF c) (aC d (bG rfl)))
  |false=>
  cases f:(eX (gD Y j) 2).any (rU (vB (gD Y j) 1))with
  |true=>rw[f]at e;refine .inl ⟨by simp only[qJ,d,f,Bool.true_or,Bool.or_true],?_⟩;exact aC (aU c) (aC (aF c) (aM d (aO e (bB (bG rfl)))))
  |false=>
  rw[f]at e;cases h:(eX (gD Y j) 4).any HL with
  |true=>rw[h]at g;refine .inl ⟨by simp only[qJ,d,f,h,Bool.false_or],?_⟩;exact aC (aU c) (aC (aF c) (aM d (aO e (fD (bB (aO g (bB (bG rfl))))))))
  |false=>rw[h]at g;refine .inr ⟨by simp only[qJ,d,f,h,Bool.false_or],?_⟩;exact aC (aU c) (aC (aF c) (aM d (aO e (fD (bB (aO g (fD (bB (aP (by simp[fU c l]))))))))))
 ·exact aM (aX _) (bG rfl)
theorem Zv(J W y Y:LD)(h:Zu J W y Y):jZ E aZ sites Kl [.l [.l J,.l W,.l y,.l Y]] (.b (lN J Y)) []:=by
 refine bE rF (by rfl) rfl ?_;show Ev _ _ (UK _) _;unfold UK;have c:=Od J W y Y h.hx h.x;have e:=Og J W y Y h.hf h.f;cases e1:J.any GT with
 |true=>rw[e1]at c;exact aO c (bB (bM (congrArg D.b (show lN J Y=false by simp only[lN,e1,Bool.not_true,Bool.false_and])) rfl))
 |false=>
 rw[e1]at c;cases d:Y.any qJ with
 |true=>rw[d]at e;exact aO c (fD (bB (aO e (bB (bM (congrArg D.b (show lN J Y=false by simp only[lN,d,Bool.not_true,Bool.and_false])) rfl)))))
 |false=>rw[d]at e;exact aO c (fD (bB (aO e (fD (bB (bM (congrArg D.b (show lN J Y=true by simp only[lN,e1,d,Bool.not_false,Bool.and_self])) rfl))))))
theorem dY(C:Nat->LD->D)(x:D)(U:LD):Ob C (.ret x U)=x:=rfl
theorem dZ(C:Nat->LD->D)(b:Bool)(p q:Sh):Ob C (.ask b p q)=bif b then Ob C p else Ob C q:=rfl
theorem dE(C:Nat->LD->D)(m:Nat)(J:LD)(nb:Nat)(k:D->LD->Sh):Ob C (.call m J nb k)=Ob C (k (C m J) []):=rfl
theorem eL(a b:Int):aD a b=decide (a=b):=ZX a b
theorem eW(a b:Int):cX a b=decide (a<=b):=Sf a b
theorem eU(a b:Int):aT a b=decide (a<b):=ZW a b
theorem uR(n:Int):C2 QM [.i n]=jX n:=rfl
theorem uS(n:Int):C2 QL [.i n]=jX n:=rfl
theorem uT(n:Int):C2 GM [.i n]=.b (gU n):=rfl
theorem uU(n:Int):C2 CS [.i n]=.b (gU n):=rfl
theorem eG(b:Bool)(x c:D):D.toB (bif b then x else c)=bif b then D.toB x else D.toB c:=by cases b<;>rfl
theorem sf1(ty to sym num:Int)(a i:LD):D.toB (bS (eC 1 ty to sym num a i))=D.toB (dR (eC 1 ty to sym num a i)):=by
 have d:jX 1=.l [.i 0,.i 0,.b false,.b true]:=by kernel_rfl
 simp only[bS,dR,bV,cV,bO,bN,bP,bL,cA,bZ,cB,cC,dZ,dE,dY,eC,vI,vB,iX,rO,kP,sY,lB,lR,mC,uR,uS,uT,uU,d,eG,gU];simp only[eL,eW,eU];rw[Bool.eq_iff_iff];generalize a.length=x;generalize i.length=y;simp[Bool.cond_eq_ite];by_cases c:ty=0
 ·simp[c];try omega
 ·simp[c];try omega
theorem sf2(ty to sym num:Int)(a i:LD):D.toB (bS (eC 2 ty to sym num a i))=D.toB (dR (eC 2 ty to sym num a i)):=by
 have d:jX 2=.l [.i 0,.i 0,.b true,.b false]:=by kernel_rfl
 simp only[bS,dR,bV,cV,bO,bN,bP,bL,cA,bZ,cB,cC,dZ,dE,dY,eC,vI,vB,iX,rO,kP,sY,lB,lR,mC,uR,uS,uT,uU,d,eG,gU];simp only[eL,eW,eU];rw[Bool.eq_iff_iff];generalize a.length=x;generalize i.length=y;simp[Bool.cond_eq_ite];by_cases c:ty=0
 ·simp[c];try omega
 ·simp[c];try omega
theorem sf3(ty to sym num:Int)(a i:LD):D.toB (bS (eC 3 ty to sym num a i))=D.toB (dR (eC 3 ty to sym num a i)):=by
 have d:jX 3=.l [.i 0,.i 0,.b true,.b false]:=by kernel_rfl
 simp only[bS,dR,bV,cV,bO,bN,bP,bL,cA,bZ,cB,cC,dZ,dE,dY,eC,vI,vB,iX,rO,kP,sY,lB,lR,mC,uR,uS,uT,uU,d,eG,gU];simp only[eL,eW,eU];rw[Bool.eq_iff_iff];generalize a.length=x;generalize i.length=y;simp[Bool.cond_eq_ite];by_cases c:ty=0
 ·simp[c];try omega
 ·simp[c];try omega
theorem sf4(ty to sym num:Int)(a i:LD):D.toB (bS (eC 4 ty to sym num a i))=D.toB (dR (eC 4 ty to sym num a i)):=by
 have d:jX 4=.l [.i 2,.i 0,.b false,.b false]:=by kernel_rfl
 simp only[bS,dR,bV,cV,bO,bN,bP,bL,cA,bZ,cB,cC,dZ,dE,dY,eC,vI,vB,iX,rO,kP,sY,lB,lR,mC,uR,uS,uT,uU,d,eG,gU];simp only[eL,eW,eU];rw[Bool.eq_iff_iff];generalize a.length=x;generalize i.length=y;simp[Bool.cond_eq_ite];by_cases c:ty=0
 ·simp[c];try omega
 ·simp[c];try omega
theorem sf5(ty to sym num:Int)(a i:LD):D.toB (bS (eC 5 ty to sym num a i))=D.toB (dR (eC 5 ty to sym num a i)):=by
 have d:jX 5=.l [.i 2,.i 0,.b false,.b false]:=by kernel_rfl
 simp only[bS,dR,bV,cV,bO,bN,bP,bL,cA,bZ,cB,cC,dZ,dE,dY,eC,vI,vB,iX,rO,kP,sY,lB,lR,mC,uR,uS,uT,uU,d,eG,gU];simp only[eL,eW,eU];rw[Bool.eq_iff_iff];generalize a.length=x;generalize i.length=y;simp[Bool.cond_eq_ite];by_cases c:ty=0
 ·simp[c];try omega
 ·simp[c];try omega
theorem sf6(ty to sym num:Int)(a i:LD):D.toB (bS (eC 6 ty to sym num a i))=D.toB (dR (eC 6 ty to sym num a i)):=by
 have d:jX 6=.l [.i 2,.i 0,.b false,.b false]:=by kernel_rfl
 simp only[bS,dR,bV,cV,bO,bN,bP,bL,cA,bZ,cB,cC,dZ,dE,dY,eC,vI,vB,iX,rO,kP,sY,lB,lR,mC,uR,uS,uT,uU,d,eG,gU];simp only[eL,eW,eU];rw[Bool.eq_iff_iff];generalize a.length=x;generalize i.length=y;simp[Bool.cond_eq_ite];by_cases c:ty=0
 ·simp[c];try omega
 ·simp[c];try omega
theorem sf7(ty to sym num:Int)(a i:LD):D.toB (bS (eC 7 ty to sym num a i))=D.toB (dR (eC 7 ty to sym num a i)):=by
 have d:jX 7=.l [.i 2,.i 0,.b false,.b false]:=by kernel_rfl
 simp only[bS,dR,bV,cV,bO,bN,bP,bL,cA,bZ,cB,cC,dZ,dE,dY,eC,vI,vB,iX,rO,kP,sY,lB,lR,mC,uR,uS,uT,uU,d,eG,gU];simp only[eL,eW,eU];rw[Bool.eq_iff_iff];generalize a.length=x;generalize i.length=y;simp[Bool.cond_eq_ite];by_cases c:ty=0
 ·simp[c];try omega
 ·simp[c];try omega
theorem sf8(ty to sym num:Int)(a i:LD):D.toB (bS (eC 8 ty to sym num a i))=D.toB (dR (eC 8 ty to sym num a i)):=by
 have d:jX 8=.l [.i 2,.i 0,.b false,.b false]:=by kernel_rfl
 simp only[bS,dR,bV,cV,bO,bN,bP,bL,cA,bZ,cB,cC,dZ,dE,dY,eC,vI,vB,iX,rO,kP,sY,lB,lR,mC,uR,uS,uT,uU,d,eG,gU];simp only[eL,eW,eU];rw[Bool.eq_iff_iff];generalize a.length=x;generalize i.length=y;simp[Bool.cond_eq_ite];by_cases c:ty=0
 ·simp[c];try omega
 ·simp[c];try omega
theorem sf9(ty to sym num:Int)(a i:LD):D.toB (bS (eC 9 ty to sym num a i))=D.toB (dR (eC 9 ty to sym num a i)):=by
 have d:jX 9=.l [.i 2,.i 0,.b false,.b false]:=by kernel_rfl
 simp only[bS,dR,bV,cV,bO,bN,bP,bL,cA,bZ,cB,cC,dZ,dE,dY,eC,vI,vB,iX,rO,kP,sY,lB,lR,mC,uR,uS,uT,uU,d,eG,gU];simp only[eL,eW,eU];rw[Bool.eq_iff_iff];generalize a.length=x;generalize i.length=y;simp[Bool.cond_eq_ite];by_cases c:ty=0
 ·simp[c];try omega
 ·simp[c];try omega
theorem aHP(ty to sym num:Int)(a i:LD):D.toB (bS (eC 10 ty to sym num a i))=D.toB (dR (eC 10 ty to sym num a i)):=by
 have d:jX 10=.l [.i 2,.i 0,.b false,.b false]:=by kernel_rfl
 simp only[bS,dR,bV,cV,bO,bN,bP,bL,cA,bZ,cB,cC,dZ,dE,dY,eC,vI,vB,iX,rO,kP,sY,lB,lR,mC,uR,uS,uT,uU,d,eG,gU];simp only[eL,eW,eU];rw[Bool.eq_iff_iff];generalize a.length=x;generalize i.length=y;simp[Bool.cond_eq_ite];by_cases c:ty=0
 ·simp[c];try omega
 ·simp[c];try omega
theorem aHQ(ty to sym num:Int)(a i:LD):D.toB (bS (eC 11 ty to sym num a i))=D.toB (dR (eC 11 ty to sym num a i)):=by
 have d:jX 11=.l [.i 2,.i 0,.b false,.b false]:=by kernel_rfl
 simp only[bS,dR,bV,cV,bO,bN,bP,bL,cA,bZ,cB,cC,dZ,dE,dY,eC,vI,vB,iX,rO,kP,sY,lB,lR,mC,uR,uS,uT,uU,d,eG,gU];simp only[eL,eW,eU];rw[Bool.eq_iff_iff];generalize a.length=x;generalize i.length=y;simp[Bool.cond_eq_ite];by_cases c:ty=0
 ·simp[c];try omega
 ·simp[c];try omega
theorem aHR(ty to sym num:Int)(a i:LD):D.toB (bS (eC 12 ty to sym num a i))=D.toB (dR (eC 12 ty to sym num a i)):=by
 have d:jX 12=.l [.i 2,.i 0,.b false,.b false]:=by kernel_rfl
 simp only[bS,dR,bV,cV,bO,bN,bP,bL,cA,bZ,cB,cC,dZ,dE,dY,eC,vI,vB,iX,rO,kP,sY,lB,lR,mC,uR,uS,uT,uU,d,eG,gU];simp only[eL,eW,eU];rw[Bool.eq_iff_iff];generalize a.length=x;generalize i.length=y;simp[Bool.cond_eq_ite];by_cases c:ty=0
 ·simp[c];try omega
 ·simp[c];try omega
theorem aHS(ty to sym num:Int)(a i:LD):D.toB (bS (eC 13 ty to sym num a i))=D.toB (dR (eC 13 ty to sym num a i)):=by
 have d:jX 13=.l [.i 2,.i 0,.b false,.b false]:=by kernel_rfl
 simp only[bS,dR,bV,cV,bO,bN,bP,bL,cA,bZ,cB,cC,dZ,dE,dY,eC,vI,vB,iX,rO,kP,sY,lB,lR,mC,uR,uS,uT,uU,d,eG,gU];simp only[eL,eW,eU];rw[Bool.eq_iff_iff];generalize a.length=x;generalize i.length=y;simp[Bool.cond_eq_ite];by_cases c:ty=0
 ·simp[c];try omega
 ·simp[c];try omega
theorem aHT(ty to sym num:Int)(a i:LD):D.toB (bS (eC 14 ty to sym num a i))=D.toB (dR (eC 14 ty to sym num a i)):=by
 have d:jX 14=.l [.i 2,.i 0,.b false,.b false]:=by kernel_rfl
 simp only[bS,dR,bV,cV,bO,bN,bP,bL,cA,bZ,cB,cC,dZ,dE,dY,eC,vI,vB,iX,rO,kP,sY,lB,lR,mC,uR,uS,uT,uU,d,eG,gU];simp only[eL,eW,eU];rw[Bool.eq_iff_iff];generalize a.length=x;generalize i.length=y;simp[Bool.cond_eq_ite];by_cases c:ty=0
 ·simp[c];try omega
 ·simp[c];try omega
theorem aHU(ty to sym num:Int)(a i:LD):D.toB (bS (eC 15 ty to sym num a i))=D.toB (dR (eC 15 ty to sym num a i)):=by
 have d:jX 15=.l [.i 2,.i 0,.b false,.b false]:=by kernel_rfl
 simp only[bS,dR,bV,cV,bO,bN,bP,bL,cA,bZ,cB,cC,dZ,dE,dY,eC,vI,vB,iX,rO,kP,sY,lB,lR,mC,uR,uS,uT,uU,d,eG,gU];simp only[eL,eW,eU];rw[Bool.eq_iff_iff];generalize a.length=x;generalize i.length=y;simp[Bool.cond_eq_ite];by_cases c:ty=0
 ·simp[c];try omega
 ·simp[c];try omega
theorem aHV(ty to sym num:Int)(a i:LD):D.toB (bS (eC 16 ty to sym num a i))=D.toB (dR (eC 16 ty to sym num a i)):=by
 have d:jX 16=.l [.i 1,.i 0,.b false,.b false]:=by kernel_rfl
 simp only[bS,dR,bV,cV,bO,bN,bP,bL,cA,bZ,cB,cC,dZ,dE,dY,eC,vI,vB,iX,rO,kP,sY,lB,lR,mC,uR,uS,uT,uU,d,eG,gU];simp only[eL,eW,eU];rw[Bool.eq_iff_iff];generalize a.length=x;generalize i.length=y;simp[Bool.cond_eq_ite];by_cases c:ty=0
 ·simp[c];try omega
 ·simp[c];try omega
theorem aHW(ty to sym num:Int)(a i:LD):D.toB (bS (eC 17 ty to sym num a i))=D.toB (dR (eC 17 ty to sym num a i)):=by
 have d:jX 17=.l [.i 3,.i 0,.b false,.b false]:=by kernel_rfl
 simp only[bS,dR,bV,cV,bO,bN,bP,bL,cA,bZ,cB,cC,dZ,dE,dY,eC,vI,vB,iX,rO,kP,sY,lB,lR,mC,uR,uS,uT,uU,d,eG,gU];simp only[eL,eW,eU];rw[Bool.eq_iff_iff];generalize a.length=x;generalize i.length=y;simp[Bool.cond_eq_ite];by_cases c:ty=0
 ·simp[c];try omega
 ·simp[c];try omega
theorem aHX(ty to sym num:Int)(a i:LD):D.toB (bS (eC 18 ty to sym num a i))=D.toB (dR (eC 18 ty to sym num a i)):=by
 have d:jX 18=.l [.i 0,.i 0,.b false,.b true]:=by kernel_rfl
 simp only[bS,dR,bV,cV,bO,bN,bP,bL,cA,bZ,cB,cC,dZ,dE,dY,eC,vI,vB,iX,rO,kP,sY,lB,lR,mC,uR,uS,uT,uU,d,eG,gU];simp only[eL,eW,eU];rw[Bool.eq_iff_iff];generalize a.length=x;generalize i.length=y;simp[Bool.cond_eq_ite];by_cases c:ty=0
 ·simp[c];try omega
 ·simp[c];try omega
theorem aHY(ty to sym num:Int)(a i:LD):D.toB (bS (eC 19 ty to sym num a i))=D.toB (dR (eC 19 ty to sym num a i)):=by
 have d:jX 19=.l [.i 2,.i 0,.b false,.b false]:=by kernel_rfl
 simp only[bS,dR,bV,cV,bO,bN,bP,bL,cA,bZ,cB,cC,dZ,dE,dY,eC,vI,vB,iX,rO,kP,sY,lB,lR,mC,uR,uS,uT,uU,d,eG,gU];simp only[eL,eW,eU];rw[Bool.eq_iff_iff];generalize a.length=x;generalize i.length=y;simp[Bool.cond_eq_ite];by_cases c:ty=0
 ·simp[c];try omega
 ·simp[c];try omega
theorem aHZ(ty to sym num:Int)(a i:LD):D.toB (bS (eC 20 ty to sym num a i))=D.toB (dR (eC 20 ty to sym num a i)):=by
 have d:jX 20=.l [.i 1,.i 0,.b false,.b false]:=by kernel_rfl
 simp only[bS,dR,bV,cV,bO,bN,bP,bL,cA,bZ,cB,cC,dZ,dE,dY,eC,vI,vB,iX,rO,kP,sY,lB,lR,mC,uR,uS,uT,uU,d,eG,gU];simp only[eL,eW,eU];rw[Bool.eq_iff_iff];generalize a.length=x;generalize i.length=y;simp[Bool.cond_eq_ite];by_cases c:ty=0
 ·simp[c];try omega
 ·simp[c];try omega
theorem aH0(ty to sym num:Int)(a i:LD):D.toB (bS (eC 21 ty to sym num a i))=D.toB (dR (eC 21 ty to sym num a i)):=by
 have d:jX 21=.l [.i 2,.i 0,.b false,.b false]:=by kernel_rfl
 simp only[bS,dR,bV,cV,bO,bN,bP,bL,cA,bZ,cB,cC,dZ,dE,dY,eC,vI,vB,iX,rO,kP,sY,lB,lR,mC,uR,uS,uT,uU,d,eG,gU];simp only[eL,eW,eU];rw[Bool.eq_iff_iff];generalize a.length=x;generalize i.length=y;simp[Bool.cond_eq_ite];by_cases c:ty=0
 ·simp[c];try omega
 ·simp[c];try omega
theorem aH1(ty to sym num:Int)(a i:LD):D.toB (bS (eC 22 ty to sym num a i))=D.toB (dR (eC 22 ty to sym num a i)):=by
 have d:jX 22=.l [.i (-1),.i 0,.b true,.b false]:=by kernel_rfl
 simp only[bS,dR,bV,cV,bO,bN,bP,bL,cA,bZ,cB,cC,dZ,dE,dY,eC,vI,vB,iX,rO,kP,sY,lB,lR,mC,uR,uS,uT,uU,d,eG,gU];simp only[eL,eW,eU];rw[Bool.eq_iff_iff];generalize a.length=x;generalize i.length=y;simp[Bool.cond_eq_ite];by_cases c:ty=0
 ·simp[c];try omega
 ·simp[c];try omega
theorem aH2(ty to sym num:Int)(a i:LD):D.toB (bS (eC 23 ty to sym num a i))=D.toB (dR (eC 23 ty to sym num a i)):=by
 have d:jX 23=.l [.i (-1),.i 0,.b true,.b false]:=by kernel_rfl
 simp only[bS,dR,bV,cV,bO,bN,bP,bL,cA,bZ,cB,cC,dZ,dE,dY,eC,vI,vB,iX,rO,kP,sY,lB,lR,mC,uR,uS,uT,uU,d,eG,gU];simp only[eL,eW,eU];rw[Bool.eq_iff_iff];generalize a.length=x;generalize i.length=y;simp[Bool.cond_eq_ite];by_cases c:ty=0
 ·simp[c];try omega
 ·simp[c];try omega
theorem aH3(ty to sym num:Int)(a i:LD):D.toB (bS (eC 24 ty to sym num a i))=D.toB (dR (eC 24 ty to sym num a i)):=by
 have d:jX 24=.l [.i 1,.i 0,.b true,.b false]:=by kernel_rfl
 simp only[bS,dR,bV,cV,bO,bN,bP,bL,cA,bZ,cB,cC,dZ,dE,dY,eC,vI,vB,iX,rO,kP,sY,lB,lR,mC,uR,uS,uT,uU,d,eG,gU];simp only[eL,eW,eU];rw[Bool.eq_iff_iff];generalize a.length=x;generalize i.length=y;simp[Bool.cond_eq_ite];by_cases c:ty=0
 ·simp[c];try omega
 ·simp[c];try omega
theorem aH4(ty to sym num:Int)(a i:LD):D.toB (bS (eC 25 ty to sym num a i))=D.toB (dR (eC 25 ty to sym num a i)):=by
 have d:jX 25=.l [.i (-1),.i 0,.b false,.b false]:=by kernel_rfl
 simp only[bS,dR,bV,cV,bO,bN,bP,bL,cA,bZ,cB,cC,dZ,dE,dY,eC,vI,vB,iX,rO,kP,sY,lB,lR,mC,uR,uS,uT,uU,d,eG,gU];simp only[eL,eW,eU];rw[Bool.eq_iff_iff];generalize a.length=x;generalize i.length=y;simp[Bool.cond_eq_ite];by_cases c:ty=0
 ·simp[c];try omega
 ·simp[c];try omega
theorem aH5(ty to sym num:Int)(a i:LD):D.toB (bS (eC 26 ty to sym num a i))=D.toB (dR (eC 26 ty to sym num a i)):=by
 have d:jX 26=.l [.i (-1),.i (-1),.b false,.b false]:=by kernel_rfl
 simp only[bS,dR,bV,cV,bO,bN,bP,bL,cA,bZ,cB,cC,dZ,dE,dY,eC,vI,vB,iX,rO,kP,sY,lB,lR,mC,uR,uS,uT,uU,d,eG,gU];simp only[eL,eW,eU];rw[Bool.eq_iff_iff];generalize a.length=x;generalize i.length=y;simp[Bool.cond_eq_ite];by_cases c:ty=0
 ·simp[c];try omega
 ·simp[c];try omega
theorem aH6(ty to sym num:Int)(a i:LD):D.toB (bS (eC 27 ty to sym num a i))=D.toB (dR (eC 27 ty to sym num a i)):=by
 have d:jX 27=.l [.i 0,.i 1,.b false,.b false]:=by kernel_rfl
 simp only[bS,dR,bV,cV,bO,bN,bP,bL,cA,bZ,cB,cC,dZ,dE,dY,eC,vI,vB,iX,rO,kP,sY,lB,lR,mC,uR,uS,uT,uU,d,eG,gU];simp only[eL,eW,eU];rw[Bool.eq_iff_iff];generalize a.length=x;generalize i.length=y;simp[Bool.cond_eq_ite];by_cases c:ty=0
 ·simp[c];try omega
 ·simp[c];try omega
theorem aH7(ty to sym num:Int)(a i:LD):D.toB (bS (eC 28 ty to sym num a i))=D.toB (dR (eC 28 ty to sym num a i)):=by
 have d:jX 28=.l [.i 1,.i 2,.b false,.b false]:=by kernel_rfl
 simp only[bS,dR,bV,cV,bO,bN,bP,bL,cA,bZ,cB,cC,dZ,dE,dY,eC,vI,vB,iX,rO,kP,sY,lB,lR,mC,uR,uS,uT,uU,d,eG,gU];simp only[eL,eW,eU];rw[Bool.eq_iff_iff];generalize a.length=x;generalize i.length=y;simp[Bool.cond_eq_ite];by_cases c:ty=0
 ·simp[c];try omega
 ·simp[c];try omega
theorem aH8(ty to sym num:Int)(a i:LD):D.toB (bS (eC 29 ty to sym num a i))=D.toB (dR (eC 29 ty to sym num a i)):=by
 have d:jX 29=.l [.i (-1),.i 0,.b false,.b false]:=by kernel_rfl
 simp only[bS,dR,bV,cV,bO,bN,bP,bL,cA,bZ,cB,cC,dZ,dE,dY,eC,vI,vB,iX,rO,kP,sY,lB,lR,mC,uR,uS,uT,uU,d,eG,gU];simp only[eL,eW,eU];rw[Bool.eq_iff_iff];generalize a.length=x;generalize i.length=y;simp[Bool.cond_eq_ite];by_cases c:ty=0
 ·simp[c];try omega
 ·simp[c];try omega
theorem aH9(ty to sym num:Int)(a i:LD):D.toB (bS (eC 30 ty to sym num a i))=D.toB (dR (eC 30 ty to sym num a i)):=by
 have d:jX 30=.l [.i 0,.i 0,.b false,.b false]:=by kernel_rfl
 simp only[bS,dR,bV,cV,bO,bN,bP,bL,cA,bZ,cB,cC,dZ,dE,dY,eC,vI,vB,iX,rO,kP,sY,lB,lR,mC,uR,uS,uT,uU,d,eG,gU];simp only[eL,eW,eU];rw[Bool.eq_iff_iff];generalize a.length=x;generalize i.length=y;simp[Bool.cond_eq_ite];by_cases c:ty=0
 ·simp[c];try omega
 ·simp[c];try omega
theorem aF2(op ty to sym num:Int)(a i:LD)(h:(aT op 1||aT 30 op)=true):D.toB (bS (eC op ty to sym num a i))=D.toB (dR (eC op ty to sym num a i)):=by simp only[bS,dR,bV,cV,dZ,dE,dY,eC,vI,rO,kP,lB,h,Bool.true_or,cond_true]
theorem Zw(op ty to sym num:Int)(a i:LD):D.toB (bS (eC op ty to sym num a i))=D.toB (dR (eC op ty to sym num a i)):=by
 cases h:(aT op 1||aT 30 op)with
 |true=>exact aF2 op ty to sym num a i h
 |false=>
  have d:1<=op/\op<=30:=by simp only[Bool.or_eq_false_iff]at h;exact⟨kJ h.1,kJ h.2⟩
  obtain⟨d,e⟩:=d;have c:op=1\/op=2\/op=3\/op=4\/op=5\/op=6\/op=7\/op=8\/op=9\/op=10\/op=11\/op=12\/op=13\/op=14\/op=15\/op=16\/op=17\/op=18\/op=19\/op=20\/op=21\/op=22\/op=23\/op=24\/op=25\/op=26\/op=27\/op=28\/op=29\/op=30:=by omega
  rcases c with c |c |c |c |c |c |c |c |c |c |c |c |c |c |c |c |c |c |c |c |c |c |c |c |c |c |c |c |c |c<;>subst c
  ·exact sf1 ty to sym num a i
  ·exact sf2 ty to sym num a i
  ·exact sf3 ty to sym num a i
  ·exact sf4 ty to sym num a i
  ·exact sf5 ty to sym num a i
  ·exact sf6 ty to sym num a i
  ·exact sf7 ty to sym num a i
  ·exact sf8 ty to sym num a i
  ·exact sf9 ty to sym num a i
  ·exact aHP ty to sym num a i
  ·exact aHQ ty to sym num a i
  ·exact aHR ty to sym num a i
  ·exact aHS ty to sym num a i
  ·exact aHT ty to sym num a i
  ·exact aHU ty to sym num a i
  ·exact aHV ty to sym num a i
  ·exact aHW ty to sym num a i
  ·exact aHX ty to sym num a i
  ·exact aHY ty to sym num a i
  ·exact aHZ ty to sym num a i
  ·exact aH0 ty to sym num a i
  ·exact aH1 ty to sym num a i
  ·exact aH2 ty to sym num a i
  ·exact aH3 ty to sym num a i
  ·exact aH4 ty to sym num a i
  ·exact aH5 ty to sym num a i
  ·exact aH6 ty to sym num a i
  ·exact aH7 ty to sym num a i
  ·exact aH8 ty to sym num a i
  ·exact aH9 ty to sym num a i
theorem Qp(x:D):(!(D.toB (bS (Fh x))))=rG x:=by unfold rG;exact congrArg Bool.not (Zw (vI x 0) (vI x 1) (vI x 2) (vI x 3) (vI x 4) (eX x 5) (eX x 6))
theorem O4(o:Bool)(t:Int):((aT t 1||aT 4 t)||(o&&!Ge t))=((aT t 1||aT 4 t)||(o&&aT 2 t)):=by rw[Bool.eq_iff_iff];simp only[Ge,eL,eU,eW];cases o<;>simp<;>omega
theorem O5(o:Bool)(r:Int):((!(aD r 0)&&!Ge r)&&(!(aD r 4)||o))=QS o r:=by rw[Bool.eq_iff_iff];simp only[QS,Ge,eL,eU,eW];cases o<;>simp<;>omega
section
variable(J W y Y V U:LD)(nm:List UInt8)(o:Bool)(r j:Int)
theorem Ly(n:Int)(l:LD)(e:cG l):
  fS oV 2 [.l l,.i n,.i 0,.l J,.i (l.length:Int),.i j,.l J,.l W,.l y,.l Y,.s nm,.l l,.i r] (bif l.any HK then(0,[.i n,.b false,.l J,.i j,.l J,.l W,.l y,.l Y,.s nm,.l l,.i r])else(1,[.i n,.l J,.i j,.l J,.l W,.l y,.l Y,.s nm,.l l,.i r])):=by
 refine rT oW (λq=>[.l l,.i n,.i (q:Int),.l J,.i (l.length:Int),.i j,.l J,.l W,.l y,.l Y,.s nm,.l l,.i r]) l HK (λq c=>?_) ?_
 ·cases d:HK (gD l q)with
  |true=>refine .inl ⟨rfl,?_⟩;exact aC (aU c) (aC (aF c) (bW (kB (D.toI (gD l q))) rfl (aC d (bG rfl))))
  |false=>refine .inr ⟨rfl,?_⟩;exact aC (aU c) (aC (aF c) (bW (kB (D.toI (gD l q))) rfl (aM d (aP (by simp[fU c e])))))
 ·exact aM (aX _) (bG rfl)
theorem Gg(ins:LD)(n lb d:Int)(f:cG ins):
  fS oV 10 [.l ins,.i 0,.i n,.i lb,.i (ins.length:Int),.l Y,.l U,.i j,.i d] (bif ins.any rG then(0,[.i n,.i lb,.b false,.l Y,.l U,.i j,.i d])else(1,[.i n,.i lb,.l Y,.l U,.i j,.i d])):=by
 refine rT oW (λq=>[.l ins,.i (q:Int),.i n,.i lb,.i (ins.length:Int),.l Y,.l U,.i j,.i d]) ins rG (λq c=>?_) ?_
 ·cases e:rG (gD ins q)with
  |true=>refine .inl ⟨rfl,?_⟩;exact aC (aU c) (aC (aF c) (bW (YL (Fh (gD ins q))) rfl (aC ((Qp _).trans e) (bG rfl))))
  |false=>refine .inr ⟨rfl,?_⟩;exact aC (aU c) (aC (aF c) (bW (YL (Fh (gD ins q))) rfl (aM ((Qp _).trans e) (aP (by simp[fU c f])))))
 ·exact aM (aX _) (bG rfl)
theorem Lz(n:Int)(g:cG U)(f:∀j,j<U.length->i3 (gD U j)):
  fS oV 8 [.i n,.i (U.length:Int),.l Y,.l U,.i j,.i 0] (bif U.any HL then(0,[.i n,.b false,.l Y,.i j])else(1,[.i n,.l Y,.i j])):=by
 refine rT oW (λq=>[.i n,.i (U.length:Int),.l Y,.l U,.i j,.i (q:Int)]) U HL (λq c=>?_) ?_
 ·have d:=Gg Y U j (gD U q).els n (U.length:Int) (q:Int) (f q c).ins;cases e:HL (gD U q)with
  |true=>rw[show(gD U q).els.any rG=true from e]at d;refine .inl ⟨rfl,?_⟩;exact aC (aU c) (aC (aF c) (aO d (bB (bG rfl))))
  |false=>rw[show(gD U q).els.any rG=false from e]at d;refine .inr ⟨rfl,?_⟩;exact aC (aU c) (aC (aF c) (aO d (fD (bB (aP (by simp[fU c g]))))))
 ·exact aM (aX _) (bG rfl)
theorem Ma(n:Int)(h:cG V):
  fS oV 6 [.i 0,.l V,.i n,.l Y,.i (V.length:Int),.i j,.s nm,.b o,.l V,.i r,.l U] (bif V.any (rU o)then(0,[.i n,.b false,.l Y,.i j,.s nm,.b o,.l V,.i r,.l U])else(1,[.i n,.l Y,.i j,.s nm,.b o,.l V,.i r,.l U])):=by
 refine rT oW (λq=>[.i (q:Int),.l V,.i n,.l Y,.i (V.length:Int),.i j,.s nm,.b o,.l V,.i r,.l U]) V (rU o) (λq c=>?_) ?_
 ·have f:((aT (gD V q).toI 1||aT 4 (gD V q).toI)||(o&&!Ge (gD V q).toI))=rU o (gD V q):=O4 o _;cases d:(!(aT (gD V q).toI 1||aT 4 (gD V q).toI)&&(o&&true))with
  |true=>
   cases e:rU o (gD V q)with
   |true=>refine .inl ⟨rfl,?_⟩;exact aC (aU c) (aC (aF c) (aC d (bW (kB (D.toI (gD V q))) rfl (aC (f.trans e) (bG rfl)))))
   |false=>refine .inr ⟨rfl,?_⟩;exact aC (aU c) (aC (aF c) (aC d (bW (kB (D.toI (gD V q))) rfl (aM (f.trans e) (aP (by simp[fU c h]))))))
  |false=>
   have g:((aT (gD V q).toI 1||aT 4 (gD V q).toI)||(o&&true))=rU o (gD V q):=by
    rw[<-f];cases l:(aT (gD V q).toI 1||aT 4 (gD V q).toI)with
    |true=>rfl
    |false=>rw[l]at d;cases o with
     |true=>simp at d
     |false=>rfl
   cases e:rU o (gD V q)with
   |true=>refine .inl ⟨rfl,?_⟩;exact aC (aU c) (aC (aF c) (aM d (aC (g.trans e) (bG rfl))))
   |false=>refine .inr ⟨rfl,?_⟩;exact aC (aU c) (aC (aF c) (aM d (aM (g.trans e) (aP (by simp[fU c h])))))
 ·exact aM (aX _) (bG rfl)
end
theorem aCP(x:D):((eX x 1).any HK||(!(aD (vI x 2) 0)&&!Ge (vI x 2)))=GT x:=by unfold GT;rw[aAu,Bool.or_comm]
theorem Mb(J W y Y:LD)(m:cG J)(r:∀j,j<J.length->cG (eX (gD J j) 1)):
  fS oV 0 [.i (J.length:Int),.l J,.i 0,.l J,.l W,.l y,.l Y] (bif J.any GT then(0,[.b false,.l J,.l W,.l y,.l Y])else(1,[.l J,.l W,.l y,.l Y])):=by
 refine rT oW (λj=>[.i (J.length:Int),.l J,.i (j:Int),.l J,.l W,.l y,.l Y]) J GT (λj c=>?_) ?_
 ·have f:=Ly J W y Y (D.toS (D.fld (gD J j) 0)) (vI (gD J j) 2) (j:Int) (J.length:Int) (eX (gD J j) 1) (r j c);have d:=aCP (gD J j);cases l:(eX (gD J j) 1).any HK with
  |true=>rw[l]at f d;refine .inl ⟨by rw[<-d,Bool.true_or],?_⟩;exact aC (aU c) (aC (aF c) (aO f (bB (bG rfl))))
  |false=>
   rw[l]at f d;rw[Bool.false_or]at d;have nx:[D.i (J.length:Int),D.l J,D.i ((j+1:Nat):Int),D.l J,D.l W,D.l y,D.l Y]=[D.i (J.length:Int),D.l J,D.i (bJ .i64 (j:Int) 1),D.l J,D.l W,D.l y,D.l Y]:=by rw[fU c m]
   cases e:aD (vI (gD J j) 2) 0 with
   |true=>rw[e]at d;refine .inr ⟨d.symm,?_⟩;exact aC (aU c) (aC (aF c) (aO f (fD (bB (aM (congrArg (λb=>(!b)&&true) e) (aM (congrArg (λb=>(!b)&&(!(D.toB (.i 0)))) e) (aP nx)))))))
   |false=>
    rw[e]at d;have g:((!(aD (vI (gD J j) 2) 0))&&(!(Ge (vI (gD J j) 2))))=GT (gD J j):=by rw[e];exact d
    cases h:GT (gD J j)with
    |true=>refine .inl ⟨rfl,?_⟩;exact aC (aU c) (aC (aF c) (aO f (fD (bB (aC (congrArg (λb=>(!b)&&true) e) (bW (kB (vI (gD J j) 2)) rfl (aC (g.trans h) (bG rfl))))))))
    |false=>refine .inr ⟨rfl,?_⟩;exact aC (aU c) (aC (aF c) (aO f (fD (bB (aC (congrArg (λb=>(!b)&&true) e) (bW (kB (vI (gD J j) 2)) rfl (aM (g.trans h) (aP nx))))))))
 ·exact aM (aX _) (bG rfl)
theorem Mc(Y:LD)(s:cG Y)(hf:∀j,j<Y.length->Lw (gD Y j)):
  fS oV 4 [.i (Y.length:Int),.l Y,.i 0] (bif Y.any qJ then(0,[.b false])else(1,[])):=by
 refine rT oW (λj=>[.i (Y.length:Int),.l Y,.i (j:Int)]) Y qJ (λj c=>?_) ?_
 ·have f:=Ma Y (eX (gD Y j) 2) (eX (gD Y j) 4) (D.toS (D.fld (gD Y j) 0)) (vB (gD Y j) 1) (vI (gD Y j) 3) (j:Int) (Y.length:Int) (hf j c).ps;have h:=Lz Y (eX (gD Y j) 4) (j:Int) (Y.length:Int) (hf j c).bs (hf j c).b;have m:=O5 (vB (gD Y j) 1) (vI (gD Y j) 3);have nx:[D.i (Y.length:Int),D.l Y,D.i ((j+1:Nat):Int)]=[D.i (Y.length:Int),D.l Y,D.i (bJ .i64 (j:Int) 1)]:=by rw[fU c s]
  cases r:aD (vI (gD Y j) 3) 0 with
  |true=>
   rw[r]at m;have d:QS (vB (gD Y j) 1) (vI (gD Y j) 3)=false:=by rw[<-m];rfl
   have l:=congrArg (λb=>(!b)&&true) r;have z2:=congrArg (λb=>((!b)&&(!(D.toB (.i 0))))&&((!(aD (vI (gD Y j) 3) 4))||(vB (gD Y j) 1))) r;cases e:(eX (gD Y j) 2).any (rU (vB (gD Y j) 1))with
   |true=>rw[e]at f;refine .inl ⟨by simp only[qJ,d,e,Bool.true_or,Bool.or_true],?_⟩;exact aC (aU c) (aC (aF c) (aM l (aM z2 (aO f (bB (bG rfl))))))
   |false=>
   rw[e]at f;cases g:(eX (gD Y j) 4).any HL with
   |true=>rw[g]at h;refine .inl ⟨by simp only[qJ,d,e,g,Bool.false_or],?_⟩;exact aC (aU c) (aC (aF c) (aM l (aM z2 (aO f (fD (bB (aO h (bB (bG rfl)))))))))
   |false=>rw[g]at h;refine .inr ⟨by simp only[qJ,d,e,g,Bool.false_or],?_⟩;exact aC (aU c) (aC (aF c) (aM l (aM z2 (aO f (fD (bB (aO h (fD (bB (aP nx))))))))))
  |false=>
   have l:=congrArg (λb=>(!b)&&true) r;cases d:QS (vB (gD Y j) 1) (vI (gD Y j) 3)with
   |true=>refine .inl ⟨by simp only[qJ,d,Bool.true_or],?_⟩;exact aC (aU c) (aC (aF c) (aC l (bW (kB (vI (gD Y j) 3)) rfl (aC (m.trans d) (bG rfl)))))
   |false=>
   cases e:(eX (gD Y j) 2).any (rU (vB (gD Y j) 1))with
   |true=>rw[e]at f;refine .inl ⟨by simp only[qJ,d,e,Bool.true_or,Bool.or_true],?_⟩;exact aC (aU c) (aC (aF c) (aC l (bW (kB (vI (gD Y j) 3)) rfl (aM (m.trans d) (aO f (bB (bG rfl)))))))
   |false=>
   rw[e]at f;cases g:(eX (gD Y j) 4).any HL with
   |true=>rw[g]at h;refine .inl ⟨by simp only[qJ,d,e,g,Bool.false_or],?_⟩;exact aC (aU c) (aC (aF c) (aC l (bW (kB (vI (gD Y j) 3)) rfl (aM (m.trans d) (aO f (fD (bB (aO h (bB (bG rfl))))))))))
   |false=>rw[g]at h;refine .inr ⟨by simp only[qJ,d,e,g,Bool.false_or],?_⟩;exact aC (aU c) (aC (aF c) (aC l (bW (kB (vI (gD Y j) 3)) rfl (aM (m.trans d) (aO f (fD (bB (aO h (fD (bB (aP nx)))))))))))
 ·exact aM (aX _) (bG rfl)
theorem Vl(J W y Y:LD)(h:Zu J W y Y):jZ E aZ sites Ax [.l [.l J,.l W,.l y,.l Y]] (.b (lN J Y)) []:=by
 refine bE oW (by rfl) rfl ?_;show Ev _ _ (OB _) _;unfold OB;have c:=Mb J W y Y h.hx h.x;have e:=Mc Y h.hf h.f;cases e1:J.any GT with
 |true=>rw[e1]at c;exact aO c (bB (bM (congrArg D.b (show lN J Y=false by simp only[lN,e1,Bool.not_true,Bool.false_and])) rfl))
 |false=>
 rw[e1]at c;cases d:Y.any qJ with
 |true=>rw[d]at e;exact aO c (fD (bB (aO e (bB (bM (congrArg D.b (show lN J Y=false by simp only[lN,d,Bool.not_true,Bool.and_false])) rfl)))))
 |false=>rw[d]at e;exact aO c (fD (bB (aO e (fD (bB (bM (congrArg D.b (show lN J Y=true by simp only[lN,e1,d,Bool.not_false,Bool.and_self])) rfl))))))
structure i4(op ty to sym num:Int)(na ni:Nat):Prop where
 o1:1<=op
 o2:op<=30
 t1:0<=ty
 t2:ty<=4
 to:ty=0/\to=0\/ty≠0/\1<=to
 sy:sym=0\/op=2\/op=3\/op=22\/op=23\/op=24
 room:op=18->1<=num/\num<=16
 a0:(op=1\/op=2\/op=3\/op=18\/op=27\/op=30)->na=0
 a1:(op=16\/op=20\/op=24\/op=28)->na=1
 a2:(4<=op/\op<=15\/op=19\/op=21)->na=2
 a3:op=17->na=3
 ac:(op=22\/op=23)->na<=5
 av:op=25->1<=na/\na<=6
 ap:op=26->1<=na/\ni=na
 ar:op=29->na<=1
 i1:op=27->ni=1
 i2:op=28->ni=2
 i0:op≠26->op≠27->op≠28->ni=0
 s0:(op=21\/27<=op)->ty=0
 s1:op≠21->op<=26->op≠22->op≠23->op≠25->ty≠0
set_option maxHeartbeats 4000000 in
theorem form_says(op ty to sym num:Int)(a i:LD)(h:D.toB (dR (eC op ty to sym num a i))=true):i4 op ty to sym num a.length i.length:=by
 have d:(aT op 1||aT 30 op)=false:=by
  cases d:(aT op 1||aT 30 op)with
  |false=>rfl
  |true=>simp only[dR,cV,dZ,dE,dY,eC,vI,rO,kP,lB,d,Bool.true_or,cond_true,lR]at h;cases h
 have e:1<=op/\op<=30:=by simp only[Bool.or_eq_false_iff]at d;exact⟨kJ d.1,kJ d.2⟩
 obtain⟨e,f⟩:=e;have c:op=1\/op=2\/op=3\/op=4\/op=5\/op=6\/op=7\/op=8\/op=9\/op=10\/op=11\/op=12\/op=13\/op=14\/op=15\/op=16\/op=17\/op=18\/op=19\/op=20\/op=21\/op=22\/op=23\/op=24\/op=25\/op=26\/op=27\/op=28\/op=29\/op=30:=by omega
 clear d e f;rcases c with c |c |c |c |c |c |c |c |c |c |c |c |c |c |c |c |c |c |c |c |c |c |c |c |c |c |c |c |c |c<;>subst c;all_goals
  simp only[dR,cV,cA,bZ,cB,cC,dZ,dE,dY,eC,vI,vB,iX,rO,kP,sY,lB,lR,mC,uR,uS,uT,uU,jX,QN,OQ,OP,gG,OO,ON,OM,eG,gU,eL,eW,eU]at h;generalize a.length=x at h⊢;generalize i.length=y at h⊢;simp[Bool.cond_eq_ite,D.toB,D.toI,rO,kP,sY]at h;constructor<;>omega
abbrev O2(d:FD)(b:Bool)(t:Sh)(o:Nat×LD)(a:LD):Prop:=Qo E aZ sites d b t o a
def uV(nx ng nt nf op:Int):Int:=bif aD op 2||aD op 22 then nf else bif aD op 3 then ng else bif aD op 23 then nx else bif aD op 24 then nt else 1
def FH(nx ng nt nf:Int)(x:D):Bool:=aT (vI x 3) 0||cX (uV nx ng nt nf (vI x 0)) (vI x 3)
def Md(nf:Int)(t:D):Bool:=aT t.toI (-1)||cX nf t.toI
def CX(nf:Int)(t:D):Bool:=(eX t 1).any (Md nf)
def YM(nx ng nt nf:Int)(b:D):Bool:=b.els.any (FH nx ng nt nf)
def GU(nx ng nt nf:Int)(f:D):Bool:=(eX f 4).any (YM nx ng nt nf)
def CH(J W y Y:LD):Bool:=!y.any (CX Y.length)&&!Y.any (GU J.length W.length y.length Y.length)
theorem aFm{nx ng nt nf op:Int}(h:aD op 2=true):uV nx ng nt nf op=nf:=by simp only[uV,h,Bool.true_or,cond_true]
theorem aCQ{nx ng nt nf op:Int}(h:aD op 22=true):uV nx ng nt nf op=nf:=by simp only[uV,h,Bool.or_true,cond_true]
theorem aFn{nx ng nt nf op:Int}(h:aD op 2=false)(c:aD op 22=false):uV nx ng nt nf op=bif aD op 3 then ng else bif aD op 23 then nx else bif aD op 24 then nt else 1:=by simp only[uV,h,c,Bool.or_self,cond_false]
section
variable(J W y Y:LD)
theorem aAv(d c:Nat)(hf:c<Y.length)(r:d<(eX (gD Y c) 4).length)(F:cG (gD (eX (gD Y c) 4) d).els):
  fS rR 8 [.i (d:Int),.i 0,.i (c:Int),.l J,.l W,.l y,.l Y] (bif YM J.length W.length y.length Y.length (gD (eX (gD Y c) 4) d)then(0,[.i (d:Int),.b false,.i (c:Int),.l J,.l W,.l y,.l Y])else(1,[.i (d:Int),.i (c:Int),.l J,.l W,.l y,.l Y])):=by
 refine FE zL (λj=>[.i (d:Int),.i (j:Int),.i (c:Int),.l J,.l W,.l y,.l Y]) (gD (eX (gD Y c) 4) d).els (FH J.length W.length y.length Y.length) (λj t=>?_) ?_
 ·refine oT (aF hf) (oT (aF r) (oT (aU t) (oT (aF hf) (oT (aF r) (oT (aF t) ?_)))));have m:=nx t F [.i (d:Int)] [.i (c:Int),.l J,.l W,.l y,.l Y];have key:∀{op s:Int}{n:Int},uV J.length W.length y.length Y.length op=n->(aT s 0||cX n s)=(aT s 0||cX (uV J.length W.length y.length Y.length op) s):=λh=>by rw[h]
  have u:∀(v:uV J.length W.length y.length Y.length (vI (gD (gD (eX (gD Y c) 4) d).els j) 0)=Y.length),O2 rR (FH J.length W.length y.length Y.length (gD (gD (eX (gD Y c) 4) d).els j)) (GP [.i (d:Int),.i (j:Int),.i (c:Int),.l J,.l W,.l y,.l Y]) (0,[.i (d:Int),.b false,.i (c:Int),.l J,.l W,.l y,.l Y]) [.i (d:Int),.i ((j+1:Nat):Int),.i (c:Int),.l J,.l W,.l y,.l Y]:=λv=>by unfold GP;exact oE (key v) rfl m
  have C:∀(g:aD (vI (gD (gD (eX (gD Y c) 4) d).els j) 0) 2=false)(l:aD (vI (gD (gD (eX (gD Y c) 4) d).els j) 0) 22=false),O2 rR (FH J.length W.length y.length Y.length (gD (gD (eX (gD Y c) 4) d).els j)) (GO [.i (d:Int),.i (j:Int),.i (c:Int),.l J,.l W,.l y,.l Y]) (0,[.i (d:Int),.b false,.i (c:Int),.l J,.l W,.l y,.l Y]) [.i (d:Int),.i ((j+1:Nat):Int),.i (c:Int),.l J,.l W,.l y,.l Y]:=λg l=>by have f:=aFn (nx:=J.length) (ng:=W.length) (nt:=y.length) (nf:=Y.length) g l;unfold GO;refine oX (λe=>oE (key (f.trans (congrArg (λb=>bif b then(W.length:Int)else _) e))) rfl m) (λe=>?_);have f:=f.trans (congrArg (λb=>bif b then(W.length:Int)else _) e);refine oX (λe=>oE (key (f.trans (congrArg (λb=>bif b then(J.length:Int)else _) e))) rfl m) (λe=>?_);have f:=f.trans (congrArg (λb=>bif b then(J.length:Int)else _) e);refine oX (λe=>oE (key (f.trans (congrArg (λb=>bif b then(y.length:Int)else _) e))) rfl m) (λe=>?_);exact oE (key (f.trans (congrArg (λb=>bif b then(y.length:Int)else _) e))) rfl m
  refine oX (λg=>oT g (u (aFm g))) (λg=>oX (λl=>u (aCQ l)) (λl=>C g l))
 ·exact aC (aF hf) (aC (aF r) (aM (aX _) (bG rfl)))
theorem aAw(c:Nat)(hf:c<Y.length)(h:Lw (gD Y c)):
  fS rR 6 [.i 0,.i (c:Int),.l J,.l W,.l y,.l Y] (bif GU J.length W.length y.length Y.length (gD Y c)then(0,[.b false,.i (c:Int),.l J,.l W,.l y,.l Y])else(1,[.i (c:Int),.l J,.l W,.l y,.l Y])):=by
 refine FE zL (λj=>[.i (j:Int),.i (c:Int),.l J,.l W,.l y,.l Y]) (eX (gD Y c) 4) (YM J.length W.length y.length Y.length) (λj d=>?_) ?_
 ·exact oT (aF hf) (oT (aU d) (oL (aAv J W y Y j c hf d (h.b j d).ins) rfl (congrArg IX.again (nx d h.bs [] [.i (c:Int),.l J,.l W,.l y,.l Y]).symm)))
 ·exact aC (aF hf) (aM (aX _) (bG rfl))
theorem aAx(h:cG Y)(d:∀j,j<Y.length->Lw (gD Y j)):
  fS rR 4 [.i 0,.l J,.l W,.l y,.l Y] (bif Y.any (GU J.length W.length y.length Y.length)then(0,[.b false])else(1,[])):=by
 refine FE zL (λj=>[.i (j:Int),.l J,.l W,.l y,.l Y]) Y (GU J.length W.length y.length Y.length) (λj c=>?_) ?_
 ·exact oT (aU c) (oL (aAw J W y Y j c (d j c)) rfl (congrArg IX.again (nx c h [] [.l J,.l W,.l y,.l Y]).symm))
 ·exact aM (aX _) (bG rfl)
theorem aAy(c:Nat)(ht:c<y.length)(h:cG (eX (gD y c) 1)):
  fS rR 2 [.i (c:Int),.i 0,.l J,.l W,.l y,.l Y] (bif CX Y.length (gD y c)then(0,[.i (c:Int),.b false,.l J,.l W,.l y,.l Y])else(1,[.i (c:Int),.l J,.l W,.l y,.l Y])):=by
 refine FE zL (λj=>[.i (c:Int),.i (j:Int),.l J,.l W,.l y,.l Y]) (eX (gD y c) 1) (Md Y.length) (λj d=>?_) ?_
 ·exact oT (aF ht) (oT (aU d) (oT (aF ht) (oT (aF d) (oE rfl rfl (nx d h [.i (c:Int)] [.l J,.l W,.l y,.l Y])))))
 ·exact aC (aF ht) (aM (aX _) (bG rfl))
theorem aAz(h:cG y)(d:∀j,j<y.length->cG (eX (gD y j) 1)):
  fS rR 0 [.i 0,.l J,.l W,.l y,.l Y] (bif y.any (CX Y.length)then(0,[.b false,.l J,.l W,.l y,.l Y])else(1,[.l J,.l W,.l y,.l Y])):=by
 refine FE zL (λj=>[.i (j:Int),.l J,.l W,.l y,.l Y]) y (CX Y.length) (λj c=>?_) ?_
 ·exact oT (aU c) (oL (aAy J W y Y j c (d j c)) rfl (congrArg IX.again (nx c h [] [.l J,.l W,.l y,.l Y]).symm))
 ·exact aM (aX _) (bG rfl)
theorem O6(h:Zu J W y Y):jZ E aZ sites Uk [.l [.l J,.l W,.l y,.l Y]] (.b (CH J W y Y)) []:=by
 refine bE zL (by rfl) rfl ?_;show Ev _ _ (Bg _) _;unfold Bg;have c:=aAz J W y Y h.ht h.t;have d:=aAx J W y Y h.hf h.f;unfold CH;cases e1:y.any (CX Y.length)with
 |true=>rw[e1]at c;exact aO c (bB (bM rfl rfl))
 |false=>
 rw[e1]at c;cases e:Y.any (GU J.length W.length y.length Y.length)with
 |true=>rw[e]at d;exact aO c (fD (bB (aO d (bB (bM rfl rfl)))))
 |false=>rw[e]at d;exact aO c (fD (bB (aO d (fD (bB (bM rfl rfl))))))
end
def i5(x:D):Prop:=aD (vI x 0) 2=false->aD (vI x 0) 22=false->aD (vI x 0) 3=false->aD (vI x 0) 23=false->aD (vI x 0) 24=false->vI x 3=0
def aCR(f:D):Prop:=∀c,c<(eX f 4).length->∀j,j<(gD (eX f 4) c).els.length->i5 (gD (gD (eX f 4) c).els j)
theorem UX{a b:Int}(h:aD a b=false):a≠b:=λe=>by rw[e,(bT b b).2 rfl]at h;cases h
theorem aCS{x:D}(h:rG x=false):i5 x:=λd e f g j=>by
 have l:=form_says (vI x 0) (vI x 1) (vI x 2) (vI x 3) (vI x 4) (eX x 5) (eX x 6) (by
  unfold rG at h;cases c:D.toB (dR (Fh x))with
  |true=>exact c
  |false=>rw[c]at h;cases h)
 have:=l.sy;have:=UX d;have:=UX e;have:=UX f;have:=UX g;have:=UX j;omega
theorem YN{l:LD}{p:D->Bool}(h:l.any p=false):∀j,j<l.length->p (gD l j)=false:=λj c=>by
 have d:=List.any_eq_false.1 h (l[j]'c) (List.getElem_mem c);have e:gD l j=l[j]'c:=by simp[gD,List.getD,c]
 rw[e];simpa using d
theorem aAA{J Y:LD}(h:lN J Y=true):∀j,j<Y.length->aCR (gD Y j):=λj g m l i f=>by
 unfold lN at h;have d:Y.any qJ=false:=by
  cases e:Y.any qJ with
  |false=>rfl
  |true=>rw[e,Bool.not_true,Bool.and_false]at h;cases h
 have c:=YN d j g;unfold qJ at c;simp only[Bool.or_eq_false_iff]at c;exact aCS (YN (YN c.2.2 m l) i f)
section
variable(J W y Y:LD)
theorem O7(c d nf nb:Int)(U ins:LD)(H:cG ins)(K:∀j,j<ins.length->i5 (gD ins j)):
  fS pO 8 [.l U,.i (ins.length:Int),.i c,.i nf,.i nb,.l Y,.i 0,.i d,.l ins,.l J,.l W,.l y,.l Y] (bif ins.any (FH J.length W.length y.length Y.length)then(0,[.l U,.i c,.i nf,.b false,.i nb,.l Y,.i d,.l J,.l W,.l y,.l Y])else(1,[.l U,.i c,.i nf,.i nb,.l Y,.i d,.l J,.l W,.l y,.l Y])):=by
 refine FE uL (λj=>[.l U,.i (ins.length:Int),.i c,.i nf,.i nb,.l Y,.i (j:Int),.i d,.l ins,.l J,.l W,.l y,.l Y]) ins (FH J.length W.length y.length Y.length) (λj r=>?_) ?_
 ·refine oT (aU r) (oT (aF r) ?_);have m:=nx r H [.l U,.i (ins.length:Int),.i c,.i nf,.i nb,.l Y] [.i d,.l ins,.l J,.l W,.l y,.l Y];have key:∀{op s:Int}{n:Int},uV J.length W.length y.length Y.length op=n->(aT s 0||cX n s)=(aT s 0||cX (uV J.length W.length y.length Y.length op) s):=λh=>by rw[h]
  have C:∀(F:uV J.length W.length y.length Y.length (vI (gD ins j) 0)=Y.length),O2 pO (FH J.length W.length y.length Y.length (gD ins j)) (CU [.l U,.i (ins.length:Int),.i c,.i nf,.i nb,.l Y,.i (j:Int),.i d,.l ins,.l J,.l W,.l y,.l Y]) (0,[.l U,.i c,.i nf,.b false,.i nb,.l Y,.i d,.l J,.l W,.l y,.l Y]) [.l U,.i (ins.length:Int),.i c,.i nf,.i nb,.l Y,.i ((j+1:Nat):Int),.i d,.l ins,.l J,.l W,.l y,.l Y]:=λF=>by unfold CU;exact oE (key F) rfl m
  have G:∀(f:aD (vI (gD ins j) 0) 2=false)(g:aD (vI (gD ins j) 0) 22=false),O2 pO (FH J.length W.length y.length Y.length (gD ins j)) (CT [.l U,.i (ins.length:Int),.i c,.i nf,.i nb,.l Y,.i (j:Int),.i d,.l ins,.l J,.l W,.l y,.l Y]) (0,[.l U,.i c,.i nf,.b false,.i nb,.l Y,.i d,.l J,.l W,.l y,.l Y]) [.l U,.i (ins.length:Int),.i c,.i nf,.i nb,.l Y,.i ((j+1:Nat):Int),.i d,.l ins,.l J,.l W,.l y,.l Y]:=λf g=>by have e:=aFn (nx:=J.length) (ng:=W.length) (nt:=y.length) (nf:=Y.length) f g;unfold CT;refine oX (λl=>oE (key (e.trans (congrArg (λb=>bif b then(W.length:Int)else _) l))) rfl m) (λt=>?_);have e:=e.trans (congrArg (λb=>bif b then(W.length:Int)else _) t);refine oX (λl=>oE (key (e.trans (congrArg (λb=>bif b then(J.length:Int)else _) l))) rfl m) (λu=>?_);have e:=e.trans (congrArg (λb=>bif b then(J.length:Int)else _) u);refine oX (λl=>oE (key (e.trans (congrArg (λb=>bif b then(y.length:Int)else _) l))) rfl m) (λv=>?_);have L:vI (gD ins j) 3=0:=K j r f g t u v;have e:=e.trans (congrArg (λb=>bif b then(y.length:Int)else _) v);refine oE ?_ rfl m;unfold FH;rw[e];show(aT (vI (gD ins j) 3) 0||cX (bJ .i64 (vI (gD ins j) 3) 1) (vI (gD ins j) 3))=_;rw[L];rfl
  refine oX (λf=>oT f (C (aFm f))) (λf=>oX (λg=>C (aCQ g)) (λg=>G f g))
 ·exact aM (aX _) (bG rfl)
theorem O8(c nf:Int)(U:LD)(g:cG U)(f:∀j,j<U.length->i3 (gD U j))(h:∀e,e<U.length->∀j,j<(gD U e).els.length->i5 (gD (gD U e).els j)):
  fS pO 6 [.l U,.i 0,.i nf,.i (U.length:Int),.l Y,.i c,.l J,.l W,.l y,.l Y] (bif U.any (YM J.length W.length y.length Y.length)then(0,[.i nf,.b false,.l Y,.i c,.l J,.l W,.l y,.l Y])else(1,[.i nf,.l Y,.i c,.l J,.l W,.l y,.l Y])):=by
 refine FE uL (λj=>[.l U,.i (j:Int),.i nf,.i (U.length:Int),.l Y,.i c,.l J,.l W,.l y,.l Y]) U (YM J.length W.length y.length Y.length) (λj d=>?_) ?_
 ·exact oT (aU d) (oT (aF d) (oL (O7 J W y Y j c nf U.length U (gD U j).els (f j d).ins (h j d)) rfl (congrArg IX.again (nx d g [.l U] [.i nf,.i (U.length:Int),.l Y,.i c,.l J,.l W,.l y,.l Y]).symm)))
 ·exact aM (aX _) (bG rfl)
theorem O9(h:cG Y)(d:∀j,j<Y.length->Lw (gD Y j))(e:∀j,j<Y.length->aCR (gD Y j)):
  fS pO 4 [.i (Y.length:Int),.l Y,.i 0,.l J,.l W,.l y,.l Y] (bif Y.any (GU J.length W.length y.length Y.length)then(0,[.b false])else(1,[])):=by
 refine FE uL (λj=>[.i (Y.length:Int),.l Y,.i (j:Int),.l J,.l W,.l y,.l Y]) Y (GU J.length W.length y.length Y.length) (λj c=>?_) ?_
 ·exact oT (aU c) (oT (aF c) (oL (O8 J W y Y j Y.length (eX (gD Y j) 4) (d j c).bs (d j c).b (e j c)) rfl (congrArg IX.again (nx c h [.i (Y.length:Int),.l Y] [.l J,.l W,.l y,.l Y]).symm)))
 ·exact aM (aX _) (bG rfl)
theorem P0(l:LD)(nt c:Int)(h:cG l):
  fS pO 2 [.l y,.i (l.length:Int),.i c,.i nt,.i 0,.l l,.l J,.l W,.l y,.l Y] (bif l.any (Md Y.length)then(0,[.l y,.i c,.b false,.i nt,.l J,.l W,.l y,.l Y])else(1,[.l y,.i c,.i nt,.l J,.l W,.l y,.l Y])):=by
 refine FE uL (λj=>[.l y,.i (l.length:Int),.i c,.i nt,.i (j:Int),.l l,.l J,.l W,.l y,.l Y]) l (Md Y.length) (λj d=>?_) ?_
 ·exact oT (aU d) (oT (aF d) (oE rfl rfl (nx d h [.l y,.i (l.length:Int),.i c,.i nt] [.l l,.l J,.l W,.l y,.l Y])))
 ·exact aM (aX _) (bG rfl)
theorem P1(h:cG y)(d:∀j,j<y.length->cG (eX (gD y j) 1)):
  fS pO 0 [.l y,.i 0,.i (y.length:Int),.l J,.l W,.l y,.l Y] (bif y.any (CX Y.length)then(0,[.b false,.l J,.l W,.l y,.l Y])else(1,[.l J,.l W,.l y,.l Y])):=by
 refine FE uL (λj=>[.l y,.i (j:Int),.i (y.length:Int),.l J,.l W,.l y,.l Y]) y (CX Y.length) (λj c=>?_) ?_
 ·exact oT (aU c) (oT (aF c) (oL (P0 J W y Y (eX (gD y j) 1) y.length j (d j c)) rfl (congrArg IX.again (nx c h [.l y] [.i (y.length:Int),.l J,.l W,.l y,.l Y]).symm)))
 ·exact aM (aX _) (bG rfl)
theorem Zx(h:Zu J W y Y)(f:lN J Y=true):jZ E aZ sites Kt [.l [.l J,.l W,.l y,.l Y]] (.b (CH J W y Y)) []:=by
 refine bE uL (by rfl) rfl ?_;show Ev _ _ (UH _) _;unfold UH;have c:=P1 J W y Y h.ht h.t;have d:=O9 J W y Y h.hf h.f (aAA f);unfold CH;cases e1:y.any (CX Y.length)with
 |true=>rw[e1]at c;exact aO c (bB (bM rfl rfl))
 |false=>
 rw[e1]at c;cases e:Y.any (GU J.length W.length y.length Y.length)with
 |true=>rw[e]at d;exact aO c (fD (bB (aO d (bB (bM rfl rfl)))))
 |false=>rw[e]at d;exact aO c (fD (bB (aO d (fD (bB (bM rfl rfl))))))
end
def LX(c:Int):Bool:=((aT c 97||aT 122 c)&&(aT c 48||aT 57 c))&&!(aD c 95)
def Zy(s:List UInt8):Bool:=aT s.length 1||aT 12 s.length
def Fi(s:List UInt8):Bool:=aT (jD s 0) 97||aT 122 (jD s 0)
def YO(s:List UInt8):Bool:=!Zy s&&(!Fi s&&!dW s.length λj=>LX (jD s (j:Int)))
theorem aCT{s:List UInt8}(h:Zy s=false):0<s.length/\(s.length:Int)<=12:=by unfold Zy at h;simp only[Bool.or_eq_false_iff]at h;have c:=kJ h.1;have d:=kJ h.2;omega
theorem P2(s:List UInt8):jZ E aZ sites KH [.s s] (.b (YO s)) []:=by
 refine bE Bt (by rfl) rfl ?_;show Ev _ _ (Bd _) _;unfold Bd;cases h:Zy s with
 |true=>refine aC (congrArg (λb=>(!(!b))||aA 0 s.length) h) (aC (congrArg (λb=>(!(!(b||aT (jD s 0) 97)))||aA 0 s.length) h) (aC (congrArg (λb=>(b||aT (jD s 0) 97)||aT 122 (jD s 0)) h) (bM ?_ rfl)));unfold YO;rw[h];rfl
 |false=>
  obtain⟨l,m⟩:=aCT h;have g:aA 0 s.length=true:=aF (j:=0) l;refine aC (aH g) (aC (aH g) ?_);cases c:Fi s with
  |true=>refine aC ((congrArg (λb=>(b||aT (jD s 0) 97)||aT 122 (jD s 0)) h).trans c) (bM ?_ rfl);unfold YO;rw[h,c];rfl
  |false=>
   refine aM ((congrArg (λb=>(b||aT (jD s 0) 97)||aT 122 (jD s 0)) h).trans c) ?_;have d:fS Bs 0 [.s s,.i 0] (bif dW s.length (λj=>LX (jD s (j:Int)))then(0,[.b false])else(1,[])):=by
    refine tO Bt (λj=>[.s s,.i (j:Int)]) s.length (λj=>LX (jD s (j:Int))) (λj e=>?_) ?_
    ·exact oT (aU e) (oT (aF e) (oE rfl rfl (nx e (by omega) [.s s] [])))
    ·exact aM (aX _) (bG rfl)
   unfold YO;rw[h,c];cases f:dW s.length (λj=>LX (jD s (j:Int)))with
   |true=>rw[f]at d;exact aO d (bB (bM rfl rfl))
   |false=>rw[f]at d;exact aO d (fD (bB (bM rfl rfl)))
def Vm(s:List UInt8)(j:Nat):Bool:=(!(cX 97 (jD s j)&&cX (jD s j) 122))&&(aD (j:Int) 0||((!(aD (jD s j) 95))&&(aT (jD s j) 48||aT 57 (jD s j))))
theorem aCU(s:List UInt8):Vm s 0=Fi s:=by unfold Vm Fi;rw[show aD ((0:Nat):Int) 0=true from rfl,Bool.true_or,Bool.and_true];unfold aT;rw[Bool.not_and];rfl
theorem aF3(s:List UInt8){j:Nat}(h:j≠0):Vm s j=LX (jD s j):=by
 unfold Vm LX;have c:aD (j:Int) 0=false:=by rw[eL];simpa using h
 rw[c,Bool.false_or];unfold aT;cases cX 97 (jD s j)<;>cases cX (jD s j) 122<;>cases aD (jD s j) 95<;>simp
theorem aAB{c:Int}(h:(aT c 97||aT 122 c)=false):LX c=false:=by unfold LX;rw[h];rfl
theorem aCV(s:List UInt8)(h:0<s.length):dW s.length (Vm s)=(Fi s||dW s.length λj=>LX (jD s (j:Int))):=by
 cases c:Fi s with
 |true=>
  rw[Bool.true_or];cases d:dW s.length (Vm s)with
  |true=>rfl
  |false=>have:=bU.1 d 0 h;rw[aCU,c]at this;cases this
 |false=>
  rw[Bool.false_or];have f:∀j,Vm s j=LX (jD s (j:Int)):=λj=>by
   by_cases e:j=0
   ·subst e;rw[aCU,c];exact(aAB c).symm
   ·exact aF3 s e
  congr 1;exact funext f
theorem Me(s:List UInt8):jZ E aZ sites Uu [.s s] (.b (YO s)) []:=by
 refine bE Cf (by rfl) rfl ?_;show Ev _ _ (Bo _) _;unfold Bo;cases h:Zy s with
 |true=>refine aC h (bM ?_ rfl);unfold YO;rw[h];rfl
 |false=>
  refine aM h ?_;obtain⟨f,l⟩:=aCT h;have c:fS Ce 0 [.s s,.i (s.length:Int),.i 0] (bif dW s.length (Vm s)then(0,[.b false])else(1,[])):=by
   refine tO Cf (λj=>[.s s,.i (s.length:Int),.i (j:Int)]) s.length (Vm s) (λj d=>?_) ?_
   ·exact oT (aU d) (oT (aF d) (oE rfl rfl (nx d (by omega) [.s s,.i (s.length:Int)] [])))
   ·exact aM (aX _) (bG rfl)
  rw[aCV s f]at c;have g:YO s=!(Fi s||dW s.length λj=>LX (jD s (j:Int))):=by unfold YO;rw[h,Bool.not_or];rfl
  rw[g];cases e:(Fi s||dW s.length λj=>LX (jD s (j:Int)))with
  |true=>rw[e]at c;exact aO c (bB (bM rfl rfl))
  |false=>rw[e]at c;exact aO c (fD (bB (bM rfl rfl)))
def kX(x:D):List UInt8:=D.toS (D.fld x 0)
def aIa(s:List UInt8)(m:LD):Int:=bJ .i64 (D.toI (yT (.int .i64) (iM .str (.s s) 0 m))) 1
def LY(s:List UInt8)(m:LD):LD:=DQ (.s s) (.i (aIa s m)) m (iM .str (.s s) 0 m)
def SK(s:List UInt8)(m:LD):Bool:=!YO s||aT 1 (D.toI (yT (.int .i64) (iM .str (.s s) 0 (LY s m))))
def gK(q:Nat×LD)(s:List UInt8):Nat×LD:=(bif SK s q.2 then q.1+1 else q.1,LY s q.2)
theorem aF4{n:Nat}(c:(n:Int)<=9223372036854775807):bJ .i64 (n:Int) 0=(n:Int):=by rw[CN _ _ _ (by simp[VH,VI]),wA (by omega) (by omega)];omega
theorem CY(l:LD)(q:Nat×LD):(l.map kX).foldl gK q=l.foldl (λq x=>gK q (kX x)) q:=by rw[List.foldl_map]
section
variable(J W y Y:LD)
theorem YP(q:Nat×LD)(s:List UInt8):(gK q s).1 <=q.1+1:=by
 unfold gK;cases SK s q.2 with
 |true=>exact Nat.le_refl _
 |false=>exact Nat.le_succ _
theorem YQ(b j n:Nat)(l:(n:Int)+1<=9223372036854775807)(s:List UInt8)(m:LD)(f:Int->LD->LD)(d:FD)(r:LD)(g:r=f (gK (n,m) s).1 (gK (n,m) s).2):
  sW E aZ sites d (.call KH [.s s] 0 λh _=>.ask ((!(D.toB h))||aT 1 (D.toI (yT (.int .i64) (iM .str (.s s) 0 (DQ (.s s) (.i (bJ .i64 (D.toI (yT (.int .i64) (iM .str (.s s) 0 m))) 1)) m (iM .str (.s s) 0 m))))))
   (.again (f (bJ .i64 (n:Int) 1) (LY s m))) (.again (f (bJ .i64 (n:Int) 0) (LY s m)))) (.again r):=by
 subst g;refine bW (P2 s) rfl ?_;have e:bJ .i64 (n:Int) 1=((n+1:Nat):Int):=by rw[CN _ _ _ (by simp[VH,VI]),wA (by omega) (by omega)];omega
 rw[e,aF4 (by omega)];unfold gK;cases c:SK s m with
 |true=>exact aC c (aP rfl)
 |false=>exact aM c (aP rfl)
theorem P3(m:LD)(h:cG J)(n:Nat)(e:(n:Int)+J.length<=9223372036854775807):
  fS nV 0 [.i 0,.i (n:Int),.l J,.l W,.l y,.l Y,.l m] (0,[.i (((J.map kX).foldl gK (n,m)).1 :Int),.l J,.l W,.l y,.l Y,.l ((J.map kX).foldl gK (n,m)).2]):=by
 rw[CY];refine sB zJ (λj(q:Nat×LD)=>[.i (j:Int),.i (q.1:Int),.l J,.l W,.l y,.l Y,.l q.2]) J (λq x=>gK q (kX x)) (λq=>(0,[.i (q.1:Int),.l J,.l W,.l y,.l Y,.l q.2])) (λj q=>q.1<=n+j) (λj q c d=>⟨Nat.le_trans (YP _ _) (by omega),?_⟩) (λq d=>?_) (s0:=(n,m)) (Nat.le_refl _)
 ·refine aC (aU c) (aC (aF c) ?_);exact YQ 0 j q.1 (by omega) (kX (gD J j)) q.2 (λn m=>[.i (bJ .i64 (j:Int) 1),.i n,.l J,.l W,.l y,.l Y,.l m]) nV _ (nx c h [] [.i ((gK q (kX (gD J j))).1 :Int),.l J,.l W,.l y,.l Y,.l (gK q (kX (gD J j))).2])
 ·exact aM (aX _) (bG rfl)
theorem P4(m:LD)(h:cG W)(n:Nat)(e:(n:Int)+W.length<=9223372036854775807):
  fS nV 2 [.i (n:Int),.i 0,.l J,.l W,.l y,.l Y,.l m] (0,[.i (((W.map kX).foldl gK (n,m)).1 :Int),.l J,.l W,.l y,.l Y,.l ((W.map kX).foldl gK (n,m)).2]):=by
 rw[CY];refine sB zJ (λj(q:Nat×LD)=>[.i (q.1:Int),.i (j:Int),.l J,.l W,.l y,.l Y,.l q.2]) W (λq x=>gK q (kX x)) (λq=>(0,[.i (q.1:Int),.l J,.l W,.l y,.l Y,.l q.2])) (λj q=>q.1<=n+j) (λj q c d=>⟨Nat.le_trans (YP _ _) (by omega),?_⟩) (λq d=>?_) (s0:=(n,m)) (Nat.le_refl _)
 ·refine aC (aU c) (aC (aF c) ?_);exact YQ 0 j q.1 (by omega) (kX (gD W j)) q.2 (λn m=>[.i n,.i (bJ .i64 (j:Int) 1),.l J,.l W,.l y,.l Y,.l m]) nV _ (nx c h [.i ((gK q (kX (gD W j))).1 :Int)] [.l J,.l W,.l y,.l Y,.l (gK q (kX (gD W j))).2])
 ·exact aM (aX _) (bG rfl)
theorem P5(m:LD)(h:cG y)(n:Nat)(e:(n:Int)+y.length<=9223372036854775807):
  fS nV 4 [.i 0,.i (n:Int),.l J,.l W,.l y,.l Y,.l m] (0,[.i (((y.map kX).foldl gK (n,m)).1 :Int),.l J,.l W,.l y,.l Y,.l ((y.map kX).foldl gK (n,m)).2]):=by
 rw[CY];refine sB zJ (λj(q:Nat×LD)=>[.i (j:Int),.i (q.1:Int),.l J,.l W,.l y,.l Y,.l q.2]) y (λq x=>gK q (kX x)) (λq=>(0,[.i (q.1:Int),.l J,.l W,.l y,.l Y,.l q.2])) (λj q=>q.1<=n+j) (λj q c d=>⟨Nat.le_trans (YP _ _) (by omega),?_⟩) (λq d=>?_) (s0:=(n,m)) (Nat.le_refl _)
 ·refine aC (aU c) (aC (aF c) ?_);exact YQ 0 j q.1 (by omega) (kX (gD y j)) q.2 (λn m=>[.i (bJ .i64 (j:Int) 1),.i n,.l J,.l W,.l y,.l Y,.l m]) nV _ (nx c h [] [.i ((gK q (kX (gD y j))).1 :Int),.l J,.l W,.l y,.l Y,.l (gK q (kX (gD y j))).2])
 ·exact aM (aX _) (bG rfl)
theorem P6(m:LD)(h:cG Y)(n:Nat)(e:(n:Int)+Y.length<=9223372036854775807):
  fS nV 6 [.i (n:Int),.i 0,.l J,.l W,.l y,.l Y,.l m] (0,[.i (((Y.map kX).foldl gK (n,m)).1 :Int)]):=by
 rw[CY];refine sB zJ (λj(q:Nat×LD)=>[.i (q.1:Int),.i (j:Int),.l J,.l W,.l y,.l Y,.l q.2]) Y (λq x=>gK q (kX x)) (λq=>(0,[.i (q.1:Int)])) (λj q=>q.1<=n+j) (λj q c d=>⟨Nat.le_trans (YP _ _) (by omega),?_⟩) (λq d=>?_) (s0:=(n,m)) (Nat.le_refl _)
 ·refine aC (aU c) (aC (aF c) ?_);exact YQ 0 j q.1 (by omega) (kX (gD Y j)) q.2 (λn m=>[.i n,.i (bJ .i64 (j:Int) 1),.l J,.l W,.l y,.l Y,.l m]) nV _ (nx c h [.i ((gK q (kX (gD Y j))).1 :Int)] [.l J,.l W,.l y,.l Y,.l (gK q (kX (gD Y j))).2])
 ·exact aM (aX _) (bG rfl)
end
def YR(J W y Y:LD):List (List UInt8):=((J.map kX++W.map kX)++y.map kX)++Y.map kX
def Zz:List (List UInt8)->LD->Bool
 |[],_=>true
 |s::l,m=>!SK s m&&Zz l (LY s m)
def LC(J W y Y:LD):Bool:=Zz (YR J W y Y) []
theorem YS:∀(l:List (List UInt8))(n:Nat)(m:LD),n<=(l.foldl gK (n,m)).1 /\(l.foldl gK (n,m)).1 <=n+l.length
 |[],n,m=>⟨Nat.le_refl _,Nat.le_refl _⟩
 |s::l,n,m=>by
  rw[List.foldl_cons];have d:=YP (n,m) s;have e:n<=(gK (n,m) s).1 :=by unfold gK;cases SK s m<;>simp
  have c:=YS l (gK (n,m) s).1 (gK (n,m) s).2;simp only[List.length_cons];simp only at d;exact⟨Nat.le_trans e c.1,Nat.le_trans c.2 (by omega)⟩
theorem i6:∀(l:List (List UInt8))(n:Nat)(m:LD),((l.foldl gK (n,m)).1 =n<->Zz l m=true)
 |[],n,m=>⟨λ_=>rfl,λ_=>rfl⟩
 |s::l,n,m=>by
  rw[List.foldl_cons];unfold Zz;cases h:SK s m with
  |true=>
   have c:gK (n,m) s=(n+1,LY s m):=by simp only[gK,h,cond_true]
   rw[c];have:=(YS l (n+1) (LY s m)).1;constructor
   ·intro d;omega
   ·intro d;cases d
  |false=>
   have c:gK (n,m) s=(n,LY s m):=by simp only[gK,h,cond_false]
   rw[c,i6 l n (LY s m)];simp
theorem aEp(J W y Y:LD)(q:Nat×LD):(YR J W y Y).foldl gK q=(Y.map kX).foldl gK ((y.map kX).foldl gK ((W.map kX).foldl gK ((J.map kX).foldl gK q))):=by unfold YR;rw[List.foldl_append,List.foldl_append,List.foldl_append]
theorem A0(J W y Y:LD)(v:(J.length:Int)+W.length+y.length+Y.length<=9223372036854775807):jZ E aZ sites Km [.l [.l J,.l W,.l y,.l Y]] (.b (LC J W y Y)) []:=by refine bE zJ (by rfl) rfl ?_;show Ev _ _ (TV _) _;unfold TV;have c:=i6 (YR J W y Y) 0 [];rw[aEp]at c;have r:=(YS (J.map kX) 0 []).2;have j:=P3 J W y Y [] (by unfold cG;omega) 0 (by omega);generalize(J.map kX).foldl gK (0,[])=q0 at r j c;obtain⟨n0,f⟩:=q0;have d:=(YS (W.map kX) n0 f).2;simp only[List.length_map]at r d;have l:=P4 J W y Y f (by unfold cG;omega) n0 (by omega);generalize(W.map kX).foldl gK (n0,f)=q1 at d l c;obtain⟨h,g⟩:=q1;have e:=(YS (y.map kX) h g).2;simp only[List.length_map]at d e;have m:=P5 J W y Y g (by unfold cG;omega) h (by omega);generalize(y.map kX).foldl gK (h,g)=q2 at e m c;obtain⟨t,s⟩:=q2;simp only at e;have u:=P6 J W y Y s (by unfold cG;omega) t (by omega);refine aO j (bB (aO l (bB (aO m (bB (aO u (bB (bM (congrArg D.b ?_) rfl))))))));unfold LC;rw[Bool.eq_iff_iff,<-c];show _<->aD (((Y.map kX).foldl gK (t,s)).1 :Int) 0=true;rw[bT];omega
theorem i7{n:Nat}(h:n<=10000):jN (n+1) 16=true:=by unfold jN;rw[Bool.and_eq_true,Nat.ble_eq,Nat.ble_eq];omega
def RJ(q:LD)(l:LD):LD:=l.foldl (λq x=>q++[.s (kX x)]) q
theorem YT:∀(l q:LD),RJ q l=q++(l.map kX).map D.s
 |[],q=>(List.append_nil q).symm
 |x::l,q=>by show RJ (q++[.s (kX x)]) l=_;rw[YT l];simp
section
variable(J W y Y:LD)
theorem P7(q:LD)(h:cG J)(d:q.length+J.length<=10000):
  fS uH 0 [.i (J.length:Int),.l J,.i 0,.l J,.l W,.l y,.l Y,.l q] (0,[.l J,.l W,.l y,.l Y,.l (RJ q J)]):=by
 refine sB uI (λj(q:LD)=>[.i (J.length:Int),.l J,.i (j:Int),.l J,.l W,.l y,.l Y,.l q]) J (λq x=>q++[.s (kX x)]) (λq=>(0,[.l J,.l W,.l y,.l Y,.l q])) (λj p=>p.length=q.length+j) (λj q c d=>⟨by rw[List.length_append,d];rfl,?_⟩) (λq d=>?_) (s0:=q) rfl
 ·exact aC (aU c) (aC (aF c) (aC (i7 (n:=q.length) (by omega)) (aP (nx c h [.i (J.length:Int),.l J] [.l J,.l W,.l y,.l Y,.l (q++[D.s (kX (gD J j))])]))))
 ·exact aM (aX _) (bG rfl)
theorem P8(q:LD)(h:cG W)(d:q.length+W.length<=10000):
  fS uH 2 [.i 0,.l W,.i (W.length:Int),.l J,.l W,.l y,.l Y,.l q] (0,[.l J,.l W,.l y,.l Y,.l (RJ q W)]):=by
 refine sB uI (λj(q:LD)=>[.i (j:Int),.l W,.i (W.length:Int),.l J,.l W,.l y,.l Y,.l q]) W (λq x=>q++[.s (kX x)]) (λq=>(0,[.l J,.l W,.l y,.l Y,.l q])) (λj p=>p.length=q.length+j) (λj q c d=>⟨by rw[List.length_append,d];rfl,?_⟩) (λq d=>?_) (s0:=q) rfl
 ·exact aC (aU c) (aC (aF c) (aC (i7 (n:=q.length) (by omega)) (aP (nx c h [] [.l W,.i (W.length:Int),.l J,.l W,.l y,.l Y,.l (q++[D.s (kX (gD W j))])]))))
 ·exact aM (aX _) (bG rfl)
theorem P9(q:LD)(h:cG y)(d:q.length+y.length<=10000):
  fS uH 4 [.i (y.length:Int),.i 0,.l y,.l J,.l W,.l y,.l Y,.l q] (0,[.l J,.l W,.l y,.l Y,.l (RJ q y)]):=by
 refine sB uI (λj(q:LD)=>[.i (y.length:Int),.i (j:Int),.l y,.l J,.l W,.l y,.l Y,.l q]) y (λq x=>q++[.s (kX x)]) (λq=>(0,[.l J,.l W,.l y,.l Y,.l q])) (λj p=>p.length=q.length+j) (λj q c d=>⟨by rw[List.length_append,d];rfl,?_⟩) (λq d=>?_) (s0:=q) rfl
 ·exact aC (aU c) (aC (aF c) (aC (i7 (n:=q.length) (by omega)) (aP (nx c h [.i (y.length:Int)] [.l y,.l J,.l W,.l y,.l Y,.l (q++[D.s (kX (gD y j))])]))))
 ·exact aM (aX _) (bG rfl)
theorem Q0(q:LD)(h:cG Y)(d:q.length+Y.length<=10000):
  fS uH 6 [.l Y,.i 0,.i (Y.length:Int),.l q] (0,[.l (RJ q Y)]):=by
 refine sB uI (λj(q:LD)=>[.l Y,.i (j:Int),.i (Y.length:Int),.l q]) Y (λq x=>q++[.s (kX x)]) (λq=>(0,[.l q])) (λj p=>p.length=q.length+j) (λj q c d=>⟨by rw[List.length_append,d];rfl,?_⟩) (λq d=>?_) (s0:=q) rfl
 ·exact aC (aU c) (aC (aF c) (aC (i7 (n:=q.length) (by omega)) (aP (nx c h [.l Y] [.i (Y.length:Int),.l (q++[D.s (kX (gD Y j))])]))))
 ·exact aM (aX _) (bG rfl)
end
theorem aCW:∀(l:List (List UInt8))(j:Nat)(m:LD),e8 (λ_ x m=>bif SK x.toS m then Sum.inl (0,[D.b false])else .inr (LY x.toS m)) (λ_=>(1,[])) j (l.map D.s) m=bif Zz l m then(1,[])else(0,[.b false])
 |[],_,_=>rfl
 |s::l,j,m=>by
  rw[List.map_cons];unfold Zz e8;have e:D.toS (D.s s)=s:=rfl;cases h:SK s m with
  |true=>simp only[e,h,cond_true,Bool.not_true,Bool.false_and,cond_false]
  |false=>simp only[e,h,cond_false,Bool.not_false,Bool.true_and];exact aCW l (j+1) (LY s m)
theorem Q1(all:List (List UInt8))(h:all.length<=10000):
  fS uH 8 [.i ((all.map D.s).length:Int),.i 0,.l [],.l (all.map D.s)] (bif Zz all []then(1,[])else(0,[.b false])):=by
 rw[<-aCW all 0 []];have f:cG (all.map D.s):=by unfold cG;rw[List.length_map];omega
 refine Lp uI (λj(m:LD)=>[.i ((all.map D.s).length:Int),.i (j:Int),.l m,.l (all.map D.s)]) (all.map D.s) _ _ (λ_ _=>True) (λj m d _=>⟨λt ht=>?_,λg e=>⟨trivial,?_⟩⟩) (λm _=>?_) trivial
 ·cases c:SK (gD (all.map D.s) j).toS m with
  |false=>rw[c]at ht;simp at ht
  |true=>rw[c]at ht;simp only[cond_true,Sum.inl.injEq]at ht;subst ht;exact aC (aU d) (aC (aF d) (bW (Me (gD (all.map D.s) j).toS) rfl (aC c (bG rfl))))
 ·cases c:SK (gD (all.map D.s) j).toS m with
  |true=>rw[c]at e;simp at e
  |false=>rw[c]at e;simp only[cond_false,Sum.inr.injEq]at e;subst e;exact aC (aU d) (aC (aF d) (bW (Me (gD (all.map D.s) j).toS) rfl (aM c (aP (nx d f [.i ((all.map D.s).length:Int)] [.l (LY (gD (all.map D.s) j).toS m),.l (all.map D.s)])))))
 ·exact aM (aX _) (bG rfl)
theorem A1(J W y Y:LD)(l:J.length+W.length+y.length+Y.length<=10000):jZ E aZ sites Ks [.l [.l J,.l W,.l y,.l Y]] (.b (LC J W y Y)) []:=by
 refine bE uI (by rfl) rfl ?_;show Ev _ _ (UA _) _;unfold UA;have d:=P7 J W y Y [] (by unfold cG;omega) (by simp;omega);have f:=P8 J W y Y (RJ [] J) (by unfold cG;omega) (by simp[YT];omega);have g:=P9 J W y Y (RJ (RJ [] J) W) (by unfold cG;omega) (by simp[YT];omega);have j:=Q0 Y (RJ (RJ (RJ [] J) W) y) (by unfold cG;omega) (by simp[YT];omega);have e:RJ (RJ (RJ (RJ [] J) W) y) Y=(YR J W y Y).map D.s:=by simp[YT,YR]
 have c:=Q1 (YR J W y Y) (by simp[YR];omega);rw[<-e]at c;refine aO d (bB (aO f (bB (aO g (bB (aO j (bB ?_)))))));unfold LC;cases h:Zz (YR J W y Y) []with
 |true=>rw[h]at c;exact aO c (fD (bB (bM rfl rfl)))
 |false=>rw[h]at c;exact aO c (bB (bM rfl rfl))
def fH(l:LD):Prop:=l.length<=10000
theorem fH.sane{l:LD}(h:fH l):cG l:=by unfold fH at h;unfold cG;omega
structure A2(x:D):Prop where
 as1:fH (eX x 5)
 is1:fH (eX x 6)
structure A3(b:D):Prop where
 ins:fH b.els
 i:∀j,j<b.els.length->A2 (gD b.els j)
structure Mf(f:D):Prop where
 ps:fH (eX f 2)
 bs:fH (eX f 4)
 b:∀j,j<(eX f 4).length->A3 (gD (eX f 4) j)
theorem Mf.sane{f:D}(h:Mf f):Lw f:=⟨h.ps.sane,h.bs.sane,λj c=>⟨(h.b j c).ins.sane⟩⟩
def gA(U:LD):Prop:=fH U/\∀j,j<U.length->A3 (gD U j)
theorem Mf.bbs{f:D}(h:Mf f):gA (eX f 4):=⟨h.bs,h.b⟩
abbrev qH(nm:List UInt8)(o:Bool)(V:LD)(r:Int)(U:LD):D:=.l [.s nm,.b o,.l V,.i r,.l U]
abbrev iD(n:Nat):D:=.i (n:Int)
theorem fA{n k:Nat}(h:n<=1000000000)(c:k<=1000):jN n k=true:=by unfold jN;rw[Bool.and_eq_true,Nat.ble_eq,Nat.ble_eq];have:n*k<=1000000000*1000:=Nat.mul_le_mul h c;omega
theorem Ch{a b:Int}(h:b<=a):aT a b=false:=by unfold aT;rw[(fN b a).2 h];rfl
theorem Vn{a b:Int}(h:a<b):aT a b=true:=by rw[eU];simpa using h
theorem jS{a b:Int}(h:a<=b):cX a b=true:=(fN a b).2 h
theorem aAC{a b:Int}(h:b<a):cX a b=false:=by rw[eW];simpa using h
theorem pX(a:Int):aD a a=true:=(bT a a).2 rfl
theorem nW{a b:Int}(h:a≠b):aD a b=false:=by rw[eL];simpa using h
theorem FI{n:Nat}(h:0<n)(c:n<=1000000):bD .i64 ((n:Int)-1)=((n-1:Nat):Int):=by rw[wA (by omega) (by omega)];omega
theorem Mh{n:Nat}(h:0<n)(c:n<=1000000):Int.toNat (bD .i64 ((n:Int)-1))=n-1:=by rw[FI h c];rfl
def gJ(b:D):D:=gD b.els (b.els.length-1)
def aCX(U:LD)(b:Int):Bool:=((cX 0 b&&aT b U.length)&&!(aD (gD U b.toNat).els.length 0))&&(aD (vI (gJ (gD U b.toNat)) 0) 27||aD (vI (gJ (gD U b.toNat)) 0) 28)
def CI(nb:Nat)(out:List Nat)(x:D):Bool:=(cX 0 x.toI&&aT x.toI nb)&&!(decide (x.toI.toNat∈out))
def kY(nb:Nat)(out:List Nat)(x:D):List Nat:=bif CI nb out x then out++[x.toI.toNat]else out
def aV(U:LD)(b:Int):List Nat:=bif aCX U b then(eX (gJ (gD U b.toNat)) 6).foldl (kY U.length) []else[]
theorem aF5(out:List Nat)(n:Nat):((out.map iD).any λx=>aD x.toI (n:Int))=decide (n∈out):=by
 rw[Bool.eq_iff_iff];simp only[List.any_map,List.any_eq_true,decide_eq_true_eq,Function.comp];constructor
 ·rintro⟨x,c,d⟩;have:((x:Nat):Int)=n:=(bT _ _).1 d;have e:x=n:=by omega
  subst e;exact c
 ·intro h;exact⟨n,h,pX _⟩
theorem aCY(l:LD)(n:Int)(f:cG l):jZ E aZ sites aCM [.l l,.i n] (.b (l.any λx=>aD x.toI n)) []:=by
 refine bE Ve (by rfl) rfl ?_;show Ev _ _ (Ux _) _;unfold Ux;have c:fS Vd 0 [.l l,.i n,.i 0] (bif l.any (λx=>aD x.toI n)then(0,[.b true])else(1,[])):=by
  refine FE Ve (λj=>[.l l,.i n,.i (j:Int)]) l (λx=>aD x.toI n) (λj d=>?_) ?_
  ·exact oT (aU d) (oT (aF d) (oE rfl rfl (nx d f [.l l,.i n] [])))
  ·exact aM (aX _) (bG rfl)
 cases e:l.any (λx=>aD x.toI n)with
 |true=>rw[e]at c;exact aO c (bB (bM rfl rfl))
 |false=>rw[e]at c;exact aO c (fD (bB (bM rfl rfl)))
def Gi(x:D):LD:=[.i (vI x 0),.i (vI x 1),.i (vI x 2),.i (vI x 3),.i (vI x 4),.l (eX x 5),.l (eX x 6)]
def SL:D:=.l [.i 0,.i 0,.i 0,.i 0,.i 0,.l [],.l []]
def mS(U:LD)(b:Int):Bool:=(cX 0 b&&aT b U.length)&&!(aD (gD U b.toNat).els.length 0)
theorem QT{U:LD}{b:Int}(h:mS U b=true):0<=b/\b<U.length/\0<(gD U b.toNat).els.length:=by
 unfold mS at h;rw[Bool.and_eq_true,Bool.and_eq_true,fN]at h;have c:¬cX (U.length:Int) b=true:=by have:=h.1.2;unfold aT at this;intro e;rw[e]at this;cases this
 rw[fN]at c;refine⟨h.1.1,by omega,?_⟩;rcases Nat.eq_zero_or_pos (gD U b.toNat).els.length with e |e
 ·rw[e]at h;have:=h.2;cases this
 ·exact e
theorem Q2(nm:List UInt8)(o:Bool)(V:LD)(r:Int)(U:LD)(b:Int)(t:gA U):
  jZ E aZ sites Us [qH nm o V r U,.i b] (bif mS U b then .l [.l (Gi (gJ (gD U b.toNat))),.b true]else .l [SL,.b false]) []:=by
 refine bE Qc (by rfl) rfl ?_;show Ev _ _ (Bk _) _;unfold Bk;cases d:(cX 0 b&&aT b U.length)with
 |false=>
  have g:(aT b 0||cX (U.length:Int) b)=true:=by
   unfold aT at*;cases h:cX 0 b with
   |false=>rfl
   |true=>rw[h]at d;cases l:cX (U.length:Int) b with
    |true=>rfl
    |false=>rw[l]at d;cases d
  have f:mS U b=false:=by unfold mS;rw[d];rfl
  rw[f];exact aC (congrArg (λc=>(!(!c))||aA b U.length) g) (aC (congrArg (λc=>c||aD (iE (gD U b.toNat)) 0) g) (bM rfl rfl))
 |true=>
  have g:(aT b 0||cX (U.length:Int) b)=false:=by
   unfold aT at*;cases h:cX 0 b with
   |false=>rw[h]at d;cases d
   |true=>rw[h]at d;cases l:cX (U.length:Int) b with
    |true=>rw[l]at d;cases d
    |false=>rfl
  have s:aA b U.length=true:=d;refine aC (aH s) ?_;cases j:aD (gD U b.toNat).els.length 0 with
  |true=>
   have f:mS U b=false:=by unfold mS;rw[j,Bool.not_true,Bool.and_false]
   rw[f];exact aC (aH j) (bM rfl rfl)
  |false=>
   have f:mS U b=true:=by unfold mS;rw[d,j];rfl
   obtain⟨v,y,m⟩:=QT f;have u:b.toNat<U.length:=by omega
   have ht:(gD U b.toNat).els.length<=1000000:=by have:=(t.2 b.toNat u).ins;unfold fH at this;omega
   rw[f];refine aM ((congrArg (λc=>c||aD (iE (gD U b.toNat)) 0) g).trans j) (aC s (aC ?_ ?_))
   ·show aA (bD .i64 (((gD U b.toNat).els.length:Int)-1)) (gD U b.toNat).els.length=true;rw[FI m ht];exact aF (by omega)
   ·have e:Int.toNat (bD .i64 (((gD U b.toNat).els.length:Int)-1))=(gD U b.toNat).els.length-1:=Mh m ht;refine bM ?_ rfl;show D.l [.l (Gi (gD (gD U b.toNat).els ((gD U b.toNat).els.length-1))),.b true]=D.l [.l (Gi (gD (gD U b.toNat).els (Int.toNat (bD .i64 (((gD U b.toNat).els.length:Int)-1))))),.b true];rw[e]
theorem A4(nb:Nat)(out:List Nat)(x:D)(h:0<=x.toI):CI nb out x=((cX 0 x.toI&&aT x.toI nb)&&!((out.map iD).any λc=>aD c.toI x.toI)):=by unfold CI;rw[<-aF5 out x.toI.toNat];congr 3;funext c;congr 1;omega
theorem A6(nb:Nat):∀(l:LD)(out:List Nat),(l.foldl (kY nb) out).length<=out.length+l.length
 |[],_=>Nat.le_refl _
 |x::l,out=>by rw[List.foldl_cons];refine Nat.le_trans (A6 nb l _) ?_;unfold kY;cases CI nb out x<;>simp<;>omega
theorem aAD(nm:List UInt8)(o:Bool)(V:LD)(r:Int)(U:LD)(op ty to sym num:Int)(as1 l:LD)(v:fH l):
  fS Cc 0 [.i 0,.s nm,.b o,.l V,.i r,.l U,.i op,.i ty,.i to,.i sym,.i num,.l as1,.l l,.l []] (0,[.l ((l.foldl (kY U.length) []).map iD)]):=by
 unfold fH at v;have C:cG l:=by unfold cG;omega
 refine sB Cd (λj(q:List Nat)=>[.i (j:Int),.s nm,.b o,.l V,.i r,.l U,.i op,.i ty,.i to,.i sym,.i num,.l as1,.l l,.l (q.map iD)]) l (kY U.length) (λq=>(0,[.l (q.map iD)])) (λj q=>q.length<=j) (λj q m y=>⟨?_,?_⟩) (λq y=>?_) (s0:=[]) (Nat.le_refl _)
 ·unfold kY;cases CI U.length q (gD l j)<;>simp<;>omega
 ·refine aC (aU m) (aC (aF m) ?_);have h:∀s:List Nat,[.i ((j+1:Nat):Int),.s nm,.b o,.l V,.i r,.l U,.i op,.i ty,.i to,.i sym,.i num,.l as1,.l l,.l (s.map iD)]=[D.i (bJ .i64 (j:Int) 1),.s nm,.b o,.l V,.i r,.l U,.i op,.i ty,.i to,.i sym,.i num,.l as1,.l l,.l (s.map iD)]:=λs=>nx m C [] _;cases d:(cX 0 (gD l j).toI&&aT (gD l j).toI U.length)with
  |false=>
   have f:CI U.length q (gD l j)=false:=by unfold CI;rw[d];rfl
   have e:kY U.length q (gD l j)=q:=by unfold kY;rw[f];rfl
   rw[e];exact aM (congrArg (λc=>c&&true) d) (aM (congrArg (λc=>c&&(!(D.toB (.i 0)))) d) (aP (h q)))
  |true=>
   have t:0<=(gD l j).toI:=by rw[Bool.and_eq_true,fN]at d;exact d.1
   have f:=A4 U.length q (gD l j) t;refine aC (congrArg (λc=>c&&true) d) (bW (aCY (q.map iD) (gD l j).toI (by unfold cG;rw[List.length_map];omega)) rfl ?_);cases g:CI U.length q (gD l j)with
   |true=>
    have e:kY U.length q (gD l j)=q++[(gD l j).toI.toNat]:=by unfold kY;rw[g];rfl
    rw[e];refine aC (f.symm.trans g) ?_;unfold OH;refine aC ?_ (aP ((h _).trans ?_))
    ·show jN ((q.map iD).length+1) 8=true;rw[List.length_map];exact fA (by omega) (by omega)
    ·have u:iD (gD l j).toI.toNat=D.i (gD l j).toI:=congrArg D.i (Int.toNat_of_nonneg t);rw[List.map_append,List.map_cons,List.map_nil,u];rfl
   |false=>
    have e:kY U.length q (gD l j)=q:=by unfold kY;rw[g];rfl
    rw[e];exact aM (f.symm.trans g) (aP (h q))
 ·exact aM (aX _) (bG rfl)
theorem Vo(U:LD)(b:Int):aCX U b=(mS U b&&(aD (vI (gJ (gD U b.toNat)) 0) 27||aD (vI (gJ (gD U b.toNat)) 0) 28)):=rfl
theorem Mi(nm:List UInt8)(o:Bool)(V:LD)(r:Int)(U:LD)(b:Int)(e:gA U):
  jZ E aZ sites Hg [qH nm o V r U,.i b] (.l ((aV U b).map iD)) []:=by
 refine bE Cd (by rfl) rfl ?_;refine bW (Q2 nm o V r U b e) rfl ?_;unfold aV;rw[Vo];cases h:mS U b with
 |false=>exact aC rfl (bM rfl rfl)
 |true=>
  obtain⟨g,j,l⟩:=QT h;have f:=e.2 b.toNat (by omega);cases d:(aD (vI (gJ (gD U b.toNat)) 0) 27||aD (vI (gJ (gD U b.toNat)) 0) 28)with
  |false=>
   refine aC ?_ (bM rfl rfl);have c:((!(aD (vI (gJ (gD U b.toNat)) 0) 27))&&(!(aD (vI (gJ (gD U b.toNat)) 0) 28)))=true:=by rw[<-Bool.not_or,d];rfl
   exact c
  |true=>
   refine aM ?_ ?_
   ·have c:((!(aD (vI (gJ (gD U b.toNat)) 0) 27))&&(!(aD (vI (gJ (gD U b.toNat)) 0) 28)))=false:=by rw[<-Bool.not_or,d];rfl
    exact c
   ·refine aO (aAD nm o V r U (vI (gJ (gD U b.toNat)) 0) (vI (gJ (gD U b.toNat)) 1) (vI (gJ (gD U b.toNat)) 2) (vI (gJ (gD U b.toNat)) 3) (vI (gJ (gD U b.toNat)) 4) (eX (gJ (gD U b.toNat)) 5) (eX (gJ (gD U b.toNat)) 6) (f.i _ (by omega)).is1) (bB (bM rfl rfl))
def aQ(n:Nat)(f:Nat->Bool):LD:=(List.range n).map λi=>.b (f i)
theorem eQ(n:Nat)(f:Nat->Bool):(aQ n f).length=n:=by simp[aQ]
theorem jV{n i:Nat}(f:Nat->Bool)(h:i<n):gD (aQ n f) i=.b (f i):=by simp[gD,List.getD,aQ,h]
def qI(f:Nat->Bool)(i:Nat):Nat->Bool:=λk=>bif Nat.beq k i then true else f k
theorem kS(f:Nat->Bool)(i:Nat):qI f i i=true:=by simp[qI]
theorem CZ(f:Nat->Bool){i k:Nat}(h:k≠i):qI f i k=f k:=by
 unfold qI;cases e:Nat.beq k i with
 |true=>exact absurd (Nat.eq_of_beq_eq_true e) h
 |false=>rfl
theorem rV{n i:Nat}(f:Nat->Bool)(h:i<n):(aQ n f).set i (.b true)=aQ n (qI f i):=by
 apply List.ext_getElem
 ·simp[aQ]
 ·intro k c d;rw[List.getElem_set];by_cases e:i=k
  ·subst e;simp[aQ,kS]
  ·simp[aQ,e,CZ f (Ne.symm e)]
theorem lV(n:Nat):aQ n (λ_=>false)=List.replicate n (.b false):=by apply List.ext_getElem<;>simp[aQ]
theorem nC{n:Nat}{f g:Nat->Bool}(h:∀i,i<n->f i=g i):aQ n f=aQ n g:=by
 apply List.ext_getElem
 ·simp[aQ]
 ·intro k c d;simp only[aQ,List.length_map,List.length_range]at c;simp[aQ,h k c]
def tP:Nat->(Nat->Bool)->Nat
 |0,_=>0
 |n+1,f=>tP n f+bif f n then 0 else 1
theorem Vp:∀(n:Nat){f g:Nat->Bool},(∀i,f i=true->g i=true)->tP n g<=tP n f
 |0,_,_,_=>Nat.le_refl _
 |n+1,f,g,h=>by
  have:=Vp n h;unfold tP;cases e:f n with
  |true=>rw[h n e];simpa using this
  |false=>cases g n<;>simp<;>omega
theorem LE:∀(n:Nat){f g:Nat->Bool}{i:Nat},(∀i,f i=true->g i=true)->i<n->f i=false->g i=true->tP n g<tP n f
 |0,_,_,_,_,h,_,_=>absurd h (by omega)
 |n+1,f,g,i,h,d,hf,hg=>by
  unfold tP;by_cases e:i=n
  ·subst e;rw[hf,hg];have:=Vp i h;simp;omega
  ·have:=LE n h (by omega) hf hg;have:(bif g n then 0 else 1)<=(bif f n then 0 else 1:Nat):=by
    cases c:f n with
    |true=>rw[h n c];exact Nat.le_refl _
    |false=>cases g n<;>simp
   omega
theorem II(f:Nat->Bool)(i:Nat):∀k,f k=true->qI f i k=true:=λk h=>by
 by_cases e:k=i
 ·subst e;exact kS f k
 ·rw[CZ f e];exact h
theorem i9(nb:Nat):∀(l:LD)(out:List Nat),(∀n,n∈out->n<nb)->∀n,n∈l.foldl (kY nb) out->n<nb
 |[],_,h=>h
 |x::l,out,h=>by
  rw[List.foldl_cons];refine i9 nb l _ (λn c=>?_);unfold kY at c;cases e:CI nb out x with
  |false=>rw[e]at c;exact h n c
  |true=>
   rw[e]at c;simp only[cond_true,List.mem_append,List.mem_singleton]at c;rcases c with d |d
   ·exact h n d
   ·unfold CI at e;rw[Bool.and_eq_true,Bool.and_eq_true,fN,eU]at e;have:=e.1.2;simp at this;omega
theorem QU{U:LD}{b:Int}{n:Nat}(h:n∈aV U b):n<U.length:=by
 unfold aV at h;cases e:aCX U b with
 |true=>rw[e]at h;exact i9 U.length _ [] (λ_ h=>by cases h) n h
 |false=>rw[e]at h;cases h
inductive RA(U:LD)(start gF:Int):Nat->Prop where
 |base:0<=start->start<U.length->start≠gF->RA U start gF start.toNat
 |step {b n:Nat}:RA U start gF b->n∈aV U b->(n:Int)≠gF->RA U start gF n
open Classical in
noncomputable def Gn(U:LD)(start gF:Int)(i:Nat):Bool:=decide (RA U start gF i)
theorem AD{U:LD}{start gF:Int}{i:Nat}:Gn U start gF i=true<->RA U start gF i:=by simp[Gn]
noncomputable def cZ(U:LD)(start gF:Int):LD:=aQ U.length (Gn U start gF)
theorem aEq{U:LD}{start gF:Int}(h:¬(0<=start/\start<U.length/\start≠gF)){i:Nat}:¬RA U start gF i:=by
 intro c;induction c with
 |base d e f=>exact h ⟨d,e,f⟩
 |step _ _ _ g=>exact g
theorem nD(l:List Nat):(l.map iD).length=l.length:=List.length_map ..
theorem OV(U:LD)(b:Int)(hT:gA U):(aV U b).length<=10000:=by
 unfold aV;cases e:aCX U b with
 |false=>exact Nat.zero_le _
 |true=>
  have d:mS U b=true:=by rw[Vo]at e;exact(Bool.and_eq_true_iff.1 e).1
  obtain⟨f,g,h⟩:=QT d;have c:=((hT.2 b.toNat (by omega)).i _ (show(gD U b.toNat).els.length-1<_ by omega)).is1;unfold fH at c;exact Nat.le_trans (A6 U.length _ []) (by simpa[gJ]using c)
theorem UY{l:List Nat}{k:Nat}(h:k<l.length):gD (l.map iD) k=iD l[k]:=by simp[gD,List.getD,h]
section
variable(nm:List UInt8)(o:Bool)(V:LD)(r:Int)(U:LD)(hT:gA U)(start gF:Int)
include hT
structure In4(b:Nat)(f0:Nat->Bool)(ag0:Bool)(k:Nat)(q:Bool×(Nat->Bool)):Prop where
 mono:∀i,f0 i=true->q.2 i=true
 snd:∀i,q.2 i=true->RA U start gF i
 all:∀(i:Nat)(h:i<(aV U b).length),i<k->(((aV U b)[i]:Nat):Int)≠gF->q.2 (aV U b)[i]=true
 or:(q.1=ag0/\q.2=f0)\/(q.1=true/\tP U.length q.2<tP U.length f0)
theorem aAE(b:Nat)(f0:Nat->Bool)(ag0:Bool)(G:RA U start gF b)(H:∀i,f0 i=true->RA U start gF i):
  ∃q:Bool×(Nat->Bool),In4 U start gF b f0 ag0 (aV U b).length q/\fS IB 4 [.i 0,.i (b:Int),.i gF,.b ag0,.s nm,.b o,.l V,.i r,.l U,.l (aQ U.length f0),.l ((aV U b).map iD)] (0,[.i (b:Int),.i gF,.b q.1,.s nm,.b o,.l V,.i r,.l U,.l (aQ U.length q.2)]):=by
 have L:=OV U b hT;have J:cG ((aV U b).map iD):=by unfold cG;rw[nD];omega
 refine FF IC (λk(q:Bool×(Nat->Bool))=>[.i (k:Int),.i (b:Int),.i gF,.b q.1,.s nm,.b o,.l V,.i r,.l U,.l (aQ U.length q.2),.l ((aV U b).map iD)]) (aV U b).length (λq=>(0,[.i (b:Int),.i gF,.b q.1,.s nm,.b o,.l V,.i r,.l U,.l (aQ U.length q.2)])) (In4 U start gF b f0 ag0) (λk q u d=>?_) (λq d=>?_) (s0:=(ag0,f0)) ⟨λi h=>h,H,λi g m=>by omega,.inl ⟨rfl,rfl⟩⟩
 ·have f:k<((aV U b).map iD).length:=by rw[nD];exact u
  have hg:gD ((aV U b).map iD) k=iD (aV U b)[k]:=UY u;have v:(aV U b)[k]<U.length:=QU (List.getElem_mem u);have y:aA (gD ((aV U b).map iD) k).toI (aQ U.length q.2).length=true:=by rw[hg,eQ];exact aF v
  have K:(aQ U.length q.2).set (Int.toNat (gD ((aV U b).map iD) k).toI) (.b true)=aQ U.length (qI q.2 (aV U b)[k]):=by rw[hg];exact rV q.2 v
  have F:(gD (aQ U.length q.2) (Int.toNat (gD ((aV U b).map iD) k).toI)).toB=q.2 (aV U b)[k]:=by rw[hg];exact congrArg D.toB (jV q.2 v)
  have C:=λl=>nx (j:=k) f J [] l;by_cases e1:(((aV U b)[k]:Nat):Int)=gF
  ·refine⟨q,⟨d.mono,d.snd,λi g m s=>?_,d.or⟩,?_⟩
   ·by_cases e:i=k
    ·subst e;exact absurd e1 s
    ·exact d.all i g (by omega) s
   ·show Ev _ _ (mZ _) _;unfold mZ;have z:aD (gD ((aV U b).map iD) k).toI gF=true:=by rw[hg];exact(bT _ _).2 e1
    exact aC (aU f) (aC (aF f) (aC (aH (aF f)) (aC (aH y) (aM (congrArg (λc=>(!c)&&!(D.toB (gD (aQ U.length q.2) (Int.toNat (gD ((aV U b).map iD) k).toI)))) z) (aP (C _))))))
  ·have z:aD (gD ((aV U b).map iD) k).toI gF=false:=by rw[hg];exact nW e1
   cases t:q.2 (aV U b)[k]with
   |true=>
    refine⟨q,⟨d.mono,d.snd,λi g m s=>?_,d.or⟩,?_⟩
    ·by_cases e:i=k
     ·subst e;exact t
     ·exact d.all i g (by omega) s
    ·refine aC (aU f) (aC (aF f) (aC (aH (aF f)) (aC (aH y) (aM ?_ (aP (C _))))));have:((!(aD (gD ((aV U b).map iD) k).toI gF))&&!(D.toB (gD (aQ U.length q.2) (Int.toNat (gD ((aV U b).map iD) k).toI))))=false:=by rw[F,t,Bool.not_true,Bool.and_false]
     exact this
   |false=>
    refine⟨(true,qI q.2 (aV U b)[k]),⟨λi h=>II _ _ i (d.mono i h),λi h=>?_,λi g m s=>?_,.inr ⟨rfl,?_⟩⟩,?_⟩
    ·have h:qI q.2 (aV U b)[k] i=true:=h;by_cases e:i=(aV U b)[k]
     ·rw[e];exact RA.step G (List.getElem_mem u) e1
     ·rw[CZ _ e]at h;exact d.snd i h
    ·by_cases e:i=k
     ·subst e;exact kS _ _
     ·exact II _ _ _ (d.all i g (by omega) s)
    ·have g:tP U.length (qI q.2 (aV U b)[k])<tP U.length q.2:=LE _ (II _ _) v t (kS _ _);rcases d.or with⟨_,m⟩ |⟨_,m⟩
     ·rw[m]at g⊢;exact g
     ·exact Nat.lt_trans g m
    ·refine aC (aU f) (aC (aF f) (aC (aH (aF f)) (aC (aH y) (aC ?_ (aC (aF f) (aC y (aP ((C _).trans ?_))))))))
     ·have:((!(aD (gD ((aV U b).map iD) k).toI gF))&&!(D.toB (gD (aQ U.length q.2) (Int.toNat (gD ((aV U b).map iD) k).toI))))=true:=by rw[F,t,z];rfl
      exact this
     ·rw[<-K];rfl
 ·refine aM ?_ (bG rfl);have:=aX ((aV U b).map iD).length;rw[nD]at this;show aT ((aV U b).length:Int) ((aV U b).map iD).length=false;rw[nD];exact this
structure In2(f0:Nat->Bool)(j:Nat)(q:Bool×(Nat->Bool)):Prop where
 mono:∀i,f0 i=true->q.2 i=true
 snd:∀i,q.2 i=true->RA U start gF i
 or:(q.1=false/\q.2=f0/\∀b,b<j->f0 b=true->∀n,n∈aV U b->(n:Int)≠gF->f0 n=true)\/(q.1=true/\tP U.length q.2<tP U.length f0)
theorem aAF(f0:Nat->Bool)(T:∀i,f0 i=true->RA U start gF i):
  ∃q:Bool×(Nat->Bool),In2 U start gF f0 U.length q/\fS IB 2 [.i 0,.i gF,.b false,.s nm,.b o,.l V,.i r,.l U,.l (aQ U.length f0)] (0,[.i gF,.b q.1,.s nm,.b o,.l V,.i r,.l U,.l (aQ U.length q.2)]):=by
 have K:cG U:=hT.1.sane;refine FF IC (λj(q:Bool×(Nat->Bool))=>[.i (j:Int),.i gF,.b q.1,.s nm,.b o,.l V,.i r,.l U,.l (aQ U.length q.2)]) U.length (λq=>(0,[.i gF,.b q.1,.s nm,.b o,.l V,.i r,.l U,.l (aQ U.length q.2)])) (In2 U start gF f0) (λj q m d=>?_) (λq d=>?_) (s0:=(false,f0)) ⟨λi h=>h,T,.inl ⟨rfl,rfl,λb f=>by omega⟩⟩
 ·have J:aT (j:Int) (aQ U.length q.2).length=true:=by rw[eQ];exact aU m
  have P:aA (j:Int) (aQ U.length q.2).length=true:=by rw[eQ];exact aF m
  have L:(gD (aQ U.length q.2) j).toB=q.2 j:=congrArg D.toB (jV q.2 m);cases e:q.2 j with
  |false=>
   refine⟨q,⟨d.mono,d.snd,?_⟩,?_⟩
   ·rcases d.or with⟨f,t,g⟩ |h
    ·refine .inl ⟨f,t,λb Q c n u y=>?_⟩;by_cases v:b=j
     ·subst v;rw[t]at e;rw[e]at c;cases c
     ·exact g b (by omega) c n u y
    ·exact .inr h
   ·refine aC J (aC P (aC ?_ (aP (nx m K [] _))));have:(!(D.toB (gD (aQ U.length q.2) j)))=true:=by rw[L,e];rfl
    exact this
  |true=>
   obtain⟨W,f,t⟩:=aAE nm o V r U hT start gF j q.2 q.1 (d.snd j e) d.snd;refine⟨W,⟨λi h=>f.mono i (d.mono i h),f.snd,?_⟩,?_⟩
   ·rcases f.or with⟨s,l⟩ |⟨s,l⟩
    ·rcases d.or with⟨g,c,u⟩ |⟨g,c⟩
     ·refine .inl ⟨s.trans g,l.trans c,λb Q y n F G=>?_⟩;by_cases v:b=j
      ·subst v;obtain⟨i,H,C⟩:=List.getElem_of_mem F;have:=f.all i H H (by rw[C];exact G);rw[C,l,c]at this;exact this
      ·exact u b (by omega) y n F G
     ·exact .inr ⟨s.trans g,by rw[l];exact c⟩
    ·refine .inr ⟨s,?_⟩;rcases d.or with⟨g,c,u⟩ |⟨g,c⟩
     ·rw[c]at l;exact l
     ·omega
   ·refine aC J (aC P (aM ?_ (bW (Mi nm o V r U j hT) rfl (aO t (bB (aP (nx m K [] _)))))));have:(!(D.toB (gD (aQ U.length q.2) j)))=false:=by rw[L,e];rfl
    exact this
 ·refine aM ?_ (bG rfl);show aT (U.length:Int) (aQ U.length q.2).length=false;rw[eQ];exact aX _
structure In0(q:Bool×(Nat->Bool)):Prop where
 st:q.2 start.toNat=true
 snd:∀i,q.2 i=true->RA U start gF i
 cl:q.1=false->∀b,b<U.length->q.2 b=true->∀n,n∈aV U b->(n:Int)≠gF->q.2 n=true
omit hT in
theorem A7{i:Nat}(h:RA U start gF i):i<U.length:=by
 cases h with
 |base d c _=>omega
 |step _ c _=>exact QU c
theorem aAG(f0:Nat->Bool)(v:In0 U start gF (true,f0)):
  fS IB 0 [.i gF,.b true,.s nm,.b o,.l V,.i r,.l U,.l (aQ U.length f0)] (0,[.l (cZ U start gF)]):=by
 have h:=IG IC (b:=0) (λ(q:Bool×(Nat->Bool))=>[.i gF,.b q.1,.s nm,.b o,.l V,.i r,.l U,.l (aQ U.length q.2)]) (In0 U start gF) (λq=>2*tP U.length q.2+bif q.1 then 1 else 0) (λt=>t=(0,[.l (cZ U start gF)])) (λq g=>?_) v
 ·obtain⟨t,c,l⟩:=h;subst c;exact l
 ·cases e:q.1 with
  |false=>
   refine .inl ⟨_,rfl,?_⟩;refine aM rfl (bG ?_);have:cZ U start gF=aQ U.length q.2:=by
    refine nC λi K=>?_;rw[Bool.eq_iff_iff,AD];constructor
    ·intro c;induction c with
     |base _ _ _=>exact g.st
     |step j F G H=>exact g.cl e _ (A7 U start gF j) (H (A7 U start gF j)) _ F G
    ·exact g.snd i
   rw[this];rfl
  |true=>
   obtain⟨J,c,l⟩:=aAF nm o V r U hT start gF q.2 g.snd;refine .inr ⟨J,⟨c.mono _ g.st,c.snd,λs b j u n y C=>?_⟩,?_,?_⟩
   ·rcases c.or with⟨d,f,m⟩ |⟨d,f⟩
    ·rw[f]at u⊢;exact m b j u n y C
    ·rw[d]at s;cases s
   ·rcases c.or with⟨d,f,m⟩ |⟨d,f⟩
    ·rw[d,f];simp
    ·rw[d];simp;omega
   ·exact aC rfl (aO l (bB (aP rfl)))
theorem Mj:jZ E aZ sites Hf [qH nm o V r U,.i start,.i gF] (.l (cZ U start gF)) []:=by
 refine bE IC (by rfl) rfl ?_;show Ev _ _ (Bj _) _;unfold Bj;have ht:=hT.1;unfold fH at ht;have v:jN (Int.toNat (U.length:Int)) 1=true:=fA (by omega) (by omega);refine aC ?_ ?_
 ·show(cX 0 (U.length:Int)&&(aD (U.length:Int) (U.length:Int)&&jN (Int.toNat (U.length:Int)) 1))=true;rw[jS (by omega),pX,v];rfl
 ·have s:iL (List.replicate U.length (D.b false))=(U.length:Int):=by simp[iL]
  by_cases h:0<=start/\start<U.length/\start≠gF
  ·obtain⟨f,g,l⟩:=h;refine aM ?_ (aC ?_ ?_)
   ·show((aT start 0||cX (iL (List.replicate U.length (D.b false))) start)||aD start gF)=false;rw[s,Ch f,aAC g,nW l];rfl
   ·show aA start (List.length (List.replicate U.length (D.b false)))=true;rw[List.length_replicate];unfold aA;rw[jS f,Vn g];rfl
   ·have y:start.toNat<U.length:=by omega
    have e:(List.replicate U.length (D.b false)).set start.toNat (.b true)=aQ U.length (qI (λ_=>false) start.toNat):=by rw[<-lV,rV _ y]
    have m:=aAG nm o V r U hT start gF (qI (λ_=>false) start.toNat) ⟨show qI (λ_=>false) start.toNat start.toNat=true from kS _ _,λi c=>(by
     have c:qI (λ_=>false) start.toNat i=true:=c;by_cases j:i=start.toNat
     ·rw[j];exact RA.base f g l
     ·rw[CZ _ j]at c;cases c),λh=>by cases h⟩
    rw[<-e]at m;exact aO m (bB (bM rfl rfl))
  ·refine aC ?_ (bM ?_ rfl)
   ·show((aT start 0||cX (iL (List.replicate U.length (D.b false))) start)||aD start gF)=true;rw[s];by_cases t:0<=start
    ·by_cases u:start<U.length
     ·have d:start=gF:=by
       by_cases d:start=gF
       ·exact d
       ·exact absurd ⟨t,u,d⟩ h
      rw[d,pX,Bool.or_true]
     ·rw[jS (by omega),Bool.or_true];rfl
    ·rw[Vn (by omega)];rfl
   ·show D.l (cZ U start gF)=.l (List.replicate U.length (D.b false));rw[<-lV];refine congrArg D.l (nC λi c=>?_);cases e:Gn U start gF i with
    |false=>rfl
    |true=>exact absurd (AD.1 e) (aEq h)
theorem Fj:jZ E aZ sites XY [qH nm o V r U] (.l (cZ U 0 (-1))) []:=by refine bE Ld (by rfl) rfl ?_;exact bW (Mj nm o V r U hT 0 (-1)) rfl (bM rfl rfl)
end
theorem Mk(nb:Nat):∀(l:LD)(out:List Nat),out.Nodup->(l.foldl (kY nb) out).Nodup
 |[],_,h=>h
 |x::l,out,h=>by
  rw[List.foldl_cons];refine Mk nb l _ ?_;unfold kY;cases e:CI nb out x with
  |false=>exact h
  |true=>
   unfold CI at e;rw[Bool.and_eq_true]at e;have f:x.toI.toNat∉out:=by simpa using e.2
   simp only[cond_true];rw[List.nodup_append];exact⟨h,by simp,λa g b c=>by simp at c;subst c;intro d;subst d;exact f g⟩
theorem Q3(U:LD)(b:Int):(aV U b).Nodup:=by
 unfold aV;cases aCX U b with
 |true=>exact Mk _ _ _ List.nodup_nil
 |false=>exact List.nodup_nil
def dP(n:Nat)(g:Nat->List Nat):LD:=(List.range n).map λi=>.l ((g i).map iD)
theorem QV(n:Nat)(g:Nat->List Nat):(dP n g).length=n:=by simp[dP]
theorem Ci{n i:Nat}(g:Nat->List Nat)(h:i<n):gD (dP n g) i=.l ((g i).map iD):=by simp[gD,List.getD,dP,h]
theorem GV{n:Nat}{f g:Nat->List Nat}(h:∀i,i<n->f i=g i):dP n f=dP n g:=by
 apply List.ext_getElem
 ·simp[dP]
 ·intro k c d;simp only[dP,List.length_map,List.length_range]at c;simp[dP,h k c]
theorem aAH{n x:Nat}{f g:Nat->List Nat}(h:∀i,i<n->i≠x->f i=g i)(v:D)(hv:v=.l ((g x).map iD)):(dP n f).set x v=dP n g:=by
 apply List.ext_getElem
 ·simp[dP]
 ·intro k c d;rw[List.getElem_set];by_cases e:x=k
  ·subst e;simp[dP,hv]
  ·simp only[List.length_set,dP,List.length_map,List.length_range]at c;simp[dP,e,h k c (Ne.symm e)]
def nF(U:LD)(j i:Nat):List Nat:=(List.range j).filter λb=>decide (i∈aV U (b:Int))
def iT(U:LD)(i:Nat):List Nat:=nF U U.length i
def nY(U:LD)(b k i:Nat):List Nat:=bif decide (i∈(aV U (b:Int)).take k)then nF U b i++[b]else nF U b i
theorem j1(U:LD)(b i:Nat):nY U b 0 i=nF U b i:=by simp[nY]
theorem Qq(U:LD)(b i:Nat):nY U b (aV U (b:Int)).length i=nF U (b+1) i:=by
 unfold nY;rw[List.take_length];conv=>rhs;rw[nF,List.range_succ,List.filter_append,<-nF]
 cases e:decide (i∈aV U (b:Int))with
 |true=>simp[e]
 |false=>simp[e]
theorem Cj(U:LD)(j i:Nat):(nF U j i).length<=j:=by unfold nF;exact Nat.le_trans (List.length_filter_le _ _) (by simp)
theorem Qr(U:LD):List.replicate U.length (D.l [])=dP U.length (nF U 0):=by
 apply List.ext_getElem
 ·simp[dP]
 ·intro k c d;simp[dP,nF]
theorem Qs(U:LD)(b k:Nat)(c:k<(aV U b).length)(l:(aV U b)[k]<U.length):
  gD (dP U.length (nY U b k)) (Int.toNat (gD ((aV U b).map iD) k).toI)=.l ((nF U b (aV U b)[k]).map iD)/\(dP U.length (nY U b k)).set (Int.toNat (gD ((aV U b).map iD) k).toI) (.l ((D.els (gD (dP U.length (nY U b k)) (Int.toNat (gD ((aV U b).map iD) k).toI)))++[.i (b:Int)]))=dP U.length (nY U b (k+1)):=by
 have hg:gD ((aV U b).map iD) k=iD (aV U b)[k]:=UY c;have r:(aV U b)[k]∉(aV U b).take k:=by intro h;obtain⟨i,j,e⟩:=List.getElem_of_mem h;rw[List.length_take]at j;rw[List.getElem_take]at e;exact(List.pairwise_iff_getElem.1 (Q3 U b)) i k (by omega) c (by omega) e
 have g:nY U b k (aV U b)[k]=nF U b (aV U b)[k]:=by unfold nY;rw[show decide ((aV U b)[k]∈(aV U b).take k)=false by simpa using r];rfl
 have d:gD (dP U.length (nY U b k)) (Int.toNat (gD ((aV U b).map iD) k).toI)=.l ((nF U b (aV U b)[k]).map iD):=by rw[hg];have:=Ci (nY U b k) l;rw[g]at this;exact this
 have s:(dP U.length (nY U b k)).set (Int.toNat (gD ((aV U b).map iD) k).toI) (.l ((D.els (gD (dP U.length (nY U b k)) (Int.toNat (gD ((aV U b).map iD) k).toI)))++[.i (b:Int)]))=dP U.length (nY U b (k+1)):=by
  rw[d,hg];refine aAH (λi _ m=>?_) _ ?_
  ·unfold nY;have:(i∈(aV U b).take (k+1))<->(i∈(aV U b).take k):=by
    rw[List.take_succ_eq_append_getElem c,List.mem_append,List.mem_singleton];exact⟨λh=>h.elim id (λe=>absurd e m),.inl⟩
   simp only[this]
  ·have f:(aV U b)[k]∈(aV U b).take (k+1):=by
    rw[List.take_succ_eq_append_getElem c];exact List.mem_append_right _ (List.mem_singleton.2 rfl)
   show _=D.l ((nY U b (k+1) (aV U b)[k]).map iD);unfold nY;rw[show decide ((aV U b)[k]∈(aV U b).take (k+1))=true by simpa using f];simp[D.els]
 exact⟨d,s⟩
section
variable(nm:List UInt8)(o:Bool)(V:LD)(r:Int)(U:LD)(hT:gA U)
include hT
theorem aAI(b:Nat)(m:b<U.length):fS QQ 2 [.i (b:Int),.i 0,.s nm,.b o,.l V,.i r,.l U,.l (dP U.length (nF U b)),.l ((aV U b).map iD)] (0,[.i (b:Int),.s nm,.b o,.l V,.i r,.l U,.l (dP U.length (nF U (b+1)))]):=by
 have s:=OV U b hT;have ht:=hT.1;unfold fH at ht;have j:cG ((aV U b).map iD):=by unfold cG;rw[nD];omega
 have g:dP U.length (nF U b)=dP U.length (nY U b 0):=GV λi _=>(j1 U b i).symm;have e1:dP U.length (nF U (b+1))=dP U.length (nY U b (aV U b).length):=GV λi _=>(Qq U b i).symm;rw[g,e1];refine dF QR (λk=>[.i (b:Int),.i (k:Int),.s nm,.b o,.l V,.i r,.l U,.l (dP U.length (nY U b k)),.l ((aV U b).map iD)]) (aV U b).length (λk c=>?_) ?_
 ·have d:k<((aV U b).map iD).length:=by rw[nD];exact c
  have hg:gD ((aV U b).map iD) k=iD (aV U b)[k]:=UY c;have e:(aV U b)[k]<U.length:=QU (List.getElem_mem c);have f:aA (gD ((aV U b).map iD) k).toI (dP U.length (nY U b k)).length=true:=by rw[hg,QV];exact aF e
  obtain⟨h,l⟩:=Qs U b k c e;refine aC (aU d) (aC (aF d) (aC (aF d) (aC f (aC ?_ (aC ?_ (aC f (aC ?_ (aP ((nx d j [.i (b:Int)] _).trans ?_)))))))))
  ·show jN ((D.els (gD (dP U.length (nY U b k)) (Int.toNat (gD ((aV U b).map iD) k).toI))).length+1) 8=true;rw[h];refine fA ?_ (by omega);have:=Cj U b (aV U b)[k];simp[D.els];omega
  ·show((aD (gD ((aV U b).map iD) k).toI (gD ((aV U b).map iD) k).toI)&&true)=true;rw[pX];rfl
  ·show((Nat.beq (Int.toNat (gD ((aV U b).map iD) k).toI) (Int.toNat (gD ((aV U b).map iD) k).toI))&&true)=true;simp
  ·rw[<-l];rfl
 ·refine aM ?_ (bG rfl);show aT ((aV U b).length:Int) ((aV U b).map iD).length=false;rw[nD];exact aX _
theorem Q4:jZ E aZ sites Uo [qH nm o V r U] (.l (dP U.length (iT U))) []:=by
 refine bE QR (by rfl) rfl ?_;show Ev _ _ (Bi _) _;unfold Bi;have ht:=hT.1;unfold fH at ht;have e:jN (Int.toNat (U.length:Int)) 24=true:=fA (by omega) (by omega);have d:fS QQ 0 [.i 0,.s nm,.b o,.l V,.i r,.l U,.l (dP U.length (nF U 0))] (0,[.l (dP U.length (nF U U.length))]):=by
  refine dF QR (λj=>[.i (j:Int),.s nm,.b o,.l V,.i r,.l U,.l (dP U.length (nF U j))]) U.length (λj c=>?_) ?_
  ·exact aC (aU c) (bW (Mi nm o V r U j hT) rfl (aO (aAI nm o V r U hT j c) (bB (aP (nx c hT.1.sane [] _)))))
  ·exact aM (aX _) (bG rfl)
 refine aC ?_ ?_
 ·show(cX 0 (U.length:Int)&&(aD (U.length:Int) (U.length:Int)&&jN (Int.toNat (U.length:Int)) 24))=true;rw[jS (by omega),pX,e];rfl
 ·rw[<-Qr]at d;exact aO d (bB (bM rfl rfl))
end
theorem aAJ(l:LD)(n:Int)(u:cG l):∃k:Int,cX 0 k=(l.any λx=>aD x.toI n)/\jZ E aZ sites qF [.l l,.i n] (.i k) []:=by
 cases h:l.any (λx=>aD x.toI n)with
 |false=>
  refine⟨-1,rfl,bE iS (by rfl) rfl ?_⟩;show Ev _ _ (iR _) _;unfold iR;have g:fS kR 0 [.l l,.i n,.i (l.length:Int),.i 0] (1,[]):=by
   refine dF iS (λj=>[.l l,.i n,.i (l.length:Int),.i (j:Int)]) l.length (λj c=>?_) ?_
   ·show Ev _ _ (dH _) _;unfold dH;have m:=YN h j c;have d:aD n (gD l j).toI=false:=nW (Ne.symm (UX m));exact aC (aU c) (aC (aF c) (aM d (aP (nx c u [.l l,.i n,.i (l.length:Int)] []))))
   ·exact aM (aX _) (bG rfl)
  exact aO g (fD (bB (bM rfl rfl)))
 |true=>
  have m:dW l.length (λj=>aD (gD l j).toI n)=true:=by
   cases d:dW l.length (λj=>aD (gD l j).toI n)with
   |true=>rfl
   |false=>rw[List.any_eq_true]at h;obtain⟨x,hx,r⟩:=h;obtain⟨i,f,e⟩:=List.getElem_of_mem hx;have:=bU.1 d i f;rw[show gD l i=x by simp[gD,List.getD,f,e],r]at this;cases this
  obtain⟨j,c,d,r⟩:=rP m;refine⟨j,jS (by omega),bE iS (by rfl) rfl ?_⟩;show Ev _ _ (iR _) _;unfold iR;have g:fS kR 0 [.l l,.i n,.i (l.length:Int),.i 0] (0,[.i (j:Int)]):=by
   refine dF iS (λj=>[.l l,.i n,.i (l.length:Int),.i (j:Int)]) j (λi f=>?_) ?_
   ·show Ev _ _ (dH _) _;unfold dH;have t:i<l.length:=by omega
    have s:aD n (gD l i).toI=false:=nW (Ne.symm (UX (r i f)));exact aC (aU t) (aC (aF t) (aM s (aP (nx t u [.l l,.i n,.i (l.length:Int)] []))))
   ·show Ev _ _ (dH _) _;unfold dH;have s:aD n (gD l j).toI=true:=by rw[(bT _ _).1 d];exact pX _
    exact aC (aU c) (aC (aF c) (aC s (bG rfl)))
  exact aO g (bB (bM rfl rfl))
theorem Vq(l:LD)(n:Int)(e:cG l):jZ E aZ sites nN [.l l,.i n] (.b (l.any λx=>aD x.toI n)) []:=by obtain⟨k,c,d⟩:=aAJ l n e;refine bE rD (by rfl) rfl ?_;exact bW d rfl (bM (congrArg D.b c.symm) rfl)
section
variable(nm:List UInt8)(o:Bool)(V:LD)(r:Int)(U:LD)(hT:gA U)
theorem A8(l:LD)(v:fH l):
  fS OT 0 [.l l,.i 0,.i (l.length:Int),.s nm,.b o,.l V,.i r,.l U,.l []] (0,[.l ((l.foldl (kY U.length) []).map iD)]):=by
 unfold fH at v;have C:cG l:=by unfold cG;omega
 refine sB OU (λj(q:List Nat)=>[.l l,.i (j:Int),.i (l.length:Int),.s nm,.b o,.l V,.i r,.l U,.l (q.map iD)]) l (kY U.length) (λq=>(0,[.l (q.map iD)])) (λj q=>q.length<=j) (λj q m y=>⟨?_,?_⟩) (λq y=>?_) (s0:=[]) (Nat.le_refl _)
 ·unfold kY;cases CI U.length q (gD l j)<;>simp<;>omega
 ·refine aC (aU m) (aC (aF m) ?_);have h:∀s:List Nat,[.l l,.i ((j+1:Nat):Int),.i (l.length:Int),.s nm,.b o,.l V,.i r,.l U,.l (s.map iD)]=[.l l,D.i (bJ .i64 (j:Int) 1),.i (l.length:Int),.s nm,.b o,.l V,.i r,.l U,.l (s.map iD)]:=λs=>nx m C [.l l] _;cases d:(cX 0 (gD l j).toI&&aT (gD l j).toI U.length)with
  |false=>
   have f:CI U.length q (gD l j)=false:=by unfold CI;rw[d];rfl
   have e:kY U.length q (gD l j)=q:=by unfold kY;rw[f];rfl
   rw[e];exact aM (congrArg (λc=>c&&true) d) (aM (congrArg (λc=>c&&(!(D.toB (.i 0)))) d) (aP (h q)))
  |true=>
   have t:0<=(gD l j).toI:=by rw[Bool.and_eq_true,fN]at d;exact d.1
   have f:=A4 U.length q (gD l j) t;refine aC (congrArg (λc=>c&&true) d) (bW (Vq (q.map iD) (gD l j).toI (by unfold cG;rw[List.length_map];omega)) rfl ?_);cases g:CI U.length q (gD l j)with
   |true=>
    have e:kY U.length q (gD l j)=q++[(gD l j).toI.toNat]:=by unfold kY;rw[g];rfl
    rw[e];refine aC (f.symm.trans g) ?_;unfold HH;refine aC ?_ (aP ((h _).trans ?_))
    ·show jN ((q.map iD).length+1) 8=true;rw[List.length_map];exact fA (by omega) (by omega)
    ·have u:iD (gD l j).toI.toNat=D.i (gD l j).toI:=congrArg D.i (Int.toNat_of_nonneg t);rw[List.map_append,List.map_cons,List.map_nil,u];rfl
   |false=>
    have e:kY U.length q (gD l j)=q:=by unfold kY;rw[g];rfl
    rw[e];exact aM (f.symm.trans g) (aP (h q))
 ·exact aM (aX _) (bG rfl)
include hT
theorem LF(b:Int):jZ E aZ sites HZ [qH nm o V r U,.i b] (.l ((aV U b).map iD)) []:=by
 refine bE OU (by rfl) rfl ?_;show Ev _ _ (OD _) _;unfold OD aV;rw[Vo];cases d:(cX 0 b&&aT b U.length)with
 |false=>
  have g:(aT b 0||cX (U.length:Int) b)=true:=by
   unfold aT at*;cases h:cX 0 b with
   |false=>rfl
   |true=>rw[h]at d;cases m:cX (U.length:Int) b with
    |true=>rfl
    |false=>rw[m]at d;cases d
  have f:mS U b=false:=by unfold mS;rw[d];rfl
  rw[f];exact aC (congrArg (λc=>(!(!c))||aA b U.length) g) (aC (congrArg (λc=>c||aD (iE (gD U b.toNat)) 0) g) (bM rfl rfl))
 |true=>
  have g:(aT b 0||cX (U.length:Int) b)=false:=by
   unfold aT at*;cases h:cX 0 b with
   |false=>rw[h]at d;cases d
   |true=>rw[h]at d;cases m:cX (U.length:Int) b with
    |true=>rw[m]at d;cases d
    |false=>rfl
  have s:aA b U.length=true:=d;refine aC (aH s) ?_;cases j:aD (gD U b.toNat).els.length 0 with
  |true=>
   have f:mS U b=false:=by unfold mS;rw[j,Bool.not_true,Bool.and_false]
   rw[f];exact aC (aH j) (bM rfl rfl)
  |false=>
   have f:mS U b=true:=by unfold mS;rw[d,j];rfl
   obtain⟨C,F,t⟩:=QT f;have y:b.toNat<U.length:=by omega
   have ht:(gD U b.toNat).els.length<=1000000:=by have:=(hT.2 b.toNat y).ins;unfold fH at this;omega
   have e:Int.toNat (bD .i64 (((gD U b.toNat).els.length:Int)-1))=(gD U b.toNat).els.length-1:=Mh t ht;have l:gD (gD U b.toNat).els (Int.toNat (bD .i64 (((gD U b.toNat).els.length:Int)-1)))=gJ (gD U b.toNat):=by rw[e];rfl
   rw[f];refine aM ((congrArg (λc=>c||aD (iE (gD U b.toNat)) 0) g).trans j) (aC s (aC s (aC ?_ ?_)))
   ·show aA (bD .i64 (((gD U b.toNat).els.length:Int)-1)) (gD U b.toNat).els.length=true;rw[FI t ht];exact aF (by omega)
   ·cases u:(aD (vI (gJ (gD U b.toNat)) 0) 27||aD (vI (gJ (gD U b.toNat)) 0) 28)with
    |false=>refine aC ?_ (bM rfl rfl);show((!(aD (vI (gD (gD U b.toNat).els (Int.toNat (bD .i64 (((gD U b.toNat).els.length:Int)-1)))) 0) 27))&&(!(aD (vI (gD (gD U b.toNat).els (Int.toNat (bD .i64 (((gD U b.toNat).els.length:Int)-1)))) 0) 28)))=true;rw[l,<-Bool.not_or,u];rfl
    |true=>
     refine aM ?_ ?_
     ·show((!(aD (vI (gD (gD U b.toNat).els (Int.toNat (bD .i64 (((gD U b.toNat).els.length:Int)-1)))) 0) 27))&&(!(aD (vI (gD (gD U b.toNat).els (Int.toNat (bD .i64 (((gD U b.toNat).els.length:Int)-1)))) 0) 28)))=false;rw[l,<-Bool.not_or,u];rfl
     ·have v:=A8 nm o V r U (eX (gJ (gD U b.toNat)) 6) ((hT.2 b.toNat y).i _ (by omega)).is1;rw[<-l]at v⊢;exact aO v (bB (bM rfl rfl))
theorem A9(b:Nat)(nb:Int)(m:b<U.length):fS GQ 2 [.i nb,.i 0,.i (b:Int),.i ((aV U b).length:Int),.i (b:Int),.s nm,.b o,.l V,.i r,.l U,.l (dP U.length (nF U b)),.l ((aV U b).map iD)] (0,[.i nb,.i (b:Int),.s nm,.b o,.l V,.i r,.l U,.l (dP U.length (nF U (b+1)))]):=by
 have s:=OV U b hT;have ht:=hT.1;unfold fH at ht;have j:cG ((aV U b).map iD):=by unfold cG;rw[nD];omega
 have g:dP U.length (nF U b)=dP U.length (nY U b 0):=GV λi _=>(j1 U b i).symm;have e1:dP U.length (nF U (b+1))=dP U.length (nY U b (aV U b).length):=GV λi _=>(Qq U b i).symm;rw[g,e1];refine dF GR (λk=>[.i nb,.i (k:Int),.i (b:Int),.i ((aV U b).length:Int),.i (b:Int),.s nm,.b o,.l V,.i r,.l U,.l (dP U.length (nY U b k)),.l ((aV U b).map iD)]) (aV U b).length (λk c=>?_) ?_
 ·have d:k<((aV U b).map iD).length:=by rw[nD];exact c
  have hg:gD ((aV U b).map iD) k=iD (aV U b)[k]:=UY c;have e:(aV U b)[k]<U.length:=QU (List.getElem_mem c);have f:aA (gD ((aV U b).map iD) k).toI (dP U.length (nY U b k)).length=true:=by rw[hg,QV];exact aF e
  obtain⟨h,l⟩:=Qs U b k c e;refine aC (aU c) (aC (aF d) (aC f (aC ?_ (aC f (aC ?_ (aP ((nx d j [.i nb] _).trans ?_)))))))
  ·show jN ((D.els (gD (dP U.length (nY U b k)) (Int.toNat (gD ((aV U b).map iD) k).toI))).length+1) 8=true;rw[h];refine fA ?_ (by omega);have:=Cj U b (aV U b)[k];simp[D.els];omega
  ·show((Nat.beq (Int.toNat (gD ((aV U b).map iD) k).toI) (Int.toNat (gD ((aV U b).map iD) k).toI))&&true)=true;simp
  ·rw[<-l];rfl
 ·exact aM (aX _) (bG rfl)
theorem Vr:jZ E aZ sites Az [qH nm o V r U] (.l (dP U.length (iT U))) []:=by
 refine bE GR (by rfl) rfl ?_;show Ev _ _ (OI _) _;unfold OI;have ht:=hT.1;unfold fH at ht;have f:jN (Int.toNat (U.length:Int)) 24=true:=fA (by omega) (by omega);have d:fS GQ 0 [.i (U.length:Int),.i 0,.s nm,.b o,.l V,.i r,.l U,.l (dP U.length (nF U 0))] (0,[.l (dP U.length (nF U U.length))]):=by
  refine dF GR (λj=>[.i (U.length:Int),.i (j:Int),.s nm,.b o,.l V,.i r,.l U,.l (dP U.length (nF U j))]) U.length (λj c=>?_) ?_
  ·refine aC (aU c) (bW (LF nm o V r U hT j) rfl ?_);have e:=A9 nm o V r U hT j U.length c;rw[show((aV U j).length:Int)=iE (.l ((aV U j).map iD))by simp[iE,D.els]]at e;exact aO e (bB (aP (nx c hT.1.sane [.i (U.length:Int)] _)))
  ·exact aM (aX _) (bG rfl)
 refine aC ?_ ?_
 ·show(cX 0 (U.length:Int)&&(aD (U.length:Int) (U.length:Int)&&jN (Int.toNat (U.length:Int)) 24))=true;rw[jS (by omega),pX,f];rfl
 ·rw[<-Qr]at d;exact aO d (bB (bM rfl rfl))
end
def sN(n:Nat)(f:Nat->Int):LD:=(List.range n).map λi=>.i (f i)
theorem IJ(n:Nat)(f:Nat->Int):(sN n f).length=n:=by simp[sN]
theorem B1{n i:Nat}(f:Nat->Int)(h:i<n):gD (sN n f) i=.i (f i):=by simp[gD,List.getD,sN,h]
def RK(f:Nat->Int)(i:Nat)(v:Int):Nat->Int:=λk=>bif Nat.beq k i then v else f k
theorem IK(f:Nat->Int)(i:Nat)(v:Int):RK f i v i=v:=by simp[RK]
theorem QW(f:Nat->Int){i k:Nat}(v:Int)(h:k≠i):RK f i v k=f k:=by
 unfold RK;cases e:Nat.beq k i with
 |true=>exact absurd (Nat.eq_of_beq_eq_true e) h
 |false=>rfl
theorem B2{n i:Nat}(f:Nat->Int)(v:Int):(sN n f).set i (.i v)=sN n (RK f i v):=by
 apply List.ext_getElem
 ·simp[sN]
 ·intro k c d;rw[List.getElem_set];by_cases e:i=k
  ·subst e;simp[sN,IK]
  ·simp[sN,e,QW f v (Ne.symm e)]
theorem aAK(n:Nat):List.replicate n (D.i 0)=sN n (λ_=>0):=by apply List.ext_getElem<;>simp[sN]
def nz(s:Nat->Int)(i:Nat):Bool:=!(aD (s i) 0)
theorem aAL{s:Nat->Int}{i:Nat}:nz s i=true<->s i≠0:=by unfold nz;rw[eL];simp
def BQ(nb:Nat)(s:Nat->Int):Nat:=tP nb (nz s)
theorem Ml{nb:Nat}{s t:Nat->Int}(h:∀i,s i≠0->t i≠0):BQ nb t<=BQ nb s:=Vp nb λi c=>aAL.2 (h i (aAL.1 c))
theorem B3{nb:Nat}{s t:Nat->Int}{b:Nat}(h:∀i,s i≠0->t i≠0)(e:b<nb)(c:s b=0)(d:t b≠0):BQ nb t<BQ nb s:=
 LE nb (λi f=>aAL.2 (h i (aAL.1 f))) e (by unfold nz;rw[c];rfl) (aAL.2 d)
section
variable(nm:List UInt8)(o:Bool)(V:LD)(r:Int)(U:LD)
abbrev Fk(s:Nat->Int)(out:LD)(c:Bool):D:=.l [.s nm,.b o,.l V,.i r,.l U,.l (sN U.length s),.l out,.b c]
structure Vis(b:Nat)(s:Nat->Int)(o1:LD)(t:Nat->Int)(o2:LD):Prop where
 mono:∀i,s i≠0->t i≠0
 snd:∀i,t i≠0->s i≠0\/RA U 0 (-1) i
 cl:∀i,t i≠0->s i≠0\/∀n:Nat,n∈aV U i->t n≠0
 at1:t b≠0
 cnt:o2.length+BQ U.length t<=o1.length+BQ U.length s
structure Vk(b:Nat)(s:Nat->Int)(o1:LD)(k:Nat)(q:(Nat->Int)×LD×Bool):Prop where
 mono:∀i,s i≠0->q.1 i≠0
 snd:∀i,q.1 i≠0->s i≠0\/RA U 0 (-1) i
 cl:∀i,q.1 i≠0->s i≠0\/∀n:Nat,n∈aV U i->q.1 n≠0
 done:∀(i:Nat)(h:i<(aV U b).length),i<k->q.1 (aV U b)[i]≠0
 cnt:q.2.1.length+BQ U.length q.1<=o1.length+BQ U.length s
theorem aCZ(a0:gA U):∀(N:Nat)(b:Nat)(s:Nat->Int)(out:LD)(G:Bool),BQ U.length s<=N->b<U.length->s b=0->RA U 0 (-1) b->out.length+BQ U.length s<=10000->
  ∃t y H,Vis U b s out t y/\jZ E aZ sites kQ [Fk nm o V r U s out G,.i (b:Int)] (.l []) [Fk nm o V r U t y H]:=by
 intro N;induction N with
 |zero=>
  intro b s out G v K W;have:BQ U.length (RK s b 1)<BQ U.length s:=B3 (λi d=>by
   by_cases e:i=b
   ·subst e;exact absurd W d
   ·rw[QW s 1 e];exact d) K W (by rw[IK];decide)
  omega
 |succ N b4=>
  intro b s out G b5 L T Y c0;have a4:∀i,s i≠0->RK s b 1 i≠0:=λi d=>by
   by_cases e:i=b
   ·subst e;exact absurd T d
   ·rw[QW s 1 e];exact d
  have c1:BQ U.length (RK s b 1)<BQ U.length s:=B3 a4 L T (by rw[IK];decide);have b7:=OV U b a0;have b2:cG ((aV U b).map iD):=by unfold cG;rw[nD];omega
  have b1:=FF sM (b:=0) (λk(q:(Nat->Int)×LD×Bool)=>[.i (b:Int),.i (k:Int),.i ((aV U b).length:Int),.s nm,.b o,.l V,.i r,.l U,.b q.2.2,.l (sN U.length q.1),.l q.2.1,.l ((aV U b).map iD)]) (aV U b).length (λq=>(0,[.i (b:Int),.s nm,.b o,.l V,.i r,.l U,.b q.2.2,.l (sN U.length q.1),.l q.2.1])) (Vk U b (RK s b 1) out) (λk q f c=>?_) (λq c=>?_) (s0:=(RK s b 1,out,G)) ⟨λi h=>h,λi h=>.inl h,λi h=>.inl h,λi h v=>by omega,Nat.le_refl _⟩
  ·obtain⟨q,c,a3⟩:=b1;have a2:q.1 b≠0:=c.mono b (by rw[IK];decide);have m:∀i,RK q.1 b 2 i≠0<->q.1 i≠0:=λi=>by
    by_cases e:i=b
    ·subst e;rw[IK];exact⟨λ_=>a2,λ_=>by decide⟩
    ·rw[QW _ 2 e]
   have b3:BQ U.length (RK q.1 b 2)=BQ U.length q.1:=Nat.le_antisymm (Ml λi h=>(m i).2 h) (Ml λi h=>(m i).1 h);refine⟨RK q.1 b 2,q.2.1++[.i (b:Int)],q.2.2,⟨λi d=>(m i).2 (c.mono i (a4 i d)),λi d=>?_,λi d=>?_,(m b).2 a2,?_⟩,?_⟩
   ·rcases c.snd i ((m i).1 d)with h |h
    ·by_cases e:i=b
     ·subst e;exact .inr Y
     ·rw[QW s 1 e]at h;exact .inl h
    ·exact .inr h
   ·by_cases e:i=b
    ·subst e;refine .inr λn g=>(m n).2 ?_;obtain⟨k,f,J⟩:=List.getElem_of_mem g;have:=c.done k f f;rw[J]at this;exact this
    ·rcases c.cl i ((m i).1 d)with h |h
     ·rw[QW s 1 e]at h;exact .inl h
     ·exact .inr λn g=>(m n).2 (h n g)
   ·have:=c.cnt;rw[b3,List.length_append,List.length_singleton];omega
   ·refine bE sM (by rfl) rfl ?_;refine aC ?_ (bW (LF nm o V r U a0 b) rfl ?_)
    ·show aA (b:Int) (sN U.length s).length=true;rw[IJ];exact aF L
    ·have e1:(sN U.length s).set b (.i 1)=sN U.length (RK s b 1):=B2 s 1;have J:iE (.l ((aV U b).map iD))=((aV U b).length:Int):=by simp[iE,D.els]
     rw[<-e1,<-J]at a3;refine aO a3 (bB (aC ?_ (aC ?_ (bM rfl ?_))))
     ·show aA (b:Int) (sN U.length q.1).length=true;rw[IJ];exact aF L
     ·show jN (q.2.1.length+1) 8=true;have:=c.cnt;exact fA (by omega) (by omega)
     ·have a6:(sN U.length q.1).set b (.i 2)=sN U.length (RK q.1 b 2):=B2 q.1 2;show[Fk nm o V r U (RK q.1 b 2) (q.2.1++[.i (b:Int)]) q.2.2]=[D.l [.s nm,.b o,.l V,.i r,.l U,.l ((sN U.length q.1).set b (.i 2)),.l (q.2.1++[.i (b:Int)]),.b q.2.2]];rw[a6]
  ·have F:k<((aV U b).map iD).length:=by rw[nD];exact f
   have hg:gD ((aV U b).map iD) k=iD (aV U b)[k]:=UY f;have g:(aV U b)[k]<U.length:=QU (List.getElem_mem f);have Q:aA (gD ((aV U b).map iD) k).toI (sN U.length q.1).length=true:=by rw[hg,IJ];exact aF g
   have a5:(gD (sN U.length q.1) (Int.toNat (gD ((aV U b).map iD) k).toI)).toI=q.1 (aV U b)[k]:=by rw[hg];exact congrArg D.toI (B1 q.1 g)
   have P:=λl=>nx (j:=k) F b2 [.i (b:Int)] l;by_cases C:q.1 (aV U b)[k]=0
   ·have c2:=Ml (nb:=U.length) c.mono;have b6:=c.cnt;obtain⟨t,y,H,u,a9⟩:=b4 (aV U b)[k] q.1 q.2.1 q.2.2 (by omega) g C (RA.step Y (List.getElem_mem f) (by omega)) (by omega);refine⟨(t,y,H),⟨λi h=>u.mono i (c.mono i h),λi h=>?_,λi h=>?_,λi v K=>?_,Nat.le_trans u.cnt c.cnt⟩,?_⟩
    ·rcases u.snd i h with h |h
     ·exact c.snd i h
     ·exact .inr h
    ·rcases u.cl i h with h |h
     ·rcases c.cl i h with h |h
      ·exact .inl h
      ·exact .inr λn g=>u.mono n (h n g)
     ·exact .inr h
    ·by_cases e:i=k
     ·subst e;exact u.at1
     ·exact u.mono _ (c.done i v (by omega))
    ·refine aC (aU f) (aC (aF F) (aC Q (aC ?_ ?_)))
     ·show aD (gD (sN U.length q.1) (Int.toNat (gD ((aV U b).map iD) k).toI)).toI 0=true;rw[a5,C];rfl
     ·have a7:D.i (gD ((aV U b).map iD) k).toI=D.i ((aV U b)[k]:Int):=by rw[hg];rfl
      have b0:jZ E aZ sites kQ [Fk nm o V r U q.1 q.2.1 q.2.2,.i (gD ((aV U b).map iD) k).toI] (.l []) [Fk nm o V r U t y H]:=by rw[a7];exact a9
      exact bW b0 rfl (aP (P _))
   ·have a1:aD (gD (sN U.length q.1) (Int.toNat (gD ((aV U b).map iD) k).toI)).toI 0=false:=by rw[a5];exact nW C
    have hd:∀(i:Nat)(h:i<(aV U b).length),i<k+1->q.1 (aV U b)[i]≠0:=λi v K=>by
     by_cases e:i=k
     ·subst e;exact C
     ·exact c.done i v (by omega)
    cases e1:aD (gD (sN U.length q.1) (Int.toNat (gD ((aV U b).map iD) k).toI)).toI 1 with
    |true=>refine⟨(q.1,q.2.1,true),⟨c.mono,c.snd,c.cl,hd,c.cnt⟩,?_⟩;exact aC (aU f) (aC (aF F) (aC Q (aM a1 (aC e1 (aP (P _))))))
    |false=>refine⟨q,⟨c.mono,c.snd,c.cl,hd,c.cnt⟩,?_⟩;exact aC (aU f) (aC (aF F) (aC Q (aM a1 (aM e1 (aP (P _))))))
  ·exact aM (aX _) (bG rfl)
end
theorem Mm{n j:Nat}(f:Nat->Bool)(h:j<n):(aQ n (λi=>decide (i<j)&&f i)).set j (.b (f j))=aQ n (λi=>decide (i<j+1)&&f i):=by
 apply List.ext_getElem
 ·simp[aQ]
 ·intro k d g;rw[List.getElem_set];by_cases e:j=k
  ·subst e;simp[aQ]
  ·simp only[aQ,List.getElem_map,List.getElem_range,e,if_false];have:decide (k<j)=decide (k<j+1):=by
    by_cases c:k<j
    ·rw[decide_eq_true c,decide_eq_true (by omega:k<j+1)]
    ·rw[decide_eq_false c,decide_eq_false (by omega:¬k<j+1)]
   rw[this]
section
variable(nm:List UInt8)(o:Bool)(V:LD)(r:Int)(U:LD)(hT:gA U)(h0:0<U.length)
include hT h0
theorem Mo:∃t out c,Vis U 0 (λ_=>0) [] t out/\jZ E aZ sites NX [qH nm o V r U] (.l [Fk nm o V r U t out c]) []:=by
 have ht:=hT.1;unfold fH at ht;have l:BQ U.length (λ_=>0)<=U.length:=by
  have:∀(n:Nat)(f:Nat->Bool),tP n f<=n:=λn f=>by
   induction n with
   |zero=>exact Nat.le_refl _
   |succ n m=>unfold tP;cases f n<;>simp<;>omega
  exact this _ _
 obtain⟨t,out,c,d,g⟩:=aCZ nm o V r U hT _ 0 (λ_=>0) [] false (Nat.le_refl _) h0 rfl (RA.base (start:=0) (by omega) (by omega) (by omega)) (by simp;omega);refine⟨t,out,c,d,bE SH (by rfl) rfl ?_⟩;show Ev _ _ (HF _) _;unfold HF;have j:jN (Int.toNat (U.length:Int)) 8=true:=fA (by omega) (by omega);refine aC ?_ (aC ?_ ?_)
 ·show(cX 0 (U.length:Int)&&(aD (U.length:Int) (U.length:Int)&&jN (Int.toNat (U.length:Int)) 8))=true;rw[jS (by omega),pX,j];rfl
 ·exact Vn (by show(0:Int)<(U.length:Int);omega)
 ·have e:List.replicate U.length (D.i 0)=sN U.length (λ_=>0):=aAK _;have h:jZ E aZ sites kQ [.l [.s nm,.b o,.l V,.i r,.l U,.l (List.replicate U.length (D.i 0)),.l [],.b false],.i 0] (.l []) [Fk nm o V r U t out c]:=by rw[e];exact g
  exact bW h rfl (bM rfl rfl)
theorem SM:jZ E aZ sites KI [qH nm o V r U] (.l (cZ U 0 (-1))) []:=by
 obtain⟨t,out,y,d,m⟩:=Mo nm o V r U hT h0;refine bE KR (by rfl) rfl ?_;show Ev _ _ (KN _) _;unfold KN;have ht:=hT.1;unfold fH at ht;have s:jN (Int.toNat (U.length:Int)) 1=true:=fA (by omega) (by omega);have F:cG (sN U.length t):=by unfold cG;rw[IJ];omega
 have g:List.replicate U.length (D.b false)=aQ U.length (λi=>decide (i<0)&&nz t i):=by rw[<-lV];exact nC λi _=>rfl
 have e1:cZ U 0 (-1)=aQ U.length (λi=>decide (i<U.length)&&nz t i):=by
  refine nC λi e=>?_;rw[decide_eq_true e,Bool.true_and,Bool.eq_iff_iff,AD,aAL];constructor
  ·intro h;clear e;induction h with
   |base _ _ _=>exact d.at1
   |step C u _ v=>
    rcases d.cl _ v with h |h
    ·exact absurd rfl h
    ·exact h _ u
  ·intro h;rcases d.snd i h with h |h
   ·exact absurd rfl h
   ·exact h
 have f:fS KQ 0 [.i (U.length:Int),.i 0,.l (aQ U.length (λi=>decide (i<0)&&nz t i)),.l (sN U.length t)] (0,[.l (aQ U.length (λi=>decide (i<U.length)&&nz t i))]):=by
  refine dF KR (λj=>[.i (U.length:Int),.i (j:Int),.l (aQ U.length (λi=>decide (i<j)&&nz t i)),.l (sN U.length t)]) U.length (λj c=>?_) ?_
  ·refine aC (aU c) (aC ?_ (aC ?_ (aP ((nx c hT.1.sane [.i (U.length:Int)] _).trans ?_))))
   ·show aA (j:Int) (sN U.length t).length=true;rw[IJ];exact aF c
   ·show aA (j:Int) (aQ U.length (λi=>decide (i<j)&&nz t i)).length=true;rw[eQ];exact aF c
   ·rw[<-Mm (nz t) c];have:D.b (nz t j)=D.b (!(aD (gD (sN U.length t) j).toI 0)):=by rw[B1 t c];rfl
    rw[this];rfl
  ·exact aM (aX _) (bG rfl)
 have l:iX (Fk nm o V r U t out y) 5=(U.length:Int):=by show((sN U.length t).length:Int)=_;rw[IJ]
 rw[<-g,<-e1,<-l]at f;refine bW m rfl (aM rfl (aC ?_ (aO f (bB (bM rfl rfl)))));show(cX 0 (U.length:Int)&&(aD (U.length:Int) (U.length:Int)&&jN (Int.toNat (U.length:Int)) 1))=true;rw[jS (by omega),pX,s];rfl
end
abbrev IL(l:LD)(k:Nat):Int:=vI (gD l k) 0
def Ue(l:LD)(k:Nat):Bool:=bif gU (IL l k)then aD (k:Int) ((l.length-1:Nat):Int)else !(aD (k:Int) ((l.length-1:Nat):Int))
def phB(l:LD)(k:Nat):Bool:=(aT 0 (k:Int)&&aD (IL l k) 26)&&!(aD (IL l (k-1)) 26)
def OW(l:LD)(k:Nat):Bool:=!(Ue l k)||phB l k
def qK(nb:Nat)(x:D):Bool:=aT x.toI 1||cX (nb:Int) x.toI
def Fl(x:D):Bool:=aD (vI x 0) 28&&aD (gD (eX x 6) 0).toI (gD (eX x 6) 1).toI
def Q5(nb:Nat)(b:D):Bool:=aD (b.els.length:Int) 0||(dW b.els.length (OW b.els)||((eX (gJ b) 6).any (qK nb)||Fl (gJ b)))
def nZ(a b:LD):Bool:=aD (a.length:Int) b.length&&!dW a.length λi=>!aD (gD a i).toI (gD b i).toI
def FJ(U:LD)(b:Nat)(x:D):Bool:=aD (vI x 0) 26&&(aD (b:Int) 0||!(nZ (eX x 6) ((iT U b).map iD)))
noncomputable def TG(U:LD)(b:Nat):Bool:=!(Gn U 0 (-1) b)||(gD U b).els.any (FJ U b)
noncomputable def mM(U:LD):Bool:=!(U.any (Q5 U.length))&&!(dW U.length (TG U))
theorem UZ(a b:LD)(f:cG a):jZ E aZ sites QK [.l a,.l b] (.b (nZ a b)) []:=by
 refine bE Cb (by rfl) rfl ?_;show Ev _ _ (Bm _) _;unfold Bm nZ;cases e:aD (a.length:Int) b.length with
 |false=>exact aC (congrArg Bool.not e) (bM rfl rfl)
 |true=>
  have l:a.length=b.length:=by have:=(bT _ _).1 e;omega
  refine aM (congrArg Bool.not e) ?_;have h:fS Ca 0 [.l a,.l b,.i 0] (bif dW a.length (λi=>!aD (gD a i).toI (gD b i).toI)then(0,[.b false])else(1,[])):=by
   refine tO Cb (λj=>[.l a,.l b,.i (j:Int)]) a.length _ (λj c=>?_) ?_
   ·show O2 _ _ (BF _) _ _;unfold BF;have g:j<b.length:=by omega
    exact oT (aU c) (oT (aF c) (oT (aF g) (oE rfl rfl (nx c f [.l a,.l b] []))))
   ·exact aM (aX _) (bG rfl)
  cases d:dW a.length (λi=>!aD (gD a i).toI (gD b i).toI)with
  |true=>rw[d]at h;exact aO h (bB (bM rfl rfl))
  |false=>rw[d]at h;exact aO h (fD (bB (bM rfl rfl)))
def j2(x:D):Prop:=i4 (vI x 0) (vI x 1) (vI x 2) (vI x 3) (vI x 4) (eX x 5).length (eX x 6).length
def lO(U:LD):Prop:=∀b,b<U.length->∀j,j<(gD U b).els.length->j2 (gD (gD U b).els j)
theorem aC0{x:D}(h:rG x=false):j2 x:=form_says (vI x 0) (vI x 1) (vI x 2) (vI x 3) (vI x 4) (eX x 5) (eX x 6) (by
 unfold rG at h;cases c:D.toB (dR (Fh x))with
 |true=>exact c
 |false=>rw[c]at h;cases h)
theorem Ck{J Y:LD}(h:lN J Y=true):∀j,j<Y.length->lO (eX (gD Y j) 4):=λj g m l i f=>by
 unfold lN at h;have d:Y.any qJ=false:=by
  cases e:Y.any qJ with
  |false=>rfl
  |true=>rw[e,Bool.not_true,Bool.and_false]at h;cases h
 have c:=YN d j g;unfold qJ at c;simp only[Bool.or_eq_false_iff]at c;exact aC0 (YN (YN c.2.2 m l) i f)
theorem aIb(X e:Bool){k c:Nat}(h:k<c)(f:c<=1000000):((!(X&&(((aT 0 (k:Int))&&e)&&true)))||aA (bD .i64 ((k:Int)-1)) c)=true:=by
 by_cases d:k=0
 ·subst d;rw[show aT 0 ((0:Nat):Int)=false from rfl,Bool.false_and,Bool.false_and,Bool.and_false];rfl
 ·rw[FI (by omega) (by omega),aF (by omega),Bool.or_true]
section
variable(nm:List UInt8)(o:Bool)(V:LD)(r:Int)(U:LD)
theorem Q6(d:Int)(l:LD)(g:0<l.length)(f:fH l):
  fS uJ 2 [.i d,.i 0,.l l,.s nm,.b o,.l V,.i r,.l U] (bif dW l.length (OW l)then(0,[.i d,.b false,.l l,.s nm,.b o,.l V,.i r,.l U])else(1,[.i d,.l l,.s nm,.b o,.l V,.i r,.l U])):=by
 have m:=f.sane;unfold fH at f;have h:l.length<=1000000:=by omega
 refine tO uK (λj=>[.i d,.i (j:Int),.l l,.s nm,.b o,.l V,.i r,.l U]) l.length (OW l) (λj c=>?_) ?_
 ·refine oT (aU c) (oT (aF c) (oC (Lu (IL l j)) rfl (oT (aH (aF c)) (oT (aIb _ _ c h) (oE ?_ rfl (nx c m [.i d] _))))));unfold OW Ue phB;show((!(bif gU (IL l j)then aD (j:Int) (bD .i64 ((l.length:Int)-1))else !(aD (j:Int) (bD .i64 ((l.length:Int)-1)))))||(((aT 0 (j:Int))&&(aD (IL l j) 26))&&(!(aD (vI (gD l (Int.toNat (bD .i64 ((j:Int)-1)))) 0) 26))))=_;rw[FI g (by omega)];by_cases e:j=0
  ·subst e;rw[show aT 0 ((0:Nat):Int)=false from rfl,Bool.false_and,Bool.false_and,Bool.false_and]
  ·rw[Mh (by omega) (by omega)]
 ·exact aM (aX _) (bG rfl)
theorem Q7(jb op ty to sym num:Int)(as1 l:LD)(d:cG l):
  fS uJ 4 [.i jb,.i 0,.s nm,.b o,.l V,.i r,.l U,.i op,.i ty,.i to,.i sym,.i num,.l as1,.l l] (bif l.any (qK U.length)then(0,[.i jb,.b false,.s nm,.b o,.l V,.i r,.l U,.i op,.i ty,.i to,.i sym,.i num,.l as1,.l l])else(1,[.i jb,.s nm,.b o,.l V,.i r,.l U,.i op,.i ty,.i to,.i sym,.i num,.l as1,.l l])):=by
 refine FE uK (λj=>[.i jb,.i (j:Int),.s nm,.b o,.l V,.i r,.l U,.i op,.i ty,.i to,.i sym,.i num,.l as1,.l l]) l (qK U.length) (λj c=>?_) ?_
 ·exact oT (aU c) (oT (aF c) (oT (aH (aF c)) (oE rfl rfl (nx c d [.i jb] _))))
 ·exact aM (aX _) (bG rfl)
theorem Q8(h:gA U)(v:lO U):
  fS uJ 0 [.i 0,.s nm,.b o,.l V,.i r,.l U] (bif U.any (Q5 U.length)then(0,[.b false,.s nm,.b o,.l V,.i r,.l U])else(1,[.s nm,.b o,.l V,.i r,.l U])):=by
 refine FE uK (λj=>[.i (j:Int),.s nm,.b o,.l V,.i r,.l U]) U (Q5 U.length) (λj c=>?_) ?_
 ·have g:=h.2 j c;refine oT (aU c) (oT (aF c) (oO (b2:=dW (gD U j).els.length (OW (gD U j).els)||((eX (gJ (gD U j)) 6).any (qK U.length)||Fl (gJ (gD U j)))) rfl rfl (λy=>?_)));have d:0<(gD U j).els.length:=by
   rcases Nat.eq_zero_or_pos (gD U j).els.length with e |e
   ·have:aD ((gD U j).els.length:Int) 0=false:=y;rw[e]at this;cases this
   ·exact e
  have m:=g.ins;refine oLO (b1:=dW (gD U j).els.length (OW (gD U j).els)) (b2:=(eX (gJ (gD U j)) 6).any (qK U.length)||Fl (gJ (gD U j))) rfl (Q6 nm o V r U j (gD U j).els d m) rfl (λC=>?_);have f:(gD U j).els.length-1<(gD U j).els.length:=by omega
  have hx:=g.i _ f;unfold fH at m;have u:gJ (gD U j)=gD (gD U j).els (Int.toNat (bD .i64 (((gD U j).els.length:Int)-1))):=by rw[Mh d (by omega)];rfl
  have l:j2 (gJ (gD U j)):=v j c _ f;refine oT ?_ ?_
  ·show aA (bD .i64 (((gD U j).els.length:Int)-1)) (gD U j).els.length=true;rw[FI d (by omega)];exact aF f
  ·have s:cG (eX (gJ (gD U j)) 6):=hx.is1.sane;rw[u]at s l⊢;have t:∀i,i<2->((!((aD (vI (gD (gD U j).els (Int.toNat (bD .i64 (((gD U j).els.length:Int)-1)))) 0) 28)&&true))||aA (i:Nat) (eX (gD (gD U j).els (Int.toNat (bD .i64 (((gD U j).els.length:Int)-1)))) 6).length)=true:=λi F=>by
    cases e:aD (vI (gD (gD U j).els (Int.toNat (bD .i64 (((gD U j).els.length:Int)-1)))) 0) 28 with
    |false=>rfl
    |true=>have:=l.i2 ((bT _ _).1 e);rw[aF (by omega),Bool.or_true]
   exact oLO (b1:=(eX (gD (gD U j).els (Int.toNat (bD .i64 (((gD U j).els.length:Int)-1)))) 6).any (qK U.length)) (b2:=Fl (gD (gD U j).els (Int.toNat (bD .i64 (((gD U j).els.length:Int)-1))))) rfl (Q7 nm o V r U j (vI (gD (gD U j).els (Int.toNat (bD .i64 (((gD U j).els.length:Int)-1)))) 0) (vI (gD (gD U j).els (Int.toNat (bD .i64 (((gD U j).els.length:Int)-1)))) 1) (vI (gD (gD U j).els (Int.toNat (bD .i64 (((gD U j).els.length:Int)-1)))) 2) (vI (gD (gD U j).els (Int.toNat (bD .i64 (((gD U j).els.length:Int)-1)))) 3) (vI (gD (gD U j).els (Int.toNat (bD .i64 (((gD U j).els.length:Int)-1)))) 4) (eX (gD (gD U j).els (Int.toNat (bD .i64 (((gD U j).els.length:Int)-1)))) 5) (eX (gD (gD U j).els (Int.toNat (bD .i64 (((gD U j).els.length:Int)-1)))) 6) s) rfl (λ_=>oT (t 0 (by omega)) (oT (t 1 (by omega)) (oE rfl rfl (nx c h.1.sane [] _))))
 ·exact aM (aX _) (bG rfl)
theorem Q9(b:Nat)(l:LD)(e:LD)(g:b<U.length)(s:fH l)(m:∀j,j<l.length->A2 (gD l j)):
  fS uJ 8 [.l l,.i 0,.i (b:Int),.s nm,.b o,.l V,.i r,.l U,.l e,.l (dP U.length (iT U))] (bif l.any (FJ U b)then(0,[.b false,.i (b:Int),.s nm,.b o,.l V,.i r,.l U,.l e,.l (dP U.length (iT U))])else(1,[.i (b:Int),.s nm,.b o,.l V,.i r,.l U,.l e,.l (dP U.length (iT U))])):=by
 refine FE uK (λj=>[.l l,.i (j:Int),.i (b:Int),.s nm,.b o,.l V,.i r,.l U,.l e,.l (dP U.length (iT U))]) l (FJ U b) (λj d=>?_) ?_
 ·have t:aA (b:Int) (dP U.length (iT U)).length=true:=by rw[QV];exact aF g
  have hx:=nx d s.sane [.l l] [.i (b:Int),.s nm,.b o,.l V,.i r,.l U,.l e,.l (dP U.length (iT U))];refine oT (aU d) (oT (aF d) (oT (aH (aF d)) (oT (aH t) ?_)));cases e1:aD (vI (gD l j) 0) 26 with
  |false=>refine oF (congrArg (λc=>(c&&true)&&(!(aD (b:Int) 0))) e1) (oE ?_ rfl hx);unfold FJ;rw[e1];exact congrArg (λc=>c&&((aD (b:Int) 0)||(!(D.toB (.i 0))))) e1
  |true=>
   cases f:aD (b:Int) 0 with
   |true=>refine oF ((congrArg (λc=>(c&&true)&&(!(aD (b:Int) 0))) e1).trans (congrArg (λc=>(true&&true)&&(!c)) f)) (oE ?_ rfl hx);unfold FJ;rw[e1,f];exact(congrArg (λc=>c&&((aD (b:Int) 0)||(!(D.toB (.i 0))))) e1).trans (congrArg (λc=>true&&(c||(!(D.toB (.i 0))))) f)
   |false=>
    refine oT ((congrArg (λc=>(c&&true)&&(!(aD (b:Int) 0))) e1).trans (congrArg (λc=>(true&&true)&&(!c)) f)) ?_;have hg:gD (dP U.length (iT U)) b=.l ((iT U b).map iD):=Ci _ g;have h:jZ E aZ sites QK [.l (eX (gD l j) 6),.l (D.els (gD (dP U.length (iT U)) b))] (.b (nZ (eX (gD l j) 6) ((iT U b).map iD))) []:=by rw[hg];exact UZ _ _ (m j d).is1.sane
    exact oC h rfl (oE rfl rfl hx)
 ·exact aM (aX _) (bG rfl)
theorem R0(e:gA U):
  fS uJ 6 [.i 0,.s nm,.b o,.l V,.i r,.l U,.l (cZ U 0 (-1)),.l (dP U.length (iT U))] (bif dW U.length (TG U)then(0,[.b false])else(1,[])):=by
 refine tO uK (λj=>[.i (j:Int),.s nm,.b o,.l V,.i r,.l U,.l (cZ U 0 (-1)),.l (dP U.length (iT U))]) U.length (TG U) (λj c=>?_) ?_
 ·have d:=e.2 j c;have hg:(gD (cZ U 0 (-1)) j).toB=Gn U 0 (-1) j:=congrArg D.toB (jV _ c);refine oT (aU c) (oT ?_ (oO (b2:=(gD U j).els.any (FJ U j)) ?_ rfl (λ_=>oT (aF c) (oL (Q9 nm o V r U j (gD U j).els (cZ U 0 (-1)) c d.ins d.i) rfl (congrArg IX.again (nx c e.1.sane [] _).symm)))))
  ·show aA (j:Int) (cZ U 0 (-1)).length=true;unfold cZ;rw[eQ];exact aF c
  ·unfold TG;rw[<-hg];rfl
 ·exact aM (aX _) (bG rfl)
theorem B4(e:gA U)(g:lO U):jZ E aZ sites Kn [qH nm o V r U] (.b (mM U)) []:=by
 refine bE uK (by rfl) rfl ?_;show Ev _ _ (UE _) _;unfold UE mM;have c:=Q8 nm o V r U e g;have d:=R0 nm o V r U e;cases e1:U.any (Q5 U.length)with
 |true=>rw[e1]at c;exact aO c (bB (bM rfl rfl))
 |false=>
 rw[e1]at c;refine aO c (fD (bB (bW (Fj nm o V r U e) rfl (bW (Q4 nm o V r U e) rfl ?_))));cases f:dW U.length (TG U)with
 |true=>rw[f]at d;exact aO d (bB (bM rfl rfl))
 |false=>rw[f]at d;exact aO d (fD (bB (bM rfl rfl)))
end
def beh(l:LD)(k:Nat):Bool:=dW k λi=>!(aD (IL l i) 26)
def OX(b:Nat)(l:LD)(k:Nat):Bool:=!(Ue l k)||(aD (IL l k) 26&&(beh l k||aD (b:Int) 0))
def OY(x:D):Bool:=aD ((eX x 6).length:Int) 2&&aD (gD (eX x 6) 0).toI (gD (eX x 6) 1).toI
def Qt(U:LD)(b:Nat):Bool:=aD ((gD U b).els.length:Int) 0||(dW (gD U b).els.length (OX b (gD U b).els)||((eX (gJ (gD U b)) 6).any (qK U.length)||OY (gJ (gD U b))))
def DA(U:LD)(b:Nat)(x:D):Bool:=aD (vI x 0) 26&&!(nZ (eX x 6) ((iT U b).map iD))
noncomputable def Vs(U:LD):Bool:=!(dW U.length (Qt U))&&(!((cZ U 0 (-1)).any λx=>!x.toB)&&!(dW U.length λb=>(gD U b).els.any (DA U b)))
theorem R1(l:LD)(s:cG l):∃k:Int,cX 0 k=(l.any λx=>!x.toB)/\jZ E aZ sites oI [.l l,.b false] (.i k) []:=by
 cases h:l.any (λx=>!x.toB)with
 |false=>
  refine⟨-1,rfl,bE gR (by rfl) rfl ?_⟩;show Ev _ _ (gQ _) _;unfold gQ;have f:fS jQ 0 [.l l,.b false,.i (l.length:Int),.i 0] (1,[]):=by
   refine dF gR (λj=>[.l l,.b false,.i (l.length:Int),.i (j:Int)]) l.length (λj c=>?_) ?_
   ·exact aC (aU c) (aC (aF c) (aM (YN h j c) (aP (nx c s [.l l,.b false,.i (l.length:Int)] []))))
   ·exact aM (aX _) (bG rfl)
  exact aO f (fD (bB (bM rfl rfl)))
 |true=>
  have t:dW l.length (λj=>!(gD l j).toB)=true:=by
   cases g:dW l.length (λj=>!(gD l j).toB)with
   |true=>rfl
   |false=>rw[List.any_eq_true]at h;obtain⟨x,hx,m⟩:=h;obtain⟨i,d,e⟩:=List.getElem_of_mem hx;have:=bU.1 g i d;rw[show gD l i=x by simp[gD,List.getD,d,e],m]at this;cases this
  obtain⟨j,c,g,m⟩:=rP t;refine⟨j,jS (by omega),bE gR (by rfl) rfl ?_⟩;show Ev _ _ (gQ _) _;unfold gQ;have f:fS jQ 0 [.l l,.b false,.i (l.length:Int),.i 0] (0,[.i (j:Int)]):=by
   refine dF gR (λj=>[.l l,.b false,.i (l.length:Int),.i (j:Int)]) j (λi d=>?_) ?_
   ·show Ev _ _ (cY _) _;unfold cY;have r:i<l.length:=by omega
    exact aC (aU r) (aC (aF r) (aM (m i d) (aP (nx r s [.l l,.b false,.i (l.length:Int)] []))))
   ·exact aC (aU c) (aC (aF c) (aC g (bG rfl)))
  exact aO f (bB (bM rfl rfl))
theorem Mp(l:LD)(e:cG l):jZ E aZ sites mE [.l l,.b false] (.b (l.any λx=>!x.toB)) []:=by obtain⟨k,c,d⟩:=R1 l e;refine bE pW (by rfl) rfl ?_;exact bW d rfl (bM (congrArg D.b c.symm) rfl)
theorem aAM(a b:LD)(f:cG a):jZ E aZ sites mR [.l a,.l b] (.b (nZ a b)) []:=by
 refine bE oN (by rfl) rfl ?_;show Ev _ _ (oJ _) _;unfold oJ nZ;cases e:aD (a.length:Int) b.length with
 |false=>exact aC (congrArg Bool.not e) (bM rfl rfl)
 |true=>
  have l:a.length=b.length:=by have:=(bT _ _).1 e;omega
  refine aM (congrArg Bool.not e) ?_;have h:fS oM 0 [.l a,.l b,.i 0,.i (a.length:Int)] (bif dW a.length (λi=>!aD (gD a i).toI (gD b i).toI)then(0,[.b false])else(1,[])):=by
   refine tO oN (λj=>[.l a,.l b,.i (j:Int),.i (a.length:Int)]) a.length _ (λj c=>?_) ?_
   ·show O2 _ _ (gO _) _ _;unfold gO;have g:j<b.length:=by omega
    exact oT (aU c) (oT (aF c) (oT (aF g) (oE rfl rfl (nx c f [.l a,.l b] [.i (a.length:Int)]))))
   ·exact aM (aX _) (bG rfl)
  cases d:dW a.length (λi=>!aD (gD a i).toI (gD b i).toI)with
  |true=>rw[d]at h;exact aO h (bB (bM rfl rfl))
  |false=>rw[d]at h;exact aO h (fD (bB (bM rfl rfl)))
section
variable(nm:List UInt8)(o:Bool)(V:LD)(r:Int)(U:LD)
theorem R2(c:Nat)(nb:Int)(l:LD)(f:0<l.length)(e:fH l):
  fS uO 2 [.i (c:Int),.i 0,.i (c:Int),.b false,.l U,.l l,.i nb,.i (l.length:Int),.s nm,.b o,.l V,.i r,.l U,.l l] (bif dW l.length (OX c l)then(0,[.i (c:Int),.l U,.b false,.i nb,.s nm,.b o,.l V,.i r,.l U,.l l])else(1,[.i (c:Int),.l U,.i nb,.s nm,.b o,.l V,.i r,.l U,.l l])):=by
 have g:=e.sane;unfold fH at e;refine tO uP (λj=>[.i (c:Int),.i (j:Int),.i (c:Int),.b (beh l j),.l U,.l l,.i nb,.i (l.length:Int),.s nm,.b o,.l V,.i r,.l U,.l l]) l.length (OX c l) (λj d=>?_) ?_
 ·refine oT (aU d) (oT (aF d) (oC (Ls (IL l j)) rfl (oE ?_ rfl (nx d g [.i (c:Int)] _))));unfold OX Ue;show((!(bif gU (IL l j)then aD (j:Int) (bD .i64 ((l.length:Int)-1))else !(aD (j:Int) (bD .i64 ((l.length:Int)-1)))))||(aD (IL l j) 26&&(beh l j||aD (c:Int) 0)))=_;rw[FI f (by omega)]
 ·exact aM (aX _) (bG rfl)
theorem R3(c nb:Int)(l:LD)(e:cG l):
  fS uO 4 [.i c,.i (l.length:Int),.l U,.l l,.i 0,.i nb,.l l,.s nm,.b o,.l V,.i r,.l U] (bif l.any (qK U.length)then(0,[.i c,.l U,.b false,.l l,.i nb,.s nm,.b o,.l V,.i r,.l U])else(1,[.i c,.l U,.l l,.i nb,.s nm,.b o,.l V,.i r,.l U])):=by
 refine FE uP (λj=>[.i c,.i (l.length:Int),.l U,.l l,.i (j:Int),.i nb,.l l,.s nm,.b o,.l V,.i r,.l U]) l (qK U.length) (λj d=>?_) ?_
 ·exact oT (aU d) (oT (aF d) (oE rfl rfl (nx d e [.i c,.i (l.length:Int),.l U,.l l] _)))
 ·exact aM (aX _) (bG rfl)
theorem R4(g:gA U):
  fS uO 0 [.i 0,.l U,.i (U.length:Int),.s nm,.b o,.l V,.i r,.l U] (bif dW U.length (Qt U)then(0,[.b false,.s nm,.b o,.l V,.i r,.l U])else(1,[.s nm,.b o,.l V,.i r,.l U])):=by
 refine tO uP (λj=>[.i (j:Int),.l U,.i (U.length:Int),.s nm,.b o,.l V,.i r,.l U]) U.length (Qt U) (λj c=>?_) ?_
 ·have f:=g.2 j c;refine oT (aU c) (oT (aF c) (oO (b2:=dW (gD U j).els.length (OX j (gD U j).els)||((eX (gJ (gD U j)) 6).any (qK U.length)||OY (gJ (gD U j)))) rfl rfl (λu=>?_)));have d:0<(gD U j).els.length:=by
   rcases Nat.eq_zero_or_pos (gD U j).els.length with e |e
   ·have:aD ((gD U j).els.length:Int) 0=false:=u;rw[e]at this;cases this
   ·exact e
  have h:=f.ins;refine oLO (b1:=dW (gD U j).els.length (OX j (gD U j).els)) (b2:=(eX (gJ (gD U j)) 6).any (qK U.length)||OY (gJ (gD U j))) rfl (R2 nm o V r U j U.length (gD U j).els d h) rfl (λv=>?_);have l:(gD U j).els.length-1<(gD U j).els.length:=by omega
  have hx:=f.i _ l;unfold fH at h;have t:gJ (gD U j)=gD (gD U j).els (Int.toNat (bD .i64 (((gD U j).els.length:Int)-1))):=by rw[Mh d (by omega)];rfl
  refine oT ?_ ?_
  ·show aA (bD .i64 (((gD U j).els.length:Int)-1)) (gD U j).els.length=true;rw[FI d (by omega)];exact aF l
  ·have m:cG (eX (gJ (gD U j)) 6):=hx.is1.sane;rw[t]at m⊢;have s:∀i,i<2->((!((aD ((eX (gD (gD U j).els (Int.toNat (bD .i64 (((gD U j).els.length:Int)-1)))) 6).length:Int) 2)&&true))||aA (i:Nat) (eX (gD (gD U j).els (Int.toNat (bD .i64 (((gD U j).els.length:Int)-1)))) 6).length)=true:=λi y=>by
    cases e:aD ((eX (gD (gD U j).els (Int.toNat (bD .i64 (((gD U j).els.length:Int)-1)))) 6).length:Int) 2 with
    |false=>rfl
    |true=>have:=(bT _ _).1 e;rw[aF (by omega),Bool.or_true]
   exact oLO (b1:=(eX (gD (gD U j).els (Int.toNat (bD .i64 (((gD U j).els.length:Int)-1)))) 6).any (qK U.length)) (b2:=OY (gD (gD U j).els (Int.toNat (bD .i64 (((gD U j).els.length:Int)-1))))) rfl (R3 nm o V r U j U.length _ m) rfl (λ_=>oT (s 0 (by omega)) (oT (s 1 (by omega)) (oE rfl rfl (nx c g.1.sane [] _))))
 ·exact aM (aX _) (bG rfl)
theorem R5(b:Nat)(l:LD)(nb:Int)(e:b<U.length)(h:fH l)(g:∀j,j<l.length->A2 (gD l j)):
  fS uO 8 [.i (b:Int),.i 0,.l l,.l U,.i (b:Int),.i (l.length:Int),.i nb,.l (dP U.length (iT U))] (bif l.any (DA U b)then(0,[.i (b:Int),.l U,.b false,.i nb,.l (dP U.length (iT U))])else(1,[.i (b:Int),.l U,.i nb,.l (dP U.length (iT U))])):=by
 refine FE uP (λj=>[.i (b:Int),.i (j:Int),.l l,.l U,.i (b:Int),.i (l.length:Int),.i nb,.l (dP U.length (iT U))]) l (DA U b) (λj d=>?_) ?_
 ·have m:aA (b:Int) (dP U.length (iT U)).length=true:=by rw[QV];exact aF e
  have hx:=nx d h.sane [.i (b:Int)] [.l l,.l U,.i (b:Int),.i (l.length:Int),.i nb,.l (dP U.length (iT U))];refine oT (aU d) (oT (aF d) (oT (aH m) ?_));cases e1:aD (vI (gD l j) 0) 26 with
  |false=>refine oF (congrArg (λc=>c&&true) e1) (oE ?_ rfl hx);unfold DA;rw[e1];exact congrArg (λc=>c&&(!(D.toB (.i 0)))) e1
  |true=>
   refine oT (congrArg (λc=>c&&true) e1) ?_;have hg:gD (dP U.length (iT U)) b=.l ((iT U b).map iD):=Ci _ e;have f:jZ E aZ sites mR [.l (eX (gD l j) 6),.l (D.els (gD (dP U.length (iT U)) b))] (.b (nZ (eX (gD l j) 6) ((iT U b).map iD))) []:=by rw[hg];exact aAM _ _ (g j d).is1.sane
   exact oC f rfl (oE rfl rfl hx)
 ·exact aM (aX _) (bG rfl)
theorem R6(e:gA U):
  fS uO 6 [.i 0,.l U,.i (U.length:Int),.l (dP U.length (iT U))] (bif dW U.length (λb=>(gD U b).els.any (DA U b))then(0,[.b false])else(1,[])):=by
 refine tO uP (λj=>[.i (j:Int),.l U,.i (U.length:Int),.l (dP U.length (iT U))]) U.length (λb=>(gD U b).els.any (DA U b)) (λj c=>?_) ?_
 ·have d:=e.2 j c;exact oT (aU c) (oT (aF c) (oL (R5 U j (gD U j).els U.length c d.ins d.i) rfl (congrArg IX.again (nx c e.1.sane [] _).symm)))
 ·exact aM (aX _) (bG rfl)
theorem R7(c:gA U)(h:0<U.length):jZ E aZ sites YA [qH nm o V r U] (.b (Vs U)) []:=by
 refine bE uP (by rfl) rfl ?_;show Ev _ _ (UP _) _;unfold UP Vs;have d:=R4 nm o V r U c;have e:=R6 U c;cases e1:dW U.length (Qt U)with
 |true=>rw[e1]at d;exact aO d (bB (bM rfl rfl))
 |false=>
 rw[e1]at d;have j:cG (cZ U 0 (-1)):=by unfold cG cZ;rw[eQ];exact c.1.sane
 refine aO d (fD (bB (bW (SM nm o V r U c h) rfl (bW (Mp _ j) rfl ?_))));cases g:(cZ U 0 (-1)).any (λx=>!x.toB)with
 |true=>exact aC g (bM rfl rfl)
 |false=>
 refine aM g (bW (Vr nm o V r U c) rfl ?_);cases f:dW U.length (λb=>(gD U b).els.any (DA U b))with
 |true=>rw[f]at e;exact aO e (bB (bM rfl rfl))
 |false=>rw[f]at e;exact aO e (fD (bB (bM rfl rfl)))
end
theorem rW{b:Bool}:(!b)=true<->b=false:=by cases b<;>simp
theorem jH{l:LD}{p:D->Bool}:l.any p=false<->∀j,j<l.length->p (gD l j)=false:=
 ⟨YN,λh=>by rw[List.any_eq_false];intro x hx;obtain⟨i,c,e⟩:=List.getElem_of_mem hx;have:=h i c;rw[show gD l i=x by simp[gD,List.getD,c,e]]at this;rw[this];simp⟩
theorem B5{l:LD}:∀(k:Nat),(∀i,i<=k->phB l i=false)->aD (IL l k) 26=true->beh l k=false
 |0,_,_=>rfl
 |k+1,h,g=>by
  have c:=h (k+1) (Nat.le_refl _);unfold phB at c;rw[g,Vn (by omega),Nat.add_sub_cancel]at c;have d:aD (IL l k) 26=true:=by
   cases e:aD (IL l k) 26 with
   |true=>rfl
   |false=>rw[e]at c;cases c
  have f:=B5 k (λi j=>h i (by omega)) d;show(beh l k||!(aD (IL l k) 26))=false;rw[f,d];rfl
theorem aAN(op:Int):gU op=true<->27<=op/\op<=30:=by rw[<-Lt,Bool.and_eq_true,fN,fN]
theorem aG8{x:D}(c:j2 x)(f:gU (vI x 0)=true):OY x=Fl x:=by
 unfold OY Fl;have g:=(aAN _).1 f;by_cases e:vI x 0=28
 ·rw[e,c.i2 e];try rfl
 ·rw[nW e];have:(eX x 6).length≠2:=by
   by_cases d:vI x 0=27
   ·rw[c.i1 d];omega
   ·rw[c.i0 (by omega) d e];omega
  rw[nW (by omega)];try rfl
theorem aC1{l:LD}(c:0<l.length)(h:Ue l (l.length-1)=true):gU (IL l (l.length-1))=true:=by
 unfold Ue at h;cases e:gU (IL l (l.length-1))with
 |true=>rfl
 |false=>rw[e,pX]at h;cases h
theorem aC2(U:LD)(K:lO U):Vs U=mM U:=by
 rw[Bool.eq_iff_iff];unfold Vs mM;rw[Bool.and_eq_true,Bool.and_eq_true,Bool.and_eq_true,rW,rW,rW,rW,rW,bU,bU,bU,jH,jH];have Q:(cZ U 0 (-1)).length=U.length:=by unfold cZ;exact eQ _ _
 have G:∀j,j<U.length->(gD (cZ U 0 (-1)) j).toB=Gn U 0 (-1) j:=λj P=>congrArg D.toB (jV _ P);rw[Q];have key:∀b,b<U.length->(gD U b).els.length≠0->Ue (gD U b).els ((gD U b).els.length-1)=true->OY (gJ (gD U b))=Fl (gJ (gD U b)):=λb c V L=>
  aG8 (K b c _ (by omega)) (aC1 (by omega) L)
 constructor
 ·rintro⟨v,y,J⟩;have m:∀b,b<U.length->(gD U b).els.length≠0/\(∀k,k<(gD U b).els.length->OX b (gD U b).els k=false)/\(eX (gJ (gD U b)) 6).any (qK U.length)=false/\OY (gJ (gD U b))=false:=λb c=>by
   have:=v b c;unfold Qt at this;rw[Bool.or_eq_false_iff,Bool.or_eq_false_iff,Bool.or_eq_false_iff,bU]at this;exact⟨λe=>(by have l:=this.1;rw[e]at l;cases l),this.2.1,this.2.2.1,this.2.2.2⟩
  refine⟨λb c=>?_,λb c=>?_⟩
  ·obtain⟨r,h,s,t⟩:=m b c;unfold Q5;rw[Bool.or_eq_false_iff,Bool.or_eq_false_iff,Bool.or_eq_false_iff,bU];refine⟨nW (by omega),λk g=>?_,s,?_⟩
   ·have d:=h k g;unfold OX at d;unfold OW;rw[Bool.or_eq_false_iff]at d⊢;refine⟨d.1,?_⟩;unfold phB;by_cases H:k=0
    ·subst H;rfl
    ·cases e1:aD (IL (gD U b).els k) 26 with
     |false=>rw[Bool.and_false];rfl
     |true=>rw[e1,Bool.true_and,Bool.or_eq_false_iff]at d;have:=bU.1 d.2.1 (k-1) (by omega);rw[this,Bool.and_false]
   ·rw[<-key b c r (by
     have d:=h _ (show(gD U b).els.length-1<(gD U b).els.length by omega);unfold OX at d;rw[Bool.or_eq_false_iff,Bool.not_eq_false']at d;exact d.1)]
    exact t
  ·unfold TG;rw[Bool.or_eq_false_iff,jH];have F:=y b c;rw[G b c]at F;refine⟨F,λk g=>?_⟩;unfold FJ;have d:=(m b c).2.1 k g;unfold OX at d;rw[Bool.or_eq_false_iff]at d;cases e1:aD (vI (gD (gD U b).els k) 0) 26 with
   |false=>rfl
   |true=>have f:=d.2;rw[show aD (IL (gD U b).els k) 26=true from e1,Bool.true_and,Bool.or_eq_false_iff]at f;have u:=jH.1 (J b c) k g;unfold DA at u;rw[e1,Bool.true_and]at u;rw[f.2,u];rfl
 ·rintro⟨v,y⟩;have m:∀b,b<U.length->(gD U b).els.length≠0/\(∀k,k<(gD U b).els.length->OW (gD U b).els k=false)/\(eX (gJ (gD U b)) 6).any (qK U.length)=false/\Fl (gJ (gD U b))=false:=λb c=>by
   have:=v b c;unfold Q5 at this;rw[Bool.or_eq_false_iff,Bool.or_eq_false_iff,Bool.or_eq_false_iff,bU]at this;exact⟨λe=>(by have l:=this.1;rw[e]at l;cases l),this.2.1,this.2.2.1,this.2.2.2⟩
  have C:∀b,b<U.length->Gn U 0 (-1) b=true/\∀k,k<(gD U b).els.length->FJ U b (gD (gD U b).els k)=false:=λb c=>by have:=y b c;unfold TG at this;rw[Bool.or_eq_false_iff,Bool.not_eq_false',jH]at this;exact this
  refine⟨λb c=>?_,λb c=>?_,λb c=>?_⟩
  ·obtain⟨r,h,s,t⟩:=m b c;unfold Qt;rw[Bool.or_eq_false_iff,Bool.or_eq_false_iff,Bool.or_eq_false_iff,bU];refine⟨nW (by omega),λk g=>?_,s,?_⟩
   ·have d:=h k g;unfold OW at d;unfold OX;rw[Bool.or_eq_false_iff]at d⊢;refine⟨d.1,?_⟩;cases e1:aD (IL (gD U b).els k) 26 with
    |false=>rfl
    |true=>have f:=(C b c).2 k g;unfold FJ at f;rw[show aD (vI (gD (gD U b).els k) 0) 26=true from e1,Bool.true_and,Bool.or_eq_false_iff]at f;rw[f.1,B5 k (λi T=>by have:=h i (by omega);unfold OW at this;rw[Bool.or_eq_false_iff]at this;exact this.2) e1];rfl
   ·rw[key b c r (by
     have d:=h _ (show(gD U b).els.length-1<(gD U b).els.length by omega);unfold OW at d;rw[Bool.or_eq_false_iff,Bool.not_eq_false']at d;exact d.1)]
    exact t
  ·rw[G b c,(C b c).1];rfl
  ·rw[jH];intro k g;have f:=(C b c).2 k g;unfold FJ at f;unfold DA;cases e1:aD (vI (gD (gD U b).els k) 0) 26 with
   |false=>rfl
   |true=>rw[e1,Bool.true_and,Bool.or_eq_false_iff]at f;rw[f.2];rfl
theorem B6(nm:List UInt8)(o:Bool)(V:LD)(r:Int)(U:LD)(e:gA U)(d:lO U)(c:0<U.length):jZ E aZ sites YA [qH nm o V r U] (.b (mM U)) []:=by rw[<-aC2 U d];exact R7 nm o V r U e c
section
variable{U:LD}
theorem Vt{a:Nat}:¬RA U 0 (a:Int) a:=λh=>by
 generalize e:a=n at h;cases h with
 |base d f c=>exact c (by omega)
 |step _ _ c=>exact c (by omega)
theorem aF6{a:Int}{b c:Nat}(h:RA U 0 a c)(g:¬RA U 0 (b:Int) c):RA U 0 a b:=by
 induction h with
 |base f d l=>
  by_cases e:(0:Int)=b
  ·have:(b:Nat)=(0:Int).toNat:=by omega
   rw[this];exact RA.base f d l
  ·exact absurd (RA.base f d e) g
 |@step p c r j m s=>
  by_cases e:(c:Int)=b
  ·have:b=c:=by omega
   rw[this];exact RA.step r j m
  ·refine s λd=>g (RA.step d j e)
theorem aEr{a b:Nat}(m:RA U 0 (-1) a)(t:a≠b):RA U 0 (b:Int) a\/RA U 0 (a:Int) b:=by
 have key:∀c,RA U 0 (-1) c->(RA U 0 (a:Int) c/\RA U 0 (b:Int) c)\/RA U 0 (b:Int) a\/RA U 0 (a:Int) b:=by
  intro c l;induction l with
  |base d f s=>
   by_cases e:(0:Int)=a
   ·right;left;have:a=(0:Int).toNat:=by omega
    rw[this];exact RA.base d f (by omega)
   ·by_cases j:(0:Int)=b
    ·right;right;have:b=(0:Int).toNat:=by omega
     rw[this];exact RA.base d f (by omega)
    ·exact .inl ⟨RA.base d f e,RA.base d f j⟩
  |@step p c u g l r=>
   rcases r with⟨d,f⟩ |h
   ·by_cases e:(c:Int)=a
    ·right;left;have:a=c:=by omega
     rw[this];exact RA.step f g (by omega)
    ·by_cases j:(c:Int)=b
     ·right;right;have:b=c:=by omega
      rw[this];exact RA.step d g (by omega)
     ·exact .inl ⟨RA.step d g e,RA.step f g j⟩
   ·exact .inr h
 rcases key a m with⟨h,_⟩ |h
 ·exact absurd h Vt
 ·exact h
theorem aC3{a b:Nat}(t:a≠b)(l:RA U 0 (a:Int) b)(m:RA U 0 (b:Int) a):∀{c:Nat},RA U 0 (-1) c->RA U 0 (a:Int) c\/RA U 0 (b:Int) c:=by
 intro c g;induction g with
 |base d f s=>
  by_cases e:(0:Int)=a
  ·exact .inr (RA.base d f (by omega))
  ·exact .inl (RA.base d f e)
 |@step p c u j g r=>
  rcases r with h |h
  ·by_cases e:(c:Int)=a
   ·have:c=a:=by omega
    rw[this];exact .inr m
   ·exact .inl (RA.step h j e)
  ·by_cases e:(c:Int)=b
   ·have:c=b:=by omega
    rw[this];exact .inl l
   ·exact .inr (RA.step h j e)
end
noncomputable def dM(U:LD)(a b:Nat):Bool:=Gn U 0 (-1) a&&(Gn U 0 (-1) b&&!(Gn U 0 (a:Int) b))
def aK(n:Nat)(g:Nat->D):LD:=(List.range n).map g
theorem cO(n:Nat)(g:Nat->D):(aK n g).length=n:=by simp[aK]
theorem dX{n i:Nat}(g:Nat->D)(h:i<n):gD (aK n g) i=g i:=by simp[gD,List.getD,aK,h]
theorem dU{n:Nat}{f g:Nat->D}(h:∀i,i<n->f i=g i):aK n f=aK n g:=by
 apply List.ext_getElem
 ·simp[aK]
 ·intro k c d;simp only[aK,List.length_map,List.length_range]at c;simp[aK,h k c]
def fV(g:Nat->D)(a:Nat)(v:D):Nat->D:=λi=>bif Nat.beq i a then v else g i
theorem fK(g:Nat->D)(a:Nat)(v:D):fV g a v a=v:=by simp[fV]
theorem oB(g:Nat->D){a i:Nat}(v:D)(h:i≠a):fV g a v i=g i:=by
 unfold fV;cases e:Nat.beq i a with
 |true=>exact absurd (Nat.eq_of_beq_eq_true e) h
 |false=>rfl
theorem oD{n a:Nat}(g:Nat->D)(v:D):(aK n g).set a v=aK n (fV g a v):=by
 apply List.ext_getElem
 ·simp[aK]
 ·intro k c d;rw[List.getElem_set];by_cases e:a=k
  ·subst e;simp[aK,fK]
  ·simp[aK,e,oB g v (Ne.symm e)]
theorem IM(g:Nat->D)(a:Nat)(v w:D):fV (fV g a v) a w=fV g a w:=by
 funext i;by_cases e:i=a
 ·subst e;rw[fK,fK]
 ·rw[oB _ _ e,oB _ _ e,oB _ _ e]
noncomputable def IN(U:LD)(a i:Nat):D:=bif decide (i<a)then .l (aQ U.length (dM U i))else .l []
theorem Hh{U:LD}{a i:Nat}(h:i<a):IN U a i=.l (aQ U.length (dM U i)):=by unfold IN;rw[decide_eq_true h];rfl
theorem j3{U:LD}{a i:Nat}(h:¬i<a):IN U a i=.l []:=by unfold IN;rw[decide_eq_false h];rfl
theorem aAO(U:LD)(a:Nat):∀i,fV (IN U a) a (.l (aQ U.length (dM U a))) i=IN U (a+1) i:=λi=>by
 by_cases e:i=a
 ·subst e;rw[fK,Hh (by omega)]
 ·rw[oB _ _ e];by_cases h:i<a
  ·rw[Hh h,Hh (by omega)]
  ·rw[j3 h,j3 (by omega)]
noncomputable def gC(U:LD):LD:=aK U.length (λa=>.l (aQ U.length (dM U a)))
theorem BR(U:LD):(gC U).length=U.length:=cO _ _
theorem OZ{U:LD}{a:Nat}(h:a<U.length):gD (gC U) a=.l (aQ U.length (dM U a)):=dX _ h
theorem B7{n j:Nat}(f:Nat->Bool)(h:j<n):(aQ n (λi=>decide (i<j)&&f i)).set j (.b (f j))=aQ n (λi=>decide (i<j+1)&&f i):=Mm f h
theorem B8(n:Nat)(f:Nat->Bool):aQ n (λi=>decide (i<n)&&f i)=aQ n f:=nC λi c=>by rw[decide_eq_true c,Bool.true_and]
theorem Qu(n:Nat)(f:Nat->Bool):aQ n (λi=>decide (i<0)&&f i)=List.replicate n (.b false):=by rw[<-lV];exact nC λi _=>rfl
section
variable(nm:List UInt8)(o:Bool)(V:LD)(r:Int)(U:LD)(hT:gA U)
include hT
theorem aAP(a:Nat)(h:a<U.length)(s:Gn U 0 (-1) a=true)(g:Nat->D):
  fS QO 2 [.i 0,.i (a:Int),.s nm,.b o,.l V,.i r,.l U,.l (aK U.length (fV g a (.l (List.replicate U.length (.b false))))),.l (cZ U 0 (-1)),.l (cZ U 0 a)] (0,[.i (a:Int),.s nm,.b o,.l V,.i r,.l U,.l (aK U.length (fV g a (.l (aQ U.length (dM U a))))),.l (cZ U 0 (-1))]):=by
 rw[<-Qu U.length (dM U a),<-B8 U.length (dM U a)];have f:(cZ U 0 (-1)).length=U.length:=by unfold cZ;exact eQ _ _
 have t:(cZ U 0 a).length=U.length:=by unfold cZ;exact eQ _ _
 refine dF QP (λj=>[.i (j:Int),.i (a:Int),.s nm,.b o,.l V,.i r,.l U,.l (aK U.length (fV g a (.l (aQ U.length (λi=>decide (i<j)&&dM U a i))))),.l (cZ U 0 (-1)),.l (cZ U 0 a)]) U.length (λj c=>?_) ?_
 ·have hg:gD (aK U.length (fV g a (.l (aQ U.length (λi=>decide (i<j)&&dM U a i))))) a=.l (aQ U.length (λi=>decide (i<j)&&dM U a i)):=(dX _ h).trans (fK _ _ _);refine aC ?_ (aC ?_ (aC ?_ (aC ?_ (aC ?_ (aP ((nx c hT.1.sane [] _).trans ?_))))))
  ·show aT (j:Int) (cZ U 0 (-1)).length=true;rw[f];exact aU c
  ·show aA (a:Int) (aK U.length _).length=true;rw[cO];exact aF h
  ·show aA (j:Int) (cZ U 0 (-1)).length=true;rw[f];exact aF c
  ·refine aH ?_;show aA (j:Int) (cZ U 0 a).length=true;rw[t];exact aF c
  ·show aA (j:Int) (D.els (gD (aK U.length (fV g a (.l (aQ U.length (λi=>decide (i<j)&&dM U a i))))) a)).length=true;rw[hg];show aA (j:Int) (aQ U.length _).length=true;rw[eQ];exact aF c
  ·have e1:(gD (cZ U 0 (-1)) j).toB=Gn U 0 (-1) j:=congrArg D.toB (jV _ c);have l:(gD (cZ U 0 a) j).toB=Gn U 0 a j:=congrArg D.toB (jV _ c);have m:((gD (cZ U 0 (-1)) j).toB&&(aD (a:Int) (j:Int)||!(gD (cZ U 0 a) j).toB))=dM U a j:=by
    rw[e1,l];unfold dM;rw[s,Bool.true_and];by_cases e:a=j
    ·subst e;have:Gn U 0 (a:Int) a=false:=by
      cases d:Gn U 0 (a:Int) a with
      |false=>rfl
      |true=>exact absurd (AD.1 d) Vt
     rw[this,pX];rfl
    ·rw[nW (by omega)];rfl
   have d:(aK U.length (fV g a (.l (aQ U.length (λi=>decide (i<j)&&dM U a i))))).set a (.l ((D.els (gD (aK U.length (fV g a (.l (aQ U.length (λi=>decide (i<j)&&dM U a i))))) a)).set j (.b ((gD (cZ U 0 (-1)) j).toB&&(aD (a:Int) (j:Int)||!(gD (cZ U 0 a) j).toB)))))=aK U.length (fV g a (.l (aQ U.length (λi=>decide (i<j+1)&&dM U a i)))):=by rw[hg,m,oD,IM];show aK U.length (fV g a (.l ((aQ U.length (λi=>decide (i<j)&&dM U a i)).set j (.b (dM U a j)))))=_;rw[B7 _ c]
   rw[<-d];rfl
 ·refine aM ?_ (bG rfl);show aT (U.length:Int) (cZ U 0 (-1)).length=false;rw[f];exact aX _
theorem R8:jZ E aZ sites Uq [qH nm o V r U] (.l (gC U)) []:=by
 refine bE QP (by rfl) rfl ?_;show Ev _ _ (Bc _) _;unfold Bc;have ht:=hT.1;unfold fH at ht;have m:∀k,k<=1000->jN (Int.toNat (U.length:Int)) k=true:=λk v=>fA (by omega) v;have f:(cZ U 0 (-1)).length=U.length:=by unfold cZ;exact eQ _ _
 have l:fS QO 0 [.i 0,.s nm,.b o,.l V,.i r,.l U,.l (aK U.length (IN U 0)),.l (cZ U 0 (-1))] (0,[.l (aK U.length (IN U U.length))]):=by
  refine dF QP (λj=>[.i (j:Int),.s nm,.b o,.l V,.i r,.l U,.l (aK U.length (IN U j)),.l (cZ U 0 (-1))]) U.length (λj c=>?_) ?_
  ·have s:List.replicate (cZ U 0 (-1)).length (D.b false)=List.replicate U.length (.b false):=by rw[f]
   have e1:(gD (cZ U 0 (-1)) j).toB=Gn U 0 (-1) j:=congrArg D.toB (jV _ c);have g:(aK U.length (IN U j)).set j (.l (List.replicate (cZ U 0 (-1)).length (.b false)))=aK U.length (fV (IN U j) j (.l (List.replicate U.length (.b false)))):=by rw[s,oD]
   have h:aK U.length (fV (IN U j) j (.l (aQ U.length (dM U j))))=aK U.length (IN U (j+1)):=dU λi _=>aAO U j i;refine aC (show aT (j:Int) (aK U.length (IN U j)).length=true by rw[cO];exact aU c) (aC ?_ (aC ?_ (aC ?_ ?_)))
   ·show(cX 0 ((cZ U 0 (-1)).length:Int)&&(aD ((cZ U 0 (-1)).length:Int) ((cZ U 0 (-1)).length:Int)&&jN (Int.toNat ((cZ U 0 (-1)).length:Int)) 1))=true;rw[f,jS (by omega),pX,m 1 (by omega)];rfl
   ·show aA (j:Int) (aK U.length (IN U j)).length=true;rw[cO];exact aF c
   ·show aA (j:Int) (cZ U 0 (-1)).length=true;rw[f];exact aF c
   ·cases e:Gn U 0 (-1) j with
    |false=>
     refine aC ?_ (aP ((nx c hT.1.sane [] _).trans ?_))
     ·show(!(gD (cZ U 0 (-1)) j).toB)=true;rw[e1,e];rfl
     ·have t:aQ U.length (dM U j)=List.replicate U.length (.b false):=by
       rw[<-lV];exact nC λi _=>by unfold dM;rw[e];rfl
      rw[<-h,t,<-g];rfl
    |true=>
     refine aM ?_ (bW (Mj nm o V r U hT 0 j) rfl ?_)
     ·show(!(gD (cZ U 0 (-1)) j).toB)=false;rw[e1,e];rfl
     ·have d:=aAP nm o V r U hT j c e (IN U j);rw[<-g,h]at d;exact aO d (bB (aP (nx c hT.1.sane [] _)))
  ·exact aM (show aT (U.length:Int) (aK U.length (IN U U.length)).length=false by rw[cO];exact aX _) (bG rfl)
 have y:aK U.length (IN U 0)=List.replicate U.length (D.l []):=by
  apply List.ext_getElem
  ·simp[aK]
  ·intro k F d;simp[aK,IN]
 have C:aK U.length (IN U U.length)=gC U:=dU λi u=>Hh u;rw[y,C]at l;refine aC ?_ (bW (Fj nm o V r U hT) rfl (aO l (bB (bM rfl rfl))));show(cX 0 (U.length:Int)&&(aD (U.length:Int) (U.length:Int)&&jN (Int.toNat (U.length:Int)) 24))=true;rw[jS (by omega),pX,m 24 (by omega)];rfl
end
def eN(x:D):Bool:=!(aD (vI x 1) 0)
def DB(q l:LD):LD:=l.foldl (λq x=>bif eN x then q++[.i (vI x 1)]else q) q
def bI(V U:LD):LD:=U.foldl (λq b=>DB q b.els) ([.i 0]++V)
def dV(l:LD):Nat->Nat
 |0=>0
 |k+1=>dV l k+bif eN (gD l k)then 1 else 0
def aJ(np:Nat)(U:LD):Nat->Nat
 |0=>np
 |b+1=>aJ np U b+dV (gD U b).els (gD U b).els.length
def lE(np:Nat)(U:LD)(b k:Nat):Nat:=aJ np U b+dV (gD U b).els k+1
theorem YU(l:LD):∀k,dV l k<=k
 |0=>Nat.le_refl _
 |k+1=>by have:=YU l k;unfold dV;cases eN (gD l k)<;>simp<;>omega
theorem IP(l:LD){i:Nat}:∀{k:Nat},i<=k->dV l i<=dV l k
 |0,h=>by rw[Nat.le_zero.1 h];exact Nat.le_refl _
 |k+1,h=>by
  by_cases e:i=k+1
  ·rw[e];exact Nat.le_refl _
  ·have:=IP l (i:=i) (k:=k) (by omega);rw[dV];omega
theorem YV{l:LD}{i k:Nat}(h:i<k)(ht:eN (gD l i)=true):dV l i<dV l k:=by
 have c:dV l (i+1)=dV l i+1:=by rw[dV,ht];rfl
 have d:=IP l (show i+1<=k by omega);omega
theorem FK(np:Nat)(U:LD){a:Nat}:∀{b:Nat},a<=b->aJ np U a<=aJ np U b
 |0,h=>by rw[Nat.le_zero.1 h];exact Nat.le_refl _
 |b+1,h=>by
  by_cases e:a=b+1
  ·rw[e];exact Nat.le_refl _
  ·have:=FK np U (a:=a) (b:=b) (by omega);rw[aJ];omega
theorem B9{np:Nat}{U:LD}(hT:gA U):∀b,b<=U.length->aJ np U b<=np+b*10000
 |0,_=>by simp[aJ]
 |b+1,h=>by have d:=B9 (np:=np) hT b (by omega);have e:=YU (gD U b).els (gD U b).els.length;have c:=(hT.2 b (by omega)).ins;unfold fH at c;rw[aJ];omega
theorem PA(np:Nat)(U:LD)(b:Nat):np<=aJ np U b:=FK np U (Nat.zero_le b)
structure MC(np:Nat)(U:LD)(v:Nat)(q:Nat×Nat):Prop where
 b:q.1<U.length
 k:q.2<(gD U q.1).els.length
 t:eN (gD (gD U q.1).els q.2)=true
 v:v=lE np U q.1 q.2
theorem aF7{np:Nat}{U:LD}{b k b' d:Nat}(h:b<b'\/b=b'/\k<d)(e:k<(gD U b).els.length)(ht:eN (gD (gD U b).els k)=true):lE np U b k<lE np U b' d:=by
 unfold lE;rcases h with h |⟨h,c⟩
 ·have f:=YV e ht;have c:=FK np U (show b+1<=b' by omega);rw[aJ]at c;omega
 ·subst h;have:=YV c ht;omega
theorem YW{np:Nat}{U:LD}{v:Nat}{q p:Nat×Nat}(d:MC np U v q)(e:MC np U v p):q=p:=by
 obtain⟨b,k⟩:=q;obtain⟨b',j⟩:=p;have e1:=d.v;have f:=e.v;simp only at e1 f;have key:∀{x c:Nat×Nat},MC np U v x->MC np U v c->¬(x.1<c.1\/x.1=c.1/\x.2<c.2):=λhx g h=>by have:=aF7 (np:=np) h hx.k hx.t;rw[<-hx.v,<-g.v]at this;omega
 have l:=key d e;have m:=key e d;simp only at l m;have:b=b':=by omega
 subst this;have:k=j:=by omega
 subst this;rfl
open Classical in
noncomputable def Oh(np:Nat)(U:LD)(v:Nat):Int×Int:=if h:∃q,MC np U v q then(((Classical.choose h).1 :Int),((Classical.choose h).2 :Int))else(-1,-1)
theorem GW{np:Nat}{U:LD}{v:Nat}{q:Nat×Nat}(h:MC np U v q):Oh np U v=((q.1:Int),(q.2:Int)):=by have c:∃q,MC np U v q:=⟨q,h⟩;unfold Oh;rw[dif_pos c,YW (Classical.choose_spec c) h]
theorem j4{np:Nat}{U:LD}{v:Nat}(h:v<=np):Oh np U v=(-1,-1):=by unfold Oh;rw[dif_neg];rintro⟨q,d⟩;have c:=d.v;have e:=PA np U q.1;unfold lE at c;omega
theorem Mq{np:Nat}{U:LD}:∀(b:Nat),b<=U.length->∀v,np<v->v<=aJ np U b->∃q,q.1<b/\MC np U v q
 |0,_,v,l,d=>by unfold aJ at d;omega
 |b+1,s,v,l,d=>by
  by_cases h:v<=aJ np U b
  ·obtain⟨q,c,f⟩:=Mq b (by omega) v l h;exact⟨q,by omega,f⟩
  ·have key:∀k,k<=(gD U b).els.length->v<=aJ np U b+dV (gD U b).els k->∃i,i<k/\eN (gD (gD U b).els i)=true/\v=lE np U b i:=by
    intro k;induction k with
    |zero=>intro _ c;unfold dV at c;omega
    |succ k r=>
     intro t c;by_cases f:v<=aJ np U b+dV (gD U b).els k
     ·obtain⟨i,m,g,j⟩:=r (by omega) f;exact⟨i,by omega,g,j⟩
     ·rw[dV]at c;cases e:eN (gD (gD U b).els k)with
      |false=>rw[e]at c;simp at c;omega
      |true=>rw[e]at c;simp at c;exact⟨k,by omega,e,by unfold lE;omega⟩
   rw[aJ]at d;obtain⟨i,m,g,j⟩:=key _ (Nat.le_refl _) d;exact⟨(b,i),by simp,⟨by show b<U.length;omega,m,g,j⟩⟩
theorem IQ:∀(l q:LD),(DB q l).length=q.length+(l.filter eN).length
 |[],q=>rfl
 |x::l,q=>by
  show(DB (bif eN x then q++[.i (vI x 1)]else q) l).length=_;rw[IQ l];cases e:eN x with
  |true=>simp[e];omega
  |false=>simp[e]
theorem Cm(l:LD):∀k,k<=l.length->dV l k=((l.take k).filter eN).length
 |0,_=>by simp[dV]
 |k+1,h=>by
  have c:k<l.length:=by omega
  have d:gD l k=l[k]:=by simp[gD,List.getD,c]
  rw[dV,Cm l k (by omega),List.take_succ_eq_append_getElem c,List.filter_append,List.length_append,d];cases e:eN l[k]<;>simp[e]
theorem YX(l:LD):dV l l.length=(l.filter eN).length:=by rw[Cm l _ (Nat.le_refl _),List.take_length]
theorem zP(V U:LD):(bI V U).length=aJ V.length U U.length+1:=by
 have key:∀b,b<=U.length->((U.take b).foldl (λq b=>DB q b.els) ([.i 0]++V)).length=aJ V.length U b+1:=by
  intro b;induction b with
  |zero=>intro _;simp[aJ]
  |succ b e=>
   intro h;have c:b<U.length:=by omega
   have d:gD U b=U[b]:=by simp[gD,List.getD,c]
   rw[List.take_succ_eq_append_getElem c,List.foldl_append,aJ,d,YX];show(DB _ U[b].els).length=_;rw[IQ,e (by omega)];omega
 have:=key U.length (Nat.le_refl _);rw[List.take_length]at this;exact this
section
variable(nm:List UInt8)(o:Bool)(V:LD)(r:Int)(U:LD)(hp:fH V)(hT:gA U)
include hT
theorem R9(b:Nat)(c:b<U.length)(q:LD)(m:q.length<=100000+b*10000):
  fS KY 2 [.i 0,.i (b:Int),.s nm,.b o,.l V,.i r,.l U,.l q] (0,[.i (b:Int),.s nm,.b o,.l V,.i r,.l U,.l (DB q (gD U b).els)]):=by
 have f:=(hT.2 b c).ins;have l:=hT.1;have g:=f.sane;unfold fH at f l;refine sB KZ (λj(q:LD)=>[.i (j:Int),.i (b:Int),.s nm,.b o,.l V,.i r,.l U,.l q]) (gD U b).els (λq x=>bif eN x then q++[.i (vI x 1)]else q) (λq=>(0,[.i (b:Int),.s nm,.b o,.l V,.i r,.l U,.l q])) (λj p=>p.length<=q.length+j) (λj p d hp=>⟨?_,?_⟩) (λp hp=>?_) (s0:=q) (Nat.le_refl _)
 ·cases eN (gD (gD U b).els j)<;>simp<;>omega
 ·refine aC (aF c) (aC (aU d) (aC (aF c) (aC (aF d) ?_)));cases e:eN (gD (gD U b).els j)with
  |true=>
   have h:p.length+1<=1000000000:=by have:=Nat.mul_le_mul (show b<=10000 by omega) (Nat.le_refl 10000);omega
   exact aC e (aC (fA h (by omega)) (aP (nx d g [] _)))
  |false=>exact aM e (aP (nx d g [] _))
 ·exact aC (aF c) (aM (aX _) (bG rfl))
include hp
theorem PB:jZ E aZ sites NV [qH nm o V r U] (.l (bI V U)) []:=by
 refine bE KZ (by rfl) rfl ?_;show Ev _ _ (UL _) _;unfold UL;unfold fH at hp;have e:fS KY 0 [.i 0,.s nm,.b o,.l V,.i r,.l U,.l ([.i 0]++V)] (0,[.l (bI V U)]):=by
  refine sB KZ (λj(q:LD)=>[.i (j:Int),.s nm,.b o,.l V,.i r,.l U,.l q]) U (λq b=>DB q b.els) (λq=>(0,[.l q])) (λj p=>p.length<=100000+j*10000) (λj p c hp=>⟨?_,?_⟩) (λp hp=>?_) (s0:=[.i 0]++V) (by simp;omega)
  ·have d:=(hT.2 j c).ins;unfold fH at d;rw[IQ,<-YX];have:=YU (gD U j).els (gD U j).els.length;omega
  ·exact aC (aU c) (aO (R9 nm o V r U hT j c p hp) (bB (aP (nx c hT.1.sane [] _))))
  ·exact aM (aX _) (bG rfl)
 refine aC ?_ (aO e (bB (bM rfl rfl)));show jN (1+V.length) 8=true;exact fA (by omega) (by omega)
theorem BS:aJ V.length U U.length<=200000000:=by unfold fH at hp;have d:=B9 (np:=V.length) hT U.length (Nat.le_refl _);have c:=hT.1;unfold fH at c;have:=Nat.mul_le_mul (show U.length<=10000 by omega) (Nat.le_refl 10000);omega
theorem YY:jZ E aZ sites QJ [qH nm o V r U] (.i (aJ V.length U U.length:Int)) []:=by refine bE Fa (by rfl) rfl ?_;refine bW (PB nm o V r U hp hT) rfl (bM (congrArg D.i ?_) rfl);have c:=BS V U hp hT;show _=bD .i64 (((bI V U).length:Int)-1);rw[zP,wA (by omega) (by omega)];omega
end
theorem Oi{n:Nat}(h:n<=1000000000):bJ .i64 (n:Int) 1=((n+1:Nat):Int):=fU (n:=n+1) (by omega) (by omega)
theorem rX(n:Nat)(z:D):aK n (λ_=>z)=List.replicate n z:=by simp[aK,List.map_const']
noncomputable def Gp(np:Nat)(U:LD)(v:Nat):D:=.l [.i (Oh np U v).1,.i (Oh np U v).2]
noncomputable def gW(np:Nat)(U:LD)(c v:Nat):D:=bif decide (v<c)then Gp np U v else .l [.i 0,.i 0]
theorem j5{np:Nat}{U:LD}{c v:Nat}(h:v<c):gW np U c v=Gp np U v:=by unfold gW;rw[decide_eq_true h];rfl
theorem C0{np:Nat}{U:LD}{c v:Nat}(h:¬v<c):gW np U c v=.l [.i 0,.i 0]:=by unfold gW;rw[decide_eq_false h];rfl
theorem j6(np:Nat)(U:LD)(c:Nat)(w:D)(d:w=Gp np U c):∀i,fV (gW np U c) c w i=gW np U (c+1) i:=λi=>by
 by_cases e:i=c
 ·subst e;rw[fK,j5 (by omega),d]
 ·rw[oB _ _ e];by_cases h:i<c
  ·rw[j5 h,j5 (by omega)]
  ·rw[C0 h,C0 (by omega)]
noncomputable def BY(np:Nat)(U:LD):LD:=aK (aJ np U U.length+1) (Gp np U)
theorem aC4{N k:Nat}{g:Nat->D}{c d:D}(a b:D)(e:k<N)(hg:g k=.l [c,d]):
  (let z0:=(aK N g).set k (D.l (cP (D.els (gD (aK N g) k)) 0 a));z0.set k (D.l (cP (D.els (gD z0 k)) 1 b)))=aK N (fV g k (.l [a,b])):=by
 have f:gD (aK N g) k=.l [c,d]:=(dX g e).trans hg;have h:(aK N g).set k (D.l (cP (D.els (gD (aK N g) k)) 0 a))=aK N (fV g k (.l [a,d])):=by rw[f];exact oD _ _
 dsimp only;rw[h,dX _ e,fK,oD,IM];rfl
theorem Qv(np:Nat)(U:LD)(b:Nat):aJ np U (b+1)=aJ np U b+dV (gD U b).els (gD U b).els.length:=rfl
theorem Fm{l:LD}{k:Nat}(h:eN (gD l k)=true):dV l (k+1)=dV l k+1:=by rw[dV,h];rfl
theorem Mr{l:LD}{k:Nat}(h:eN (gD l k)=false):dV l (k+1)=dV l k:=by rw[dV,h];rfl
theorem Cn{np:Nat}{U:LD}{b k:Nat}(f:b<U.length)(d:k<=(gD U b).els.length):aJ np U b+dV (gD U b).els k<=aJ np U U.length:=by have e:=IP (gD U b).els d;have c:=FK np U (show b+1<=U.length by omega);rw[Qv]at c;omega
theorem Vu{np:Nat}{U:LD}{b k:Nat}(d:b<U.length)(e:k<(gD U b).els.length)(ht:eN (gD (gD U b).els k)=true):lE np U b k<=aJ np U U.length:=by have c:=Cn (np:=np) d (show k+1<=_ by omega);rw[Fm ht]at c;unfold lE;omega
theorem aF8{np:Nat}{U:LD}{b k:Nat}(c:b<U.length)(d:k<(gD U b).els.length)(ht:eN (gD (gD U b).els k)=true):Gp np U (lE np U b k)=.l [.i (b:Int),.i (k:Int)]:=by unfold Gp;rw[GW (q:=(b,k)) ⟨c,d,ht,rfl⟩]
section
variable(nm:List UInt8)(o:Bool)(V:LD)(r:Int)(U:LD)(hp:fH V)(hT:gA U)
include hp hT
theorem S0(b:Nat)(c:b<U.length):
  fS zN 4 [.i 0,.i (aJ V.length U b:Int),.i (b:Int),.s nm,.b o,.l V,.i r,.l U,.l (aK (aJ V.length U U.length+1) (gW V.length U (aJ V.length U b+1)))] (0,[.i (aJ V.length U (b+1):Int),.i (b:Int),.s nm,.b o,.l V,.i r,.l U,.l (aK (aJ V.length U U.length+1) (gW V.length U (aJ V.length U (b+1)+1)))]):=by
 have f:=(hT.2 b c).ins.sane;have t:=BS V U hp hT;refine dF FA (λk=>[.i (k:Int),.i ((aJ V.length U b+dV (gD U b).els k:Nat):Int),.i (b:Int),.s nm,.b o,.l V,.i r,.l U,.l (aK (aJ V.length U U.length+1) (gW V.length U (aJ V.length U b+dV (gD U b).els k+1)))]) (gD U b).els.length (λk d=>?_) ?_
 ·refine aC (aF c) (aC (aU d) (aC (aF c) (aC (aF d) ?_)));have u:=Cn (np:=V.length) c (Nat.le_of_lt d);cases e:eN (gD (gD U b).els k)with
  |true=>
   have hv:=Vu (np:=V.length) c d e;have e1:bJ .i64 ((aJ V.length U b+dV (gD U b).els k:Nat):Int) 1=((lE V.length U b k:Nat):Int):=Oi (by omega);have h:Int.toNat (bJ .i64 ((aJ V.length U b+dV (gD U b).els k:Nat):Int) 1)=lE V.length U b k:=by rw[e1];rfl
   have s:aJ V.length U b+dV (gD U b).els (k+1)=lE V.length U b k:=by rw[Fm e];rfl
   have j:=aC4 (N:=aJ V.length U U.length+1) (k:=lE V.length U b k) (g:=gW V.length U (lE V.length U b k)) (.i (b:Int)) (.i (k:Int)) (by omega) (C0 (by omega));have l:=dU (n:=aJ V.length U U.length+1) λi _=>j6 V.length U (lE V.length U b k) (.l [.i (b:Int),.i (k:Int)]) (aF8 c d e).symm i;have m:(let z0:=(aK (aJ V.length U U.length+1) (gW V.length U (aJ V.length U b+dV (gD U b).els k+1))).set (Int.toNat (bJ .i64 ((aJ V.length U b+dV (gD U b).els k:Nat):Int) 1)) (D.l (cP (D.els (gD (aK (aJ V.length U U.length+1) (gW V.length U (aJ V.length U b+dV (gD U b).els k+1))) (Int.toNat (bJ .i64 ((aJ V.length U b+dV (gD U b).els k:Nat):Int) 1)))) 0 (.i (b:Int))));z0.set (Int.toNat (bJ .i64 ((aJ V.length U b+dV (gD U b).els k:Nat):Int) 1)) (D.l (cP (D.els (gD z0 (Int.toNat (bJ .i64 ((aJ V.length U b+dV (gD U b).els k:Nat):Int) 1)))) 1 (.i (k:Int)))))=aK (aJ V.length U U.length+1) (gW V.length U (lE V.length U b k+1)):=by rw[h];exact j.trans l
   refine aC e (aC ?_ (aP ((nx d f [] _).trans ?_)))
   ·show aA (bJ .i64 ((aJ V.length U b+dV (gD U b).els k:Nat):Int) 1) (aK _ _).length=true;rw[e1,cO];exact aF (by omega)
   ·show D.i (bJ .i64 (k:Int) 1)::[.i ((aJ V.length U b+dV (gD U b).els (k+1):Nat):Int),.i (b:Int),.s nm,.b o,.l V,.i r,.l U,.l (aK (aJ V.length U U.length+1) (gW V.length U (aJ V.length U b+dV (gD U b).els (k+1)+1)))]=_;rw[s,<-m,<-e1];rfl
  |false=>refine aM e (aP ((nx d f [] _).trans ?_));show D.i (bJ .i64 (k:Int) 1)::[.i ((aJ V.length U b+dV (gD U b).els (k+1):Nat):Int),.i (b:Int),.s nm,.b o,.l V,.i r,.l U,.l (aK (aJ V.length U U.length+1) (gW V.length U (aJ V.length U b+dV (gD U b).els (k+1)+1)))]=_;rw[Mr e];rfl
 ·exact aC (aF c) (aM (aX _) (bG rfl))
theorem S2:fS zN 2 [.i (V.length:Int),.i 0,.s nm,.b o,.l V,.i r,.l U,.l (aK (aJ V.length U U.length+1) (gW V.length U (V.length+1)))] (0,[.l (BY V.length U)]):=by
 have l:=hT.1.sane;have d:fS zN 2 [.i (aJ V.length U 0:Int),.i ((0:Nat):Int),.s nm,.b o,.l V,.i r,.l U,.l (aK (aJ V.length U U.length+1) (gW V.length U (aJ V.length U 0+1)))] (0,[.l (aK (aJ V.length U U.length+1) (gW V.length U (aJ V.length U U.length+1)))]):=by
  refine dF FA (λj=>[.i (aJ V.length U j:Int),.i (j:Int),.s nm,.b o,.l V,.i r,.l U,.l (aK (aJ V.length U U.length+1) (gW V.length U (aJ V.length U j+1)))]) U.length (λj c=>?_) ?_
  ·exact aC (aU c) (aO (S0 nm o V r U hp hT j c) (bB (aP (nx c l [.i (aJ V.length U (j+1):Int)] _))))
  ·exact aM (aX _) (bG rfl)
 have e:=dU (n:=aJ V.length U U.length+1) (f:=gW V.length U (aJ V.length U U.length+1)) (g:=Gp V.length U) λi h=>j5 h;rw[e]at d;exact d
omit hT in
theorem S3:fS zN 0 [.i 0,.s nm,.b o,.l V,.i r,.l U,.l (List.replicate (aJ V.length U U.length+1) (D.l [.i 0,.i 0]))] (0,[.s nm,.b o,.l V,.i r,.l U,.l (aK (aJ V.length U U.length+1) (gW V.length U (V.length+1)))]):=by
 have s:=PA V.length U U.length;have l:=hp;unfold fH at l;have d:List.replicate (aJ V.length U U.length+1) (D.l [.i 0,.i 0])=aK (aJ V.length U U.length+1) (gW V.length U 0):=by have:=dU (n:=aJ V.length U U.length+1) (f:=gW V.length U 0) (g:=λ_=>D.l [.i 0,.i 0]) λi _=>C0 (by omega);rw[this,rX]
 rw[d];refine dF FA (λj=>[.i (j:Int),.s nm,.b o,.l V,.i r,.l U,.l (aK (aJ V.length U U.length+1) (gW V.length U j))]) (V.length+1) (λj m=>?_) ?_
 ·have e:=aC4 (N:=aJ V.length U U.length+1) (k:=j) (g:=gW V.length U j) (.i (-1)) (.i (-1)) (by omega) (C0 (by omega));have h:=dU (n:=aJ V.length U U.length+1) λi _=>j6 V.length U j (.l [.i (-1),.i (-1)]) (by unfold Gp;rw[j4 (by omega)]) i;have c:=e.trans h;dsimp only at c;refine aC (jS (by show(j:Int)<=(V.length:Int);omega)) (aC ?_ (aP ((nx m (by omega) [] _).trans ?_)))
  ·show aA (j:Int) (aK _ _).length=true;rw[cO];exact aF (by omega)
  ·show D.i (bJ .i64 (j:Int) 1)::[.s nm,.b o,.l V,.i r,.l U,.l (aK (aJ V.length U U.length+1) (gW V.length U (j+1)))]=_;rw[<-c];rfl
 ·exact aM (aAC (by show(V.length:Int)<((V.length+1:Nat):Int);omega)) (bG rfl)
theorem C1:jZ E aZ sites Kp [qH nm o V r U] (.l (BY V.length U)) []:=by
 refine bE FA (by rfl) rfl ?_;show Ev _ _ (UM _) _;unfold UM;have e:=BS V U hp hT;have e1:bJ .i64 (aJ V.length U U.length:Int) 1=((aJ V.length U U.length+1:Nat):Int):=Oi (by omega);have c:Int.toNat (bJ .i64 (aJ V.length U U.length:Int) 1)=aJ V.length U U.length+1:=by rw[e1];rfl
 refine bW (YY nm o V r U hp hT) rfl (aC ?_ ?_)
 ·show(cX 0 (bJ .i64 (aJ V.length U U.length:Int) 1)&&(aD (bJ .i64 (aJ V.length U U.length:Int) 1) (bJ .i64 (aJ V.length U U.length:Int) 1)&&jN (Int.toNat (bJ .i64 (aJ V.length U U.length:Int) 1)) 16))=true;rw[c,e1,jS (by omega),pX,fA (by omega) (by omega)];rfl
 ·have d:=S3 nm o V r U hp;rw[<-c]at d;refine aO d (bB ?_);rw[c];exact aO (S2 nm o V r U hp hT) (bB (bM rfl rfl))
end
def SN(np:Nat)(U:LD)(b k:Nat):Bool:=eN (gD (gD U b).els k)&&!(aD (vI (gD (gD U b).els k) 2) (lE np U b k:Int))
def yJ(np:Nat)(U:LD)(b:Nat):Bool:=dW (gD U b).els.length (SN np U b)
abbrev oG(x:D)(j:Nat):Int:=(gD (eX x 5) j).toI
abbrev LZ(x:D)(j:Nat):Int:=(gD (eX x 6) j).toI
abbrev wv(d:LD)(v:Int)(c:Nat):Int:=vI (gD d (Int.toNat v)) c
abbrev dt(T:LD)(a b:Int):Bool:=D.toB (gE (gD T (Int.toNat a)) (Int.toNat b))
def C3(nx:Int)(c T:LD)(b k:Nat)(x:D)(j:Nat):Bool:=
 (aT (oG x j) 1||aT nx (oG x j))||(bif aT (wv c (oG x j) 0) 0 then false else bif aD (vI x 0) 26 then !(dt T (wv c (oG x j) 0) (LZ x j))else
  ((aD (wv c (oG x j) 0) (b:Int)&&cX (k:Int) (wv c (oG x j) 1))||(!(aD (wv c (oG x j) 0) (b:Int))&&!(dt T (wv c (oG x j) 0) (b:Int)))))
noncomputable def RL(np:Nat)(U:LD)(b k:Nat):Bool:=dW (eX (gD (gD U b).els k) 5).length (C3 (aJ np U U.length:Int) (BY np U) (gC U) b k (gD (gD U b).els k))
noncomputable def IR(np:Nat)(U:LD):Bool:=!(dW U.length (yJ np U))&&!(dW U.length λb=>dW (gD U b).els.length (RL np U b))
theorem pP{a b:Int}(h:aT a b=false):¬a<b:=λc=>by rw[Vn c]at h;cases h
theorem Co{np:Nat}{U:LD}{v:Nat}(h:v<=aJ np U U.length):v<=np/\Oh np U v=(-1,-1)\/np<v/\∃q,MC np U v q/\Oh np U v=((q.1:Int),(q.2:Int)):=by
 by_cases c:v<=np
 ·exact .inl ⟨c,j4 c⟩
 ·obtain⟨q,_,d⟩:=Mq U.length (Nat.le_refl _) v (by omega) h;exact .inr ⟨by omega,q,d,GW d⟩
theorem Vv{np:Nat}{U:LD}{v:Nat}(h:v<=aJ np U U.length):gD (BY np U) v=Gp np U v:=dX _ (by omega)
theorem Ms{U:LD}(h:mM U=true){b k:Nat}(r:b<U.length)(s:k<(gD U b).els.length)(u:vI (gD (gD U b).els k) 0=26):
  (eX (gD (gD U b).els k) 6).length=(iT U b).length/\∀j,(l:j<(iT U b).length)->(gD (eX (gD (gD U b).els k) 6) j).toI=(((iT U b)[j]:Nat):Int):=by
 unfold mM at h;rw[Bool.and_eq_true,rW,rW]at h;have f:=bU.1 h.2 b r;unfold TG at f;rw[Bool.or_eq_false_iff]at f;have c:=jH.1 f.2 k s;unfold FJ at c;rw[u,pX,Bool.true_and,Bool.or_eq_false_iff]at c;have d:nZ (eX (gD (gD U b).els k) 6) ((iT U b).map iD)=true:=by
  cases e:nZ (eX (gD (gD U b).els k) 6) ((iT U b).map iD)with
  |true=>rfl
  |false=>rw[e]at c;cases c.2
 unfold nZ at d;rw[Bool.and_eq_true,rW,bT]at d;have t:(eX (gD (gD U b).els k) 6).length=(iT U b).length:=by have:=d.1;rw[nD]at this;omega
 refine⟨t,λj l=>?_⟩;have g:=bU.1 d.2 j (by omega);have m:aD (gD (eX (gD (gD U b).els k) 6) j).toI (gD ((iT U b).map iD) j).toI=true:=by
  cases e:aD (gD (eX (gD (gD U b).els k) 6) j).toI (gD ((iT U b).map iD) j).toI with
  |true=>rfl
  |false=>rw[e]at g;cases g
 rw[(bT _ _).1 m,UY l];rfl
theorem j7{U:LD}{b n:Nat}(h:n∈iT U b):n<U.length:=by unfold iT nF at h;simp only[List.mem_filter,List.mem_range]at h;exact h.1
section
variable(nm:List UInt8)(o:Bool)(V:LD)(r:Int)(U:LD)(hp:fH V)(hT:gA U)
include hp hT
theorem aAQ(b:Nat)(c:b<U.length):
  (yJ V.length U b=true/\∃t,(∃n:Int,t=(0,[.i n,.b false,.i (b:Int),.s nm,.b o,.l V,.i r,.l U]))/\fS rS 2 [.i (aJ V.length U b:Int),.i 0,.i (b:Int),.s nm,.b o,.l V,.i r,.l U] t)\/
  (yJ V.length U b=false/\fS rS 2 [.i (aJ V.length U b:Int),.i 0,.i (b:Int),.s nm,.b o,.l V,.i r,.l U] (1,[.i (aJ V.length U (b+1):Int),.i (b:Int),.s nm,.b o,.l V,.i r,.l U])):=by
 have h:=(hT.2 b c).ins.sane;have j:=BS V U hp hT;refine aFk zM (λk=>[.i ((aJ V.length U b+dV (gD U b).els k:Nat):Int),.i (k:Int),.i (b:Int),.s nm,.b o,.l V,.i r,.l U]) (gD U b).els.length (SN V.length U b) (λt=>∃n:Int,t=(0,[.i n,.b false,.i (b:Int),.s nm,.b o,.l V,.i r,.l U])) (t1:=(1,[.i (aJ V.length U (b+1):Int),.i (b:Int),.s nm,.b o,.l V,.i r,.l U])) (λk d=>?_) ?_
 ·show(_/\∃t,_/\Ev _ _ (vF _) _)\/(_/\Ev _ _ (vF _) _);unfold vF;have l:=Cn (np:=V.length) c (Nat.le_of_lt d);have e1:bJ .i64 ((aJ V.length U b+dV (gD U b).els k:Nat):Int) 1=((lE V.length U b k:Nat):Int):=Oi (by omega);have hx:∀n,[D.i n,D.i ((k+1:Nat):Int),.i (b:Int),.s nm,.b o,.l V,.i r,.l U]=[D.i n,.i (bJ .i64 (k:Int) 1),.i (b:Int),.s nm,.b o,.l V,.i r,.l U]:=λn=>nx d h [D.i n] _;cases e:eN (gD (gD U b).els k)with
  |false=>refine .inr ⟨by unfold SN;rw[e];rfl,aC (aF c) (aC (aU d) (aC (aF c) (aC (aF d) (aM e (aP ?_)))))⟩;show[D.i ((aJ V.length U b+dV (gD U b).els (k+1):Nat):Int),D.i ((k+1:Nat):Int),.i (b:Int),.s nm,.b o,.l V,.i r,.l U]=_;rw[Mr e];exact hx _
  |true=>
   cases f:aD (vI (gD (gD U b).els k) 2) (lE V.length U b k:Int)with
   |false=>refine .inl ⟨by unfold SN;rw[e,f];rfl,_,⟨_,rfl⟩,aC (aF c) (aC (aU d) (aC (aF c) (aC (aF d) (aC e (aC ?_ (bG rfl))))))⟩;exact(congrArg (λn=>!(aD (vI (gD (gD U b).els k) 2) n)) e1).trans (congrArg Bool.not f)
   |true=>
    refine .inr ⟨by unfold SN;rw[e,f];rfl,aC (aF c) (aC (aU d) (aC (aF c) (aC (aF d) (aC e (aM ?_ (aP ?_))))))⟩
    ·exact(congrArg (λn=>!(aD (vI (gD (gD U b).els k) 2) n)) e1).trans (congrArg Bool.not f)
    ·show[D.i ((aJ V.length U b+dV (gD U b).els (k+1):Nat):Int),D.i ((k+1:Nat):Int),.i (b:Int),.s nm,.b o,.l V,.i r,.l U]=_;have g:((aJ V.length U b+dV (gD U b).els (k+1):Nat):Int)=bJ .i64 ((aJ V.length U b+dV (gD U b).els k:Nat):Int) 1:=by rw[e1,Fm e];rfl
     rw[g];exact hx _
 ·exact aC (aF c) (aM (aX _) (bG rfl))
theorem aAR:
  (dW U.length (yJ V.length U)=true/\∃t,(∃n:Int,t=(0,[.i n,.b false,.s nm,.b o,.l V,.i r,.l U]))/\fS rS 0 [.i (V.length:Int),.i 0,.s nm,.b o,.l V,.i r,.l U] t)\/
  (dW U.length (yJ V.length U)=false/\fS rS 0 [.i (V.length:Int),.i 0,.s nm,.b o,.l V,.i r,.l U] (1,[.i (aJ V.length U U.length:Int),.s nm,.b o,.l V,.i r,.l U])):=by
 refine aFk zM (λj=>[.i (aJ V.length U j:Int),.i (j:Int),.s nm,.b o,.l V,.i r,.l U]) U.length (yJ V.length U) (λt=>∃n:Int,t=(0,[.i n,.b false,.s nm,.b o,.l V,.i r,.l U])) (t1:=(1,[.i (aJ V.length U U.length:Int),.s nm,.b o,.l V,.i r,.l U])) (λj c=>?_) ?_
 ·show(_/\∃t,_/\Ev _ _ (vE _) _)\/(_/\Ev _ _ (vE _) _);unfold vE;rcases aAQ nm o V r U hp hT j c with⟨d,t,⟨n,rfl⟩,e⟩ |⟨d,e⟩
  ·exact .inl ⟨d,_,⟨_,rfl⟩,aC (aU c) (aO e (bB (bG rfl)))⟩
  ·exact .inr ⟨d,aC (aU c) (aO e (fD (bB (aP (nx c hT.1.sane [_] _)))))⟩
 ·exact aM (aX _) (bG rfl)
omit hp in
theorem aAS(a0:lO U)(hf:mM U=true)(b k:Nat)(g:b<U.length)(s:k<(gD U b).els.length):
  fS rS 8 [.i (aJ V.length U U.length:Int),.i (b:Int),.i 0,.i (k:Int),.s nm,.b o,.l V,.i r,.l U,.i (vI (gD (gD U b).els k) 0),.i (vI (gD (gD U b).els k) 1),.i (vI (gD (gD U b).els k) 2),.i (vI (gD (gD U b).els k) 3),.i (vI (gD (gD U b).els k) 4),.l (eX (gD (gD U b).els k) 5),.l (eX (gD (gD U b).els k) 6),.l (BY V.length U),.l (gC U)]
   (bif RL V.length U b k then(0,[.i (aJ V.length U U.length:Int),.i (b:Int),.b false,.i (k:Int),.s nm,.b o,.l V,.i r,.l U,.l (BY V.length U),.l (gC U)])else(1,[.i (aJ V.length U U.length:Int),.i (b:Int),.i (k:Int),.s nm,.b o,.l V,.i r,.l U,.l (BY V.length U),.l (gC U)])):=by
 have a5:=a0 b g k s;have has:=((hT.2 b g).i k s).as1;generalize t:gD (gD U b).els k=x at*;have a6:=has.sane;have a1:(BY V.length U).length=aJ V.length U U.length+1:=cO _ _;have a2:RL V.length U b k=dW (eX x 5).length (C3 (aJ V.length U U.length:Int) (BY V.length U) (gC U) b k x):=by unfold RL;rw[t]
 rw[a2];refine tO zM (λj=>[.i (aJ V.length U U.length:Int),.i (b:Int),.i (j:Int),.i (k:Int),.s nm,.b o,.l V,.i r,.l U,.i (vI x 0),.i (vI x 1),.i (vI x 2),.i (vI x 3),.i (vI x 4),.l (eX x 5),.l (eX x 6),.l (BY V.length U),.l (gC U)]) (eX x 5).length (C3 (aJ V.length U U.length:Int) (BY V.length U) (gC U) b k x) (λj m=>?_) ?_
 ·have hx:=nx m a6 [.i (aJ V.length U U.length:Int),.i (b:Int)] [.i (k:Int),.s nm,.b o,.l V,.i r,.l U,.i (vI x 0),.i (vI x 1),.i (vI x 2),.i (vI x 3),.i (vI x 4),.l (eX x 5),.l (eX x 6),.l (BY V.length U),.l (gC U)];refine oT (aU m) (oT (aF m) (oO rfl rfl (λa3=>?_)));have hv:∃n:Nat,oG x j=(n:Int)/\n<=aJ V.length U U.length:=by
   have l:((aT (oG x j) 1)||(aT (aJ V.length U U.length:Int) (oG x j)))=false:=a3;rw[Bool.or_eq_false_iff]at l;have e:=pP l.1;have C:=pP l.2;exact⟨(oG x j).toNat,by omega,by omega⟩
  obtain⟨n,H,J⟩:=hv;have hg:gD (BY V.length U) (Int.toNat (oG x j))=Gp V.length U n:=by rw[H];exact Vv J
  have u:wv (BY V.length U) (oG x j) 0=(Oh V.length U n).1 :=by unfold wv;rw[hg];rfl
  have a7:aA (oG x j) (BY V.length U).length=true:=by rw[H,a1];exact aF (by omega)
  refine oT a7 (oT rfl (oX (λ(h:aT (wv (BY V.length U) (oG x j) 0) 0=true)=>aCN (by rw[h];rfl) hx) (λ(h:aT (wv (BY V.length U) (oG x j) 0) 0=false)=>?_)));have hd:∃d:Nat,(Oh V.length U n).1 =(d:Int)/\d<U.length:=by
   rcases Co J with⟨_,e⟩ |⟨_,q,e,C⟩
   ·have c:aT (wv (BY V.length U) (oG x j) 0) 0=false:=h;rw[u,e]at c;cases c
   ·exact⟨q.1,by rw[C],e.b⟩
  obtain⟨d,a4,F⟩:=hd;have v:wv (BY V.length U) (oG x j) 0=(d:Int):=u.trans a4;have P:aA (wv (BY V.length U) (oG x j) 0) (gC U).length=true:=by rw[v,BR];exact aF F
  have L:nE (gD (gC U) (Int.toNat (wv (BY V.length U) (oG x j) 0)))=U.length:=by rw[v];show(D.els (gD (gC U) d)).length=_;rw[OZ F];exact eQ _ _
  have Q:(bif aT (wv (BY V.length U) (oG x j) 0) 0 then false else bif aD (vI x 0) 26 then !(dt (gC U) (wv (BY V.length U) (oG x j) 0) (LZ x j))else((aD (wv (BY V.length U) (oG x j) 0) (b:Int)&&cX (k:Int) (wv (BY V.length U) (oG x j) 1))||(!(aD (wv (BY V.length U) (oG x j) 0) (b:Int))&&!(dt (gC U) (wv (BY V.length U) (oG x j) 0) (b:Int)))))=bif aD (vI x 0) 26 then !(dt (gC U) (wv (BY V.length U) (oG x j) 0) (LZ x j))else((aD (wv (BY V.length U) (oG x j) 0) (b:Int)&&cX (k:Int) (wv (BY V.length U) (oG x j) 1))||(!(aD (wv (BY V.length U) (oG x j) 0) (b:Int))&&!(dt (gC U) (wv (BY V.length U) (oG x j) 0) (b:Int)))):=by have c:aT (wv (BY V.length U) (oG x j) 0) 0=false:=h;rw[c];rfl
  rw[Q];refine oX (λ(f:aD (vI x 0) 26=true)=>?_) (λ(f:aD (vI x 0) 26=false)=>?_)
  ·have K:vI x 0=26:=(bT _ _).1 f;obtain⟨T,y⟩:=Ms hf g s (by rw[t];exact K);rw[t]at T y;have b2:=(a5.ap K).2;have G:j<(iT U b).length:=by omega
   have W:=y j G;have Y:=j7 (List.getElem_mem G);have b0:aA (LZ x j) (nE (gD (gC U) (Int.toNat (wv (BY V.length U) (oG x j) 0))))=true:=by rw[L];show aA (gD (eX x 6) j).toI U.length=true;rw[W];exact aF Y
   rw[f];have b1:aA (j:Int) (eX x 6).length=true:=aF (by omega);exact oT rfl (oT P (oT b1 (oT b0 (oE rfl rfl hx))))
  ·rw[f];have a9:aA (b:Int) (nE (gD (gC U) (Int.toNat (wv (BY V.length U) (oG x j) 0))))=true:=by rw[L];exact aF g
   exact oT rfl (oT (aH rfl) (oT (aH rfl) (oT (aH rfl) (oT (aH P) (oT (aH a9) (oE rfl rfl hx))))))
 ·exact aM (aX _) (bG rfl)
omit hp in
theorem aAT(e:lO U)(hf:mM U=true)(b:Nat)(c:b<U.length):
  fS rS 6 [.i (aJ V.length U U.length:Int),.i (b:Int),.i 0,.s nm,.b o,.l V,.i r,.l U,.l (BY V.length U),.l (gC U)]
   (bif dW (gD U b).els.length (RL V.length U b)then(0,[.i (aJ V.length U U.length:Int),.i (b:Int),.b false,.s nm,.b o,.l V,.i r,.l U,.l (BY V.length U),.l (gC U)])else(1,[.i (aJ V.length U U.length:Int),.i (b:Int),.s nm,.b o,.l V,.i r,.l U,.l (BY V.length U),.l (gC U)])):=by
 have f:=(hT.2 b c).ins.sane;refine tO zM (λk=>[.i (aJ V.length U U.length:Int),.i (b:Int),.i (k:Int),.s nm,.b o,.l V,.i r,.l U,.l (BY V.length U),.l (gC U)]) (gD U b).els.length (RL V.length U b) (λk d=>?_) ?_
 ·exact oT (aF c) (oT (aU d) (oT (aF c) (oT (aF d) (oL (aAS nm o V r U hT e hf b k c d) rfl (congrArg IX.again (nx d f [_,_] _).symm)))))
 ·exact aC (aF c) (aM (aX _) (bG rfl))
omit hp in
theorem aAU(d:lO U)(hf:mM U=true):
  fS rS 4 [.i (aJ V.length U U.length:Int),.i 0,.s nm,.b o,.l V,.i r,.l U,.l (BY V.length U),.l (gC U)] (bif dW U.length (λb=>dW (gD U b).els.length (RL V.length U b))then(0,[.b false])else(1,[])):=by
 refine tO zM (λj=>[.i (aJ V.length U U.length:Int),.i (j:Int),.s nm,.b o,.l V,.i r,.l U,.l (BY V.length U),.l (gC U)]) U.length (λb=>dW (gD U b).els.length (RL V.length U b)) (λj c=>?_) ?_
 ·exact oT (aU c) (oL (aAT nm o V r U hT d hf j c) rfl (congrArg IX.again (nx c hT.1.sane [_] _).symm))
 ·exact aM (aX _) (bG rfl)
theorem S4(g:lO U)(hf:mM U=true):jZ E aZ sites Ul [qH nm o V r U] (.b (IR V.length U)) []:=by
 refine bE zM (by rfl) rfl ?_;show Ev _ _ (Bp _) _;unfold Bp IR;rcases aAR nm o V r U hp hT with⟨d,t,⟨n,rfl⟩,f⟩ |⟨d,f⟩
 ·rw[d];exact aO f (bB (bM rfl rfl))
 ·rw[d];refine aO f (fD (bB (bW (C1 nm o V r U hp hT) rfl (bW (R8 nm o V r U hT) rfl ?_))));have c:=aAU nm o V r U hT g hf;cases e:dW U.length (λb=>dW (gD U b).els.length (RL V.length U b))with
  |true=>rw[e]at c;exact aO c (bB (bM rfl rfl))
  |false=>rw[e]at c;exact aO c (fD (bB (bM rfl rfl)))
end
def gT(h:Nat->D)(z:D)(c i:Nat):D:=bif decide (i<c)then h i else z
theorem Qw{h:Nat->D}{z:D}{c i:Nat}(e:i<c):gT h z c i=h i:=by unfold gT;rw[decide_eq_true e];rfl
theorem C4{h:Nat->D}{z:D}{c i:Nat}(e:¬i<c):gT h z c i=z:=by unfold gT;rw[decide_eq_false e];rfl
theorem Vw{n c:Nat}{h:Nat->D}{z w:D}(f:w=h c):(aK n (gT h z c)).set c w=aK n (gT h z (c+1)):=by
 rw[oD];refine dU λi _=>?_;by_cases e:i=c
 ·subst e;rw[fK,Qw (by omega),f]
 ·rw[oB _ _ e];by_cases d:i<c
  ·rw[Qw d,Qw (by omega)]
  ·rw[C4 d,C4 (by omega)]
theorem Vx(n:Nat)(h:Nat->D)(z:D):List.replicate n z=aK n (gT h z 0):=by rw[dU (n:=n) (f:=gT h z 0) (g:=λ_=>z) λi _=>C4 (by omega),rX]
theorem S5(n:Nat)(h:Nat->D)(z:D):aK n (gT h z n)=aK n h:=dU λi c=>Qw c
def oP(U:LD):LD:=aK U.length λb=>.l ((aV U b).map iD)
structure WI(U:LD)(a:Nat)(f:Nat->Bool)(w:List Nat):Prop where
 snd:∀i,f i=true->RA U 0 (a:Int) i
 wk:∀i,i∈w->f i=true
 fit:w.length+tP U.length f<=U.length
structure WIn(U:LD)(a b:Nat)(f0:Nat->Bool)(w0:List Nat)(k:Nat)(q:(Nat->Bool)×List Nat):Prop where
 wi:WI U a q.1 q.2
 mono:∀i,f0 i=true->q.1 i=true
 wm:∀i,i∈w0->i∈q.2
 all:∀(j:Nat)(h:j<(aV U b).length),j<k->(((aV U b)[j]:Nat):Int)≠a->q.1 (aV U b)[j]=true
 mu:q.2.length+2*tP U.length q.1<=w0.length+2*tP U.length f0
 new:∀i,q.1 i=true->f0 i=true\/i∈q.2
theorem aAV(U:LD)(H:gA U)(a b:Nat)(W:RA U 0 (a:Int) b)(f0:Nat->Bool)(w0:List Nat)(a1:WI U a f0 w0):
  ∃q:(Nat->Bool)×List Nat,WIn U a b f0 w0 (aV U b).length q/\fS AA 2 [.l (oP U),.i (a:Int),.i 0,.l ((aV U b).map iD),.i (((aV U b).map iD).length:Int),.l (aQ U.length f0),.l (w0.map iD)] (0,[.l (oP U),.i (a:Int),.l (aQ U.length q.1),.l (q.2.map iD)]):=by
 have a5:=OV U b H;have Y:=H.1;unfold fH at Y;refine FF AB (λj(q:(Nat->Bool)×List Nat)=>[.l (oP U),.i (a:Int),.i (j:Int),.l ((aV U b).map iD),.i (((aV U b).map iD).length:Int),.l (aQ U.length q.1),.l (q.2.map iD)]) (aV U b).length (λq=>(0,[.l (oP U),.i (a:Int),.l (aQ U.length q.1),.l (q.2.map iD)])) (WIn U a b f0 w0) (λj q m c=>?_) (λq c=>?_) (s0:=(f0,w0)) ⟨a1,λ_ h=>h,λ_ h=>h,λ_ _ h=>absurd h (by omega),Nat.le_refl _,λ_ h=>.inl h⟩
 ·have J:(aV U b)[j]∈aV U b:=List.getElem_mem m;have s:(aV U b)[j]<U.length:=QU J;have hv:(gD ((aV U b).map iD) j).toI=(((aV U b)[j]:Nat):Int):=congrArg D.toI (UY m);have K:Int.toNat (gD ((aV U b).map iD) j).toI=(aV U b)[j]:=by rw[hv];rfl
  have hx:∀(u v:D),[.l (oP U),.i (a:Int),.i ((j+1:Nat):Int),.l ((aV U b).map iD),.i (((aV U b).map iD).length:Int),u,v]=[.l (oP U),.i (a:Int),.i (bJ .i64 (j:Int) 1),.l ((aV U b).map iD),.i (((aV U b).map iD).length:Int),u,v]:=λu v=>nx m (by omega) [_,_] _;have C:aT (j:Int) (((aV U b).map iD).length:Int)=true:=by rw[nD];exact aU m
  have F:aA (j:Int) ((aV U b).map iD).length=true:=by rw[nD];exact aF m
  have y:aA (gD ((aV U b).map iD) j).toI (aQ U.length q.1).length=true:=by rw[hv,eQ];exact aF s
  have L:D.toB (gD (aQ U.length q.1) (Int.toNat (gD ((aV U b).map iD) j).toI))=q.1 (aV U b)[j]:=by rw[K];exact congrArg D.toB (jV _ s)
  have G:((!(aD (gD ((aV U b).map iD) j).toI (a:Int)))&&(!(D.toB (gD (aQ U.length q.1) (Int.toNat (gD ((aV U b).map iD) j).toI)))))=((!(aD (((aV U b)[j]:Nat):Int) (a:Int)))&&(!(q.1 (aV U b)[j]))):=by rw[L,hv]
  cases e:((!(aD (((aV U b)[j]:Nat):Int) (a:Int)))&&(!(q.1 (aV U b)[j])))with
  |false=>
   refine⟨q,⟨c.wi,c.mono,c.wm,λi d V r=>?_,c.mu,c.new⟩,?_⟩
   ·by_cases l:i=j
    ·subst l;rw[Bool.and_eq_false_iff]at e;rcases e with e |e
     ·rw[nW r]at e;cases e
     ·cases P:q.1 (aV U b)[i]with
      |true=>rfl
      |false=>rw[P]at e;cases e
    ·exact c.all i d (by omega) r
   ·exact aC C (aC F (aC (aH y) (aM (G.trans e) (aP (hx _ _)))))
  |true=>
   rw[Bool.and_eq_true,rW,rW]at e;have a0:(((aV U b)[j]:Nat):Int)≠a:=λh=>by rw[h,pX]at e;cases e.1
   have t:=II q.1 (aV U b)[j];have a3:=LE U.length (f:=q.1) (g:=qI q.1 (aV U b)[j]) t s e.2 (kS _ _);have a2:=c.wi.fit;have a4:=c.mu;refine⟨(qI q.1 (aV U b)[j],q.2++[(aV U b)[j]]),⟨⟨λi d=>?_,λi d=>?_,?_⟩,λi d=>t i (c.mono i d),λi d=>List.mem_append_left _ (c.wm i d),λi d V r=>?_,?_,λi d=>?_⟩,?_⟩
   ·by_cases l:i=(aV U b)[j]
    ·rw[l];exact RA.step W J a0
    ·exact c.wi.snd i (by rw[<-CZ q.1 l];exact d)
   ·rcases List.mem_append.1 d with h |h
    ·exact t i (c.wi.wk i h)
    ·rw[List.mem_singleton.1 h];exact kS _ _
   ·simp only[List.length_append,List.length_cons,List.length_nil];omega
   ·by_cases l:i=j
    ·subst l;exact kS _ _
    ·exact t _ (c.all i d (by omega) r)
   ·simp only[List.length_append,List.length_cons,List.length_nil];omega
   ·by_cases l:i=(aV U b)[j]
    ·right;rw[l];simp
    ·rcases c.new i (by rw[<-CZ q.1 l];exact d)with h |h
     ·exact .inl h
     ·exact .inr (List.mem_append_left _ h)
   ·refine aC C (aC F (aC (aH y) (aC (G.trans (by rw[e.1,e.2];rfl)) (aC y (aC ?_ (aP ((hx _ _).trans ?_)))))))
    ·show jN ((q.2.map iD).length+1) 8=true;rw[nD];exact fA (by omega) (by omega)
    ·have Q:(aQ U.length q.1).set (Int.toNat (gD ((aV U b).map iD) j).toI) (.b true)=aQ U.length (qI q.1 (aV U b)[j]):=by rw[K];exact rV _ s
     have T:q.2.map iD++[.i (gD ((aV U b).map iD) j).toI]=(q.2++[(aV U b)[j]]).map iD:=by rw[hv,List.map_append];rfl
     show[D.l (oP U),.i (a:Int),.i (bJ .i64 (j:Int) 1),.l ((aV U b).map iD),.i (((aV U b).map iD).length:Int),.l (aQ U.length (qI q.1 (aV U b)[j])),.l ((q.2++[(aV U b)[j]]).map iD)]=_;rw[<-Q,<-T];rfl
 ·refine aM ?_ (bG rfl);show aT ((aV U b).length:Int) (((aV U b).map iD).length:Int)=false;rw[nD];exact aX _
structure WO(U:LD)(a:Nat)(q:(Nat->Bool)×List Nat):Prop where
 wi:WI U a q.1 q.2
 cl:∀b,q.1 b=true->b∈q.2\/∀n,n∈aV U b->(n:Int)≠a->q.1 n=true
 st:a≠0->q.1 0=true
theorem Qx(U:LD)(H:gA U)(a:Nat)(C:(Nat->Bool)×List Nat)(T:WO U a C):
  fS AA 0 [.l (oP U),.i (a:Int),.l (aQ U.length C.1),.l (C.2.map iD)] (0,[.l (cZ U 0 (a:Int))]):=by
 have V:=H.1;unfold fH at V;have h:=IG AB (b:=0) (λ(q:(Nat->Bool)×List Nat)=>[.l (oP U),.i (a:Int),.l (aQ U.length q.1),.l (q.2.map iD)]) (WO U a) (λq=>q.2.length+2*tP U.length q.1) (λt=>t=(0,[.l (cZ U 0 (a:Int))])) (λq e=>?_) T
 ·obtain⟨t,d,r⟩:=h;subst d;exact r
 ·obtain⟨f,w⟩:=q;rcases List.eq_nil_or_concat w with rfl |⟨w',b,a1⟩
  ·refine .inl ⟨_,rfl,?_⟩;refine aM rfl (bG ?_);have:cZ U 0 (a:Int)=aQ U.length f:=by
    refine nC λi y=>?_;rw[Bool.eq_iff_iff,AD];constructor
    ·intro d;clear y;induction d with
     |base _ _ s=>exact e.st (by omega)
     |@step p c a5 l m a3=>
      rcases e.cl p a3 with g |g
      ·cases g
      ·exact g c l m
    ·exact e.wi.snd i
   rw[this];rfl
  ·have a2:w=w'++[b]:=by rw[a1];simp
   subst a2;have Y:f b=true:=e.wi.wk b (by simp);have G:=e.wi.snd b Y;have K:=A7 U 0 (a:Int) G;have a0:=e.wi.fit;simp only[List.length_append,List.length_cons,List.length_nil]at a0;obtain⟨a4,d,r⟩:=aAV U H a b G f w' ⟨e.wi.snd,λi y=>e.wi.wk i (List.mem_append_left _ y),by omega⟩;refine .inr ⟨a4,⟨d.wi,λc W=>?_,λh=>d.mono _ (e.st h)⟩,?_,?_⟩
   ·rcases d.new c W with s |s
    ·rcases e.cl c s with g |g
     ·rcases List.mem_append.1 g with v |v
      ·exact .inl (d.wm c v)
      ·right;intro n l m;rw[List.mem_singleton.1 v]at l;obtain⟨j,J,rfl⟩:=List.mem_iff_getElem.1 l;exact d.all j J J m
     ·exact .inr λn l m=>d.mono _ (g n l m)
    ·exact .inl s
   ·have:=d.mu;simp only[List.length_append,List.length_cons,List.length_nil];omega
   ·have u:((w'++[b]).map iD).length=w'.length+1:=by simp
    have e1:bD .i64 ((((w'++[b]).map iD).length:Int)-1)=(w'.length:Int):=by rw[u,FI (by omega) (by omega)];rfl
    have L:gD ((w'++[b]).map iD) w'.length=iD b:=by simp[gD,List.getD]
    have P:List.drop 0 (List.take (Int.toNat (bD .i64 ((((w'++[b]).map iD).length:Int)-1))) ((w'++[b]).map iD))=w'.map iD:=by rw[e1,List.map_append];show List.drop 0 (List.take w'.length (w'.map iD++_))=_;rw[List.drop_zero,List.take_left' (nD w')]
    have F:(gD ((w'++[b]).map iD) (Int.toNat (bD .i64 ((((w'++[b]).map iD).length:Int)-1)))).toI=(b:Int):=by rw[e1];show(gD ((w'++[b]).map iD) w'.length).toI=_;rw[L];rfl
    have Q:D.els (gD (oP U) (Int.toNat (gD ((w'++[b]).map iD) (Int.toNat (bD .i64 ((((w'++[b]).map iD).length:Int)-1)))).toI))=(aV U b).map iD:=by rw[F];exact congrArg D.els (dX _ K)
    rw[<-P,<-Q]at r;refine aC ?_ (aC ?_ (aC ?_ (aC ?_ (aO r (bB (aP rfl))))))
    ·exact Vn (by show(0:Int)<(((w'++[b]).map iD).length:Int);rw[u];omega)
    ·show aA (bD .i64 ((((w'++[b]).map iD).length:Int)-1)) ((w'++[b]).map iD).length=true;rw[e1,u];exact aF (by omega)
    ·show kT 0 (bD .i64 ((((w'++[b]).map iD).length:Int)-1)) (((w'++[b]).map iD).length:Int)=true;rw[e1,u];unfold kT;rw[jS (by omega),jS (by omega),jS (by omega)];rfl
    ·show aA (gD ((w'++[b]).map iD) (Int.toNat (bD .i64 ((((w'++[b]).map iD).length:Int)-1)))).toI (oP U).length=true;rw[F];exact(congrArg (aA (b:Int)) (cO _ _)).trans (aF K)
theorem S6(U:LD)(d:gA U)(c:0<U.length)(a:Nat):jZ E aZ sites NZ [.l (oP U),.i (a:Int)] (.l (cZ U 0 (a:Int))) []:=by
 refine bE AB (by rfl) rfl ?_;show Ev _ _ (HI _) _;unfold HI;have v:=d.1;unfold fH at v;have m:(oP U).length=U.length:=cO _ _;have s:List.replicate (oP U).length (D.b false)=aQ U.length (λ_=>false):=by rw[m,lV]
 have u:∀n,tP n (λ_=>false)=n:=λn=>by
  induction n with
  |zero=>rfl
  |succ n F=>unfold tP;rw[F];rfl
 refine aC ?_ ?_
 ·show(cX 0 ((oP U).length:Int)&&(aD ((oP U).length:Int) ((oP U).length:Int)&&jN (Int.toNat ((oP U).length:Int)) 1))=true;rw[m,jS (by omega),pX];exact fA (by show U.length<=_;omega) (by omega)
 ·cases e:aD (a:Int) 0 with
  |true=>
   have l:a=0:=by have:=(bT _ _).1 e;omega
   subst l;have h:=Qx U d 0 (λ_=>false,[]) ⟨⟨λ_ h=>(by cases h),λ_ h=>(by cases h),by rw[u];simp⟩,λ_ h=>(by cases h),λh=>absurd rfl h⟩;rw[<-s]at h;exact aM (congrArg Bool.not e) (aO h (bB (bM rfl rfl)))
  |false=>
   have l:(0:Int)≠(a:Int):=λh=>by rw[<-h,pX]at e;cases e
   have C:=rV (n:=U.length) (λ_=>false) c;have y:=LE U.length (f:=λ_=>false) (g:=qI (λ_=>false) 0) (II _ 0) c rfl (kS _ _);rw[u]at y;have t:∀i,qI (λ_=>false) 0 i=true->i=0:=λi h=>by
    by_cases r:i=0
    ·exact r
    ·rw[CZ _ r]at h;cases h
   have h:=Qx U d a (qI (λ_=>false) 0,[0]) ⟨⟨λi h=>by rw[t i h];exact RA.base (start:=0) (by omega) (by omega) l,λi h=>by rw[List.mem_singleton.1 h];exact kS (λ_=>false) 0,by simp only[List.length_cons,List.length_nil];omega⟩,λi h=>.inl (by rw[t i h];simp),λ_=>kS (λ_=>false) 0⟩;rw[<-C,<-s]at h;refine aC (congrArg Bool.not e) (aC ?_ (aC rfl (aO h (bB (bM rfl rfl)))));show aA 0 (List.replicate (oP U).length (D.b false)).length=true;rw[List.length_replicate,m];exact aF (j:=0) c
end Go.Eng.Q
