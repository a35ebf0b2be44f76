/- Part 3 of the proof: functions and calls are sound; functions as trees of questions. -/
import Derived.Test.YtglojhiigapkbaaGreatEngB
import Derived.Scope
import Derived.Laws.Sem
import Derived.KernelRfl
import Derived.Below
set_option linter.unusedSimpArgs false
set_option linter.unusedVariables false
namespace Go.Eng
def Gh.moved(G:Gh)(q r:Nat):Gh:=
 {own:=λb=>match G.own b with
   |.arr r' p=>if r'=q then .arr r p else if r'=r then .out else .arr r' p
   |t=>t
  H:=λm=>if m=r then G.H q else G.H m
  B:=G.B}
section
variable{ext:Nat->Value}{w:World}{G:Gh}{st:St}{act:Act}{nt:Nat}
theorem NZ{q r:Nat}(b:Nat)(h:∀r p,G.own b≠.arr r p):(G.moved q r).own b=G.own b:=by
 cases c:G.own b with
 |arr d s=>exact absurd c (h d s)
 |_=>simp[Gh.moved,c]
theorem aCM{q r:Nat}{b:Nat}{p:cL}(h:G.own b=.arr q p):(G.moved q r).own b=.arr r p:=by simp[Gh.moved,h]
theorem Vw{q r m:Nat}{b:Nat}{p:cL}(h:G.own b=.arr m p)(c:m≠q)(d:m≠r):(G.moved q r).own b=.arr m p:=by simp[Gh.moved,h,c,d]
theorem a8{q r:Nat}{b:Nat}(h:(G.moved q r).own b≠.out):G.own b≠.out:=λe=>h (by simp[Gh.moved,e])
theorem aA8(q r:Nat):Fr w G w (G.moved q r):=
 ⟨rfl,rfl,rfl,Nat.le_refl _,λb _ c=>⟨rfl,NZ b (by rcases c with c |c<;>rw[c]<;>simp)⟩,λ_ _ _=>rfl⟩
theorem xO{q r:Nat}(e:q≠r)(m:Nat):∀l:List (Nat×xA),look (Uh q r l) m=if m=r then look l q else if m=q then none else look l m
 |[]=>by simp[Uh,look]
 |(k,a)::l=>by
  simp only[Uh];by_cases g:k=r
  ·subst g;simp only[pD,cond_true];rw[xO e m l];by_cases c:m=k
   ·subst c;simp[eO,Ne.symm e]
   ·simp[eO,c,Ne.symm c]
  ·simp only[pJ g,cond_false];by_cases f:k=q
   ·subst f;simp only[pD,cond_true,eO];rw[xO e m l];by_cases c:m=r
    ·subst c;simp
    ·simp only[Ne.symm c,if_false,c];by_cases d:m=k
     ·subst d;simp
     ·simp[d,Ne.symm d]
   ·simp only[pJ f,cond_false,eO];rw[xO e m l];by_cases c:k=m
    ·subst c;simp[g,f]
    ·simp only[c,if_false];by_cases d:m=r
     ·subst d;simp[f]
     ·simp[d]
theorem YB(q r b:Nat):∀l:List (Nat×Bx),look (X9 q r l) b=(look l b).map λx=>{x with lv:=mapR (TR q r) x.lv}
 |[]=>rfl
 |(m,x)::l=>by
  simp only[X9,eO];by_cases h:m=b
  ·simp[h]
  ·simp[h,YB q r b l]
theorem Rb{ks:List Nat}{q r:Nat}(y:q≠r):∀(a:A)(v:Value),lO a=true->dC w G st a v->dC w (G.moved q r) (St.rename ks st q r) (TR q r a) v:=by
 intro a v Q h;have C:St.rename ks st q r={st with sl:=Ui (TR q r) st.sl ks .nil,bx:=X9 q r st.bx,ar:=Uh q r st.ar}:=by simp[St.rename,pJ y]
 have K:∀{m u p a'},kL (St.rename ks st q r) m u p a'->m≠q->m≠r->kL st m u p a':=λ{m u p a'}hv d c=>by rw[C]at hv;have:=hv.1;simp only[xO y,if_neg d,if_neg c]at this;exact⟨this,hv.2⟩
 have L:∀{u p a'},kL (St.rename ks st q r) r u p a'->kL st q u p a':=λ{u p a'}hv=>by rw[C]at hv;have:=hv.1;simp only[xO y,if_true]at this;exact⟨this,hv.2⟩
 have a0:∀{u p a'},¬kL (St.rename ks st q r) q u p a':=λ{u p a'}hv=>by rw[C]at hv;have:=hv.1;simp[xO y,y]at this
 have j:(St.rename ks st q r).ctr=st.ctr:=by rw[C]
 have J:∀p,(G.moved q r).H r p=G.H q p:=λp=>by simp[Gh.moved]
 have H:∀m p,m≠r->(G.moved q r).H m p=G.H m p:=λm p Y=>by simp[Gh.moved,Y]
 have T:∀b t,look (St.rename ks st q r).bx b=some t->∃x,look st.bx b=some x/\x.uid=t.uid:=λb t hx=>by
  rw[C]at hx;simp only[YB]at hx;cases W:look st.bx b with
  |none=>simp[W]at hx
  |some x=>simp[W]at hx;subst hx;exact⟨x,rfl,rfl⟩
 have V:∀b,uD G [] b->uD (G.moved q r) [] b/\w.heap[b]?=w.heap[b]?:=λb P=>by rw[NO]at P⊢;exact⟨by rw[NZ b (by rw[P];simp),P],rfl⟩
 cases a with
 |vw m u p=>
  simp only[TR];by_cases d:m=q
  ·subst d;simp only[pD,cond_true];refine⟨by rw[j];exact h.1,λa' g=>?_⟩;obtain⟨l,s,U⟩:=h.2 a' (L g);exact⟨by rw[J];exact l,s,U⟩
  ·simp only[pJ d,cond_false];by_cases c:m=r
   ·subst c;simp only[pD,cond_true];exact trivial
   ·simp only[pJ c,cond_false];refine⟨by rw[j];exact h.1,λa' g=>?_⟩;obtain⟨l,s,U⟩:=h.2 a' (K g d c);exact⟨by rw[H m _ c];exact l,s,U⟩
 |px m u n=>
  simp only[TR];by_cases d:m=q
  ·subst d;simp only[pD,cond_true];exact⟨by rw[j];exact h.1,λa' g=>by rw[J];exact h.2 a' (L g)⟩
  ·simp only[pJ d,cond_false];by_cases c:m=r
   ·subst c;simp only[pD,cond_true];exact trivial
   ·simp only[pJ c,cond_false];exact⟨by rw[j];exact h.1,λa' g=>by rw[H m _ c];exact h.2 a' (K g d c)⟩
 |sx m u k n a1=>
  simp only[TR];by_cases d:m=q
  ·subst d;simp only[pD,cond_true];exact⟨by rw[j];exact h.1,λa' g=>by rw[J];exact h.2 a' (L g)⟩
  ·simp only[pJ d,cond_false];by_cases c:m=r
   ·subst c;simp only[pD,cond_true];exact trivial
   ·simp only[pJ c,cond_false];exact⟨by rw[j];exact h.1,λa' g=>by rw[H m _ c];exact h.2 a' (K g d c)⟩
 |pa m u p k i off=>
  simp only[TR];by_cases d:m=q
  ·subst d;simp only[pD,cond_true];exact⟨by rw[j];exact h.1,λa' g=>by rw[J];exact h.2 a' (L g)⟩
  ·simp only[pJ d,cond_false];by_cases c:m=r
   ·subst c;simp only[pD,cond_true];exact trivial
   ·simp only[pJ c,cond_false];exact⟨by rw[j];exact h.1,λa' g=>by rw[H m _ c];exact h.2 a' (K g d c)⟩
 |fz dep e el xs=>
  cases dep with
  |nil=>exact⟨by simp,λ_=>cU V _ _ _ (h.2 rfl)⟩
  |cons _ _=>exact trivial
 |pz dep el x off=>
  cases dep with
  |nil=>refine⟨by simp,λ_=>?_⟩;obtain⟨b,o,l,s⟩:=h.2 rfl;exact⟨b,o,l,rE V _ _ _ _ _ _ s⟩
  |cons _ _=>exact trivial
 |sb b u k n=>refine⟨by rw[j];exact h.1,λt hx F=>?_⟩;obtain⟨x,l,s⟩:=T b t hx;exact h.2 x l (s.trans F)
 |pb b u off=>refine⟨by rw[j];exact h.1,λt hx F=>?_⟩;obtain⟨x,l,s⟩:=T b t hx;exact h.2 x l (s.trans F)
 |mp b u=>refine⟨by rw[j];exact h.1,λt hx F=>?_⟩;obtain⟨x,l,s⟩:=T b t hx;exact h.2 x l (s.trans F)
 |agg xs=>simp[lO]at Q
 |tup xs=>simp[lO]at Q
 |fn f xs=>simp[lO]at Q
 |_=>exact h
theorem gO.ren(h:gO ext nt w G st act){ks:List Nat}{q r:Nat}(l:q≠r)(L:lK ks st):gO ext nt w (G.moved q r) (St.rename ks st q r) act/\lK ks (St.rename ks st q r)/\(St.rename ks st q r).ctr=st.ctr:=by
 have u:St.rename ks st q r={st with sl:=Ui (TR q r) st.sl ks .nil,bx:=X9 q r st.bx,ar:=Uh q r st.ar}:=by simp[St.rename,pJ l]
 have hg:∀t,(St.rename ks st q r).sl.get t=if t∈ks then(st.sl.get t).mapR (TR q r)else .undef:=λt=>by rw[u];show(Ui (TR q r) st.sl ks .nil).get t=_;rw[Vu];simp[Tr.get_nil]
 have K:∀b,G.own b=.fz->(G.moved q r).own b=.fz/\w.heap[b]?=w.heap[b]?:=λb d=>⟨by rw[NZ b (by rw[d];simp),d],rfl⟩;refine⟨⟨?_,λt=>?_,h.size,h.defers⟩,λt ht=>by rw[hg,if_neg ht],by rw[u]⟩
 ·refine h.rel.remap (f:=TR q r) (Rb l) (λb P hx=>?_) (λb d=>⟨by rw[NZ b (by rw[d];simp),d],rfl⟩) (λm a' g=>?_) (λb d=>h.rel.live b (a8 d)) (λm p=>?_)
  ·rw[u]at hx⊢;simp only[YB]at hx;cases y:look st.bx b with
   |none=>simp[y]at hx
   |some x=>simp[y]at hx;subst hx;exact⟨x,rfl,⟨rfl,rfl⟩,(h.rel.boxes b x y).1,rfl⟩
  ·rw[u]at g⊢;simp only[xO l]at g;by_cases e1:m=r
   ·subst e1;rw[if_pos rfl]at g;obtain⟨C,F,H,J⟩:=h.rel.arrs q a' g;refine⟨C,F,H,?_⟩;have j:(G.moved q m).H m []=G.H q []:=by simp[Gh.moved]
    rw[j];exact UC K (λs _=>.inr ⟨by simp[Gh.moved],λb d=>⟨aCM d,rfl⟩⟩) (λ_ _ h=>h) J
   ·rw[if_neg e1]at g;by_cases v:m=q
    ·simp[v]at g
    ·rw[if_neg v]at g;obtain⟨C,F,H,J⟩:=h.rel.arrs m a' g;refine⟨C,F,H,?_⟩;have j:∀p,(G.moved q r).H m p=G.H m p:=λp=>by simp[Gh.moved,e1]
     rw[j];exact FZ K j (λb p d=>⟨Vw d v e1,rfl⟩) J
  ·by_cases e1:m=r
   ·obtain⟨a,n,c,e⟩:=h.rel.hdr q p;exact⟨a,n,c,by simp[Gh.moved,e1,e]⟩
   ·obtain⟨a,n,c,e⟩:=h.rel.hdr m p;exact⟨a,n,c,by simp[Gh.moved,e1,e]⟩
 ·rw[hg];split
  ·exact UW (Rb l) _ _ (h.slots t)
  ·exact trivial
def Gh.nilAt(G:Gh)(r:Nat):Gh:={G with H:=λm p=>if m=r/\p=[]then .slice none 0 0 else G.H m p}
theorem HY{r:Nat}:∀{dep:List (Nat×Nat)},Ez r dep=false->∀d∈dep,d.1≠r
 |[],_,_,h=>absurd h (by simp)
 |(m,v)::l,h,d,hd=>by
  simp only[Ez]at h;by_cases e:m=r
  ·subst e;simp[pD]at h
  ·simp only[pJ e,cond_false]at h;rcases List.mem_cons.1 hd with rfl |hd
   ·exact e
   ·exact HY h d hd
theorem LF{r:Nat}{a0:xA}:∀{dep:List (Nat×Nat)},(∀d∈dep,d.1≠r)->depOk {st with ar:=pC st.ar r a0} dep=depOk st dep
 |[],_=>rfl
 |(m,v)::l,h=>by have c:=h (m,v) (by simp);simp only at c;simp only[depOk,bR,if_neg c];rw[LF (λd hd=>h d (by simp[hd]))]
theorem R3{r:Nat}{a0:xA}:∀(a:A)(v:Value),lO a=true->BV r a=false->dC w G st a v->dC w (G.nilAt r) {st with ar:=pC st.ar r a0} a v:=by
 intro a v t g h;have l:∀{m u p a'},kL {st with ar:=pC st.ar r a0} m u p a'->m≠r->kL st m u p a':=λ{m u p a'}hv y=>by have:=hv.1;simp only[bR,if_neg y]at this;exact⟨this,hv.2⟩
 have j:∀m p,m≠r->(G.nilAt r).H m p=G.H m p:=λm p c=>by simp[Gh.nilAt,c]
 cases a with
 |vw m u p=>
  have c:m≠r:=λe=>by subst e;simp[BV,pD]at g
  refine⟨h.1,λa' d=>?_⟩;obtain⟨C,F,H⟩:=h.2 a' (l d c);exact⟨by rw[j m _ c];exact C,F,H⟩
 |px m u n=>
  have c:m≠r:=λe=>by subst e;simp[BV,pD]at g
  exact⟨h.1,λa' d=>by rw[j m _ c];exact h.2 a' (l d c)⟩
 |sx m u k n J=>
  have c:m≠r:=λe=>by subst e;simp[BV,pD]at g
  exact⟨h.1,λa' d=>by rw[j m _ c];exact h.2 a' (l d c)⟩
 |pa m u p k i off=>
  have c:m≠r:=λe=>by subst e;simp[BV,pD]at g
  exact⟨h.1,λa' d=>by rw[j m _ c];exact h.2 a' (l d c)⟩
 |fz dep e el xs=>have hd:=HY (r:=r) (dep:=dep) g;exact⟨h.1,λs=>h.2 (by rw[<-LF (st:=st) (a0:=a0) hd];exact s)⟩
 |pz dep el x off=>have hd:=HY (r:=r) (dep:=dep) g;exact⟨h.1,λs=>h.2 (by rw[<-LF (st:=st) (a0:=a0) hd];exact s)⟩
 |agg xs=>simp[lO]at t
 |tup xs=>simp[lO]at t
 |fn f xs=>simp[lO]at t
 |_=>exact h
theorem Gi{f:A->Bool}{t:Tr}:∀{ks:List Nat},PA f t ks=false->∀k∈ks,(t.get k).any f=false
 |[],_,_,h=>absurd h (by simp)
 |k::ks,h,d,c=>by
  simp only[PA,Bool.or_eq_false_iff]at h;rcases List.mem_cons.1 c with rfl |c
  ·exact h.1
  ·exact Gi h.2 d c
theorem Bn{f:A->Bool}{b:Nat}{x:Bx}:∀{l:List (Nat×Bx)},KI f l=false->look l b=some x->TO f x.lv=false
 |[],_,h=>by simp[look]at h
 |(m,d)::l,h,c=>by
  simp only[KI,Bool.or_eq_false_iff]at h;rw[eO]at c;split at c
  ·injection c with c;subst c;exact h.1
  ·exact Bn h.2 c
theorem Vx{f:A->Bool}:∀{l:List A}{j:Nat},TO f l=false->(l.getD j .undef).any f=false
 |[],j,_=>by simp[A.any]
 |a::l,0,h=>by simp only[TO,Bool.or_eq_false_iff]at h;exact h.1
 |a::l,j+1,h=>by simp only[TO,Bool.or_eq_false_iff]at h;rw[List.getD_cons_succ];exact Vx h.2
theorem gO.new(h:gO ext nt w G st act){ks:List Nat}{r:Nat}{e:TypeId}{el:List LT}(P:lK ks st)(l:0<st.ctr)(s:(PA (BV r) st.sl ks||KI (BV r) st.bx)=false):
  gO ext nt w (G.nilAt r) {st with ar:=pC st.ar r {e:=e,el:=el,data:=[],uid:=0,hv:=WY 0,dv:=0}} act:=by
 simp only[Bool.or_eq_false_iff]at s;have y:∀m p,m≠r->(G.nilAt r).H m p=G.H m p:=λm p L=>by simp[Gh.nilAt,L]
 refine⟨⟨λ_ _ h=>by simp at h,λb x hx=>?_,h.rel.apartB,λm a d=>?_,h.rel.live,λm p=>?_⟩,λt=>?_,h.size,h.defers⟩
 ·obtain⟨H,J,K⟩:=h.rel.boxes b x hx;exact⟨H,J,K.step rfl rfl rfl λj Y v W=>Dz (f:=BV r) R3 _ _ (Vx (Bn s.2 hx)) W⟩
 ·simp only[bR]at d;by_cases e1:m=r
  ·subst e1;rw[if_pos rfl]at d;injection d with d;subst d;refine⟨l,l,⟨rfl,λu C=>by simp[WY]at C;subst C;exact l⟩,?_⟩;have:(G.nilAt m).H m []=.slice none 0 0:=by simp[Gh.nilAt]
   rw[this];exact⟨none,0,0,rfl,rfl,Nat.le_refl _,Nat.zero_le _,λ_=>rfl,by simp⟩
  ·rw[if_neg e1]at d;obtain⟨Q,T,U,V⟩:=h.rel.arrs m a d;refine⟨Q,T,U,?_⟩;rw[y m _ e1];exact FZ (G:=G) (G':=G.nilAt r) (λb g=>⟨g,rfl⟩) (λp=>y m p e1) (λb p g=>⟨g,rfl⟩) V
 ·by_cases e1:m=r/\p=[]
  ·exact⟨none,0,0,by simp[Gh.nilAt,e1]⟩
  ·obtain⟨a,n,c,F⟩:=h.rel.hdr m p;exact⟨a,n,c,by simp only[Gh.nilAt,if_neg e1];exact F⟩
 ·show dC w (G.nilAt r) _ (st.sl.get t) _;by_cases ht:t∈ks
  ·exact Dz (f:=BV r) R3 _ _ (Gi s.1 t ht) (h.slots t)
  ·rw[P t ht];exact trivial
def PU:List LT->List LT->cL->Bool
 |_,_,[]=>false
 |el,c,(_,j)::s=>match el[j]?,c[j]?with
  |some (.sl true _ x),some (.sl true _ d)=>PU x d s
  |some (.sl true _ _),some (.sl false _ _)=>true
  |_,_=>false
def Rc:LT->LT->cL->Bool
 |.sl true _ el,.sl true _ c,s=>PU el c s
 |.sl true _ _,.sl false _ _,_=>true
 |_,_,_=>false
def Gh.frz(G:Gh)(q:Nat)(el c:List LT):Gh:=
 {own:=λb=>match G.own b with
   |.arr r p=>if r=q/\PU el c p=true then .fz else .arr r p
   |t=>t
  H:=G.H
  B:=G.B}
theorem aA9{q:Nat}{el c:List LT}{b:Nat}(h:G.own b=.fz):(G.frz q el c).own b=.fz:=by simp[Gh.frz,h]
theorem Ea{q r:Nat}{el c:List LT}{b:Nat}{p:cL}(h:G.own b=.arr r p):(G.frz q el c).own b=if r=q/\PU el c p=true then .fz else .arr r p:=by simp[Gh.frz,h]
theorem aCN{q:Nat}{el c:List LT}{b:Nat}(h:G.own b=.box):(G.frz q el c).own b=.box:=by simp[Gh.frz,h]
theorem R4{q:Nat}{el c:List LT}{b:Nat}(h:G.own b=.out):(G.frz q el c).own b=.out:=by simp[Gh.frz,h]
mutual
theorem Vy{G':Gh}{q:Nat}(g:∀b,G.own b=.fz->G'.own b=.fz):∀(t:LT)(p:cL)(v:Value)(x:D),(∀s b,G.own b=.arr q (p++s)->G'.own b=.fz)->Ur w G [] q t p v x->uA w (λb=>G'.own b=.fz) t v x
 |.sl true e el,p,v,x,f,h=>by
  rcases uC.1 h with h |⟨U,a,n,c,u,y,C,F,H,J⟩
  ·simp at h
  ·refine⟨a,n,c,u,y,C,F,H,λad K V=>?_⟩;obtain⟨l,m,cs,P,Q,T,r⟩:=J ad K;exact⟨l,λi L=>Gn g el p i _ _ _ _ 0 (f [] _ (by simpa using m)) (λj s b d=>f ((i,j)::s) b d) (r i L)⟩
 |.sl false e el,p,v,x,f,h=>cU (λb d=>⟨g b d,rfl⟩) _ v x h
 |.int k,p,v,x,f,h=>cU (λb d=>⟨g b d,rfl⟩) _ v x h
 |.bool,p,v,x,f,h=>cU (λb d=>⟨g b d,rfl⟩) _ v x h
 |.str,p,v,x,f,h=>cU (λb d=>⟨g b d,rfl⟩) _ v x h
theorem Gn{G':Gh}{q:Nat}(d:∀b,G.own b=.fz->G'.own b=.fz):∀(ts:List LT)(p:cL)(i b o k:Nat)(x:D)(j:Nat),G'.own b=.fz->(∀j s b,G.own b=.arr q (p++(i,j)::s)->G'.own b=.fz)->P4 w G [] q ts p i b o k x j->A6 w (λb=>G'.own b=.fz) ts b o k x j
 |[],_,_,_,_,_,_,_,_,_,_=>trivial
 |t::ts,p,i,b,o,k,x,j,c,e,⟨⟨v,f,g⟩,h⟩=>⟨c,⟨v,f,Vy d t _ v _ (λs b c=>e j s b (by simpa using c)) g⟩,Gn d ts p i b o k x (j+1) c e h⟩
end
theorem Vz(t c:LT)(s:cL):(match some t,some c with
  |some (.sl true _ x),some (.sl true _ d)=>PU x d s
  |some (.sl true _ _),some (.sl false _ _)=>true
  |_,_=>false)=Rc t c s:=by
 cases t with
 |sl o1 e1 f=>cases c with
  |sl o2 e g=>cases o1<;>cases o2<;>rfl
  |_=>cases o1<;>rfl
 |_=>rfl
theorem YC:∀{el c:List LT},JR el c=true->c.length=el.length
 |[],[],_=>rfl
 |[],_::_,h=>by simp[JR]at h
 |_::_,[],h=>by simp[JR]at h
 |t::ts,d::e,h=>by simp only[JR,Bool.and_eq_true]at h;simp[YC h.2]
mutual
theorem aCO{G':Gh}{q:Nat}(j:∀b,G.own b=.fz->G'.own b=.fz)(y:∀p,G'.H q p=G.H q p):∀(t d:LT)(p:cL)(v:Value)(x:D),Fa t d=true->(∀s b,G.own b=.arr q (p++s)->G'.own b=if Rc t d s=true then .fz else .arr q (p++s))->Ur w G [] q t p v x->Ur w G' [] q d p v x
 |.sl true e el,d,p,v,x,hf,g,h=>by
  cases d with
  |sl o' a4 u=>
   cases o' with
   |true=>
    simp only[Fa,Bool.and_eq_true]at hf;have r:=Nat.eq_of_beq_eq_true hf.1;subst r;rcases uC.1 h with h |⟨l,a,n,c,P,Q,T,U,V,W⟩
    ·simp at h
    ·refine uC.2 (.inr ⟨by rw[y];exact l,a,n,c,P,Q,T,U,V,λad Y=>?_⟩);obtain⟨F,H,cs,C,J,K,L⟩:=W ad Y;have f:=g [] ad.block (by simpa using H);simp only[Rc,PU,Bool.false_eq_true,if_false,List.append_nil]at f;rw[YC hf.2];exact⟨F,f,cs,C,J,K,λi a1=>Rd j y el u p i _ _ _ _ 0 hf.2 (λm t d a2 a3 s b f=>by
      have:=g ((i,m)::s) b (by simpa using f);have e1:Rc (.sl true e el) (.sl true e u) ((i,m)::s)=Rc t d s:=by simp only[Rc,PU,a2,a3];exact Vz t d s
      rw[e1]at this;simpa using this) (L i a1)⟩
   |false=>simp only[Fa,Bool.and_eq_true]at hf;have r:=Nat.eq_of_beq_eq_true hf.1;subst r;have a0:=gF _ _ hf.2;subst a0;have l:=Vy (G':=G') j (.sl true e el) p v x (λs b f=>by have:=g s b f;simpa[Rc]using this) h;exact(BW false (.sl true e el) v x).2 l
  |int k=>simp[Fa]at hf
  |bool=>simp[Fa]at hf
  |str=>simp[Fa]at hf
 |.sl false e el,d,p,v,x,hf,g,h=>by have:=LT.beq_eq _ _ (show(LT.sl false e el).beq d=true from by simpa[Fa]using hf);subst this;exact cU (λb f=>⟨j b f,rfl⟩) _ v x h
 |.int k,d,p,v,x,hf,g,h=>by have:=LT.beq_eq _ _ (show(LT.int k).beq d=true from by simpa[Fa]using hf);subst this;exact cU (λb f=>⟨j b f,rfl⟩) _ v x h
 |.bool,d,p,v,x,hf,g,h=>by have:=LT.beq_eq _ _ (show LT.bool.beq d=true from by simpa[Fa]using hf);subst this;exact cU (λb f=>⟨j b f,rfl⟩) _ v x h
 |.str,d,p,v,x,hf,g,h=>by have:=LT.beq_eq _ _ (show LT.str.beq d=true from by simpa[Fa]using hf);subst this;exact cU (λb f=>⟨j b f,rfl⟩) _ v x h
theorem Rd{G':Gh}{q:Nat}(g:∀b,G.own b=.fz->G'.own b=.fz)(f:∀p,G'.H q p=G.H q p):∀(ts d:List LT)(p:cL)(i b o k:Nat)(x:D)(j:Nat),JR ts d=true->
  (∀(m:Nat)(t c:LT),ts[m]?=some t->d[m]?=some c->∀s b,G.own b=.arr q (p++(i,j+m)::s)->G'.own b=if Rc t c s=true then .fz else .arr q (p++(i,j+m)::s))->P4 w G [] q ts p i b o k x j->P4 w G' [] q d p i b o k x j
 |[],[],_,_,_,_,_,_,_,_,_,_=>trivial
 |[],_::_,_,_,_,_,_,_,_,hf,_,_=>by simp[JR]at hf
 |_::_,[],_,_,_,_,_,_,_,hf,_,_=>by simp[JR]at hf
 |t::ts,c::d,p,i,b,o,k,x,j,hf,h,⟨⟨v,l,r⟩,u⟩=>by
  simp only[JR,Bool.and_eq_true]at hf;refine⟨⟨v,l,aCO g f t c _ v _ hf.1 (λs b e=>?_) r⟩,Rd g f ts d p i b o k x (j+1) hf.2 (λm t1 F y C s b e=>?_) u⟩
  ·have:=h 0 t c rfl rfl s b (by simpa using e);simpa using this
  ·have:=h (m+1) t1 F (by simpa using y) (by simpa using C) s b (by rw[show j+(m+1)=j+1+m by omega];exact e);rw[show j+(m+1)=j+1+m by omega]at this;exact this
end
theorem LG:∀(l:List A),TO (λ_=>false) l=false
 |[]=>rfl
 |x::xs=>by have c:x.any (λ_=>false)=false:=any_none1 x;simp only[TO,c,LG xs,Bool.or_self]
where any_none1:∀a:A,a.any (λ_=>false)=false
 |.agg xs=>LG xs
 |.tup xs=>LG xs
 |.fn _ xs=>LG xs
 |.int _ _=>rfl
 |.bool _=>rfl
 |.undef=>rfl
 |.str _=>rfl
 |.nils=>rfl
 |.fz ..=>rfl
 |.vw ..=>rfl
 |.px ..=>rfl
 |.sx ..=>rfl
 |.sb ..=>rfl
 |.pa ..=>rfl
 |.pb ..=>rfl
 |.mp ..=>rfl
 |.ez=>rfl
 |.pz ..=>rfl
 |.nilp=>rfl
theorem gO.frz(h:gO ext nt w G st act){ks:List Nat}(c1:lK ks st){q:Nat}{a:xA}{r:List LT}(a0:look st.ar q=some a)(a9:a.stale=[])(hf:JR a.el r=true):
  Fr w G w (G.frz q a.el r)/\gO ext nt w (G.frz q a.el r) {st with ar:=pC st.ar q {a with el:=r,hv:=WY st.ctr},ctr:=st.ctr+1} act/\
   lK ks {st with ar:=pC st.ar q {a with el:=r,hv:=WY st.ctr},ctr:=st.ctr+1}/\∀(x:A)(v:Value),lO x=true->dC w G st x v->dC w (G.frz q a.el r) {st with ar:=pC st.ar q {a with el:=r,hv:=WY st.ctr},ctr:=st.ctr+1} x v:=by
 let st':St:={st with ar:=pC st.ar q {a with el:=r,hv:=WY st.ctr},ctr:=st.ctr+1}
 have a2:∀b,G.own b=.fz->(G.frz q a.el r).own b=.fz:=λb g=>aA9 g;have a3:=YC hf;have a6:∀dep:List (Nat×Nat),depOk st' dep=depOk st dep:=by
  intro dep;induction dep with
  |nil=>rfl
  |cons d l b0=>
   obtain⟨m,v⟩:=d;simp only[depOk,st',bR]at b0⊢;rw[b0];by_cases e1:m=q
   ·subst e1;rw[if_pos rfl,a0]
   ·rw[if_neg e1]
 have T:∀{m u p a'},kL st' m u p a'->u<st.ctr->(m≠q/\kL st m u p a')\/(m=q/\p=[]/\kL st q u [] a/\a'={a with el:=r,hv:=WY st.ctr}):=λ{m u p a'}hv P=>by
  obtain⟨C,Q,L⟩:=hv;simp only[st',bR]at C;by_cases e1:m=q
  ·subst e1;rw[if_pos rfl]at C;injection C with C;subst C;cases p with
   |nil=>exact .inr ⟨rfl,rfl,⟨a0,Nat.zero_le _,L⟩,rfl⟩
   |cons x p=>
    exfalso;simp only[iN,WY]at L;simp only[List.length_cons]at Q;have:p.length=0\/p.length=1\/p.length=2\/p.length=3:=by omega
    rcases this with e |e |e |e<;>rw[e]at L<;>simp at L<;>omega
  ·rw[if_neg e1]at C;exact .inl ⟨e1,C,Q,L⟩
 have a4:∀(x:A)(v:Value),lO x=true->dC w G st x v->dC w (G.frz q a.el r) st' x v:=by
  intro x v a1 h;have a7:∀dep b,uD G dep b->uD (G.frz q a.el r) dep b:=λdep b g=>by
   rcases g with g |⟨d,hd,p,g⟩
   ·exact .inl (a2 b g)
   ·rw[uD,Ea g];split
    ·exact .inl rfl
    ·exact .inr ⟨d,hd,p,rfl⟩
  cases x with
  |vw m u p=>
   refine⟨Nat.lt_succ_of_lt h.1,λa' H=>?_⟩;rcases T H h.1 with⟨_,k⟩ |⟨rfl,rfl,k,rfl⟩
   ·exact h.2 a' k
   ·exact⟨(h.2 a k).1,⟨_,rfl⟩,trivial⟩
  |px m u n=>
   refine⟨Nat.lt_succ_of_lt h.1,λa' H=>?_⟩;rcases T H h.1 with⟨_,k⟩ |⟨rfl,_,k,rfl⟩
   ·exact h.2 a' k
   ·exact h.2 a k
  |sx m u kk n d0=>
   refine⟨Nat.lt_succ_of_lt h.1,λa' H=>?_⟩;rcases T H h.1 with⟨_,k⟩ |⟨rfl,_,k,rfl⟩
   ·exact h.2 a' k
   ·obtain⟨y,F⟩:=h.2 a k;exact⟨by simp only;rw[a3];exact y,F⟩
  |pa m u p k i off=>
   refine⟨Nat.lt_succ_of_lt h.1,λa' H=>?_⟩;rcases T H h.1 with⟨_,k⟩ |⟨rfl,rfl,k,rfl⟩
   ·exact h.2 a' k
   ·obtain⟨t,y,F,J,K⟩:=h.2 a k;simp only[TX,Option.some.injEq]at y;subst y;exact⟨_,rfl,trivial,by simp only at J⊢;rw[a3];exact J,K⟩
  |fz dep e el xs=>exact⟨λd hd=>Nat.lt_succ_of_lt (h.1 d hd),λY=>cU (λb g=>⟨a7 dep b g,rfl⟩) _ _ _ (h.2 (by rw[<-a6];exact Y))⟩
  |pz dep el x off=>refine⟨λd hd=>Nat.lt_succ_of_lt (h.1 d hd),λY=>?_⟩;obtain⟨b,o,y,F⟩:=h.2 (by rw[<-a6];exact Y);exact⟨b,o,y,rE (λb g=>⟨a7 dep b g,rfl⟩) _ _ _ _ _ _ F⟩
  |sb b u k n=>exact⟨Nat.lt_succ_of_lt h.1,h.2⟩
  |pb b u off=>exact⟨Nat.lt_succ_of_lt h.1,h.2⟩
  |mp b u=>exact⟨Nat.lt_succ_of_lt h.1,h.2⟩
  |agg xs=>simp[lO]at a1
  |tup xs=>simp[lO]at a1
  |fn f xs=>simp[lO]at a1
  |_=>exact h
 have a5:∀(x:A)(v:Value),dC w G st x v->dC w (G.frz q a.el r) st' x v:=λx v h=>Dz (f:=λ_=>false) (λx v C _ Q=>a4 x v C Q) x v (LG.any_none1 x) h;refine⟨⟨rfl,rfl,rfl,Nat.le_refl _,λb _ g=>⟨rfl,by rcases g with g |g<;>rw[g]<;>first|exact R4 g |exact aA9 g⟩,λ_ _ _=>rfl⟩,⟨⟨λ_ _ h=>by simp at h,λb x hx=>?_,h.rel.apartB,λm x hx=>?_,λb g=>h.rel.live b (λe=>g (R4 e)),h.rel.hdr⟩,λt=>a5 _ _ (h.slots t),h.size,h.defers⟩,c1,a4⟩
 ·obtain⟨U,V,W⟩:=h.rel.boxes b x hx;exact⟨Nat.lt_succ_of_lt U,aCN V,W.step rfl rfl rfl λj c9 v c2=>a5 _ _ c2⟩
 ·simp only[bR]at hx;by_cases e1:m=q
  ·subst e1;rw[if_pos rfl]at hx;injection hx with hx;subst hx;obtain⟨y,F,J,K⟩:=h.rel.arrs m a a0;refine⟨Nat.lt_succ_of_lt y,Nat.lt_succ_of_lt F,⟨rfl,λu P=>by simp[WY]at P;subst P;exact Nat.lt_succ_self _⟩,?_⟩;rw[a9]at K;simp only[a9];obtain⟨ad,n,c,c3,c4,c5,c6,c7,c8⟩:=K;refine⟨ad,n,c,c3,c4,c5,c6,c7,λx hx=>?_⟩;obtain⟨U,V,cs,b2,W,b4,b5⟩:=c8 x hx;rw[a3];refine⟨U,?_,cs,b2,W,b4,λi b6=>Rd a2 (λ_=>rfl) a.el r [] i _ _ _ _ 0 hf (λk t b1 b7 c0 s b g=>?_) (b5 i b6)⟩
   ·rw[Ea V];simp[PU]
   ·rw[Ea g];have b3:PU a.el r ([]++(i,0+k)::s)=Rc t b1 s:=by
     simp only[List.nil_append,PU,Nat.zero_add,b7,c0];exact Vz t b1 s
    rw[b3];simp
  ·rw[if_neg e1]at hx;obtain⟨y,F,J,K⟩:=h.rel.arrs m x hx;refine⟨Nat.lt_succ_of_lt y,Nat.lt_succ_of_lt F,⟨J.1,λu P=>Nat.lt_succ_of_lt (J.2 u P)⟩,?_⟩;exact FZ (G:=G) (G':=G.frz q a.el r) (λb g=>⟨a2 b g,rfl⟩) (λp=>rfl) (λb p g=>⟨by rw[Ea g,if_neg (λh=>e1 h.1)],rfl⟩) K
def Gh.fzAll(G:Gh)(q:Nat):Gh:=
 {own:=λb=>match G.own b with
   |.arr r p=>if r=q then .fz else .arr r p
   |t=>t
  H:=G.H
  B:=G.B}
theorem OA{q r:Nat}{b:Nat}{p:cL}(h:G.own b=.arr r p):(G.fzAll q).own b=if r=q then .fz else .arr r p:=by simp[Gh.fzAll,h]
theorem Gp{q:Nat}{b:Nat}(h:∀r p,G.own b≠.arr r p):(G.fzAll q).own b=G.own b:=by
 unfold Gh.fzAll;cases e:G.own b with
 |arr r p=>exact absurd e (h r p)
 |_=>simp[e]
theorem gO.fzA(h:gO ext nt w G st act){ks:List Nat}(Y:lK ks st){q:Nat}{a:xA}(T:look st.ar q=some a)(a0:a.stale=[]):
  Fr w G w (G.fzAll q)/\gO ext nt w (G.fzAll q) {st with ar:=mX st.ar q} act/\lK ks {st with ar:=mX st.ar q}/\
   dC w (G.fzAll q) {st with ar:=mX st.ar q} (.fz [] a.e (eH false a.el) a.data) (G.H q []):=by
 let st':St:={st with ar:=mX st.ar q}
 have g:∀b,G.own b=.fz->(G.fzAll q).own b=.fz:=λb d=>by rw[Gp (by rw[d];simp)];exact d
 have U:∀b,G.own b=.box->(G.fzAll q).own b=.box:=λb d=>by rw[Gp (by rw[d];simp)];exact d
 have J:∀b,G.own b=.out->(G.fzAll q).own b=.out:=λb d=>by rw[Gp (by rw[d];simp)];exact d
 have Q:Le w G st w (G.fzAll q) st':=by
  refine⟨Nat.le_refl _,λr u p a' _ hv=>?_,λb b2 _ hx=>⟨b2,hx,rfl,rfl⟩,λr a' _ hx=>?_,λb d=>⟨g b d,rfl⟩⟩
  ·obtain⟨f,L,P⟩:=hv;simp only[st',mG]at f;split at f
   ·simp at f
   ·exact⟨a',⟨f,L,P⟩,rfl,rfl,rfl,λh=>h⟩
  ·simp only[st',mG]at hx;split at hx
   ·simp at hx
   ·rename_i W;exact⟨a',hx,rfl,λb p d=>⟨⟨p,by rw[OA d,if_neg W]⟩,rfl⟩⟩
 have F:∀(x:A)(v:Value),dC w G st x v->dC w (G.fzAll q) st' x v:=λx v hx=>dH Q x v hx;refine⟨⟨rfl,rfl,rfl,Nat.le_refl _,λb _ d=>⟨rfl,by rcases d with d |d<;>rw[d]<;>first|exact J b d |exact g b d⟩,λ_ _ _=>rfl⟩,
  ⟨⟨λ_ _ h=>by simp at h,λb x hx=>?_,h.rel.apartB,λm x hx=>?_,λb d=>h.rel.live b (λe=>d (J b e)),h.rel.hdr⟩,λt=>F _ _ (h.slots t),h.size,h.defers⟩,Y,?_⟩
 ·obtain⟨y,C,H⟩:=h.rel.boxes b x hx;exact⟨y,U _ C,H.step rfl rfl rfl λj b5 v a4=>F _ _ a4⟩
 ·simp only[mG]at hx;split at hx
  ·simp at hx
  ·rename_i e1;obtain⟨a1,a2,a3,l⟩:=h.rel.arrs m x hx;refine⟨a1,a2,a3,?_⟩;exact FZ (G:=G) (G':=G.fzAll q) (λb d=>⟨g b d,rfl⟩) (λp=>rfl) (λb p d=>⟨by rw[OA d,if_neg e1],rfl⟩) l
 ·obtain⟨_,_,_,l⟩:=h.rel.arrs q a T;rw[a0]at l;obtain⟨ad,n,c,a5,a6,a7,a9,b0,b1⟩:=l;refine⟨by simp,λ_=>⟨ad,n,c,a5,a6,a7,a9,b0,λx hx b6=>?_⟩⟩;obtain⟨y,C,cs,b3,H,b4,K⟩:=b1 x hx;refine⟨y,λi V=>?_⟩;rw[jC,xH];refine rE (ok1:=λb=>(G.fzAll q).own b=.fz) (λb d=>⟨.inl d,rfl⟩) _ _ _ _ _ _ (Gn (G':=G.fzAll q) (q:=q) g a.el [] i _ _ _ _ 0 (by rw[OA C,if_pos rfl]) (λj s b d=>by rw[OA d,if_pos rfl]) (K i V))
theorem Bo(h:gO ext nt w G st act){ks:List Nat}(g:lK ks st)(f:0<st.ctr){r:Nat}{c:Conv}{a a':A}{v:Value}(j:dC w G st a v){st':St}(d:Uj ks r c a st=some (st',a')):
  ∃G',Fr w G w G'/\(∀b,G'.B b=G.B b)/\gO ext nt w G' st' act/\lK ks st'/\0<st'.ctr/\dC w G' st' a' v:=by
 unfold Uj at d;split at d
 ·rename_i e el;cases F:(PA (BV r) st.sl ks||KI (BV r) st.bx)with
  |true=>simp[F,aF]at d
  |false=>simp[F,ok]at d;obtain⟨rfl,rfl⟩:=d;refine⟨G.nilAt r,⟨rfl,rfl,rfl,Nat.le_refl _,λ_ _ _=>⟨rfl,rfl⟩,λ_ _ _=>rfl⟩,λ_=>rfl,h.new g f F,g,f,f,λa' L=>⟨?_,⟨_,rfl⟩,trivial⟩⟩;have hv:v=.slice none 0 0:=j;rw[hv];simp[Gh.nilAt]
 ·rename_i e el q;simp[ok]at d;obtain⟨rfl,rfl⟩:=d;by_cases H:q=r
  ·subst H;have:St.rename ks st q q=st:=by simp[St.rename,pD]
   rw[this];exact⟨G,Fr.refl w G,λ_=>rfl,h,g,f,j⟩
  ·obtain⟨u,y,C⟩:=h.ren H g;refine⟨G.moved q r,aA8 q r,λ_=>rfl,u,y,by rw[C];exact f,?_⟩;have:=Rb (ks:=ks) H (.vw q 0 []) v rfl j;simpa[TR,pD]using this
 ·rename_i e el;simp[ok]at d;obtain⟨rfl,rfl⟩:=d;have hv:v=.slice none 0 0:=j;exact⟨G,Fr.refl w G,λ_=>rfl,h,g,f,by simp,λ_=>⟨none,0,0,hv,rfl,Nat.le_refl _,Nat.zero_le _,λ_=>rfl,by simp⟩⟩
 ·simp[ok]at d;obtain⟨rfl,rfl⟩:=d;exact⟨G,Fr.refl w G,λ_=>rfl,h,g,f,j⟩
 ·simp[ok]at d;obtain⟨rfl,rfl⟩:=d;exact⟨G,Fr.refl w G,λ_=>rfl,h,g,f,j⟩
 ·rename_i e el q;obtain⟨x,s,l⟩:=bind_some d;simp only[nJ]at s;split at l
  ·rename_i J;obtain⟨m,t⟩:=aV l;simp only[ok,Option.some.injEq,Prod.mk.injEq]at t;obtain⟨rfl,rfl⟩:=t;simp only[Bool.and_eq_true]at m;obtain⟨u,y,C,K⟩:=h.frz g s J m.2.2;exact⟨_,u,λ_=>rfl,y,C,Nat.succ_pos _,K _ _ rfl j⟩
  ·simp[aF]at l
 ·simp[ok]at d;obtain⟨rfl,rfl⟩:=d;have hv:v=.slice none 0 0:=j;exact⟨G,Fr.refl w G,λ_=>rfl,h,g,f,by simp,λ_=>⟨none,0,0,hv,rfl,Nat.le_refl _,Nat.zero_le _,λ_=>rfl,by simp⟩⟩
 ·simp[ok]at d;obtain⟨rfl,rfl⟩:=d;exact⟨G,Fr.refl w G,λ_=>rfl,h,g,f,j⟩
 ·rename_i e el q;obtain⟨x,s,l⟩:=bind_some d;simp only[nJ]at s;split at l
  ·rename_i J;obtain⟨m,t⟩:=aV l;simp only[ok,Option.some.injEq,Prod.mk.injEq]at t;obtain⟨rfl,rfl⟩:=t;simp only[Bool.and_eq_true]at m;obtain⟨u,y,C,K⟩:=h.fzA g s J;refine⟨_,u,λ_=>rfl,y,C,f,?_⟩;rw[(j.2 x ⟨s,Nat.zero_le _,Nat.eq_of_beq_eq_true m.1⟩).1,gF _ _ m.2.2,<-Nat.eq_of_beq_eq_true m.2.1];exact K
  ·simp[aF]at l
 ·simp[aF]at d
theorem gO.put(h:gO ext nt w G st act){t:Nat}{a:A}(c:dC w G st a (tv ext act t)):gO ext nt w G (st.put t a) act:=by
 refine⟨h.rel.slotsTo _,λd=>?_,h.size,h.defers⟩;refine oZ.2 ?_;simp only[St.put,Tr.get_set];split
 ·rename_i e;subst e;exact c
 ·exact h.slots d
theorem HZ{n:Nat}:∀{l:List Nat},has l n=true<->n∈l
 |[]=>by simp[has]
 |m::l=>by
  by_cases h:m=n
  ·subst h;simp[has,pD]
  ·simp[has,pJ h,HZ (l:=l),Ne.symm h]
theorem lK.put{ks:List Nat}(f:lK ks st){t:Nat}(ht:t∈ks)(a:A):lK ks (st.put t a):=λd c=>by have:d≠t:=λe=>c (e▸ht);simp[St.put,Tr.get_set,this,f d c]
theorem Bp{ks:List Nat}{nb:Nat}:∀(l:List (Nat×Conv)){G:Gh}{st st':St},gO ext nt w G st act->lK ks st->0<st.ctr->Uk ks nb l st=some st'->∃G',Fr w G w G'/\gO ext nt w G' st' act/\lK ks st'/\0<st'.ctr
 |[],G,st,st',h,f,e,d=>by simp[Uk,ok]at d;subst d;exact⟨G,Fr.refl w G,h,f,e⟩
 |(t,c)::l,G,st,st',h,f,e,d=>by simp only[Uk]at d;obtain⟨j,m⟩:=aV d;obtain⟨q,r,s⟩:=bind_some m;obtain⟨K,u,_,v,y,C,F⟩:=Bo h f e (h.slots t) r;obtain⟨g,H,J⟩:=Bp l (v.put F) (y.put (HZ.1 j) _) C s;exact⟨g,u.trans H,J⟩
theorem gO.setLeaf(h:gO ext nt w G st act){b j:Nat}{x:Bx}{a:A}(hx:look st.bx b=some x)(W:x.mp=none)(u:∀cs e,w.heap[(G.B b).1]?=some (.cells cs e (0,0))->∀v,cs[(G.B b).2 +j]?=some v->dC w G st a v):
  gO ext nt w G {st with bx:=pC st.bx b {uid:=x.uid,lv:=x.lv.set j a}} act:=by
 have s:=Le.bxPut (w:=w) (G:=G) hx (x.lv.set j a);refine⟨?_,λt=>dH s _ _ (h.slots t),h.size,h.defers⟩;obtain⟨P,Q,V⟩:=h.rel.boxes b x hx;obtain⟨cs,e,F,T,U⟩:=V.cells W;refine h.rel.step s (λ_ _ h=>by simp at h) (λb' f c=>?_) (λb1 b2 a1 a2 e1 C Y=>?_) (λr a u=>.inl ⟨u,λ_=>rfl,λb p h=>⟨h,rfl⟩⟩) h.rel.live h.rel.hdr
 ·simp only[bR]at c;by_cases g:b'=b
  ·rw[if_pos g]at c;injection c with c;subst c;subst g;refine .inr ⟨P,Q,kE.of_cells rfl ⟨cs,e,F,by simpa using T,λd y=>?_⟩⟩;simp only[List.length_set]at y;obtain⟨v,m,K⟩:=U d y;refine⟨v,m,dH s _ _ ?_⟩;by_cases H:d=j
   ·subst H;have:(x.lv.set d a).getD d .undef=a:=by simp[List.getD,y]
    rw[this];exact u cs e F v m
   ·have:(x.lv.set j a).getD d .undef=x.lv.getD d .undef:=by simp[List.getD,List.getElem?_set,Ne.symm H]
    rw[this];exact K
  ·rw[if_neg g]at c;exact .inl ⟨c,rfl,rfl,(h.rel.boxes b' f c).2.1⟩
 ·simp only[bR]at e1 C;have J:∀b' f,(if b'=b then some ({uid:=x.uid,lv:=x.lv.set j a}:Bx)else look st.bx b')=some f->∃L,look st.bx b'=some L/\L.lv.length=f.lv.length:=λb' f l=>by
   split at l
   ·rename_i g;injection l with l;subst l;subst g;exact⟨x,hx,by simp⟩
   ·exact⟨f,l,rfl⟩
  obtain⟨y1,a0,a3⟩:=J b1 a1 e1;obtain⟨y2,m,K⟩:=J b2 a2 C;exact h.rel.apartB b1 b2 y1 y2 a0 m Y
theorem IA{ks:List Nat}:∀(l:List (Nat×Nat×Conv)){G:Gh}{st st':St},gO ext nt w G st act->lK ks st->0<st.ctr->XH ks l st=some st'->∃G',Fr w G w G'/\gO ext nt w G' st' act/\lK ks st'/\0<st'.ctr
 |[],G,st,st',h,s,r,f=>by simp[XH,ok]at f;subst f;exact⟨G,Fr.refl w G,h,s,r⟩
 |(b,j,c)::l,G,st,st',h,s,r,f=>by
  simp only[XH]at f;cases hx:look st.bx b with
  |none=>simp only[hx]at f;exact IA l h s r f
  |some x=>
   simp only[hx]at f;obtain⟨q,g,L⟩:=bind_some f;obtain⟨a4,t,P⟩:=bind_some L;simp only[nJ]at t;obtain⟨a9,b0,d⟩:=h.rel.boxes b x hx;by_cases y:j<x.lv.length
   ·have Q:x.mp=none:=d.noMap y;obtain⟨cs,e,u,b1,K⟩:=d.cells Q;obtain⟨v,a0,a1⟩:=K j y;obtain⟨a5,U,C,F,V,W,Y⟩:=Bo h s r a1 g;have T:=F.setLeaf (j:=j) (a:=q.2) t ((F.rel.boxes b a4 t).2.2.noMap' (by rw[C];exact u)) (λa6 a7 d b2 m=>by
     rw[C]at d m;rw[u]at d;injection d with d;injection d with d;subst d;rw[a0]at m;injection m with m;subst m;exact Y)
    obtain⟨H,a2,a3⟩:=IA l T V W P;exact⟨H,U.trans a2,a3⟩
   ·have:x.lv.getD j .undef=.undef:=by
     simp only[List.getD];rw[List.getElem?_eq_none (by omega)];rfl
    rw[this]at g;unfold Uj at g;split at g<;>first|(rename_i J;simp at J;done) |(simp[aF]at g;done) |(simp_all;done)
theorem LH(h:gO ext nt w G st act){a:Option Ann}{st':St}(c:FV a st=some st'):∃G',Fr w G w G'/\gO ext nt w G' st' act:=by
 cases a with
 |none=>simp[FV,ok]at c;subst c;exact⟨G,Fr.refl w G,h⟩
 |some a=>
  obtain⟨m,r⟩:=h.keep a.keep;have e:=m.gc a.keep;have s:lK a.keep ((st.keep a.keep).gc a.keep):=r;have t:0<((st.keep a.keep).gc a.keep).ctr:=Nat.lt_succ_self 0;simp only[FV]at c;split at c
  ·simp[ok]at c;subst c;exact⟨G,Fr.refl w G,e⟩
  ·obtain⟨s1,g,j⟩:=bind_some c;obtain⟨P,l,d⟩:=bind_some j;simp[ok]at d;subst d;obtain⟨J,u,v,y,C⟩:=Bp _ e s t g;obtain⟨f,F,H,K,L⟩:=IA _ v y C l;exact⟨f,u.trans F,H.gc _⟩
end
end Go.Eng

namespace Go.Eng
def E5:Ex->Exit
 |.norm=>.normal
 |.ret=>.ret
 |.exit id=>.exit id
def kG(E:eQ)(h:eV)(nt:Nat):Code->Bool
 |.skip=>true
 |.region id ops d=>aA7 E h nt id ops d
 |.seq x c=>kG E h nt x&&kG E h nt c
 |.cond _ x c=>kG E h nt x&&kG E h nt c
 |.block _ x=>kG E h nt x
 |.loop x=>kG E h nt x
 |.exit _=>true
 |.ret=>true
 |.label _=>true
 |.scope x=>kG E h nt x
 |_=>false
section
variable{ext:Nat->Value}{P:Program}{nt:Nat}
theorem aBa{p:Nat->Prop}(h:∃n,p n):∃n,p n/\∀m,p m->n<=m:=by
 obtain⟨n,f⟩:=h;induction n using Nat.strongRecOn with
 |_ n j=>
  by_cases c:∃m,m<n/\p m
  ·obtain⟨m,d,e⟩:=c;exact j m d e
  ·exact⟨n,f,λm g=>by
    rcases Nat.lt_or_ge m n with h |h
    ·exact absurd ⟨m,h,g⟩ c
    ·exact h⟩
theorem E6{x:Code}{f:St->M (Ex×St)}{hd:St->M St}{Q:Exit->Act->World->Prop}{w0:World}{m:Gh}{ex:Ex}{st1:St}
  (hf:∀{w:World}{G:Gh}{st:St}{act:Act}{e:Ex}{st':St},gO ext nt w G st act->f st=some (e,st')->∀Q:Exit->Act->World->Prop,(∀c a a' w,Q (.panic c) a w->Q (.panic c) a' w)->(∀w' G' d,Fr w G w' G'->gO ext nt w' G' st' d->Q (E5 e) d w')->x.wp P Q act w)
  (a0:∀{w:World}{G:Gh}{st st':St}{act:Act},gO ext nt w G st act->hd st=some st'->∃G',Fr w G w G'/\gO ext nt w G' st' act)
  (W:∀c a a' w,Q (.panic c) a w->Q (.panic c) a' w)(H:∀w' G' d,Fr w0 m w' G'->gO ext nt w' G' st1 d->Q (E5 ex) d w')
  {k:Nat}{st:St}{act:Act}(h:gO ext nt w0 m st act)(a1:TS f hd k st=some (ex,st1)):(Code.loop x).wp P Q act w0:=by
 classical
 let t:Nat->Act->World->Prop:=λn a w=>∃G st,Fr w0 m w G/\gO ext nt w G st a/\TS f hd n st=some (ex,st1)
 let I:Act->World->Prop:=λa w=>∃n,t n a w
 let l:Act->World->Nat:=λa w=>if g:I a w then Classical.choose (aBa g)else 0
 have a2:∀n a w,t n a w->l a w<=n:=λn a w u=>by have g:I a w:=⟨n,u⟩;simp only[l,dif_pos g];exact(Classical.choose_spec (aBa g)).2 n u
 refine wp_loop I l ⟨k,m,st,Fr.refl w0 m,h,a1⟩ λa w g=>?_;have u:t (l a w) a w:=by simp only[l,dif_pos g];exact(Classical.choose_spec (aBa g)).1
 obtain⟨G,a5,v,L,s⟩:=u;cases K:l a w with
 |zero=>rw[K]at s;simp[TS,aF]at s
 |succ n=>
  rw[K]at s;simp only[TS]at s;obtain⟨st3,T,U⟩:=bind_some s;obtain⟨r,V,j⟩:=bind_some U;obtain⟨e,st4⟩:=r;obtain⟨a4,F,a3⟩:=a0 L T;refine hf a3 V _ (λc a a' w Y=>W c a a' w Y) (λw' G' d y C=>?_);cases e with
  |norm=>simp only[KJ]at j;have J:t n d w':=⟨G',st4,(v.trans F).trans y,C,j⟩;exact⟨⟨n,J⟩,Nat.lt_succ_of_le (a2 n d w' J)⟩
  |ret=>simp[KJ,ok]at j;obtain⟨rfl,rfl⟩:=j;exact H w' G' d ((v.trans F).trans y) C
  |exit id=>simp[KJ,ok]at j;obtain⟨rfl,rfl⟩:=j;exact H w' G' d ((v.trans F).trans y) C
theorem qJ{E:eQ}{y:eV}{ctx:rZ}(H:fV P E)(F:iW P E ctx)(J:P.follows .mixedOrders=true)(C:nt<=500)(k:Nat):∀(c:Code)(b:Nat),kG E y nt c=true->
  ∀{w:World}{G:Gh}{st:St}{act:Act}{ex:Ex}{st':St},gO ext nt w G st act->JY E y ctx k b c st=some (ex,st')->
   ∀Q:Exit->Act->World->Prop,(∀c a a' w,Q (.panic c) a w->Q (.panic c) a' w)->(∀w' G' l,Fr w G w' G'->gO ext nt w' G' st' l->Q (E5 ex) l w')->c.wp P Q act w
 |.skip,b,_,w,G,st,act,ex,st',j,h,Q,u,d=>by simp[JY,ok]at h;obtain⟨rfl,rfl⟩:=h;exact wp_skip (d w G act (Fr.refl w G) j)
 |.region id ops b3,b,g,w,G,st,act,ex,st',j,h,Q,u,d=>by
  simp only[JY]at h;refine E4 H F J C g j (λa3 K=>?_) h u (λw' G' l Y v s=>?_)
  ·unfold Fc at K;split at K
   ·simp only[ok,Option.some.injEq,Prod.mk.injEq]at K;obtain⟨rfl,rfl⟩:=K;exact⟨rfl,_,Fr.refl _ _,a3⟩
   ·unfold A1 at K;obtain⟨b1,W,U⟩:=bind_some K;simp only[ok,Option.some.injEq,Prod.mk.injEq]at U;obtain⟨rfl,rfl⟩:=U;obtain⟨L,a0,a1⟩:=LH a3 W;exact⟨rfl,L,a0,a1⟩
  ·have:=d w' G' l v s;rw[Y]at this;exact this
 |.seq x a2,b,g,w,G,st,act,ex,st',j,h,Q,u,d=>by
  simp only[kG,Bool.and_eq_true]at g;simp only[JY]at h;obtain⟨r,T,m⟩:=bind_some h;obtain⟨e1,st1⟩:=r;refine wp_seq (qJ H F J C k x b g.1 j T _ (λc a a' w y=>u c a a' w y) (λw' G' l v s=>?_));cases e1 with
  |norm=>simp only[Ul]at m;exact qJ H F J C k a2 b g.2 s m Q u (λb2 L a5 a6 b0=>d b2 L a5 (v.trans a6) b0)
  |ret=>simp[Ul,ok]at m;obtain⟨rfl,rfl⟩:=m;exact d w' G' l v s
  |exit id=>simp[Ul,ok]at m;obtain⟨rfl,rfl⟩:=m;exact d w' G' l v s
 |.cond c x a2,b,g,w,G,st,act,ex,st',j,h,Q,u,d=>by
  simp only[kG,Bool.and_eq_true]at g;simp only[JY]at h;have hv:=Y2 (w:=w) (G:=G) (st:=st) (act:=act) j.slots c;unfold aAx at h;split at h
  ·rename_i t Y;rw[Y]at hv;refine wp_cond (t:=t) hv ?_;cases t with
   |true=>exact qJ H F J C k x b g.1 j (by simpa using h) Q u d
   |false=>exact qJ H F J C k a2 b g.2 j (by simpa using h) Q u d
  ·simp[aF]at h
 |.block id x,b,g,w,G,st,act,ex,st',j,h,Q,u,d=>by
  simp only[kG]at g;simp only[JY]at h;obtain⟨r,T,m⟩:=bind_some h;obtain⟨e1,st1⟩:=r;refine wp_block (qJ H F J C k x id g j T _ (λc a a' w y=>u c a a' w y) (λw' G' l v s=>?_));cases e1 with
  |norm=>simp[Um,ok]at m;obtain⟨rfl,rfl⟩:=m;exact d w' G' l v s
  |ret=>simp[Um,ok]at m;obtain⟨rfl,rfl⟩:=m;exact d w' G' l v s
  |exit i=>
   simp only[Um]at m;show if i=id then Q .normal l w' else Q (.exit i) l w'
   by_cases e:i=id
   ·subst e;simp[pD,ok]at m;obtain⟨rfl,rfl⟩:=m;rw[if_pos rfl];exact d w' G' l v s
   ·simp[pJ e,ok]at m;obtain⟨rfl,rfl⟩:=m;rw[if_neg e];exact d w' G' l v s
 |.loop x,b,g,w,G,st,act,ex,st',j,h,Q,u,d=>by
  simp only[kG]at g;simp only[JY]at h;obtain⟨r,T,m⟩:=bind_some h;obtain⟨e1,st1⟩:=r;obtain⟨b1,W,U⟩:=bind_some m;simp[ok]at U;obtain⟨rfl,rfl⟩:=U;exact E6 (f:=JY E y ctx k b x) (hd:=FV (look y.heads b)) (λs V a4 a9 a7=>qJ H F J C k x b g s V a4 a9 a7) (λs V=>LH s V) u
   (λw' G' l v s=>by obtain⟨L,a0,a1⟩:=LH s W;exact d w' L l (v.trans a0) a1) j T
 |.exit id,b,_,w,G,st,act,ex,st',j,h,Q,u,d=>by simp[JY,ok]at h;obtain⟨rfl,rfl⟩:=h;exact wp_exit (d w G act (Fr.refl w G) j)
 |.ret,b,_,w,G,st,act,ex,st',j,h,Q,u,d=>by simp[JY,ok]at h;obtain⟨rfl,rfl⟩:=h;exact wp_ret (d w G act (Fr.refl w G) j)
 |.rangeFunc ..,_,g,_,_,_,_,_,_,_,_,_,_,_=>by simp[kG]at g
 |.scope x,b,g,w,G,st,act,ex,st',j,h,Q,u,d=>by simp only[kG]at g;simp only[JY]at h;refine wp_scope_straight (qJ H F J C k x b g j h _ (λc a a' w y=>u c a a' w y) (λw' G' l v s=>?_));have:=d w' G' l v s;cases ex<;>exact this
 |.label _,b,_,w,G,st,act,ex,st',j,h,Q,u,d=>by simp[JY,ok]at h;obtain⟨rfl,rfl⟩:=h;exact wp_label (d w G act (Fr.refl w G) j)
 |.goto _,_,g,_,_,_,_,_,_,_,_,_,_,_=>by simp[kG]at g
 |.refuse _,_,g,_,_,_,_,_,_,_,_,_,_,_=>by simp[kG]at g
end
end Go.Eng

namespace Go.Eng
def R5(w:World)(G:Gh)(ds:List (Nat×Nat)):LT->Value->D->Option Nat->Prop
 |.sl true e el,v,x,some m=>xI w G [] m e el [] v x.els
 |.sl true _ _,v,x,none=>v=.slice none 0 0/\x.els=[]
 |.sl false e el,v,x,n=>n=none/\uA w (uD G ds) (.sl false e el) v x
 |.int k,v,x,n=>n=none/\uA w (uD G ds) (.int k) v x
 |.bool,v,x,n=>n=none/\uA w (uD G ds) .bool v x
 |.str,v,x,n=>n=none/\uA w (uD G ds) .str v x
def PV(w:World)(G:Gh)(ds:List (Nat×Nat)):List LT->List Value->Nat->D->Nat->List (Option Nat)->Prop
 |[],vs,_,_,_,ns=>vs=[]/\ns=[]
 |t::ts,vs,k,x,j,ns=>∃v d n c,vs=v::d/\ns=n::c/\R5 w G ds t v (lf k x j) n/\PV w G ds ts d k x (j+1) c
def dP:List (Option Nat)->List Nat
 |[]=>[]
 |none::l=>dP l
 |some m::l=>m::dP l
theorem PV.length{w:World}{G:Gh}{ds:List (Nat×Nat)}:∀{ts:List LT}{vs:List Value}{k:Nat}{x:D}{j:Nat}{ns:List (Option Nat)},PV w G ds ts vs k x j ns->vs.length=ts.length
 |[],_,_,_,_,_,⟨h,_⟩=>by rw[h];rfl
 |_::_,_,_,_,_,_,⟨v,f,n,e,c,_,_,d⟩=>by rw[c];simp[d.length]
section
variable{w:World}{G:Gh}{st:St}{sl:Nat->Option Value}
theorem yK{ds ds':List (Nat×Nat)}(h:∀d,d∈ds->d∈ds')(b:Nat)(c:uD G ds b):uD G ds' b:=by
 rcases c with c |⟨d,hd,p,e⟩
 ·exact .inl c
 ·exact .inr ⟨d,h d hd,p,e⟩
theorem aF6{ds:List (Nat×Nat)}{t:LT}{v:Value}{x:D}(ht:qW t=false)(h:uA w (uD G ds) t v x):R5 w G ds t v x none:=by
 cases t with
 |sl o e el=>cases o with
  |true=>simp[qW]at ht
  |false=>exact⟨rfl,h⟩
 |int k=>exact⟨rfl,h⟩
 |bool=>exact⟨rfl,h⟩
 |str=>exact⟨rfl,h⟩
theorem Li(y:cZ w G st sl){t:LT}{a:A}{v:Value}{r:La D}(h:HE st t a=some r)(l:dC w G st a v){ds:List (Nat×Nat)}(F:∀d,d∈r.ds->d∈ds):
  ∃n,R5 w G ds t v r.x n/\r.os=dP [n]:=by
 unfold HE at h;split at h
 ·rename_i k L n;obtain⟨f,c⟩:=aV h;simp[ok]at c;subst c;have:=(eJ k L).1 f;subst this;exact⟨none,⟨rfl,l⟩,rfl⟩
 ·simp[ok]at h;subst h;exact⟨none,⟨rfl,l⟩,rfl⟩
 ·simp[ok]at h;subst h;exact⟨none,⟨rfl,l⟩,rfl⟩
 ·rename_i o e el;simp[ok]at h;subst h;have hv:v=.slice none 0 0:=l;cases o with
  |true=>exact⟨none,⟨hv,rfl⟩,rfl⟩
  |false=>exact⟨none,⟨rfl,by rw[hv];exact Fl⟩,rfl⟩
 ·rename_i e el r' u;obtain⟨a',f,c⟩:=bind_some h;split at c
  ·rename_i K;obtain⟨g,j⟩:=aV c;simp[ok]at j;subst j;simp only[Bool.and_eq_true]at g;have e1:=Nat.eq_of_beq_eq_true g.1;have m:=gF _ _ g.2;subst e1;subst m;have C:=dX f;obtain⟨J,_,_⟩:=l.2 a' C;have H:=(y.arrs r' a' C.1).2.2.2;rw[K]at H;exact⟨some r',by rw[J];exact H,rfl⟩
  ·simp[aF]at c
 ·rename_i e el dep Q T xs;obtain⟨f,c⟩:=aV h;simp[ok]at c;subst c;simp only[Bool.and_eq_true]at f;obtain⟨f,g,j⟩:=f;have:=gF _ _ j;subst this;exact⟨none,⟨rfl,cU (λb s=>⟨yK F b s,rfl⟩) _ _ _ (l.2 f)⟩,rfl⟩
 ·rename_i e el r' u p;obtain⟨q,f,c⟩:=bind_some h;obtain⟨g,j⟩:=aV c;simp[ok]at j;subst j;simp only[Bool.and_eq_true]at g;have m:=gF _ _ g.2;obtain⟨J,P⟩:=KR y l f;subst m;exact⟨none,⟨rfl,cU (λb s=>⟨yK F b s,rfl⟩) _ _ _ P⟩,rfl⟩
 ·simp[aF]at h
theorem Gq(l m:List (Option Nat)):dP (l++m)=dP l++dP m:=by
 induction l with
 |nil=>rfl
 |cons a l c=>cases a<;>simp[dP,c]
theorem JS(g:cZ w G st sl){ds:List (Nat×Nat)}{k:Nat}{x:D}:∀{lv:List LT}{l:List A}{vs:List Value}{r:La (List D)}(j:Nat),cJ st lv l=some r->eF w G st l vs->(∀d,d∈r.ds->d∈ds)->
  (∀c e,r.x[c]?=some e->lf k x (j+c)=e)->∃ns,PV w G ds lv vs k x j ns/\r.os=dP ns/\r.x.length=lv.length
 |[],[],vs,r,j,h,hv,_,_=>by simp[cJ,ok]at h;subst h;exact⟨[],⟨hv,rfl⟩,rfl,rfl⟩
 |t::ts,a::l,vs,r,j,h,hv,m,hx=>by simp only[cJ]at h;obtain⟨p,C,F⟩:=bind_some h;obtain⟨q,H,f⟩:=bind_some F;simp[ok]at f;subst f;obtain⟨v,U,rfl,J,K⟩:=hv;obtain⟨n,u,y⟩:=Li g C J (ds:=ds) (λd hd=>m d (by simp[hd]));obtain⟨ns,P,Q,T⟩:=JS g (j+1) H K (λd hd=>m d (by simp[hd])) (λc e L=>by have:=hx (c+1) e (by simpa using L);rw[<-this];congr 1;omega);have s:=hx 0 p.x rfl;refine⟨n::ns,⟨v,U,n,ns,rfl,rfl,by rw[Nat.add_zero]at s;rw[s];exact u,P⟩,?_,by simp[T]⟩;have:n::ns=[n]++ns:=rfl;simp only;rw[this,Gq,y,Q]
 |[],_::_,_,_,_,h,_,_,_=>by simp[cJ,aF]at h
 |_::_,[],_,_,_,h,_,_,_=>by simp[cJ,aF]at h
theorem xP{st:St}:∀{lv:List LT}{l:List A}{r:La (List D)},cJ st lv l=some r->r.x.length=lv.length
 |[],[],r,h=>by simp[cJ,ok]at h;subst h;rfl
 |t::ts,a::l,r,h=>by simp only[cJ]at h;obtain⟨p,f,d⟩:=bind_some h;obtain⟨q,e,c⟩:=bind_some d;simp[ok]at c;subst c;simp[xP e]
 |[],_::_,_,h=>by simp[cJ,aF]at h
 |_::_,[],_,h=>by simp[cJ,aF]at h
theorem VA(g:cZ w G st sl){ds:List (Nat×Nat)}{lv:List LT}{l:List A}{vs:List Value}{r:La (List D)}(h:cJ st lv l=some r)(hv:eF w G st l vs)(j:∀d,d∈r.ds->d∈ds):
  ∃ns,PV w G ds lv vs lv.length (fM r.x) 0 ns/\r.os=dP ns:=by
 have m:=xP h;obtain⟨ns,e,f,_⟩:=JS (k:=lv.length) (x:=fM r.x) g 0 h hv j (λs u c=>by have t:=(List.getElem?_eq_some_iff.1 c).1;rw[Nat.zero_add,HM m s (by omega)];simp[List.getD,c]);exact⟨ns,e,f⟩
end
def Gh.noFz(G:Gh):Gh:={G with own:=λb=>match G.own b with|.fz=>.out |t=>t}
theorem Gr{G:Gh}{b r:Nat}{p:cL}:G.noFz.own b=.arr r p<->G.own b=.arr r p:=by simp only[Gh.noFz];cases G.own b<;>simp
mutual
theorem aBb{w:World}{G:Gh}{S:List cL}{r:Nat}:∀(t:LT)(p:cL)(v:Value)(x:D),t.noFz=true->Ur w G S r t p v x->Ur w G.noFz S r t p v x
 |.sl true e el,p,v,x,d,h=>by
  simp only[LT.noFz,Bool.true_and]at d;rcases h with h |⟨u,a,n,c,y,C,F,H,J,K⟩
  ·exact .inl h
  ·refine .inr ⟨u,a,n,c,y,C,F,H,J,λad L=>?_⟩;obtain⟨g,j,cs,f,l,m,s⟩:=K ad L;exact⟨g,Gr.2 j,cs,f,l,m,λi P=>Gs el p i _ _ _ _ _ d (s i P)⟩
 |.sl false e el,p,v,x,d,h=>by simp[LT.noFz]at d
 |.int k,_,v,x,_,h=>h
 |.bool,_,v,x,_,h=>h
 |.str,_,v,x,_,h=>h
theorem Gs{w:World}{G:Gh}{S:List cL}{r:Nat}:∀(ts:List LT)(p:cL)(i b o k:Nat)(x:D)(j:Nat),oP ts=true->P4 w G S r ts p i b o k x j->P4 w G.noFz S r ts p i b o k x j
 |[],_,_,_,_,_,_,_,_,_=>trivial
 |t::ts,p,i,b,o,k,x,j,c,⟨⟨v,d,e⟩,f⟩=>by simp only[oP,Bool.and_eq_true]at c;exact⟨⟨v,d,aBb t _ v _ c.1 e⟩,Gs ts p i b o k x (j+1) c.2 f⟩
end
theorem aBc{w:World}{G:Gh}{S:List cL}{r:Nat}{e:TypeId}{el:List LT}{p:cL}{v:Value}{data:List D}(K:oP el=true)(h:xI w G S r e el p v data):xI w G.noFz S r e el p v data:=by obtain⟨a,n,c,s,t,u,y,C,F⟩:=h;refine⟨a,n,c,s,t,u,y,C,λad H=>?_⟩;obtain⟨f,g,cs,d,j,l,m⟩:=F ad H;exact⟨f,Gr.2 g,cs,d,j,l,λi J=>Gs el p i _ _ _ _ _ K (m i J)⟩
def Gh.adopt(Gm Gx:Gh)(c d:Nat)(v:Value):Gh:=
 {own:=λb=>match Gx.own b with
   |.arr r p=>if r=c then .arr d p else Gm.own b
   |_=>Gm.own b
  H:=λm p=>if m=d then(match p with|[]=>v |_::_=>Gx.H c p)else Gm.H m p
  B:=Gm.B}
theorem OB{Gm Gx:Gh}{c d:Nat}{v:Value}{b:Nat}(h:∀p,Gx.own b≠.arr c p):(Gm.adopt Gx c d v).own b=Gm.own b:=by
 simp only[Gh.adopt];cases f:Gx.own b with
 |arr r p=>have:r≠c:=λe=>h p (by rw[f,e]);simp[this]
 |_=>rfl
theorem Gt{Gm Gx:Gh}{c d:Nat}{v:Value}{b:Nat}{p:cL}(h:Gx.own b=.arr c p):(Gm.adopt Gx c d v).own b=.arr d p:=by simp[Gh.adopt,h]
theorem Bq{w:World}{Gm Gx:Gh}{st:St}{sl:Nat->Option Value}(u:cZ w Gm st sl){g d:Nat}{e:TypeId}{el:List LT}{v:Value}{data:List D}(F:xI w Gx [] g e el [] v data)
  (a3:∀b p,Gx.own b=.arr g p->Gm.own b=.out)(m:(∀b,Gx.own b=.fz->Gm.own b=.fz)\/oP el=true)(a6:∀b,Gx.own b≠.out->b<w.heap.size)(a4:∀r p,∃a n c,Gx.H r p=.slice a n c):
  Le w Gm st w (Gm.adopt Gx g d v) (st.newArr d e el data)/\cZ w (Gm.adopt Gx g d v) (st.newArr d e el data) sl/\dC w (Gm.adopt Gx g d v) (st.newArr d e el data) (.vw d st.ctr []) v:=by
 have hv:∃a n c,v=.slice a n c:=by obtain⟨a,n,c,h,_⟩:=F;exact⟨a,n,c,h⟩
 have t:∀b T,Gm.own b=T->T≠.out->(Gm.adopt Gx g d v).own b=T:=λb T f a7=>by rw[OB (λp C=>a7 (by rw[<-f];exact a3 b p C)),f]
 have L:(Gm.adopt Gx g d v).H d []=v:=by simp[Gh.adopt]
 have b1:xI w (Gm.adopt Gx g d v) [] d e el [] v data:=by
  have key:∀l:Gh,(∀b p,l.own b=.arr g p->Gx.own b=.arr g p)->(∀p,l.H g p=Gx.H g p)->(∀b,l.own b=.fz->(Gm.adopt Gx g d v).own b=.fz)->xI w l [] g e el [] v data->xI w (Gm.adopt Gx g d v) [] d e el [] v data:=λl K a0 a1 a2=>by obtain⟨a,n,c,H,J,b3,b4,b5,b6⟩:=a2;refine⟨a,n,c,H,J,b3,b4,b5,λad y=>?_⟩;obtain⟨Q,U,cs,P,V,W,Y⟩:=b6 ad y;refine⟨Q,Gt (K _ _ U),cs,P,V,W,λi a5=>?_⟩;refine KN (λb f=>⟨a1 b f,rfl⟩) el [] [] i i _ _ _ _ _ (λ_=>rfl) (λj q _=>.inr ⟨?_,λb f=>⟨Gt (K _ _ f),rfl⟩⟩) (λj q b0=>by simp at b0) (Y i a5);simp only[List.nil_append];simp[Gh.adopt,a0]
  rcases m with m |m
  ·exact key Gx (λ_ _ h=>h) (λ_=>rfl) (λb f=>t b .fz (m b f) (by simp)) F
  ·exact key Gx.noFz (λb p h=>Gr.1 h) (λ_=>rfl) (λb f=>by simp only[Gh.noFz]at f;cases a9:Gx.own b<;>simp[a9]at f) (aBc m F)
 obtain⟨H,J⟩:=gM u (stg:=st) (d:=d) (e:=e) (el:=el) (data:=data) (w':=w) (G':=Gm.adopt Gx g d v) ⟨rfl,rfl,Nat.le_refl _⟩
  (λr s a y=>.inl ⟨y,λp=>by simp[Gh.adopt,s],λb p f=>⟨t b _ f (by simp),rfl⟩⟩) (λb f=>⟨t b _ f (by simp),rfl⟩) (λ_=>rfl) (λb f=>⟨t b _ f (by simp),rfl⟩)
  (by rw[L];exact b1) (λb f=>by
   by_cases h:∃p,Gx.own b=.arr g p
   ·obtain⟨p,h⟩:=h;exact a6 b (by rw[h];simp)
   ·rw[OB (λp C=>h ⟨p,C⟩)]at f;exact u.live b f) (λr p=>by
   by_cases s:r=d
   ·cases p with
    |nil=>obtain⟨a,n,c,e⟩:=hv;exact⟨a,n,c,by simp[Gh.adopt,s,e]⟩
    |cons x q=>obtain⟨a,n,c,e⟩:=a4 g (x::q);exact⟨a,n,c,by simp[Gh.adopt,s,e]⟩
   ·obtain⟨a,n,c,e⟩:=u.hdr r p;exact⟨a,n,c,by simp[Gh.adopt,s,e]⟩)
 refine⟨H,J,?_⟩;have:=iM (w:=w) (G:=Gm.adopt Gx g d v) (stg:=st) (d:=d) (e:=e) (el:=el) (data:=data);rw[L]at this;have b2:gZ (st.newArr d e el data) d []=st.ctr:=by simp[gZ,St.newArr,bR,iN]
 rw[b2]at this;exact this
theorem VB{w:World}{G:Gh}{st:St}{sl:Nat->Option Value}(g:cZ w G st sl){d:Nat}{e:TypeId}{el:List LT}:
  Le w G st w (G.nilAt d) (st.newArr d e el [])/\cZ w (G.nilAt d) (st.newArr d e el []) sl/\dC w (G.nilAt d) (st.newArr d e el []) (.vw d st.ctr []) (.slice none 0 0):=by
 have h:(G.nilAt d).H d []=.slice none 0 0:=by simp[Gh.nilAt]
 obtain⟨t,u⟩:=gM g (stg:=st) (d:=d) (e:=e) (el:=el) (data:=[]) (w':=w) (G':=G.nilAt d) ⟨rfl,rfl,Nat.le_refl _⟩
  (λr m a l=>.inl ⟨l,λp=>by simp[Gh.nilAt,m],λb p f=>⟨f,rfl⟩⟩) (λb f=>⟨f,rfl⟩) (λ_=>rfl) (λb f=>⟨f,rfl⟩)
  (by rw[h];exact⟨none,0,0,rfl,rfl,Nat.le_refl _,Nat.zero_le _,λ_=>rfl,by simp⟩) g.live (λr p=>by
   by_cases e1:r=d/\p=[]
   ·exact⟨none,0,0,by simp[Gh.nilAt,e1]⟩
   ·obtain⟨a,n,c,j⟩:=g.hdr r p;exact⟨a,n,c,by simp only[Gh.nilAt,if_neg e1];exact j⟩)
 refine⟨t,u,?_⟩;have:=iM (w:=w) (G:=G.nilAt d) (stg:=st) (d:=d) (e:=e) (el:=el) (data:=[]);rw[h]at this;have s:gZ (st.newArr d e el []) d []=st.ctr:=by simp[gZ,St.newArr,bR,iN]
 rw[s]at this;exact this
structure aFo(Gx Gm Gm':Gh)(ns:List Nat):Prop where
 own:∀b,(∀n p,n∈ns->Gx.own b≠.arr n p)->Gm'.own b=Gm.own b
 arr:∀b n p,n∈ns->Gx.own b=.arr n p->∃r q,Gm'.own b=.arr r q
 B:∀b,Gm'.B b=Gm.B b
theorem pR(dep:List (Nat×Nat))(nb k:Nat)(x:D):∀(ts:List LT)(j:Nat)(st:St),(dA dep nb k x j ts st).1.sl =st.sl/\(dA dep nb k x j ts st).1.bx =st.bx
 |[],j,st=>⟨rfl,rfl⟩
 |.sl true e el::ts,j,st=>by simp only[dA];exact pR dep nb k x ts (j+1) (st.newArr (nb+j) e el (lf k x j).els)
 |.sl false e el::ts,j,st=>by simp only[dA];exact pR dep nb k x ts (j+1) st
 |.int c::ts,j,st=>by simp only[dA];exact pR dep nb k x ts (j+1) st
 |.bool::ts,j,st=>by simp only[dA];exact pR dep nb k x ts (j+1) st
 |.str::ts,j,st=>by simp only[dA];exact pR dep nb k x ts (j+1) st
theorem Wa{dep:List (Nat×Nat)}{nb k:Nat}{x:D}{j:Nat}{t:LT}{ts:List LT}{st:St}(ht:qW t=false):
  dA dep nb k x j (t::ts) st=((dA dep nb k x (j+1) ts st).1,BN dep t (lf k x j)::(dA dep nb k x (j+1) ts st).2):=by
 cases t with
 |sl o e el=>cases o with
  |true=>simp[qW]at ht
  |false=>rfl
 |_=>rfl
theorem CL{w:World}{Gx:Gh}{ds dep:List (Nat×Nat)}{nb k:Nat}{x:D}(W:∀b,Gx.own b≠.out->b<w.heap.size)(U:∀r p,∃a n c,Gx.H r p=.slice a n c):
  ∀{ts:List LT}{vs:List Value}{j:Nat}{ns:List (Option Nat)}{Gm:Gh}{st:St}{sl:Nat->Option Value},PV w Gx ds ts vs k x j ns->cZ w Gm st sl->(dP ns).Nodup->(∀n∈dP ns,∀d∈ds,d.1≠n)->
   (∀n∈dP ns,∀b p,Gx.own b=.arr n p->Gm.own b=.out)->((∀b,uD Gx ds b->uD Gm dep b)\/oP ts=true)->(∀d,d∈dep->d.2<st.ctr)->((∀b,Gx.own b=.fz->Gm.own b=.fz)\/∀t∈ts,yR t=true)->
   ∃Gm',aFo Gx Gm Gm' (dP ns)/\Le w Gm st w Gm' (dA dep nb k x j ts st).1 /\cZ w Gm' (dA dep nb k x j ts st).1 sl/\eF w Gm' (dA dep nb k x j ts st).1 (dA dep nb k x j ts st).2 vs
 |[],vs,j,ns,Gm,st,sl,⟨a1,a2⟩,H,_,_,_,_,_,_=>by subst a1;subst a2;exact⟨Gm,⟨λ_ _=>rfl,λb n p l=>by simp[dP]at l,λ_=>rfl⟩,Le.refl w Gm st,H,rfl⟩
 |t::ts,vs,j,ns,Gm,st,sl,⟨v,b0,n,a0,a1,a2,G,a3⟩,H,F,y,C,g,J,T=>by
  subst a1;subst a2;by_cases ht:qW t=true
  ·obtain⟨e,el,rfl⟩:∃e el,t=.sl true e el:=by
    cases t with
    |sl o e el=>cases o with
     |true=>exact⟨e,el,rfl⟩
     |false=>simp[qW]at ht
    |_=>simp[qW]at ht
   have b3:(∀b,Gx.own b=.fz->Gm.own b=.fz)\/oP el=true:=by
    rcases T with h |h
    ·exact .inl h
    ·exact .inr (by have:=h (.sl true e el) (by simp);simpa[yR]using this)
   cases n with
   |some m=>
    simp only[dP]at F y C⊢;obtain⟨a6,a7,a9⟩:=Bq (d:=nb+j) H G (C m (by simp)) b3 W U;have V:∀b,(∀p,Gx.own b≠.arr m p)->(Gm.adopt Gx m (nb+j) v).own b=Gm.own b:=λb f=>OB f;obtain⟨Gm',s,u,L,P⟩:=CL W U (dep:=dep) (nb:=nb) (ns:=a0) (j:=j+1) a3 a7 (List.nodup_cons.1 F).2 (λn l=>y n (by simp[l]))
     (λn l b p f=>by rw[V b (λp' Y=>by rw[f]at Y;injection Y with Y;exact(List.nodup_cons.1 F).1 (Y▸l))];exact C n (by simp[l]) b p f)
     (by
      rcases g with g |g
      ·left;intro b f;have b6:∀p,Gx.own b≠.arr m p:=λp K=>by
        rcases f with f |⟨d,hd,p',f⟩
        ·rw[K]at f;simp at f
        ·rw[K]at f;injection f with f;exact y m (by simp) d hd f.symm
       have:=g b f;unfold uD at this⊢;rw[V b b6];exact this
      ·exact .inr (by simp only[oP,Bool.and_eq_true]at g;exact g.2))
     (λd hd=>Nat.lt_succ_of_lt (J d hd))
     (by
      rcases T with h |h
      ·left;intro b f;rw[V b (λp K=>by rw[f]at K;simp at K)];exact h b f
      ·exact .inr λt ht=>h t (by simp[ht]))
    refine⟨Gm',⟨λb f=>?_,λb n p l f=>?_,λb=>s.B b⟩,?_,?_,?_⟩
    ·rw[s.own b (λn p l=>f n p (by simp[l])),V b (λp=>f m p (by simp))]
    ·by_cases a5:n∈dP a0
     ·exact s.arr b n p a5 f
     ·have:n=m:=by
       rcases List.mem_cons.1 l with h |h
       ·exact h
       ·exact absurd h a5
      subst this;refine⟨nb+j,p,?_⟩;rw[s.own b (λn' p' b5 Q=>by rw[f]at Q;injection Q with Q;exact a5 (Q▸b5))];exact Gt f
    ·exact a6.trans u
    ·exact L
    ·exact⟨v,b0,rfl,dH u _ _ a9,P⟩
   |none=>
    simp only[dP]at F y C⊢;obtain⟨hv,b7⟩:=G;subst hv;obtain⟨a6,a7,a9⟩:=VB (d:=nb+j) (e:=e) (el:=el) H;obtain⟨Gm',s,u,L,P⟩:=CL W U (dep:=dep) (nb:=nb) (ns:=a0) (j:=j+1) a3 a7 F y C (g.imp id λh=>by simp only[oP,Bool.and_eq_true]at h;exact h.2) (λd hd=>Nat.lt_succ_of_lt (J d hd))
     (T.imp id λh t ht=>h t (by simp[ht]))
    have a4:(dA dep nb k x j (.sl true e el::ts) st)=((dA dep nb k x (j+1) ts (st.newArr (nb+j) e el [])).1,.vw (nb+j) st.ctr []::(dA dep nb k x (j+1) ts (st.newArr (nb+j) e el [])).2):=by simp only[dA,b7]
    rw[a4];exact⟨Gm',⟨s.own,s.arr,s.B⟩,a6.trans u,L,_,b0,rfl,dH u _ _ a9,P⟩
  ·have b2:qW t=false:=by simpa using ht
   have b4:n=none/\uA w (uD Gx ds) t v (lf k x j):=by
    cases t with
    |sl o e el=>cases o with
     |true=>simp[qW]at ht
     |false=>exact G
    |int k=>exact G
    |bool=>exact G
    |str=>exact G
   obtain⟨rfl,b1⟩:=b4;simp only[dP]at F y C⊢;obtain⟨Gm',s,u,L,P⟩:=CL W U (dep:=dep) (nb:=nb) (ns:=a0) (j:=j+1) a3 H F y C (g.imp id λh=>by simp only[oP,Bool.and_eq_true]at h;exact h.2) J (T.imp id λh t ht=>h t (by simp[ht]));rw[Wa b2];refine⟨Gm',s,u,L,v,b0,rfl,?_,P⟩;have hd:dC w Gm st (BN dep t (lf k x j)) v:=by
    rcases g with g |g
    ·exact KO J (cU (λb f=>⟨g b f,rfl⟩) _ _ _ b1)
    ·simp only[oP,Bool.and_eq_true]at g;exact KO J (Qh (λo e el a4=>by
      subst a4;have:=g.1;cases o with
      |true=>simp[qW]at b2
      |false=>simp[LT.noFz]at this) b1)
   exact dH u _ _ hd
end Go.Eng

namespace Go.Eng
structure Zq(G:Gh)(st:St)(ds:List (Nat×Nat))(gs bn:List Nat)(Gk:Gh):Prop where
 fz:∀b,G.own b=.fz->Gk.own b=.fz
 dep:∀b d p,d∈ds->G.own b=.arr d.1 p->Gk.own b=.fz
 rp:∀n x u,look st.bx n=some x->(qV n,u)∈ds->Gk.own (G.B n).1 =.fz
 free:∀b r p,G.own b=.arr r p->(∀d∈ds,d.1≠r)->r∉gs->Gk.own b=.out
 box:∀b,G.own b=.box->(∀n x,look st.bx n=some x->(G.B n).1 =b->(∀u,(qV n,u)∉ds)/\n∉bn)->Gk.own b=.out
 out:∀b,G.own b=.out->Gk.own b=.out
def okI(G:Gh)(st:St)(ds:List (Nat×Nat))(b:Nat):Prop:=uD G ds b\/∃n x u,look st.bx n=some x/\(qV n,u)∈ds/\b=(G.B n).1
theorem Zq.okI{G Gk:Gh}{st:St}{ds:List (Nat×Nat)}{gs bn:List Nat}(h:Zq G st ds gs bn Gk){b:Nat}(c:okI G st ds b):uD Gk [] b:=by
 rw[NO];rcases c with(c |⟨d,hd,p,c⟩) |⟨n,x,u,e,f,rfl⟩
 ·exact h.fz b c
 ·exact h.dep b d p hd c
 ·exact h.rp n x u e f
section
variable{P:Program}{w:World}{G:Gh}{st:St}{slc:Nat->Option Value}{E:eQ}{ds:List (Nat×Nat)}
theorem E7(a4:fV P E)(V:cZ w G st slc){t:TypeId}{ti:TI}(ht:E.tt.look t=some ti){a:A}{v:Value}(g:dC w G st a v){p:List (Nat×Nat)×D}(h:aCv E st ti a=some p)(Y:∀d,d∈p.1->d∈ds):
  ∃vs,(if ti.agg then v=.agg ⟨vs⟩else vs=[v])/\vs.length=ti.lv.length/\∀(j:Nat)(t:LT)(u:Value),ti.lv[j]?=some t->vs[j]?=some u->uA w (okI G st ds) t u (lf ti.lv.length p.2 j):=by
 have b7:=a4.types _ _ ht;have b4:∀(a:A),dC w G st a v->DU (Pg a) ti.agg=true->∀q,Zt st ti.lv (fD a)=some q->q.1=p.1->fM q.2=p.2->
   ∃vs,(if ti.agg then v=.agg ⟨vs⟩else vs=[v])/\vs.length=ti.lv.length/\∀(j:Nat)(t:LT)(u:Value),ti.lv[j]?=some t->vs[j]?=some u->uA w (okI G st ds) t u (lf ti.lv.length p.2 j):=by
  intro a g e9 q d1 e1 a9;have c1:Pg a=ti.agg:=by cases s:Pg a<;>cases J:ti.agg<;>simp_all[DU]
  obtain⟨vs,a1,U⟩:∃vs,(if ti.agg then v=.agg ⟨vs⟩else vs=[v])/\eF w G st (fD a) vs:=by
   rw[<-c1];cases a with
   |agg xs=>obtain⟨vs,d3,e0⟩:=g;exact⟨vs,d3,e0⟩
   |_=>exact⟨[v],rfl,v,[],rfl,g,rfl⟩
  obtain⟨b0,F,H,T⟩:=HN V d1 (λj t f=>CB b7.lvF j t f) U;refine⟨vs,a1,H,λj t u f C=>?_⟩;have c7:j<ti.lv.length:=(List.getElem?_eq_some_iff.1 f).1;rw[<-a9,HM F j c7];exact cU (λb W=>⟨.inl (yK (by rw[e1];exact Y) b W),rfl⟩) _ _ _ (T j t u f C)
 unfold aCv at h;split at h
 ·rename_i b u k n;unfold aAk at h;obtain⟨m,s,J⟩:=bind_some h;obtain⟨l,K,y⟩:=bind_some J;obtain⟨a2,b5⟩:=aV y;obtain⟨q,b6,a3⟩:=bind_some b5;simp[ok]at a3;subst a3;simp only[Bool.and_eq_true,Bool.not_eq_true']at a2;obtain⟨a1,U,b1,b2,b3⟩:=a2;have c8:=Nat.eq_of_beq_eq_true U;have a5:=gF _ _ b2;have f0:=Nat.le_of_ble_eq_true b3;simp only[nJ]at s;have c0:=a4.types _ _ s;obtain⟨x,L,e3,e4⟩:=fB K;subst e4;obtain⟨hv,d0⟩:=g.2 x L e3;obtain⟨_,_,c3⟩:=V.boxes b x L;obtain⟨cs,e,e2,f2,a6⟩:=c3.cells (uE K L);have c2:∃vs:List Value,eF w G st (jK (k*n) x.lv) vs/\∀j v,vs[j]?=some v->w.cell? ⟨(G.B b).1,(G.B b).2 +j,none⟩=some v:=by
   refine⟨(List.range (jK (k*n) x.lv).length).map λj=>(cs[(G.B b).2 +j]?).getD undef,cX.2 ⟨by simp,λj a v g r=>?_⟩,λj v r=>?_⟩
   ·have f:=(List.getElem?_eq_some_iff.1 g).1;rw[List.getElem?_map,List.getElem?_range f]at r;rw[lR,List.getElem?_take]at g;split at g
    ·have a0:j<x.lv.length:=(List.getElem?_eq_some_iff.1 g).1;obtain⟨v0,Q,a7⟩:=a6 j a0;simp[Q]at r;subst r;simpa[List.getD,g]using a7
    ·simp at g
   ·have f:j<(jK (k*n) x.lv).length:=by have:=(List.getElem?_eq_some_iff.1 r).1;simpa using this
    rw[List.getElem?_map,List.getElem?_range f]at r;have a0:j<x.lv.length:=by rw[lR]at f;simp at f;omega
    obtain⟨v0,Q,a7⟩:=a6 j a0;simp[Q]at r;subst r;simp[World.cell?,e2,Q]
  obtain⟨vs,e5,e6⟩:=c2;have d2:∀(j:Nat)(t:LT),(De m.lv n)[j]?=some t->t.setOwn false=t:=λj t ht=>by
   have f:j<n*m.lv.length:=by have:=(List.getElem?_eq_some_iff.1 ht).1;rwa [yU]at this
   have c9:0<m.lv.length:=Nat.pos_of_ne_zero (λh=>by rw[h]at f;simp at f);have e:=Nat.div_add_mod j m.lv.length;have c5:j/m.lv.length<n:=Nat.div_lt_of_lt_mul (by rw[Nat.mul_comm];exact f);have:=UD m.lv n (j/m.lv.length) (j%m.lv.length) c5 (Nat.mod_lt _ c9);rw[Nat.mul_comm,e,ht]at this;exact CB c0.lvF _ t this.symm
  obtain⟨b0,F,H,T⟩:=HN V b6 d2 e5;rw[yU]at F H;refine⟨[v],by rw[b1];rfl,by rw[a5];rfl,λj t u f C=>?_⟩;have c6:j=0:=by have:=(List.getElem?_eq_some_iff.1 C).1;simp at this;omega
  subst c6;rw[a5]at f⊢;simp at f C;subst f;subst C;have c4:∀d,d∈q.1->d∈ds:=λd hd=>Y d (by simp[hd]);have:=P6 (w:=w) (okb:=okI G st ds) (e:=ti.e) (el:=m.lv) (b:=(G.B b).1) (o:=(G.B b).2) (n:=n) (c:=n) (vs:=vs) (xs:=q.2) (.inr ⟨b,x,0,L,Y _ (by simp),rfl⟩) (Nat.le_refl _) d0 (by rw[H]) (by rw[F])
   e6 (λj t v f hv=>cU (λb W=>⟨.inl (yK c4 b W),rfl⟩) _ _ _ (T j t v f hv)) false
  rw[hv];rw[c8];simpa[lf]using this
 ·rename_i a' f1;obtain⟨s,J⟩:=aV h;obtain⟨q,K,y⟩:=bind_some J;simp[ok]at y;exact b4 a g s q K (by rw[<-y]) (by rw[<-y])
theorem Wb(g0:fV P E)(V:cZ w G st slc){f:TI}(c9:eH false f.lv=f.lv){a:A}{v:Value}(s:dC w G st a v){u:Arg}(h:O6 st f a=some u)(L:∀d,d∈u.ds->d∈ds):
  u.os=[]/\u.gs=[]/\∃b o,v=.pointer (some ⟨b,o,none⟩)/\A6 w (okI G st ds) f.lv b o f.lv.length u.x 0:=by
 unfold O6 at h;split at h
 ·rename_i dep el x;obtain⟨m,C⟩:=aV h;simp[ok]at C;subst C;simp only[Bool.and_eq_true]at m;have a1:=gF _ _ m.2;obtain⟨b,o,e5,e6⟩:=s.2 m.1;refine⟨rfl,rfl,b,o,e5,?_⟩;rw[a1,xH,jC];exact rE (λb H=>⟨.inl (yK L b H),rfl⟩) _ _ _ _ _ _ e6
 ·rename_i b a9 off;obtain⟨l,m,C⟩:=bind_some h;obtain⟨q,K,F⟩:=bind_some C;simp[ok]at F;subst F;obtain⟨x,T,f0,f1⟩:=fB m;subst f1;have hv:=s.2 x T f0;obtain⟨_,_,d1⟩:=V.boxes b x T;obtain⟨cs,e,e9,g1,a6⟩:=d1.cells (uE m T);have Y:(jK f.lv.length (nK off x.lv)).length=f.lv.length:=by
   obtain⟨g4,e1,_⟩:=bind_some K;have:=xP e1;have c6:∀{lv:List LT}{l:List A}{r:La (List D)},cJ st lv l=some r->l.length=lv.length:=by
    intro lv;induction lv with
    |nil=>intro l r J;cases l with
     |nil=>rfl
     |cons _ _=>simp[cJ,aF]at J
    |cons t ts e4=>intro l r J;cases l with
     |nil=>simp[cJ,aF]at J
     |cons a l=>simp only[cJ]at J;obtain⟨g2,_,d2⟩:=bind_some J;obtain⟨g3,d3,_⟩:=bind_some d2;simp[e4 d3]
   exact c6 e1
  have a4:∀j,j<f.lv.length->off+j<x.lv.length/\(jK f.lv.length (nK off x.lv))[j]?=x.lv[off+j]?:=λj g=>by rw[jM,if_pos g];rw[lR,rF]at Y;simp at Y;exact⟨by omega,rfl⟩
  have d0:∃vs:List Value,eF w G st (jK f.lv.length (nK off x.lv)) vs/\∀j v,vs[j]?=some v->w.cell? ⟨(G.B b).1,(G.B b).2 +off+j,none⟩=some v:=by
   refine⟨(List.range f.lv.length).map λj=>(cs[(G.B b).2 +(off+j)]?).getD undef,cX.2 ⟨by simp[Y],λj a v s y=>?_⟩,λj v y=>?_⟩
   ·have g:j<f.lv.length:=by have:=(List.getElem?_eq_some_iff.1 s).1;omega
    obtain⟨W,e1⟩:=a4 j g;rw[e1]at s;obtain⟨v0,U,a7⟩:=a6 (off+j) W;rw[List.getElem?_map,List.getElem?_range g]at y;simp[U]at y;subst y;simpa[List.getD,s]using a7
   ·have g:j<f.lv.length:=by have:=(List.getElem?_eq_some_iff.1 y).1;simpa using this
    obtain⟨W,e1⟩:=a4 j g;obtain⟨v0,U,a7⟩:=a6 (off+j) W;rw[List.getElem?_map,List.getElem?_range g]at y;simp[U]at y;subst y;simp[World.cell?,e9,Nat.add_assoc,U]
  obtain⟨vs,a2,b0⟩:=d0;obtain⟨f7,b5,f8,b6⟩:=HN V K (λj t g=>CB c9 j t g) a2;refine⟨rfl,rfl,_,_,hv,Qc (.inr ⟨b,x,0,T,L _ (by simp),rfl⟩) f.lv 0 (λj t g=>?_)⟩;have e0:j<f.lv.length:=(List.getElem?_eq_some_iff.1 g).1;have a5:vs[j]?=some vs[j]:=by simp[show j<vs.length by omega]
  rw[Nat.zero_add,HM b5 j e0];exact⟨_,b0 j _ a5,cU (λb H=>⟨.inl (yK (λd hd=>L d (by simp[hd])) b H),rfl⟩) _ _ _ (b6 j t _ g a5)⟩
 ·rename_i r a9 p k i;obtain⟨q,m,C⟩:=bind_some h;obtain⟨K,F⟩:=aV C;simp[ok]at F;subst F;have a1:=gF _ _ K;obtain⟨a0,v0,_,a2,b0⟩:=HK m;obtain⟨t,b7,f9,c2,b,o,n,c,c3,c4,c5⟩:=s.2 a0 v0;have e3:dC w G st (.vw r a9 p) (G.H r p):=⟨s.1,λa' a3=>by
   have:=CK a3 v0.1;obtain⟨f2,c0,c1,_⟩:=s.2 a' a3;exact⟨rfl,⟨f2,c0⟩,c1⟩⟩
  obtain⟨_,c8⟩:=KR V e3 m;obtain⟨a,n',c',e1,f3,f4,f5,f6,b4⟩:=c8;rw[c3]at e1;injection e1 with b1 b2 b3;subst b1;subst b2;subst b3;obtain⟨_,c7⟩:=b4 _ rfl (by omega);have Q:=FX a2;rw[b7]at Q;have e2:k=q.2.2.1.length:=by rw[c2];injection Q with Q;rw[Q]
  refine⟨rfl,rfl,b,o+i*k+0,c5,?_⟩;have:=c7 i c4;rw[jC]at this;rw[a1,jC,Nat.add_zero,e2];exact rE (λb H=>⟨.inl (yK L b H),rfl⟩) _ _ _ _ _ _ this
 ·simp[aF]at h
end
end Go.Eng

namespace Go.Eng
section
variable{P:Program}{w:World}{G Gk:Gh}{st stk:St}{slc sl:Nat->Option Value}{E:eQ}{ds:List (Nat×Nat)}{os0:List Nat}
theorem YD{dep:List (Nat×Nat)}(f:∀d,d∈dep->d.2<stk.ctr){k:Nat}{x:D}:∀(ts:List LT)(c:Nat)(vs:List Value),vs.length=ts.length->(∀(j:Nat)(t:LT)(u:Value),ts[j]?=some t->vs[j]?=some u->uA w (uD Gk dep) t u (lf k x (c+j)))->
  eF w Gk stk (HB dep k x c ts) vs
 |[],_,vs,e,_=>by have:vs=[]:=List.eq_nil_of_length_eq_zero e;exact this
 |t::ts,c,[],e,_=>by simp at e
 |t::ts,c,v::vs,e,h=>by refine⟨v,vs,rfl,KO f (by have:=h 0 t v rfl rfl;simpa using this),YD f ts (c+1) vs (by simpa using e) (λj t u g l=>?_)⟩;have:=h (j+1) t u (by simpa using g) (by simpa using l);rwa [show c+(j+1)=c+1+j by omega]at this
theorem LI{agg:Bool}{n:Nat}{l:List A}{a:A}{v:Value}{vs:List Value}(h:EB agg n l=some a)(hv:if agg then v=.agg ⟨vs⟩else vs=[v])(d:eF w Gk stk l vs):dC w Gk stk a v:=by
 obtain⟨_,c⟩:=HJ h;cases agg with
 |true=>simp only[if_true]at c hv;subst c;subst hv;exact⟨vs,rfl,d⟩
 |false=>simp only[Bool.false_eq_true,if_false]at c hv;subst c;subst hv;obtain⟨m,r,e,f,j⟩:=d;injection e with e1 g;subst e1;exact f
theorem Zq.change{gs0 bn0 t s:List Nat}{Gk':Gh}(j:cZ w G st slc)(l:Zq G st ds gs0 bn0 Gk)(H:∀n,n∈gs0->n∈t)(J:∀n,n∈bn0->n∈s)(h:∀b,Gk'.own b=Gk.own b\/(∃r p,G.own b=.arr r p/\r∈t/\∀d∈ds,d.1≠r)\/(∃n x,look st.bx n=some x/\b=(G.B n).1 /\n∈s/\∀u,(qV n,u)∉ds)):Zq G st ds t s Gk':=by
 refine⟨λb c=>?_,λb d p hd c=>?_,λn x u hx m=>?_,λb r p c hd F=>?_,λb c y=>?_,λb c=>?_⟩
 ·rcases h b with h |⟨r,p,h,_⟩ |⟨n,x,g,f,_⟩
  ·rw[h];exact l.fz b c
  ·rw[c]at h;simp at h
  ·have:=(j.boxes n x g).2.1;rw[<-f,c]at this;simp at this
 ·rcases h b with h |⟨r,q,h,_,f⟩ |⟨n,x,g,f,_⟩
  ·rw[h];exact l.dep b d p hd c
  ·rw[c]at h;injection h with h;exact absurd h (f d hd)
  ·have:=(j.boxes n x g).2.1;rw[<-f,c]at this;simp at this
 ·rcases h (G.B n).1 with h |⟨r,q,h,_,f⟩ |⟨n',K,g,f,_,v⟩
  ·rw[h];exact l.rp n x u hx m
  ·have:=(j.boxes n x hx).2.1;rw[h]at this;simp at this
  ·by_cases e:n=n'
   ·subst e;exact absurd m (v u)
   ·exact absurd f (j.apartB n n' x K hx g e)
 ·rcases h b with h |⟨r',q,h,g,f⟩ |⟨n,x,g,f,_⟩
  ·rw[h];exact l.free b r p c hd (λm=>F (H r m))
  ·rw[c]at h;injection h with h;exact absurd (h▸g) F
  ·have:=(j.boxes n x g).2.1;rw[<-f,c]at this;simp at this
 ·rcases h b with h |⟨r',q,h,g,f⟩ |⟨n,x,g,f,v,_⟩
  ·rw[h];exact l.box b c (λn x hx C=>⟨(y n x hx C).1,λm=>(y n x hx C).2 (J _ m)⟩)
  ·rw[c]at h;simp at h
  ·exact absurd v (y n x g f.symm).2
 ·rcases h b with h |⟨r',q,h,g,f⟩ |⟨n,x,g,f,_⟩
  ·rw[h];exact l.out b c
  ·rw[c]at h;simp at h
  ·have:=(j.boxes n x g).2.1;rw[<-f,c]at this;simp at this
theorem rG{l m:List Nat}(h:(l++m).Nodup):∀n∈l,n∉m:=λn d c=>(List.nodup_append.1 h).2.2 n d n c rfl
theorem rH{st:St}:∀{lv:List LT}{l:List A}{r:La (List D)},cJ st lv l=some r->l.length=lv.length
 |[],[],_,_=>rfl
 |t::ts,a::l,r,h=>by simp only[cJ]at h;obtain⟨p,_,c⟩:=bind_some h;obtain⟨q,d,_⟩:=bind_some c;simp[rH d]
 |[],_::_,_,h=>by simp[cJ,aF]at h
 |_::_,[],_,h=>by simp[cJ,aF]at h
theorem OC(m:cZ w G st slc){n:Nat}{x:Bx}(hx:look st.bx n=some x)(s:x.mp=none):∃cs e vs,w.heap[(G.B n).1]?=some (.cells cs e (0,0))/\(G.B n).2 +x.lv.length<=cs.size/\eF w G st x.lv vs/\∀j v,vs[j]?=some v->cs[(G.B n).2 +j]?=some v:=by
 obtain⟨_,_,r⟩:=m.boxes n x hx;obtain⟨cs,e,t,u,h⟩:=r.cells s;refine⟨cs,e,(List.range x.lv.length).map λj=>(cs[(G.B n).2 +j]?).getD undef,t,u,cX.2 ⟨by simp,λj a v g c=>?_⟩,λj v c=>?_⟩
 ·have d:=(List.getElem?_eq_some_iff.1 g).1;obtain⟨v0,f,l⟩:=h j d;rw[List.getElem?_map,List.getElem?_range d]at c;simp[f]at c;subst c;simpa[List.getD,g]using l
 ·have d:j<x.lv.length:=by have:=(List.getElem?_eq_some_iff.1 c).1;simpa using this
  obtain⟨v0,f,l⟩:=h j d;rw[List.getElem?_map,List.getElem?_range d]at c;simp[f]at c;subst c;exact f
theorem Nh{Gx:Gh}(f:cZ w Gk stk sl){d b o:Nat}{l:List A}{cs:Array Value}{e:TypeId}{vs:List Value}(s:Gk.own b=.out)(m:w.heap[b]?=some (.cells cs e (0,0)))(J:o+l.length<=cs.size)(r:eF w Gk stk l vs)
  (F:∀j v,vs[j]?=some v->cs[o+j]?=some v):Le w Gk stk w ((Gk.tag b .box).box d (b,o)) (stk.newBox d l)/\cZ w ((Gk.tag b .box).box d (b,o)) (stk.newBox d l) sl/\dC w ((Gk.tag b .box).box d (b,o)) (stk.newBox d l) (.pb d stk.ctr 0) (.pointer (some ⟨b,o,none⟩)):=by
 have g:∀b',Gk.own b'≠.out->(Gk.tag b .box).own b'=Gk.own b'/\w.heap[b']?=w.heap[b']?:=λb' c=>by have:b'≠b:=λe=>c (by rw[e];exact s);exact⟨by simp[Gh.tag,this],rfl⟩
 have y:∀b',(Gk.tag b .box).own b'≠.out->b'<w.heap.size:=λb' c=>by
  simp only[Gh.tag]at c;split at c
  ·rename_i e1;rw[e1];exact(Array.getElem?_eq_some_iff.1 m).1
  ·exact f.live b' c
 have h:=Le.world (st:=stk) g (λ_ _=>rfl) (λ_=>rfl);have C:=f.world g (λ_ _=>rfl) (λ_=>rfl) y;have L:=(cX.1 r).1;refine⟨h.trans (Le.newBox _ _ _ _ _ _),C.newBox (cs:=cs) (e:=e) (by simp[Gh.tag]) m J (λj G=>?_) (λb' K hx P=>?_),?_⟩
 ·have H:j<vs.length:=by omega
  have t:vs[j]?=some vs[j]:=by simp[H]
  exact⟨vs[j],F j _ t,dH h _ _ ((cX.1 r).2 j _ _ (by simp[List.getD,G]) t)⟩
 ·intro e1;have:=(f.boxes b' K hx).2.1;have u:(Gk.B b').1 =b:=e1;rw[u,s]at this;simp at this
 ·exact⟨Nat.lt_succ_self _,λx hx Q=>by simp[Gh.box]⟩
def rI:TypeId×PM->A->List Nat
 |(_,.io _),.pb n _ _=>[n]
 |_,_=>[]
def fW:List (TypeId×PM)->List A->List Nat
 |p::ps,a::as=>rI p a++fW ps as
 |_,_=>[]
theorem b8(b5:fV P E)(F:cZ w G st slc){all:List A}{p:TypeId×PM}{a:A}{v:Value}{u:Arg}{i:Nat}{ps:List (TypeId×PM)}{xs:List D}{tQ:St}(h:DV E st all p a=some u)(V:dC w G st a v)(b6:∀d,d∈u.ds->d∈ds)
  (a6:(u.os++os0).Nodup)(W:∀n∈u.os,∀d∈ds,d.1≠n)(c1:gX [p]=true){gs0 bn0:List Nat}(c8:∀r,r∈gs0->r∈os0)(e4:∀n,n∈bn0->qV n∈os0)(Y:cZ w Gk stk sl)(H:Zq G st ds gs0 bn0 Gk)(K:eI E i (p::ps) (u.x::xs) stk=some tQ):
  ∃Gk' c3 a',eI E (i+1) ps xs (c3.put i a')=some tQ/\cZ w Gk' c3 sl/\dC w Gk' c3 a' v/\Zq G st ds (u.gs++gs0) (rI p a++bn0) Gk'/\(∀r,r∈u.gs->r∈u.os)/\∀n,n∈rI p a->qV n∈u.os:=by
 obtain⟨t,m⟩:=p;cases m with
 |ro=>simp only[DV]at h;obtain⟨ti,C,J⟩:=bind_some h;obtain⟨q,L,Q⟩:=bind_some J;simp[ok]at Q;subst Q;simp only[nJ]at C;obtain⟨vs,a4,T,a9⟩:=E7 b5 F C V L (ds:=ds) b6;simp only[eI,nJ,C,Option.bind_some]at K;obtain⟨a',b4,a5⟩:=bind_some K;have e5:=YD (w:=w) (Gk:=Gk) (stk:=stk) (dep:=[]) (by simp) (k:=ti.lv.length) (x:=q.2) ti.lv 0 vs T (λj t u e9 c2=>by rw[Nat.zero_add];exact cU (λb y=>⟨H.okI y,rfl⟩) _ _ _ (a9 j t u e9 c2));exact⟨Gk,stk,a',a5,Y,LI b4 a4 e5,by simpa[rI]using H,by simp,by simp[rI]⟩
 |rp=>simp only[DV,KC]at h;obtain⟨e,C,J⟩:=bind_some h;obtain⟨b2,L,Q⟩:=bind_some J;simp only[nJ]at C L;obtain⟨a4,c5,b,o,T,a9⟩:=Wb b5 F (b5.types _ _ L).lvF V Q (ds:=ds) b6;simp only[eI,nJ,C,Option.bind_some,L]at K;refine⟨Gk,stk,.pz [] b2.lv u.x 0,K,Y,⟨by simp,λ_=>⟨b,o,T,?_⟩⟩,by rw[c5];simpa[rI]using H,by rw[c5];simp,by simp[rI]⟩;exact rE (λb y=>⟨H.okI y,rfl⟩) _ _ _ _ _ _ a9
 |fnv f=>
  cases a<;>simp only[DV,aF]at h<;>(try cases h);rename_i g caps;cases caps with
  |cons _ _=>simp[DV,aF]at h
  |nil=>simp only[DV]at h;obtain⟨C,J⟩:=aV (s:= "") h;simp[ok]at J;subst J;have:=Nat.eq_of_beq_eq_true C;subst this;simp only[eI]at K;obtain⟨vs,e1,b3⟩:=V;exact⟨Gk,stk,.fn f [],K,Y,⟨vs,e1,b3⟩,by simpa[rI]using H,by simp,by simp[rI]⟩
 |mv=>
  cases a<;>simp only[DV,aF]at h<;>(try cases h)
  ·simp only[eI]at K;obtain⟨ti,C,J⟩:=bind_some K;obtain⟨b2,L,Q⟩:=bind_some J;obtain⟨d2,a1,a2⟩:=VB (d:=500+i) (e:=ti.e) (el:=eH true b2.lv) Y;have hv:v=.slice none 0 0:=V;subst hv;exact⟨_,_,_,Q,a1,a2,by simpa[rI]using H.change (Gk':=Gk.nilAt (500+i)) F (λn U=>U) (λn U=>U) (λb=>.inl rfl),by simp,by simp[rI]⟩
  ·rename_i r f9 p;cases p with
   |cons _ _=>simp[DV,aF]at h
   |nil=>
    simp only[DV]at h;obtain⟨q,C,J⟩:=bind_some h;obtain⟨ti,b2,L,Q,b4⟩:=yW J;obtain⟨a5,c6⟩:=aV (s:= "") b4;simp[ok]at c6;subst c6;simp only[Bool.and_eq_true]at a5;have e1:=Nat.eq_of_beq_eq_true a5.1;have b3:=gF _ _ a5.2;obtain⟨a',a4,T,a9,g3,g4,g5,g6,f4⟩:=lS F V C;simp only[eI,nJ,L,Option.bind_some,Q]at K;have d1:∀d∈ds,d.1≠r:=W r (by simp);have f3:r∉gs0:=λc=>rG a6 r (by simp) (c8 r c);obtain⟨d2,a1,a2⟩:=Bq (d:=500+i) Y f4 (λb p y=>H.free b r p y d1 f3) (.inl H.fz) F.live F.hdr;rw[e1,b3]at a1 a2;refine⟨_,_,_,K,a1,a2,H.change F (λn U=>by simp[U]) (λn U=>by simp[U]) (λb=>?_),by simp,by simp[rI]⟩;by_cases y:∃p,G.own b=.arr r p
    ·obtain⟨p,y⟩:=y;exact .inr (.inl ⟨r,p,y,by simp,d1⟩)
    ·exact .inl (OB (λp a0=>y ⟨p,a0⟩))
 |io el=>
  simp only[DV]at h;unfold KC at h;split at h
  ·rename_i e6;simp at e6
  ·rename_i g2 n f9 b7;injection b7 with b7;subst b7;obtain⟨l,C,J⟩:=bind_some h;obtain⟨q,L,Q⟩:=bind_some J;simp[ok]at Q;subst Q;obtain⟨x,a3,f6,f7⟩:=fB C;subst f7;have hv:=V.2 x a3 f6;obtain⟨cs,e,vs,e2,g1,c4,e3⟩:=OC F a3 (uE C a3);have g9:=rH L;obtain⟨ns,a4,T⟩:=VA F L c4 (ds:=ds) b6;simp only at a6 W;have c0:qV n∈Al n 0 1++q.os:=by simp[Al,qV]
   have b1:∀m∈dP ns,m∈Al n 0 1++q.os:=λm c=>by rw[T];simp[c]
   have c9:∀u,(qV n,u)∉ds:=λu c2=>W _ c0 _ c2 rfl;have f0:n∉bn0:=λc=>rG a6 _ c0 (e4 n c);have c7:=(F.boxes n x a3).2.1;simp only[eI]at K;obtain⟨a7,d3,h2,f8,e0⟩:=CL (nb:=nm (500+i) 0) (dep:=[]) F.live F.hdr a4 Y (by
     have:=(List.nodup_append.1 (List.nodup_append.1 a6).1).2.1;rw[T]at this;exact this) (λm c=>W m (b1 m c)) (λm c b p y=>H.free b m p y (W m (b1 m c)) (λhg=>rG a6 m (b1 m c) (c8 m hg)))
    (.inl λb y=>H.okI (.inl y)) (by simp) (.inl H.fz)
   have f2:a7.own (G.B n).1 =.out:=by
    rw[d3.own _ (λm p _ a0=>by rw[c7]at a0;simp at a0)];exact H.box _ c7 (λn' g0 f5 f1=>by
     by_cases e1:n'=n
     ·subst e1;exact⟨c9,f0⟩
     ·exact absurd f1 (F.apartB n' n g0 x f5 a3 e1))
   have g8:=(cX.1 e0).1;have g7:=(cX.1 c4).1;obtain⟨d2,a1,a2⟩:=Nh (Gx:=G) (d:=500+i) (o:=(G.B n).2) f8 f2 e2 (by omega) e0 e3;refine⟨_,_,_,K,a1,by rw[hv];exact a2,H.change F (λm c=>by simp[c]) (λm c=>by simp[c]) (λb=>?_),λr d0=>by simp at d0⊢;exact .inr d0,λm c=>by simp[rI]at c;subst c;exact c0⟩;by_cases y:b=(G.B n).1
   ·exact .inr (.inr ⟨n,x,a3,y,by simp[rI],c9⟩)
   ·have e1:((a7.tag (G.B n).1 .box).box (500+i) ((G.B n).1,(G.B n).2)).own b=a7.own b:=by simp[Gh.box,Gh.tag,y]
    by_cases b0:∃m p,m∈dP ns/\G.own b=.arr m p
    ·obtain⟨m,p,c,b0⟩:=b0;exact .inr (.inl ⟨m,p,b0,by rw[T];simp[c],W m (b1 m c)⟩)
    ·exact .inl (by
      show((a7.tag (G.B n).1 .box).box (500+i) ((G.B n).1,(G.B n).2)).own b=_;rw[e1];exact d3.own b (λm p c a0=>b0 ⟨m,p,c,a0⟩))
  ·simp[aF]at h
 |sio lv=>simp[gX]at c1
 |sub j h0 k=>simp[gX]at c1
 |clo f h1=>simp[gX]at c1
end
end Go.Eng

namespace Go.Eng
def aDR(w:World)(G:Gh)(ds:List (Nat×Nat))(el:List LT)(b o:Nat)(c:D)(os:List (Option Nat)):Prop:=
 G.own b=.box/\∃cs e vs,w.heap[b]?=some (.cells cs e (0,0))/\o+el.length<=cs.size/\(∀(j:Nat)(v:Value),vs[j]?=some v->cs[o+j]?=some v)/\PV w G ds el vs el.length c 0 os
def Wc(w:World)(G:Gh)(ds:List (Nat×Nat)):RM->Value->D->List Nat->List Nat->Prop
 |.val agg lv,u,x,ns,bs=>bs=[]/\∃vs os,(if agg then u=.agg ⟨vs⟩else vs=[u])/\PV w G ds lv vs lv.length x 0 os/\ns=dP os
 |.ptr el,u,x,ns,bs=>(x.els=[]/\u=.pointer none/\ns=[]/\bs=[])\/
   ∃c ys b o os,x.els=c::ys/\u=.pointer (some ⟨b,o,none⟩)/\aDR w G ds el b o c os/\ns=dP os/\bs=[b]
def Gu(w:World)(G:Gh)(ds:List (Nat×Nat)):List RM->List Value->D->Nat->List Nat->List Nat->Prop
 |[],us,_,_,ns,bs=>us=[]/\ns=[]/\bs=[]
 |m::g,us,x,c,ns,bs=>∃u f d e b1 b2,us=u::f/\ns=d++e/\bs=b1++b2/\Wc w G ds m u (x.fld c) d b1/\Gu w G ds g f x (c+1) e b2
def RH(w:World)(G:Gh)(ds:List (Nat×Nat)):List RM->Value->D->List Nat->List Nat->Prop
 |[],v,_,ns,bs=>v=.tuple #[]/\ns=[]/\bs=[]
 |[m],v,x,ns,bs=>Wc w G ds m v x ns bs
 |ms,v,x,ns,bs=>∃us,v=.tuple ⟨us⟩/\Gu w G ds ms us x 0 ns bs
def RI(w:World)(G:Gh)(ds:List (Nat×Nat)):List (TypeId×PM)->List Value->List D->List Nat->List Nat->Prop
 |[],vs,xs,ns,bs=>vs=[]/\xs=[]/\ns=[]/\bs=[]
 |(_,.io el)::ps,vs,xs,ns,bs=>∃v c x e b o os d b2,vs=v::c/\xs=x::e/\v=.pointer (some ⟨b,o,none⟩)/\aDR w G ds el b o x os/\ns=dP os++d/\bs=b::b2/\RI w G ds ps c e d b2
 |_::ps,vs,xs,ns,bs=>∃v c,vs=v::c/\RI w G ds ps c xs ns bs
structure aCP(w:World)(G:Gh)(s:EC)(vs:List Value)(r:D×List D)(v:Value):Prop where
 ex:∃ds n1 b1 n2 b2,RH w G ds s.rs v r.1 n1 b1/\RI w G ds s.ps vs r.2 n2 b2/\(n2++n1).Nodup/\(b2++b1).Nodup/\∀n∈n2++n1,∀d∈ds,d.1≠n
 live:∀b,G.own b≠.out->b<w.heap.size
 hdr:∀r p,∃a n c,G.H r p=.slice a n c
def Gv:St:={sl:=.nil,bx:=[],ar:=[],ctr:=1}
def LJ(P:Program)(E:eQ)(ctx:rZ)(m:Nat)(s:EC):Prop:=
 ∀xs r,ctx m xs=some r->∃tQ,eI E 0 s.ps xs Gv=some tQ/\
  ∀w G vs,vs.length=s.ps.length->cZ w G tQ (λi=>vs[i]?)->Calls P s.fn ⟨vs⟩ w (λe w'=>∃v G',e=.returned v/\Fr w G w' G'/\aCP w' G' s vs r v)
section
variable{P:Program}{w:World}{G Gk:Gh}{st stk:St}{slc sl:Nat->Option Value}{E:eQ}{ds:List (Nat×Nat)}{os0:List Nat}
theorem Zq.sub{gs0 bn0 g f:List Nat}(c:Zq G st ds gs0 bn0 Gk)(h:∀n,n∈gs0->n∈g)(m:∀n,n∈bn0->n∈f):Zq G st ds g f Gk:=
 ⟨c.fz,c.dep,c.rp,λb r p d hd s=>c.free b r p d hd (λe=>s (h r e)),λb d j=>c.box b d (λn x hx l=>⟨(j n x hx l).1,λe=>(j n x hx l).2 (m _ e)⟩),c.out⟩
def BI(sl:Nat->Option Value):Nat->List Value->Nat->Option Value
 |_,[]=>sl
 |i,v::vs=>BI (xL sl i v) (i+1) vs
theorem PW:∀(vs:List Value)(sl:Nat->Option Value)(i t:Nat),BI sl i vs t=if i<=t/\t<i+vs.length then vs[t-i]?else sl t
 |[],sl,i,t=>by rw[BI,if_neg (by simp)]
 |v::vs,sl,i,t=>by
  rw[BI,PW vs];simp only[List.length_cons,xL];by_cases c:i+1<=t/\t<i+1+vs.length
  ·rw[if_pos c,if_pos (by omega),show t-i=t-(i+1)+1 by omega];simp
  ·rw[if_neg c];by_cases d:t=i
   ·subst d;simp
   ·rw[if_neg d,if_neg (by omega)]
theorem RJ(C:fV P E)(F:cZ w G st slc){all:List A}:∀(ps:List (TypeId×PM)){as:List A}{vs:List Value}{i:Nat}{u:List Nat×List Nat×List (Nat×Nat)×List D}{stk tQ:St}{Gk:Gh}{sl:Nat->Option Value}{os0 gs0 bn0:List Nat},rD E st all ps as=some u->eF w G st as vs->
  (∀d,d∈u.2.2.1->d∈ds)->(u.1++os0).Nodup->(∀n∈u.1,∀d∈ds,d.1≠n)->gX ps=true->(∀r,r∈gs0->r∈os0)->(∀n,n∈bn0->qV n∈os0)->cZ w Gk stk sl->Zq G st ds gs0 bn0 Gk->eI E i ps u.2.2.2 stk=some tQ->
   vs.length=ps.length/\∃Gc,cZ w Gc tQ (BI sl i vs)/\Zq G st ds (u.2.1++gs0) (fW ps as++bn0) Gc/\(∀r,r∈u.2.1->r∈u.1)/\∀n,n∈fW ps as->qV n∈u.1
 |[],[],vs,i,u,stk,tQ,Gk,sl,os0,gs0,bn0,h,hv,_,_,_,_,_,_,s,l,e=>by simp[rD,ok]at h;subst h;simp[eI,ok]at e;subst e;have:vs=[]:=hv;subst this;exact⟨rfl,Gk,s,by simpa[fW]using l,by simp,by simp[fW]⟩
 |p::ps,a::as,vs,i,u,stk,tQ,Gk,sl,os0,gs0,bn0,h,hv,j,K,g,b7,J,H,s,l,e=>by
  simp only[rD]at h;obtain⟨U,a2,a3⟩:=bind_some h;obtain⟨b6,a4,y⟩:=bind_some a3;simp[ok]at y;subst y;obtain⟨v,c0,rfl,a7,a9⟩:=hv;simp only at j K g e;have a5:gX [p]=true:=by obtain⟨t,m⟩:=p;cases m<;>simp_all[gX]
  have a6:gX ps=true:=by obtain⟨t,m⟩:=p;cases m<;>simp_all[gX]
  have L:(b6.1++(U.os++os0)).Nodup:=by refine List.Perm.nodup ?_ K;rw[List.append_assoc];exact(List.perm_append_comm_assoc _ _ _).symm.trans (List.Perm.refl _)|>.symm.symm.symm
  obtain⟨Gk',b5,a',b0,b1,b2,b3,Q,T⟩:=b8 C F a2 a7 (λd hd=>j d (by simp[hd])) (by
   refine(List.nodup_append.1 L).2.1) (λn c=>g n (by simp[c])) a5 J H s l e
  have b4:=b1.put (d:=i) b2;obtain⟨V,Gc,W,Y,a0,a1⟩:=RJ C F ps (stk:=b5.put i a') (i:=i+1) (os0:=U.os++os0) a4 a9 (λd hd=>j d (by simp[hd])) L (λn c=>g n (by simp[c])) a6
   (λr f=>by simp only[List.mem_append]at f⊢;exact f.imp (Q r) (J r)) (λn c=>by simp only[List.mem_append]at c⊢;exact c.imp (T n) (H n)) b4 b3 b0
  refine⟨by simp[V],Gc,W,Y.sub (λn c=>?_) (λn c=>?_),λr f=>?_,λn c=>?_⟩
  ·simp only[List.mem_append]at c⊢;rcases c with h |h |h
   ·exact .inl (.inr h)
   ·exact .inl (.inl h)
   ·exact .inr h
  ·simp only[fW,List.mem_append]at c⊢;rcases c with h |h |h
   ·exact .inl (.inr h)
   ·exact .inl (.inl h)
   ·exact .inr h
  ·simp only[List.mem_append]at f⊢;exact f.imp (Q r) (a0 r)
  ·simp only[fW,List.mem_append]at c⊢;exact c.imp (T n) (a1 n)
 |[],_::_,_,_,_,_,_,_,_,_,_,_,h,_,_,_,_,_,_,_,_,_,_=>by simp[rD,aF]at h
 |_::_,[],_,_,_,_,_,_,_,_,_,_,h,_,_,_,_,_,_,_,_,_,_=>by simp[rD,aF]at h
open Classical in
noncomputable def Gh.base(G:Gh)(st:St)(ds:List (Nat×Nat)):Gh:=
 {own:=λb=>match G.own b with
   |.fz=>.fz
   |.arr r _=>if∃d∈ds,d.1=r then .fz else .out
   |.box=>if∃n x u,look st.bx n=some x/\(qV n,u)∈ds/\(G.B n).1 =b then .fz else .out
   |.out=>.out
  H:=G.H
  B:=G.B}
theorem Wd(G:Gh)(st:St)(g:∀n x,look st.bx n=some x->G.own (G.B n).1 =.box)(ds:List (Nat×Nat)):Zq G st ds [] [] (G.base st ds):=by
 refine⟨λb h=>by simp[Gh.base,h],λb d p hd h=>?_,λn x u hx l=>?_,λb r p h hd _=>?_,λb h j=>?_,λb h=>by simp[Gh.base,h]⟩
 ·simp only[Gh.base,h];rw[if_pos ⟨d,hd,rfl⟩]
 ·simp only[Gh.base,g n x hx];rw[if_pos ⟨n,x,u,hx,l,rfl⟩]
 ·simp only[Gh.base,h];rw[if_neg (by rintro⟨d,c,e⟩;exact hd d c e)]
 ·simp only[Gh.base,h];rw[if_neg (by rintro⟨n,x,u,c,e,f⟩;exact(j n x c f).1 u e)]
theorem b9{b:Nat}(h:(G.base st ds).own b≠.out):G.own b≠.out:=λe=>h (by simp[Gh.base,e])
theorem We(c:cZ w G st slc):cZ w (G.base st ds) Gv (λ_=>none):=
 ⟨λ_ _ h=>by simp at h,λb x h=>by simp[Gv,look]at h,λb b' x e h=>by simp[Gv,look]at h,λr a h=>by simp[Gv,look]at h,λb d=>c.live b (b9 d),c.hdr⟩
end
end Go.Eng

namespace Go.Eng
open Classical in
noncomputable def Gh.merge(G Gx:Gh)(n:Nat)(gs:List Nat)(ds':List (Nat×Nat)):Gh:=
 {own:=λb=>if b<n/\¬∃r p,G.own b=.arr r p/\r∈gs then G.own b else
   match Gx.own b with
   |.fz=>.fz
   |.arr c _=>if∃d∈ds',d.1=c then .fz else .out
   |_=>.out
  H:=G.H
  B:=G.B}
section
variable{w w':World}{G Gc Gx:Gh}{st:St}{slc:Nat->Option Value}{ds ds':List (Nat×Nat)}{gs bn:List Nat}
theorem VC:∀(gs:List Nat)(st:St)(r:Nat),look (kD gs st).ar r=if r∈gs then none else look st.ar r
 |[],st,r=>by simp[kD]
 |g::gs,st,r=>by
  rw[kD,VC gs];simp only[St.gone,mG,List.mem_cons];by_cases h:r∈gs
  ·simp[h]
  ·by_cases e:r=g
   ·simp[e]
   ·simp[h,e]
theorem IB:∀(gs:List Nat)(st:St),(kD gs st).bx=st.bx/\(kD gs st).sl=st.sl/\(kD gs st).ctr=st.ctr
 |[],st=>⟨rfl,rfl,rfl⟩
 |g::gs,st=>IB gs (st.gone g)
theorem FH:∀n,(HF n).length=n
 |0=>rfl
 |n+1=>congrArg (·+1) (FH n)
theorem Gw:∀(n j:Nat),(HF n).getD j .undef=.undef
 |0,j=>by simp[HF]
 |n+1,0=>rfl
 |n+1,j+1=>by rw[HF,List.getD_cons_succ];exact Gw n j
theorem LL(st:St)(b n:Nat):look (HG st b).bx n=if n=b then(look st.bx n).map (λx=>{uid:=x.uid,lv:=HF x.lv.length})else look st.bx n:=by
 unfold HG;cases h:look st.bx b with
 |none=>
  by_cases e:n=b
  ·subst e;simp[h]
  ·simp[e]
 |some x=>
  simp only[bR];by_cases e:n=b
  ·subst e;simp[h]
  ·simp[e]
theorem Wf(st:St)(b:Nat):(HG st b).ar=st.ar/\(HG st b).sl=st.sl/\(HG st b).ctr=st.ctr:=by unfold HG;cases look st.bx b<;>exact⟨rfl,rfl,rfl⟩
theorem OD:∀(ps:List (TypeId×PM))(as:List A)(st:St),(jB ps as st).ar=st.ar/\(jB ps as st).sl=st.sl/\(jB ps as st).ctr=st.ctr/\
  ∀n,(n∉fW ps as->look (jB ps as st).bx n=look st.bx n)/\(n∈fW ps as->look (jB ps as st).bx n=(look st.bx n).map (λx=>{uid:=x.uid,lv:=HF x.lv.length}))
 |[],as,st=>by
  have:jB [] as st=st:=by cases as<;>rfl
  rw[this];exact⟨rfl,rfl,rfl,λn=>⟨λ_=>rfl,λh=>by simp[fW]at h⟩⟩
 |p::ps,[],st=>by
  have:jB (p::ps) [] st=st:=by obtain⟨t,m⟩:=p;cases m<;>rfl
  rw[this];exact⟨rfl,rfl,rfl,λn=>⟨λ_=>rfl,λh=>by simp[fW]at h⟩⟩
 |p::ps,a::as,st=>by
  by_cases c:∃b,rI p a=[b]
  ·obtain⟨b,c⟩:=c;have f:jB (p::ps) (a::as) st=jB ps as (HG st b):=by
    obtain⟨t,m⟩:=p;cases m<;>cases a<;>simp[rI]at c;subst c;rfl
   rw[f];obtain⟨u,v,y,e⟩:=OD ps as (HG st b);obtain⟨l,r,s⟩:=Wf st b;refine⟨u.trans l,v.trans r,y.trans s,λn=>⟨λd=>?_,λd=>?_⟩⟩
   ·simp only[fW,c,List.mem_append,List.mem_singleton,not_or]at d;rw[(e n).1 d.2,LL,if_neg d.1]
   ·simp only[fW,c,List.mem_append,List.mem_singleton]at d;by_cases g:n∈fW ps as
    ·rw[(e n).2 g,LL];split
     ·cases look st.bx n<;>simp[FH]
     ·rfl
    ·rw[(e n).1 g,LL];have:n=b:=d.resolve_right g;rw[if_pos this]
  ·have j:rI p a=[]:=by
    obtain⟨t,m⟩:=p;cases m<;>cases a<;>first|rfl |exact absurd ⟨_,rfl⟩ c
   have f:jB (p::ps) (a::as) st=jB ps as st:=by obtain⟨t,m⟩:=p;cases m<;>cases a<;>first|rfl |(simp[rI]at j)
   rw[f];have:=OD ps as st;simpa[fW,j]using this
theorem CM{b:Nat}{n:Nat}(e:b<n)(h:∀r p,G.own b=.arr r p->r∉gs):(G.merge Gx n gs ds').own b=G.own b:=by simp only[Gh.merge];rw[if_pos ⟨e,λ⟨r,p,c,d⟩=>h r p c d⟩]
theorem unlent(s:cZ w G st slc)(c:Zq G st ds gs bn Gc){b:Nat}(h:∀r p,G.own b=.arr r p->r∉gs)(l:∀n x,look st.bx n=some x->(G.B n).1 =b->n∉bn):Gc.own b=.out\/Gc.own b=.fz:=by
 cases e:G.own b with
 |out=>exact .inl (c.out b e)
 |fz=>exact .inr (c.fz b e)
 |arr r p=>
  by_cases hd:∃d∈ds,d.1=r
  ·obtain⟨d,f,rfl⟩:=hd;exact .inr (c.dep b d p f e)
  ·exact .inl (c.free b r p e (λd f g=>hd ⟨d,f,g⟩) (h r p e))
 |box=>
  by_cases hd:∃n x u,look st.bx n=some x/\(qV n,u)∈ds/\(G.B n).1 =b
  ·obtain⟨n,x,u,f,g,rfl⟩:=hd;exact .inr (c.rp n x u f g)
  ·exact .inl (c.box b e (λn x hx j=>⟨λu m=>hd ⟨n,x,u,hx,m,j⟩,l n x hx j⟩))
theorem aBd(l:cZ w G st slc)(b1:Zq G st ds gs bn Gc)(Y:Fr w Gc w' Gx)(b7:∀b,Gx.own b≠.out->b<w'.heap.size){ps:List (TypeId×PM)}{as:List A}(b3:bn=fW ps as)
  (b4:∀n x,look st.bx n=some x->n∈bn->∃cs e,w'.heap[(G.B n).1]?=some (.cells cs e (0,0))/\(G.B n).2 +x.lv.length<=cs.size):
  Le w G st w' (G.merge Gx w.heap.size gs ds') (jB ps as (kD gs st))/\cZ w' (G.merge Gx w.heap.size gs ds') (jB ps as (kD gs st)) (λ_=>none):=by
 subst b3;obtain⟨e1,d0,a5⟩:=IB gs st;obtain⟨a6,d1,a7,V⟩:=OD ps as (kD gs st);have P:∀r a,look (jB ps as (kD gs st)).ar r=some a->look st.ar r=some a/\r∉gs:=λr a h=>by
  rw[a6,VC]at h;split at h
  ·simp at h
  ·rename_i d;exact⟨h,d⟩
 have H:∀n f,look (jB ps as (kD gs st)).bx n=some f->∃x,look st.bx n=some x/\x.uid=f.uid/\x.lv.length=f.lv.length/\(n∉fW ps as->f=x)/\(n∈fW ps as->f.lv=HF x.lv.length/\f.mp=none):=λn f h=>by
  by_cases d:n∈fW ps as
  ·rw[(V n).2 d,e1]at h;cases a2:look st.bx n with
   |none=>simp[a2]at h
   |some x=>simp[a2]at h;subst h;exact⟨x,rfl,rfl,by simp[FH],λh=>absurd d h,λ_=>⟨rfl,rfl⟩⟩
  ·rw[(V n).1 d,e1]at h;exact⟨f,h,rfl,rfl,λ_=>rfl,λh=>absurd h d⟩
 have J:(jB ps as (kD gs st)).ctr=st.ctr:=a7.trans a5;have Q:∀b,b<w.heap.size->(∀r p,G.own b=.arr r p->r∉gs)->(∀n x,look st.bx n=some x->(G.B n).1 =b->n∉fW ps as)->w'.heap[b]?=w.heap[b]?:=λb c y L=>(Y.block b c (unlent l b1 y L)).1;have a1:∀b,G.own b=.fz->(G.merge Gx w.heap.size gs ds').own b=.fz/\w'.heap[b]?=w.heap[b]?:=λb c=>by have s:=l.live b (by rw[c];simp);refine⟨by rw[CM s (λr p h=>by rw[c]at h;simp at h),c],Q b s (λr p h=>by rw[c]at h;simp at h) (λn x hx d=>?_)⟩;have:=(l.boxes n x hx).2.1;rw[d,c]at this;simp at this
 have a4:∀r,r∉gs->∀b p,G.own b=.arr r p->(G.merge Gx w.heap.size gs ds').own b=.arr r p/\w'.heap[b]?=w.heap[b]?:=λr c3 b p c=>by
  have s:=l.live b (by rw[c];simp);have y:∀r' p',G.own b=.arr r' p'->r'∉gs:=λr' p' h=>by rw[c]at h;injection h with h;exact h▸c3
  refine⟨by rw[CM s y,c],Q b s y (λn x hx d=>?_)⟩;have:=(l.boxes n x hx).2.1;rw[d,c]at this;simp at this
 have a0:Le w G st w' (G.merge Gx w.heap.size gs ds') (jB ps as (kD gs st)):=by
  refine⟨by rw[J];exact Nat.le_refl _,λr u p a' _ h=>?_,λn f _ hx=>?_,λr a' _ h=>?_,a1⟩
  ·exact⟨a',⟨(P r a' h.1).1,h.2⟩,rfl,rfl,rfl,λh=>h⟩
  ·obtain⟨x,g,m,_⟩:=H n f hx;exact⟨x,g,m,rfl⟩
  ·obtain⟨g,m⟩:=P r a' h;exact⟨a',g,rfl,λb p c=>by obtain⟨C,t⟩:=a4 r m b p c;exact⟨⟨p,C⟩,t⟩⟩
 refine⟨a0,λ_ _ h=>by simp at h,λn f hx=>?_,λn n' x f y L c2=>?_,λr a b2=>?_,λb c=>?_,l.hdr⟩
 ·obtain⟨x,g,m,a9,b0,W⟩:=H n f hx;obtain⟨C,t,b5⟩:=l.boxes n x g;have s:=l.live (G.B n).1 (by rw[t];simp);have a3:(G.merge Gx w.heap.size gs ds').own (G.B n).1 =.box:=by rw[CM s (λr p h=>by rw[t]at h;simp at h),t]
  by_cases d:n∈fW ps as
  ·obtain⟨K,F,c8,T⟩:=b4 n x g d;refine⟨by rw[J,<-m];exact C,a3,kE.of_cells (W d).2 ⟨K,F,c8,by rw[<-a9];exact T,λj b6=>?_⟩⟩;have c0:(G.B n).2 +j<K.size:=by omega
   refine⟨K[(G.B n).2 +j],Array.getElem?_eq_getElem c0,?_⟩;rw[(W d).1,Gw];exact trivial
  ·have c4:=b0 d;subst c4;refine⟨by rw[J];exact C,a3,b5.step ?_ rfl rfl λj b6 v T=>dH a0 _ _ T⟩;exact Q (G.B n).1 s (λr p h=>by rw[t]at h;simp at h) (λn' U c5 c1=>by
     by_cases F:n'=n
     ·subst F;exact d
     ·exact absurd c1 (l.apartB n' n U f c5 g F))
 ·obtain⟨U,g,_⟩:=H n x y;obtain⟨c9,m,_⟩:=H n' f L;exact l.apartB n n' U c9 g m c2
 ·obtain⟨g,m⟩:=P r a b2;obtain⟨C,t,c6,c7⟩:=l.arrs r a g;rw[J];exact⟨C,t,c6,FZ a1 (λ_=>rfl) (λb p c=>a4 r m b p c) c7⟩
 ·simp only[Gh.merge]at c;split at c
  ·rename_i h;exact Nat.lt_of_lt_of_le h.1 Y.size
  ·refine b7 b (λe=>?_);rw[e]at c;simp at c
end
end Go.Eng

namespace Go.Eng
section
variable{w w':World}{G Gc Gx Gm:Gh}{st s:St}{slc sl:Nat->Option Value}{ds ds':List (Nat×Nat)}{gs bn:List Nat}
structure Zr(w:World)(G Gc:Gh)(st:St)(ds:List (Nat×Nat))(gs bn:List Nat)(w':World)(Gx:Gh):Prop where
 imp:Zq G st ds gs bn Gc
 fr:Fr w Gc w' Gx
 rel:∃sl,cZ w G st sl
 box:∀n x,look st.bx n=some x->n∈bn->Gx.own (G.B n).1 =.box
theorem Zr.unlent(h:Zr w G Gc st ds gs bn w' Gx){b:Nat}(g:b<w.heap.size)(d:∀r p,G.own b=.arr r p->r∉gs)(c:Gx.own b≠.box\/∀n x,look st.bx n=some x->(G.B n).1 =b->n∉bn):Gx.own b=Gc.own b/\(Gc.own b=.out\/Gc.own b=.fz):=by
 obtain⟨sl,f⟩:=h.rel;have e:∀n x,look st.bx n=some x->(G.B n).1 =b->n∉bn:=by
  rcases c with c |c
  ·intro n x hx l j;have:=h.box n x hx j;rw[l]at this;exact c this
  ·exact c
 have:=Go.Eng.unlent f h.imp d e;exact⟨(h.fr.block b g this).2,this⟩
theorem LM(b:Nat):(b<w.heap.size/\(∀r p,G.own b=.arr r p->r∉gs)/\(G.merge Gx w.heap.size gs ds').own b=G.own b)\/
  ((G.merge Gx w.heap.size gs ds').own b=match Gx.own b with|.fz=>.fz |.arr rx _=>(open Classical in if∃d∈ds',d.1=rx then .fz else .out) |_=>.out):=by
 by_cases h:b<w.heap.size/\¬∃r p,G.own b=.arr r p/\r∈gs
 ·left;refine⟨h.1,λr p c e=>h.2 ⟨r,p,c,e⟩,?_⟩;simp only[Gh.merge];rw[if_pos h]
 ·right;simp only[Gh.merge];rw[if_neg h];try(cases Gx.own b<;>simp)
theorem Zr.arr(h:Zr w G Gc st ds gs bn w' Gx){b n:Nat}{p:cL}(e:Gx.own b=.arr n p):(G.merge Gx w.heap.size gs ds').own b=if∃d∈ds',d.1=n then .fz else .out:=by
 rcases LM (w:=w) (G:=G) (Gx:=Gx) (gs:=gs) (ds':=ds') b with⟨c,j,l⟩ |c
 ·obtain⟨f,g⟩:=h.unlent c j (.inl (by rw[e];simp));rw[e]at f;rw[<-f]at g;simp at g
 ·rw[c,e]
theorem Zr.free(h:Zr w G Gc st ds gs bn w' Gx){b n:Nat}{p:cL}(f:Gx.own b=.arr n p)(g:∀d∈ds',d.1≠n):(G.merge Gx w.heap.size gs ds').own b=.out:=by rw[h.arr f,if_neg (by rintro⟨d,c,e⟩;exact g d c e)]
theorem Zr.ptr(h:Zr w G Gc st ds gs bn w' Gx){b:Nat}(f:Gx.own b=.box)(j:∀n x,look st.bx n=some x->(G.B n).1 =b->n∉bn):(G.merge Gx w.heap.size gs ds').own b=.out:=by
 rcases LM (w:=w) (G:=G) (Gx:=Gx) (gs:=gs) (ds':=ds') b with⟨c,g,l⟩ |c
 ·obtain⟨d,e⟩:=h.unlent c g (.inr j);rw[f]at d;rw[<-d]at e;simp at e
 ·rw[c,f]
theorem Br{d:Nat×Nat}:∀{l:List (Nat×Nat)},qH l=false->d∈l->d.1<1000000000000
 |[],_,h=>by simp at h
 |(r,v)::l,h,hd=>by
  simp only[qH,Bool.or_eq_false_iff]at h;rcases List.mem_cons.1 hd with rfl |hd
  ·have:=h.1;rcases Nat.lt_or_ge r 1000000000000 with h |h
   ·exact h
   ·exact absurd (Nat.ble_eq_true_of_le h) (by simp[this])
  ·exact Br h.2 hd
theorem Zr.read(h:Zr w G Gc st ds gs bn w' Gx)(t:qH ds=false){b:Nat}(c:uD Gx ds' b):uD (G.merge Gx w.heap.size gs ds') ds b:=by
 rcases c with c |⟨d,hd,p,c⟩
 ·rcases LM (w:=w) (G:=G) (Gx:=Gx) (gs:=gs) (ds':=ds') b with⟨j,l,s⟩ |j
  ·obtain⟨e,F⟩:=h.unlent j l (.inl (by rw[c];simp));rw[c]at e;unfold uD;rw[s];cases f:G.own b with
   |out=>have:=h.imp.out b f;rw[<-e]at this;simp at this
   |fz=>exact .inl rfl
   |arr r p=>
    by_cases hd:∃d∈ds,d.1=r
    ·obtain⟨d,g,rfl⟩:=hd;exact .inr ⟨d,g,p,rfl⟩
    ·have:=h.imp.free b r p f (λd g m=>hd ⟨d,g,m⟩) (l r p f);rw[<-e]at this;simp at this
   |box=>have:=h.imp.box b f (λn x hx y=>⟨λu C=>by have:=Br t C;simp[qV]at this;omega,λv=>by have:=h.box n x hx v;rw[y,c]at this;simp at this⟩);rw[<-e]at this;simp at this
  ·left;rw[j,c]
 ·left;rw[h.arr c,if_pos ⟨d,hd,rfl⟩]
structure Mg(Gx Gm0 Gm:Gh)(done bdone:List Nat):Prop where
 own:∀b,(∀n p,n∈done->Gx.own b≠.arr n p)->b∉bdone->Gm.own b=Gm0.own b
theorem Mg.refl(Gx Gm0:Gh):Mg Gx Gm0 Gm0 [] []:=⟨λ_ _ _=>rfl⟩
theorem Mg.into{Gm0 Gm':Gh}{done bdone ns:List Nat}(h:Mg Gx Gm0 Gm done bdone)(k:aFo Gx Gm Gm' ns):Mg Gx Gm0 Gm' (ns++done) bdone:=
 ⟨λb d e=>by rw[k.own b (λn p c=>d n p (by simp[c]))];exact h.own b (λn p c=>d n p (by simp[c])) e⟩
structure Can(Gx Gm0:Gh)(ds ds':List (Nat×Nat))(names blocks:List Nat):Prop where
 free:∀n∈names,∀b p,Gx.own b=.arr n p->Gm0.own b=.out
 ptr:∀b∈blocks,Gm0.own b=.out
 pbox:∀b∈blocks,Gx.own b=.box
 read:qH ds=false->∀b,uD Gx ds' b->uD Gm0 ds b
 ap:∀n∈names,∀d∈ds',d.1≠n
theorem Re{Gm0:Gh}{names blocks done bdone:List Nat}(g:Can Gx Gm0 ds ds' names blocks)(F:Mg Gx Gm0 Gm done bdone)(K:∀b∈bdone,Gx.own b=.box)(J:cZ w' Gm s sl)(U:∀b,Gx.own b≠.out->b<w'.heap.size)(T:∀r p,∃a n c,Gx.H r p=.slice a n c)
  {ts:List LT}{vs:List Value}{k nb:Nat}{x:D}{os:List (Option Nat)}{dep:List (Nat×Nat)}(h:PV w' Gx ds' ts vs k x 0 os)(G:(dP os++done).Nodup)(C:∀n∈dP os,n∈names)(P:∀n∈done,n∈names)
  (L:(dep=ds/\qH ds=false)\/ds=[]\/oP ts=true)(Q:∀d,d∈dep->d.2<s.ctr)(Y:ds=[]\/∀t∈ts,yR t=true):
  ∃Gm',Mg Gx Gm0 Gm' (dP os++done) bdone/\Le w' Gm s w' Gm' (dA dep nb k x 0 ts s).1 /\cZ w' Gm' (dA dep nb k x 0 ts s).1 sl/\eF w' Gm' (dA dep nb k x 0 ts s).1 (dA dep nb k x 0 ts s).2 vs/\∀b,Gm'.B b=Gm.B b:=by
 have y:∀b,(∀n p,n∈done->Gx.own b≠.arr n p)->Gx.own b≠.box->Gm.own b=Gm0.own b:=λb f u=>F.own b f (λV=>u (K b V));have v:∀(dep:List (Nat×Nat)),(∀b,uD Gx ds' b->uD Gm0 dep b)->∀b,uD Gx ds' b->uD Gm dep b:=λdep hd b e=>by
  have:=hd b e;unfold uD at this⊢;rw[y b (λn p j l=>by
   rcases e with e |⟨d,hd,p',e⟩
   ·rw[l]at e;simp at e
   ·rw[l]at e;injection e with e;exact g.ap n (P n j) d hd e.symm) (λl=>by
   rcases e with e |⟨d,hd,p',e⟩
   ·rw[l]at e;simp at e
   ·rw[l]at e;simp at e)]
  exact this
 obtain⟨Gm',H,a0,a1,a2⟩:=CL (nb:=nb) (dep:=dep) U T h J (List.nodup_append.1 G).1 (λn j=>g.ap n (C n j)) (λn j b p e=>by
   rw[y b (λn' p' W m=>by rw[e]at m;injection m with m;exact rG G n j (m▸W)) (by rw[e];simp)];exact g.free n (C n j) b p e)
  (by
   rcases L with⟨f,u⟩ |f |f
   ·subst f;exact .inl (v dep (λb e=>g.read u b e))
   ·subst f;refine .inl (v dep (λb e=>?_));have:=g.read rfl b e;exact yK (ds:=[]) (by simp) b this
   ·exact .inr f) Q (by
   rcases Y with f |f
   ·left;subst f;intro b e;have:=v [] (λb e=>g.read rfl b e) b (.inl e);exact(NO b).1 this
   ·exact .inr f)
 exact⟨Gm',F.into H,a0,a1,a2,H.B⟩
theorem aEm(d:cZ w Gm s sl){b:Nat}{x:Bx}{l:List A}{cs:Array Value}{e:TypeId}{vs:List Value}(hx:look s.bx b=some x)(Q:w.heap[(Gm.B b).1]?=some (.cells cs e (0,0)))(W:(Gm.B b).2 +l.length<=cs.size)(H:eF w Gm s l vs)
  (T:∀(j:Nat)(v:Value),vs[j]?=some v->cs[(Gm.B b).2 +j]?=some v):Le w Gm s w Gm {s with bx:=pC s.bx b {uid:=x.uid,lv:=l}}/\cZ w Gm {s with bx:=pC s.bx b {uid:=x.uid,lv:=l}} sl:=by
 have g:=Le.bxPut (w:=w) (G:=Gm) hx l;have a4:=(cX.1 H).1;obtain⟨K,L,_⟩:=d.boxes b x hx;refine⟨g,d.step g (λt v hv=>dH g _ _ (d.slots t v hv)) (λb' f c=>?_) (λb1 b2 a1 a2 e1 y V=>?_) (λr a P=>.inl ⟨P,λ_=>rfl,λb p h=>⟨h,rfl⟩⟩) d.live d.hdr⟩
 ·simp only[bR]at c;by_cases m:b'=b
  ·rw[if_pos m]at c;injection c with c;subst c;subst m;refine .inr ⟨K,L,kE.of_cells rfl ⟨cs,e,Q,W,λj u=>?_⟩⟩;have U:j<vs.length:=by simp only at u;omega
   have J:vs[j]?=some vs[j]:=by simp[U]
   refine⟨vs[j],T j _ J,dH g _ _ ?_⟩;exact(cX.1 H).2 j _ _ (by simp only at u;simp[List.getD,u]) J
  ·rw[if_neg m]at c;exact .inl ⟨c,rfl,rfl,(d.boxes b' f c).2.1⟩
 ·simp only[bR]at e1 y;have C:∀b' f,(if b'=b then some ({uid:=x.uid,lv:=l}:Bx)else look s.bx b')=some f->∃a3,look s.bx b'=some a3:=λb' f F=>by
   split at F
   ·rename_i h;exact⟨x,h▸hx⟩
   ·exact⟨f,F⟩
  obtain⟨y1,Y⟩:=C b1 a1 e1;obtain⟨y2,a0⟩:=C b2 a2 y;exact d.apartB b1 b2 y1 y2 Y a0 V
theorem Wg{l m:List A}(h:l.length=m.length):tU m 0 l=l:=by
 apply List.ext_getElem?;intro j;rw[KV l m 0 j (by omega)];by_cases c:j<l.length
 ·rw[if_pos (by omega)];rfl
 ·rw[if_neg (by omega),List.getElem?_eq_none (by omega),List.getElem?_eq_none (by omega)]
theorem CN{Gm0:Gh}{names blocks:List Nat}(a5:Can Gx Gm0 ds ds' names blocks)(b0:∀b,Gx.own b≠.out->b<w'.heap.size)(a7:∀r p,∃a n c,Gx.H r p=.slice a n c):
  ∀(ps:List (TypeId×PM)){as:List A}{vs:List Value}{xs:List D}{d b2 done:List Nat}{Gm:Gh}{s g:St},RI w' Gx ds' ps vs xs d b2->eF w G st as vs->Le w G st w' Gm s->jZ ps as xs s=some g->cZ w' Gm s sl->Mg Gx Gm0 Gm done []->
   (∀n,Gm.B n=G.B n)->(d++done).Nodup->(∀n∈d,n∈names)->(∀n∈done,n∈names)->(ds=[]\/tW ps=true)->gX ps=true->
   ∃l,Mg Gx Gm0 l (d++done) []/\Le w' Gm s w' l g/\cZ w' l g sl/\∀n,l.B n=G.B n
 |[],as,vs,xs,d,b2,done,Gm,s,g,⟨H,J,f4,h0⟩,hv,K,hg,L,T,y,_,_,_,_,_=>by
  subst H;subst J;subst f4;have:as=[]:=by
   cases as with
   |nil=>rfl
   |cons a as=>obtain⟨v,d2,e,_⟩:=hv;simp at e
  subst this;simp[jZ,ok]at hg;subst hg;exact⟨Gm,T,Le.refl w' Gm s,L,y⟩
 |p::ps,[],vs,xs,d,b2,done,Gm,s,g,P,hv,K,hg,L,T,y,_,_,_,_,W=>by obtain⟨t,m⟩:=p;cases m<;>simp_all[jZ,aF,gX]
 |p::ps,a::as,vs,xs,d,b2,done,Gm,s,g,P,hv,K,hg,L,T,y,b1,V,a6,b3,W=>by
  obtain⟨v,d2,rfl,c4,c5⟩:=hv;have c2:gX ps=true:=by obtain⟨t,m⟩:=p;cases m<;>simp_all[gX]
  by_cases a9:∃t el,p=(t,.io el)
  ·obtain⟨t,el,rfl⟩:=a9;obtain⟨b6,Y,x,h9,b,o,os,c7,g8,e1,e2,e3,H,e4,e5,J⟩:=P;injection e1 with a1 a2;subst a1;subst a2;subst e2;subst e4;subst e5;simp only[jZ]at hg;obtain⟨s1,U,e6⟩:=bind_some hg;have c3:ds=[]\/oP el=true:=b3.imp id λh=>by simp only[tW,Bool.and_eq_true]at h;exact h.1
   have b4:ds=[]\/tW ps=true:=b3.imp id λh=>by simp only[tW,Bool.and_eq_true]at h;exact h.2
   unfold Ph at U;split at U
   ·rename_i n u;obtain⟨lv,e9,f0⟩:=bind_some U;obtain⟨f1,b7⟩:=aV f0;have h3:=Nat.eq_of_beq_eq_true f1;obtain⟨d3,y1,y2,y3⟩:=fB e9;have F:v=.pointer (some ⟨(G.B n).1,(G.B n).2 +0,none⟩):=by
     obtain⟨y0,g2,g3,_⟩:=K.bx n d3 (by rw[y2];exact c4.1) y1;exact c4.2 y0 g2 (g3.trans y2)
    rw[e3]at F;injection F with F;injection F with F;injection F with f6 c0;subst f6;rw[Nat.add_zero]at c0;subst c0;obtain⟨h7,cs,e,us,g4,h8,g5,c8⟩:=H;have f8:(dP os++done).Nodup:=by exact(List.Sublist.append (List.sublist_append_left (dP os) c7) (List.Sublist.refl done)).nodup b1
    obtain⟨e0,g6,c9,g7,d0,d1⟩:=Re (nb:=nm n 0) (dep:=[]) a5 T (by simp) L b0 a7 c8 f8 (λm Q=>V m (by simp[Q])) a6 (by
      rcases c3 with h |h
      ·exact .inr (.inl h)
      ·exact .inr (.inr h)) (by simp) (by
      rcases c3 with h |h
      ·exact .inl h
      ·right;have:∀(ts:List LT),oP ts=true->∀t∈ts,yR t=true:=by
        intro ts;induction ts with
        |nil=>intro _ t ht;simp at ht
        |cons t0 ts g1=>
         intro C t ht;simp only[oP,Bool.and_eq_true]at C;rcases List.mem_cons.1 ht with rfl |ht
         ·cases t with
          |sl o e el=>cases o with
           |true=>simpa[yR,LT.noFz]using C.1
           |false=>rfl
          |_=>rfl
         ·exact g1 C.2 t ht
       exact this el h)
    unfold Pf at b7;obtain⟨h5,f2,f3⟩:=bind_some b7;obtain⟨z,a0,z2,z3⟩:=fB f2;obtain⟨g9,a3⟩:=iQ f3;have c1:=(pR [] (nm n 0) el.length x el 0 s).2;rw[c1,y1]at a0;injection a0 with a0;subst a0;rw[y3]at z3;subst z3;have h1:=(cX.1 d0).1;have h2:=c8.length;rw[Wg (by omega)]at a3;have g0:look (dA [] (nm n 0) el.length x 0 el s).1.bx n=some d3:=by rw[c1];exact y1
    have a4:e0.B n=G.B n:=(d1 n).trans (y n);obtain⟨b5,c6⟩:=aEm (cs:=cs) (e:=e) g7 g0 (by rw[a4];exact g4) (by rw[a4];omega) d0 (by rw[a4];exact g5);rw[<-y2]at a3;rw[a3]at b5 c6;have f9:(c7++(dP os++done)).Nodup:=by refine List.Perm.nodup ?_ b1;rw[List.append_assoc];exact(List.perm_append_comm_assoc _ _ _)
    obtain⟨l,t1,t2,t3,t4⟩:=CN a5 b0 a7 ps (done:=dP os++done) J c5 ((K.trans c9).trans b5) e6 c6 g6 (λn=>(d1 n).trans (y n)) f9 (λm Q=>V m (by simp[Q])) (λm Q=>by
     rcases List.mem_append.1 Q with h |h
     ·exact V m (by simp[h])
     ·exact a6 m h) b4 c2
    refine⟨l,⟨λb H J=>t1.own b (λn p C=>H n p ?_) J⟩,(c9.trans b5).trans t2,t3,t4⟩;simp only[List.mem_append]at C⊢;rcases C with h |h |h
    ·exact .inl (.inr h)
    ·exact .inl (.inl h)
    ·exact .inr h
   ·simp[aF]at U
  ·have f5:∃b6 Y,v::d2=b6::Y/\RI w' Gx ds' ps Y xs d b2:=by
    obtain⟨t,m⟩:=p;cases m with
    |io el=>exact absurd ⟨t,el,rfl⟩ a9
    |_=>exact P
   obtain⟨b6,Y,e1,P⟩:=f5;injection e1 with a1 a2;subst a1;subst a2;have f7:jZ ps as xs s=some g:=by
    obtain⟨t,m⟩:=p;cases m with
    |io el=>exact absurd ⟨t,el,rfl⟩ a9
    |sio lv=>simp[gX]at W
    |sub j h4 k=>simp[gX]at W
    |clo f h6=>simp[gX]at W
    |_=>cases xs<;>simpa[jZ]using hg
   have b4:ds=[]\/tW ps=true:=b3.imp id λh=>by obtain⟨t,m⟩:=p;cases m<;>simp_all[tW]
   exact CN a5 b0 a7 ps P c5 K f7 L T y b1 V a6 b4 c2
end
end Go.Eng

namespace Go.Eng
section
variable{w w':World}{G Gc Gx Gm:Gh}{st s:St}{slc sl:Nat->Option Value}{ds ds':List (Nat×Nat)}{gs bn:List Nat}
def Rf(ds:List (Nat×Nat))(m:RM):Prop:=ds=[]\/(qH ds=false/\yG [m]=true)\/tX [m]=true
theorem YE:∀(ts:List LT),oP ts=true->∀t∈ts,yR t=true
 |[],_,t,ht=>by simp at ht
 |t0::ts,c,t,ht=>by
  simp only[oP,Bool.and_eq_true]at c;rcases List.mem_cons.1 ht with rfl |ht
  ·cases t with
   |sl o e el=>cases o with
    |true=>simpa[yR,LT.noFz]using c.1
    |false=>rfl
   |_=>rfl
  ·exact YE ts c.2 t ht
theorem Wh{α:Type}{f:α->Bool}:∀{l:List α},BM f l=true->∀a∈l,f a=true
 |[],_,_,h=>absurd h (by simp)
 |b::l,h,a,c=>by
  simp only[BM,Bool.and_eq_true]at h;rcases List.mem_cons.1 c with rfl |c
  ·exact h.1
  ·exact Wh h.2 a c
theorem VD{Gm0:Gh}{names blocks done bdone:List Nat}(G:Can Gx Gm0 ds ds' names blocks)(Y:∀b,Gx.own b≠.out->b<w'.heap.size)(V:∀r p,∃a n c,Gx.H r p=.slice a n c){m:RM}{u:Value}{x:D}{y b1:List Nat}{d c:Nat}{C:St}{a:A}
  (h:Wc w' Gx ds' m u x y b1)(j:BP ds d c x m s=some (C,a))(F:cZ w' Gm s sl)(H:Mg Gx Gm0 Gm done bdone)(Q:∀b∈bdone,Gx.own b=.box)(a1:(y++done).Nodup)(T:(b1++bdone).Nodup)(W:∀n∈y,n∈names)(a7:∀b∈b1,b∈blocks)
  (U:∀n∈done,n∈names)(a9:∀p,p∈ds->p.2<s.ctr)(hf:Rf ds m):
  ∃f,Mg Gx Gm0 f (y++done) (b1++bdone)/\Le w' Gm s w' f C/\cZ w' f C sl/\dC w' f C a u/\∀n,n≠d->f.B n=Gm.B n:=by
 cases m with
 |val agg lv=>
  obtain⟨rfl,vs,os,l,g,rfl⟩:=h;simp only[BP]at j;obtain⟨a',a5,P⟩:=bind_some j;simp[ok]at P;obtain⟨rfl,rfl⟩:=P;obtain⟨f,t,J,K,v,L⟩:=Re (nb:=nm d (64*c)) (dep:=ds) G H Q F Y V g a1 W U (by
    rcases hf with h |h |h
    ·exact .inr (.inl h)
    ·exact .inl ⟨rfl,h.1⟩
    ·exact .inr (.inr (by simp only[tX,Bool.and_eq_true]at h;exact h.1))) a9 (by
    rcases hf with h |h |h
    ·exact .inl h
    ·exact .inr (by have g:=h.2;simp only[yG,Bool.and_eq_true]at g;exact Wh g.1)
    ·exact .inr (by simp only[tX,Bool.and_eq_true]at h;exact YE _ h.1))
  exact⟨f,by simpa using t,J,K,LI a5 l v,λn _=>L n⟩
 |ptr el=>
  rcases h with⟨l,rfl,rfl,rfl⟩ |⟨c3,ys,b,o,os,l,rfl,⟨b5,cs,e,us,b6,c2,b7,a4⟩,rfl,rfl⟩
  ·simp only[BP,l]at j;simp[ok]at j;obtain⟨rfl,rfl⟩:=j;exact⟨Gm,by simpa using H,Le.refl w' Gm s,F,rfl,λ_ _=>rfl⟩
  ·simp only[BP,l]at j;simp[ok]at j;obtain⟨rfl,rfl⟩:=j;have a2:ds=[]\/oP el=true:=by
    rcases hf with h |h |h
    ·exact .inl h
    ·exact .inr (by have g:=h.2;simp only[yG,Bool.and_eq_true]at g;exact g.1)
    ·exact .inr (by simp only[tX,Bool.and_eq_true]at h;exact h.1)
   obtain⟨f,t,J,K,v,L⟩:=Re (nb:=nm d (64*c)) (dep:=[]) G H Q F Y V a4 a1 W U (by
     rcases a2 with h |h
     ·exact .inr (.inl h)
     ·exact .inr (.inr h)) (by simp) (a2.imp id (YE el))
   have a6:b∉bdone:=by simp only[List.singleton_append,List.nodup_cons]at T;exact T.1
   have b0:f.own b=.out:=by rw[t.own b (λn p a0 a3=>by rw[b5]at a3;simp at a3) a6];exact G.ptr b (a7 b (by simp))
   have c0:=(cX.1 v).1;have c1:=a4.length;obtain⟨b2,b3,b4⟩:=Nh (Gx:=Gx) (d:=d) (o:=o) K b0 b6 (by omega) v b7;refine⟨_,⟨λb' l g=>?_⟩,J.trans b2,b3,b4,λn a0=>by simp[Gh.box,Gh.tag,a0,L]⟩;simp only[List.singleton_append,List.mem_cons,not_or]at g;have:((f.tag b .box).box d (b,o)).own b'=f.own b':=by simp[Gh.box,Gh.tag,g.1]
   rw[this];exact t.own b' l g.2
theorem VE{Gm0:Gh}{names blocks:List Nat}(L:Can Gx Gm0 ds ds' names blocks)(a3:∀b,Gx.own b≠.out->b<w'.heap.size)(a2:∀r p,∃a n c,Gx.H r p=.slice a n c){x:D}{d:Nat}:
  ∀(F:List RM){us:List Value}{c:Nat}{j b1 done bdone:List Nat}{Gm:Gh}{s t:St}{l:List A},Gu w' Gx ds' F us x c j b1->HH ds d x c F s=some (t,l)->cZ w' Gm s sl->Mg Gx Gm0 Gm done bdone->(∀b∈bdone,Gx.own b=.box)->(j++done).Nodup->(b1++bdone).Nodup->
   (∀n∈j,n∈names)->(∀b∈b1,b∈blocks)->(∀n∈done,n∈names)->(∀p,p∈ds->p.2<s.ctr)->(∀m∈F,Rf ds m)->
    ∃g,Mg Gx Gm0 g (j++done) (b1++bdone)/\Le w' Gm s w' g t/\cZ w' g t sl/\eF w' g t l us/\∀n,n≠d->g.B n=Gm.B n
 |[],us,c,j,b1,done,bdone,Gm,s,t,l,⟨v,y,H⟩,C,J,Q,_,_,_,_,_,_,_,_=>by subst v;subst y;subst H;simp[HH,ok]at C;obtain⟨rfl,rfl⟩:=C;exact⟨Gm,by simpa using Q,Le.refl w' Gm s,J,rfl,λ_ _=>rfl⟩
 |m::F,us,c,j,b1,done,bdone,Gm,s,t,l,⟨u,d3,na,nb,G,T,v,y,H,b2,b3⟩,C,J,Q,V,a4,W,P,K,Y,a0,hf=>by
  subst v;subst y;subst H;simp only[HH]at C;obtain⟨d1,a7,a9⟩:=bind_some C;obtain⟨d2,b0,U⟩:=bind_some a9;simp[ok]at U;obtain⟨rfl,rfl⟩:=U;obtain⟨s1,a1⟩:=d1;obtain⟨e2,e1⟩:=d2;have c0:(na++done).Nodup:=(List.Sublist.append (List.sublist_append_left na nb) (List.Sublist.refl done)).nodup a4;have b4:(G++bdone).Nodup:=(List.Sublist.append (List.sublist_append_left G T) (List.Sublist.refl bdone)).nodup W;obtain⟨e0,c3,a5,c4,c5,c6⟩:=VD L a3 a2 b2 a7 J Q V c0 b4 (λn e=>P n (by simp[e])) (λb f=>K b (by simp[f])) Y a0 (hf m (by simp));have c1:(nb++(na++done)).Nodup:=by refine List.Perm.nodup ?_ a4;rw[List.append_assoc];exact List.perm_append_comm_assoc _ _ _
  have b5:(T++(G++bdone)).Nodup:=by refine List.Perm.nodup ?_ W;rw[List.append_assoc];exact List.perm_append_comm_assoc _ _ _
  have b6:∀b∈G++bdone,Gx.own b=.box:=λb f=>by
   rcases List.mem_append.1 f with h |h
   ·exact L.pbox b (K b (by simp[h]))
   ·exact V b h
  obtain⟨g,c7,a6,c8,c9,d0⟩:=VE L a3 a2 F b3 b0 c4 c3 b6 c1 b5 (λn e=>P n (by simp[e])) (λb f=>K b (by simp[f])) (λn e=>by
   rcases List.mem_append.1 e with h |h
   ·exact P n (by simp[h])
   ·exact Y n h) (λp c2=>Nat.lt_of_lt_of_le (a0 p c2) a5.ctr) (λm b7=>hf m (by simp[b7]))
  refine⟨g,⟨λb v y=>c7.own b (λn p e=>v n p ?_) (λf=>y ?_)⟩,a5.trans a6,c8,⟨u,d3,rfl,dH a6 _ _ c5,c9⟩,λn e=>(d0 n e).trans (c6 n e)⟩
  ·simp only[List.mem_append]at e⊢;rcases e with h |h |h
   ·exact .inl (.inr h)
   ·exact .inl (.inl h)
   ·exact .inr h
  ·simp only[List.mem_append]at f⊢;rcases f with h |h |h
   ·exact .inl (.inr h)
   ·exact .inl (.inl h)
   ·exact .inr h
end
end Go.Eng

namespace Go.Eng
section
variable{P:Program}{E:eQ}{ctx:rZ}{w w':World}{G Gc Gx Gm:Gh}{st s:St}{sl:Nat->Option Value}{ds ds':List (Nat×Nat)}{gs bn:List Nat}
theorem Wi(j:cZ w G st sl){t:LT}{a:A}{v:Value}{r:La D}(h:HE st t a=some r)(f:dC w G st a v):∀d,d∈r.ds->d.2<st.ctr:=by
 unfold HE at h;split at h
 ·obtain⟨_,c⟩:=aV h;simp[ok]at c;subst c;simp
 ·simp[ok]at h;subst h;simp
 ·simp[ok]at h;subst h;simp
 ·simp[ok]at h;subst h;simp
 ·obtain⟨a',_,c⟩:=bind_some h;split at c
  ·obtain⟨_,e⟩:=aV c;simp[ok]at e;subst e;simp
  ·simp[aF]at c
 ·obtain⟨_,c⟩:=aV h;simp[ok]at c;subst c;exact f.1
 ·obtain⟨q,g,c⟩:=bind_some h;obtain⟨_,e⟩:=aV c;simp[ok]at e;subst e;intro d hd;simp at hd;subst hd;exact(KR j f g).1
 ·simp[aF]at h
theorem FI(e:cZ w G st sl):∀{lv:List LT}{l:List A}{vs:List Value}{r:La (List D)},cJ st lv l=some r->eF w G st l vs->∀d,d∈r.ds->d.2<st.ctr
 |[],[],vs,r,h,_,d,hd=>by simp[cJ,ok]at h;subst h;simp at hd
 |t::ts,a::l,vs,r,h,hv,d,hd=>by
  simp only[cJ]at h;obtain⟨p,f,g⟩:=bind_some h;obtain⟨q,j,c⟩:=bind_some g;simp[ok]at c;subst c;obtain⟨v,u,_,m,s⟩:=hv;simp only[List.mem_append]at hd;rcases hd with hd |hd
  ·exact Wi e f m d hd
  ·exact FI e j s d hd
 |[],_::_,_,_,h,_,_,_=>by simp[cJ,aF]at h
 |_::_,[],_,_,h,_,_,_=>by simp[cJ,aF]at h
theorem Gy(f:cZ w G st sl){lv:List LT}{l:List A}{vs:List Value}{r:List (Nat×Nat)×List D}(h:Zt st lv l=some r)(hv:eF w G st l vs):∀d,d∈r.1->d.2<st.ctr:=by obtain⟨p,e,c⟩:=bind_some h;simp[ok]at c;subst c;exact FI f e hv
theorem Gz{l:List A}{vs:List Value}(h:eF w G st l vs)(n:Nat):eF w G st (jK n l) (vs.take n):=by
 obtain⟨d,e⟩:=cX.1 h;refine cX.2 ⟨by rw[lR];simp[d],λj a v c hv=>?_⟩;rw[lR,List.getElem?_take]at c;rw[List.getElem?_take]at hv;split at c
 ·rename_i f;rw[if_pos f]at hv;exact e j a v c hv
 ·simp at c
theorem E8{l:List A}{vs:List Value}(h:eF w G st l vs)(n:Nat):eF w G st (nK n l) (vs.drop n):=by obtain⟨d,e⟩:=cX.1 h;refine cX.2 ⟨by rw[rF];simp[d],λj a v c hv=>?_⟩;rw[rF,List.getElem?_drop]at c;rw[List.getElem?_drop]at hv;exact e _ a v c hv
theorem Wj{a:A}{v:Value}(h:dC w G st a v):∃vs,eF w G st (fD a) vs:=by
 cases a with
 |agg xs=>obtain⟨vs,_,c⟩:=h;exact⟨vs,c⟩
 |_=>exact⟨[v],v,[],rfl,h,rfl⟩
theorem aCQ(L:cZ w G st sl){all:List A}{p:TypeId×PM}{a:A}{v:Value}{u:Arg}(h:DV E st all p a=some u)(a4:dC w G st a v)(a1:gX [p]=true):(∀d,d∈u.ds->d.2<st.ctr)/\(fO [p]=true->u.os=[]):=by
 obtain⟨t,m⟩:=p;have W:∀{b Q l},oN st b Q=some l->0<st.ctr/\∃vs,eF w G st l vs:=λ{b Q l}a5=>by obtain⟨x,a2,b4,a9⟩:=fB a5;subst a9;obtain⟨_,_,vs,_,_,b0,_⟩:=OC L a2 (uE a5 a2);exact⟨Nat.lt_of_le_of_lt (Nat.zero_le _) (L.boxes b x a2).1,vs,b0⟩
 cases m with
 |ro=>
  simp only[DV]at h;obtain⟨ti,T,F⟩:=bind_some h;obtain⟨q,H,c⟩:=bind_some F;simp[ok]at c;subst c;refine⟨?_,λ_=>rfl⟩;unfold aCv at H;split at H
  ·unfold aAk at H;obtain⟨a6,_,y⟩:=bind_some H;obtain⟨l,K,C⟩:=bind_some y;obtain⟨_,U⟩:=aV C;obtain⟨b1,a7,a3⟩:=bind_some U;simp[ok]at a3;subst a3;obtain⟨V,vs,J⟩:=W K;intro d hd;simp only[List.mem_cons]at hd;rcases hd with rfl |hd
   ·exact V
   ·exact Gy L a7 (Gz J _) d hd
  ·obtain⟨_,y⟩:=aV H;obtain⟨b1,K,C⟩:=bind_some y;simp[ok]at C;subst C;obtain⟨vs,J⟩:=Wj a4;exact Gy L K J
 |rp=>
  simp only[DV,KC]at h;obtain⟨e,T,F⟩:=bind_some h;obtain⟨a6,H,c⟩:=bind_some F;unfold O6 at c;split at c
  ·obtain⟨_,y⟩:=aV c;simp[ok]at y;subst y;exact⟨a4.1,λ_=>rfl⟩
  ·obtain⟨l,y,K⟩:=bind_some c;obtain⟨q,C,U⟩:=bind_some K;simp[ok]at U;subst U;obtain⟨V,vs,J⟩:=W y;refine⟨λd hd=>?_,λ_=>rfl⟩;simp only[List.mem_cons]at hd;rcases hd with rfl |hd
   ·exact V
   ·exact Gy L C (Gz (E8 J _) _) d hd
  ·rename_i r Q p k i;obtain⟨q,y,K⟩:=bind_some c;obtain⟨_,C⟩:=aV K;simp[ok]at C;subst C;refine⟨λd hd=>?_,λ_=>rfl⟩;simp at hd;subst hd;obtain⟨a0,v0,_,_,b2⟩:=HK y;rw[b2];exact(L.arrs r a0 v0.1).2.1
  ·simp[aF]at c
 |fnv f=>
  cases a<;>simp only[DV,aF]at h<;>(try cases h);rename_i g caps;cases caps with
  |cons _ _=>simp[DV,aF]at h
  |nil=>simp only[DV]at h;obtain⟨_,F⟩:=aV (s:= "") h;simp[ok]at F;subst F;exact⟨by simp,λ_=>rfl⟩
 |mv=>
  cases a<;>simp only[DV,aF]at h<;>(try cases h)
  ·exact⟨by simp,λP=>by simp[fO]at P⟩
  ·rename_i r Q p;cases p with
   |cons _ _=>simp[DV,aF]at h
   |nil=>simp only[DV]at h;obtain⟨q,T,F⟩:=bind_some h;obtain⟨ti,a6,H,c,y⟩:=yW F;obtain⟨_,C⟩:=aV (s:= "") y;simp[ok]at C;subst C;exact⟨by simp,λP=>by simp[fO]at P⟩
 |io el=>
  simp only[DV]at h;unfold KC at h;split at h
  ·rename_i P;simp at P
  ·rename_i b3 n Q Y;injection Y with Y;subst Y;obtain⟨l,T,F⟩:=bind_some h;obtain⟨q,H,c⟩:=bind_some F;simp[ok]at c;subst c;obtain⟨_,vs,J⟩:=W T;exact⟨FI L H J,λP=>by simp[fO]at P⟩
  ·simp[aF]at h
 |sio lv=>simp[gX]at a1
 |sub j b5 k=>simp[gX]at a1
 |clo f b6=>simp[gX]at a1
theorem IC{p:TypeId×PM}{ps:List (TypeId×PM)}(h:gX (p::ps)=true):gX [p]=true/\gX ps=true:=by obtain⟨t,m⟩:=p;cases m<;>simp_all[gX]
theorem Dk{p:TypeId×PM}{ps:List (TypeId×PM)}(h:fO (p::ps)=true):fO [p]=true/\fO ps=true:=by obtain⟨t,m⟩:=p;cases m<;>simp_all[fO]
theorem Ha(e:cZ w G st sl){all:List A}:∀(ps:List (TypeId×PM)){as:List A}{vs:List Value}{u:List Nat×List Nat×List (Nat×Nat)×List D},rD E st all ps as=some u->eF w G st as vs->gX ps=true->(∀d,d∈u.2.2.1->d.2<st.ctr)/\(fO ps=true->u.1=[])
 |[],[],vs,u,h,_,_=>by simp[rD,ok]at h;subst h;exact⟨by simp,λ_=>rfl⟩
 |p::ps,a::as,vs,u,h,hv,y=>by
  simp only[rD]at h;obtain⟨P,m,r⟩:=bind_some h;obtain⟨Q,s,c⟩:=bind_some r;simp[ok]at c;subst c;obtain⟨v,T,_,C,F⟩:=hv;obtain⟨K,L⟩:=IC y;obtain⟨f,g⟩:=aCQ e m C K;obtain⟨j,l⟩:=Ha e ps s F L;refine⟨λd hd=>?_,λt=>?_⟩
  ·simp only[List.mem_append]at hd;exact hd.elim (f d) (j d)
  ·obtain⟨H,J⟩:=Dk t;simp[g H,l J]
 |[],_::_,_,_,h,_,_=>by simp[rD,aF]at h
 |_::_,[],_,_,h,_,_=>by simp[rD,aF]at h
theorem Hb(H:cZ w G st sl){all:List A}:∀(ps:List (TypeId×PM)){as:List A}{vs:List Value}{u:List Nat×List Nat×List (Nat×Nat)×List D}{xs:List D}{g b2:List Nat},rD E st all ps as=some u->eF w G st as vs->RI w' Gx ds' ps vs xs g b2->
  ∀n,n∈fW ps as->∃x,look st.bx n=some x/\Gx.own (G.B n).1 =.box/\(G.B n).1 ∈b2/\∃cs e,w'.heap[(G.B n).1]?=some (.cells cs e (0,0))/\(G.B n).2 +x.lv.length<=cs.size
 |[],as,vs,u,xs,g,b2,_,_,_,n,c=>by cases as<;>simp[fW]at c
 |p::ps,[],vs,u,xs,g,b2,_,_,_,n,c=>by simp[fW]at c
 |p::ps,a::as,vs,u,xs,g,b2,h,hv,J,n,c=>by
  simp only[rD]at h;obtain⟨d1,f,a2⟩:=bind_some h;obtain⟨d2,C,F⟩:=bind_some a2;simp[ok]at F;subst F;obtain⟨v,d3,rfl,b6,L⟩:=hv;obtain⟨t,m⟩:=p;cases m with
  |io el=>
   obtain⟨c3,c4,e0,e2,b,o,os,c7,c5,e1,Q,T,b5,U,V,y⟩:=J;injection e1 with j r;subst j;subst r;subst Q;subst U;subst V;simp only[fW,List.mem_append]at c;rcases c with c |c
   ·cases a<;>simp[rI]at c;rename_i n' c9 off;subst c;simp only[DV]at f;unfold KC at f;split at f
    ·rename_i b3;simp at b3
    ·rename_i c6 n' d0 s a6;injection s with s;subst s;injection a6 with a7 a9 b0;subst a7;subst a9;subst b0;obtain⟨l,a3,a4⟩:=bind_some f;obtain⟨q,a5,_⟩:=bind_some a4;obtain⟨x,P,b7,c0⟩:=fB a3;subst c0;have d:=b6.2 x P b7;rw[T]at d;injection d with d;injection d with d;injection d with b1 K;subst b1;rw[Nat.add_zero]at K;subst K;obtain⟨c1,cs,e,us,c2,c8,_⟩:=b5;have:=rH a5;exact⟨x,P,c1,by simp,cs,e,c2,by omega⟩
    ·simp[aF]at f
   ·obtain⟨x,W,Y,a0,a1⟩:=Hb H ps C L y n c;exact⟨x,W,Y,by simp[a0],a1⟩
  |_=>
   obtain⟨c3,c4,e1,y⟩:=J;injection e1 with j r;subst j;subst r;have b4:n∈fW ps as:=by
    simp only[fW,List.mem_append]at c;rcases c with c |c
    ·cases a<;>simp[rI]at c
    ·exact c
   exact Hb H ps C L y n b4
theorem R6{m:RM}{u:Value}{x:D}{e b1:List Nat}(h:Wc w' Gx ds' m u x e b1):∀b∈b1,Gx.own b=.box:=by
 cases m with
 |val agg lv=>obtain⟨rfl,_⟩:=h;simp
 |ptr el=>
  rcases h with⟨_,_,_,rfl⟩ |⟨f,ys,b,o,os,_,_,d,_,rfl⟩
  ·simp
  ·intro b' c;simp at c;subst c;exact d.1
theorem Wk:∀{e:List RM}{us:List Value}{x:D}{c:Nat}{l b1:List Nat},Gu w' Gx ds' e us x c l b1->∀b∈b1,Gx.own b=.box
 |[],_,_,_,_,_,⟨_,_,h⟩,b,d=>by subst h;simp at d
 |m::e,_,_,_,_,_,⟨u,t,na,nb,r,s,_,_,f,g,j⟩,b,d=>by subst f;simp only[List.mem_append]at d;exact d.elim (R6 g b) (Wk j b)
theorem aBe{rs:List RM}{v:Value}{x:D}{c b1:List Nat}(h:RH w' Gx ds' rs v x c b1):∀b∈b1,Gx.own b=.box:=by
 unfold RH at h;split at h
 ·obtain⟨_,_,rfl⟩:=h;simp
 ·exact R6 h
 ·obtain⟨us,_,h⟩:=h;exact Wk h
theorem LN:∀{l:List Nat},nodup l=true->l.Nodup
 |[],_=>List.nodup_nil
 |m::l,h=>by simp only[nodup,Bool.and_eq_true,Bool.not_eq_true']at h;refine List.nodup_cons.2 ⟨λc=>?_,LN h.2⟩;rw[HZ.2 c]at h;exact absurd h.1 (by simp)
theorem LO{l:List Nat}:∀{m:List (Nat×Nat)},apart l m=true->∀n∈l,∀d∈m,d.1≠n
 |[],_,_,_,d,hd=>by simp at hd
 |(r,v)::m,h,n,c,d,hd=>by
  simp only[apart,Bool.and_eq_true,Bool.not_eq_true']at h;rcases List.mem_cons.1 hd with rfl |hd
  ·intro e;simp only at e;subst e;rw[HZ.2 c]at h;simp at h
  ·exact LO h.2 n c d hd
theorem E9{s:EC}{ds:List (Nat×Nat)}(h:NL s ds=true):(ds=[]\/tW s.ps=true)/\∀m∈s.rs,Rf ds m:=by
 cases ds with
 |nil=>exact⟨.inl rfl,λ_ _=>.inl rfl⟩
 |cons p l=>
  simp only[NL,Bool.and_eq_true]at h;refine⟨.inr h.2,λm c=>?_⟩;have g:∀(rs:List RM),tX rs=true->∀m∈rs,tX [m]=true:=by
   intro rs;induction rs with
   |nil=>intro _ m c;simp at c
   |cons f rs e=>
    intro j m c;rcases List.mem_cons.1 c with rfl |c
    ·cases m<;>simp_all[tX]
    ·exact e (by cases f<;>simp_all[tX]) m c
  have r:∀(rs:List RM),yG rs=true->∀m∈rs,yG [m]=true:=by
   intro rs;induction rs with
   |nil=>intro _ m c;simp at c
   |cons f rs e=>
    intro j m c;rcases List.mem_cons.1 c with rfl |c
    ·cases m<;>simp_all[yG]
    ·exact e (by cases f<;>simp_all[yG]) m c
  cases d:qH (p::l)with
  |true=>rw[d]at h;exact .inr (.inr (g _ h.1 m c))
  |false=>rw[d]at h;exact .inr (.inl ⟨d,r _ h.1 m c⟩)
theorem Wl(vs:List Value):BI (λ_=>none) 0 vs=λi=>vs[i]?:=by
 funext t;rw[PW];by_cases h:t<vs.length
 ·rw[if_pos (by omega)];rfl
 ·rw[if_neg (by omega),List.getElem?_eq_none (by omega)]
def Hc(P:Program)(ctx:rZ)(m:Nat)(s:EC)(e:TypeId)(el:List LT)(f:Nat):Prop:=
 ∀data q x,ctx m [.l data,.l []]=some (q,[x])->s.rs=[]->∀{w:World}{G:Gh}{st:St}{sl:Nat->Option Value}{r:Nat}{a:xA},cZ w G st sl->look st.ar r=some a->a.stale=[]->a.e=e->a.el=el->a.data=data->
  Calls P s.fn ⟨[G.H r [],.func (.func f) #[] #[]]⟩ w (λc w'=>c=.returned (.tuple #[])/\w'.os=w.os/\w'.tape=w.tape/\w'.output=w.output/\w.heap.size<=w'.heap.size/\(∀b,b<w.heap.size->G.own b≠.arr r []->w'.heap[b]?=w.heap[b]?)/\xI w' G [] r e el [] (G.H r []) x.els)
theorem aFq{r:Nat}{e:TypeId}{el:List LT}{v:Value}{data:List D}(hf:qX el=true)(h:xI w G [] r e el [] v data){l:World}{f:Gh}(K:∀b,G.own b=.arr r []->f.own b=.arr r []/\l.heap[b]?=w.heap[b]?):xI l f [] r e el [] v data:=by
 obtain⟨a,n,c,L,P,Q,T,U,V⟩:=h;refine⟨a,n,c,L,P,Q,T,U,λad W=>?_⟩;obtain⟨y,C,cs,s,F,H,J⟩:=V ad W;obtain⟨a1,g⟩:=K ad.block C;refine⟨y,a1,cs,s,g.trans F,H,λi Y=>HP el 0 (λj t ht=>?_)⟩;obtain⟨a3,a2,d⟩:=AP (J i Y) j t ht;refine⟨a3,(uB g _).trans a2,?_⟩;have a0:=sH hf j t ht;cases t with
 |int k=>exact d
 |bool=>exact d
 |str=>exact d
 |sl o m u=>exact absurd rfl (a0 o m u)
theorem F0{m:Nat}{s:EC}{e:TypeId}{el:List LT}{f d:Nat}(a2:Hc P ctx m s e el f)(a1:s.rs=[]){as:List A}{vs:List Value}{st':St}(K:cZ w G st sl)(hv:eF w G st as vs)
  (h:((Du st e el f as).bind λq=>(nJ "sort: answer" (ctx m [.l q.2.data,.l []])).bind (Dt st d q.1 q.2))=some st'):
  Calls P s.fn ⟨vs⟩ w (λe w'=>∃v G',e=.returned v/\Fr w G w' G'/\Le w G st w' G' st'/\cZ w' G' st' (xL sl d v)):=by
 obtain⟨q,j,V⟩:=bind_some h;obtain⟨b6,H,c⟩:=bind_some V;simp only[nJ]at H;unfold Du at j;split at j
 ·rename_i r u g;obtain⟨J,W⟩:=aV j;simp only[Bool.and_eq_true]at J;have:=Nat.eq_of_beq_eq_true J.1;subst this;obtain⟨a,Y,l⟩:=bind_some W;split at l
  ·rename_i L;obtain⟨t,F⟩:=aV l;simp[ok]at F;subst F;simp only[Bool.and_eq_true]at t;have e1:=Nat.eq_of_beq_eq_true t.1;have C:=gF _ _ t.2;have y:=dX Y;obtain⟨c0,c2,rfl,a3,c1,b4,rfl,a4,a5⟩:=hv;have:b4=[]:=a5;subst this;obtain⟨a6,_,_⟩:=a3.2 a y;obtain⟨us,a7,a9⟩:=a4;have:us=[]:=a9;subst this;subst a6;subst a7;unfold Dt at c;split at c
   ·rename_i b5 x;simp[ok]at c;subst c;refine Calls.mono (a2 a.data b5 x H a1 K y.1 L e1 C.symm rfl) λb7 w' a0=>?_;obtain⟨rfl,o1,o2,b0,b1,b2,b3⟩:=a0;obtain⟨Q,T,U⟩:=HT (data:=x.els) K y.1 L ⟨o1,o2,b0⟩ b1 b2 (by rw[e1,<-C];exact b3);exact⟨_,G,rfl,Q,T.trans (Le.put _ _ _ _ _),U.put ⟨[],rfl,rfl⟩⟩
   ·simp[aF]at c
  ·simp[aF]at l
 ·simp[aF]at j
theorem F1(g6:fV P E){m:Nat}{s:EC}(hf:gX s.ps=true->LJ P E ctx m s)(h4:∀e el f,lJ s.ps=some (e,el,f)->s.rs=[]/\Hc P ctx m s e el f){d:Nat}(k2:d<500\/600<=d){as:List A}{vs:List Value}{st':St}(F:cZ w G st sl)(hv:eF w G st as vs)(h:PG E ctx st d m s as=some st'):
  Calls P s.fn ⟨vs⟩ w (λe w'=>∃v G',e=.returned v/\(fO s.ps=true->FW w w')/\Fr w G w' G'/\Le w G st w' G' st'/\cZ w' G' st' (xL sl d v)):=by
 unfold PG at h;cases C:lJ s.ps with
 |some q=>
  obtain⟨e,el,f⟩:=q;rw[C]at h;obtain⟨V,c2⟩:=h4 e el f C;refine Calls.mono (F0 c2 V F hv h) λk1 w' c7=>?_;obtain⟨v,G',Q,c0,a7,c1⟩:=c7;refine⟨v,G',Q,λb0=>?_,c0,a7,c1⟩;unfold lJ at C;split at C
  ·rename_i T;rw[T]at b0;simp[fO]at b0
  ·simp at C
 |none=>
 rw[C]at h;simp only at h;obtain⟨u,V,c2⟩:=bind_some h;obtain⟨e5,g4⟩:=aV c2;obtain⟨r,c3,g5⟩:=bind_some g4;obtain⟨e0,e2,K⟩:=bind_some g5;simp only[Bool.and_eq_true]at e5;obtain⟨T,b3,a9,f0⟩:=e5;have b3:=LN b3;have a9:=LO a9;simp only[nJ]at c3;obtain⟨os,gs,ds,xs⟩:=u;simp only at c3 e2 K b3 a9 f0;obtain⟨tQ,g9,g8⟩:=hf T xs r c3;obtain⟨h1,Gc,f4,U,f5,h6⟩:=RJ g6 F s.ps (stk:=Gv) (os0:=[]) (gs0:=[]) (bn0:=[]) V hv (ds:=ds) (λd hd=>hd) (by simpa using b3) a9 T (by simp) (by simp) (We (ds:=ds) F) (Wd G st (λn x hx=>(F.boxes n x hx).2.1) ds) g9;simp only[List.append_nil]at U f5;rw[Wl]at f4;obtain⟨e6,f1⟩:=Ha F s.ps V hv T;simp only at e6 f1;refine Calls.mono (g8 w Gc vs h1 f4) λe w' c7=>?_;obtain⟨v,Gx,rfl,J,L⟩:=c7;obtain⟨ds',d3,b1,b6,b2,o1,o2,f8,f9,g0⟩:=L.ex;have c5:=Hb (w':=w') (Gx:=Gx) (ds':=ds') F s.ps V hv o2;have c9:Zr w G Gc st ds gs (fW s.ps as) w' Gx:=⟨U,J,⟨sl,F⟩,λn x hx c=>by obtain⟨i2,Q,c0,_⟩:=c5 n c;exact c0⟩;obtain⟨b4,h7⟩:=aBd (ds':=ds') F U J L.live rfl (λn x hx c=>by obtain⟨i2,Q,_,_,c1⟩:=c5 n c;rw[hx]at Q;injection Q with Q;subst Q;exact c1);have c8:=aBe o1;have c6:Can Gx (G.merge Gx w.heap.size gs ds') ds ds' (b6++d3) b1:=by refine⟨λn c b p y=>c9.free y (λd hd=>g0 n c d hd),λb y=>c9.ptr (c8 b y) (λn x hx c Y=>?_),c8,λY b y=>c9.read Y y,λn c d hd=>g0 n c d hd⟩;obtain⟨_,_,_,a7,_⟩:=c5 n Y;rw[c]at a7;exact rG f9 b a7 y
 obtain⟨g3,a6⟩:=E9 f0;obtain⟨e1,g1,i8⟩:=IB gs st;obtain⟨j0,g2,k0,_⟩:=OD s.ps as (kD gs st);have h8:cZ w' (G.merge Gx w.heap.size gs ds') (jB s.ps as (kD gs st)) sl:=h7.withSlots λt i1 h5=>by rw[g2,g1];exact dH b4 _ _ (F.slots t i1 h5)
 have f2:(b6++[]).Nodup:=by simpa using(List.nodup_append.1 f8).1
 obtain⟨a5,b5,f7,d1,i0⟩:=CN c6 L.live L.hdr s.ps (done:=[]) o2 hv b4 e2 h8 (Mg.refl _ _) (λ_=>rfl) f2 (λn c=>by simp[c]) (by simp) g3 T;simp only[List.append_nil]at b5;have f3:(d3++b6).Nodup:=List.Perm.nodup List.perm_append_comm f8;have e4:(b1++[]).Nodup:=by simpa using(List.nodup_append.1 f9).2.1
 have e9:∀p,p∈ds->p.2<e0.ctr:=λp C=>Nat.lt_of_lt_of_le (e6 p C) (b4.trans f7).ctr;have b7:∀(j:Gh)(H:St)(a:A),Mg Gx (G.merge Gx w.heap.size gs ds') j (d3++b6) (b1++[])->Le w' a5 e0 w' j H->cZ w' j H sl->dC w' j H a v->(∀n,n≠d->j.B n=a5.B n)->
   (fO s.ps=true->FW w w')/\Fr w G w' j/\Le w G st w' j (H.put d a)/\cZ w' j (H.put d a) (xL sl d v):=by
  intro j H a a0 a1 a2 a3 a4;refine⟨λb0=>⟨J.size,λb y=>?_⟩,⟨J.os,J.tape,J.output,J.size,λb y g=>?_,λn k3 f2=>?_⟩,((b4.trans f7).trans a1).trans (Le.put _ _ _ _ _),a2.put a3⟩
  ·have h2:=f1 b0;subst h2;have h0:gs=[]:=List.eq_nil_iff_forall_not_mem.2 λr h3=>by simpa using f5 r h3
   have g7:fW s.ps as=[]:=List.eq_nil_iff_forall_not_mem.2 λn c=>by simpa using h6 n c
   refine(J.block b y (Go.Eng.unlent F U (λr p _=>by rw[h0];simp) (λn x _ _=>by rw[g7];simp))).1
  ·have e3:Gc.own b=G.own b:=by
    rcases g with g |g
    ·rw[g];exact U.out b g
    ·rw[g];exact U.fz b g
   obtain⟨t1,t2⟩:=J.block b y (by rw[e3];exact g);refine⟨t1,?_⟩;have hx:Gx.own b=G.own b:=t2.trans e3;rw[a0.own b (λn p _ C=>by rw[hx]at C;rcases g with g |g<;>rw[g]at C<;>simp at C) (λY=>by have:=c8 b (by simpa using Y);rw[hx]at this;rcases g with g |g<;>rw[g]at this<;>simp at this)];exact CM y (λr p C=>by rcases g with g |g<;>rw[g]at C<;>simp at C)
  ·rw[a4 n (by omega),i0 n]
 cases d0:s.rs with
 |nil=>rw[d0]at o1 K;obtain⟨rfl,rfl,rfl⟩:=o1;simp[ok]at K;subst K;exact⟨_,a5,rfl,b7 a5 e0 (.tup []) (by simpa using b5) (Le.refl _ _ _) d1 ⟨[],rfl,rfl⟩ (λ_ _=>rfl)⟩
 |cons f6 d2=>
  cases d2 with
  |nil=>rw[d0]at o1 K a6;simp only[RH]at o1;obtain⟨q,c4,W⟩:=bind_some K;simp[ok]at W;subst W;obtain⟨H,a⟩:=q;obtain⟨j,a0,a1,a2,a3,a4⟩:=VD c6 L.live L.hdr o1 c4 d1 b5 (by simp) f3 e4 (λn c=>by simp[c]) (λb y=>y) (λn c=>by simp[c]) e9 (a6 f6 (by simp));exact⟨v,j,rfl,b7 j H a a0 a1 a2 a3 a4⟩
  |cons h9 d2=>rw[d0]at o1 K a6;simp only[RH]at o1;obtain⟨us,rfl,o1⟩:=o1;obtain⟨q,c4,W⟩:=bind_some K;simp[ok]at W;subst W;obtain⟨H,l⟩:=q;obtain⟨j,a0,a1,a2,a3,a4⟩:=VE c6 L.live L.hdr (f6::h9::d2) o1 c4 d1 b5 (by simp) f3 e4 (λn c=>by simp[c]) (λb y=>y) (λn c=>by simp[c]) e9 a6;exact⟨_,j,rfl,b7 j H (.tup l) a0 a1 a2 ⟨us,rfl,a3⟩ a4⟩
end
end Go.Eng

namespace Go.Eng
section
variable{P:Program}{E:eQ}{ctx:rZ}{w w':World}{G Gc Gx Gm:Gh}{st:St}{sl:Nat->Option Value}{ds ds':List (Nat×Nat)}
theorem Hd:∀(ps:List (TypeId×PM))(as:List A)(st:St),fW ps as=[]->jB ps as st=st
 |[],as,st,_=>by cases as<;>rfl
 |p::ps,[],st,_=>by obtain⟨t,m⟩:=p;cases m<;>rfl
 |p::ps,a::as,st,h=>by
  simp only[fW,List.append_eq_nil_iff]at h;have c:jB (p::ps) (a::as) st=jB ps as st:=by obtain⟨t,m⟩:=p;cases m<;>cases a<;>first|rfl |(simp[rI]at h)
  rw[c];exact Hd ps as st h.2
theorem d4{t:LT}{v:Value}{x:D}{n:Option Nat}{ds2:List (Nat×Nat)}(h:R5 w' Gx ds' t v x n)(g:∀d,d∈ds'->d∈ds2)(j:∀m,n=some m->∃u,(m,u)∈ds2):uA w' (uD Gx ds2) t v x:=by
 have c:∀t,uA w' (uD Gx ds') t v x->uA w' (uD Gx ds2) t v x:=λt ht=>cU (λb f=>⟨yK g b f,rfl⟩) t v x ht;cases t with
 |int k=>exact c _ h.2
 |bool=>exact c _ h.2
 |str=>exact c _ h.2
 |sl o e el=>
  cases o with
  |false=>exact c _ h.2
  |true=>
   cases n with
   |none=>obtain⟨rfl,hx⟩:=h;exact⟨none,0,0,rfl,by rw[hx];rfl,Nat.le_refl _,Nat.zero_le _,λ_=>rfl,by simp⟩
   |some m=>obtain⟨u,l⟩:=j m rfl;have:=cU (λb f=>⟨yK (ds':=ds2) (by intro d hd;simp at hd;subst hd;exact l) b (P5 (v:=u) f),rfl⟩) _ _ _ (B8 (show xI w' Gx [] m e el [] v x.els from h));exact this
theorem He{ds2:List (Nat×Nat)}(f:∀d,d∈ds'->d∈ds2):∀{ts:List LT}{vs:List Value}{k:Nat}{x:D}{j:Nat}{ns:List (Option Nat)},PV w' Gx ds' ts vs k x j ns->(∀m,m∈dP ns->∃u,(m,u)∈ds2)->
  ∀(i:Nat)(t:LT)(u:Value),ts[i]?=some t->vs[i]?=some u->uA w' (uD Gx ds2) t u (lf k x (j+i))
 |[],_,_,_,_,_,_,_,i,t,u,h,_=>by simp at h
 |t0::ts,vs,k,x,j,ns,⟨v,C,n,y,e1,l,r,s⟩,g,i,t,u,ht,e=>by
  subst e1;subst l;cases i with
  |zero=>simp at ht e;subst ht;subst e;exact d4 r f (λm c=>g m (by subst c;simp[dP]))
  |succ i=>have:=He f s (λm c=>g m (by cases n<;>simp[dP,c])) i t u (by simpa using ht) (by simpa using e);rwa [show j+1+i=j+(i+1)by omega]at this
theorem aBf(a5:fV P E){m:Nat}{s:EC}(hf:LJ P E ctx m s){as:List A}{vs:List Value}{agg:Bool}{lv:List LT}{gs:List Nat}{xs:List D}{r:tE}(c1:s.rs=[.val agg lv])(g:cZ w G st sl)(hv:eF w G st as vs)
  (K:rD E st as s.ps as=some ([],gs,ds,xs))(W:gX s.ps=true)(l:qH ds=false\/qX lv=true)(h:XD ctx true m agg lv ds xs=some r):
  ∃a,r=.val a/\Calls P s.fn ⟨vs⟩ w (λe w'=>∃v G',e=.returned v/\FW w w'/\Fr w G w' G'/\Le w G st w' G' st/\cZ w' G' st sl/\dC w' G' st a v):=by
 obtain⟨q,L,F⟩:=bind_some h;simp only[nJ,cond_true]at L;split at F
 ·rename_i d2;obtain⟨a,a4,rfl⟩:=hJ F;refine⟨a,rfl,?_⟩;obtain⟨tQ,a9,a6⟩:=hf xs q L;obtain⟨b4,Gc,a0,C,a1,c5⟩:=RJ a5 g s.ps (stk:=Gv) (os0:=[]) (gs0:=[]) (bn0:=[]) K hv (ds:=ds) (λd hd=>hd) (by simp) (by simp) W (by simp) (by simp) (We (ds:=ds) g) (Wd G st (λn x hx=>(g.boxes n x hx).2.1) ds) a9;simp only[List.append_nil]at C a1;rw[Wl]at a0;obtain⟨U,b5⟩:=Ha g s.ps K hv W;simp only at U b5;have b3:gs=[]:=List.eq_nil_iff_forall_not_mem.2 λr b7=>by simpa using a1 r b7
  have H:fW s.ps as=[]:=List.eq_nil_iff_forall_not_mem.2 λn y=>by simpa using c5 n y
  subst b3;rw[H]at C;refine Calls.mono (a6 w Gc vs b4 a0) λe w' a7=>?_;obtain⟨v,Gx,rfl,c,T⟩:=a7;obtain⟨ds',c7,b1,d3,b2,o1,o2,e0,e1,e2⟩:=T.ex;rw[c1]at o1;obtain⟨_,us,os,c8,a3,c9⟩:=o1;have c0:Zr w G Gc st ds [] [] w' Gx:=⟨C,c,⟨sl,g⟩,λn x hx y=>by simp at y⟩;let ds2:List (Nat×Nat):=ds'++c7.map λn=>(n,0)
  obtain⟨J,a2⟩:=aBd (ds':=ds2) (ps:=s.ps) (as:=as) g C c T.live H.symm (λn x hx y=>by simp at y);have c2:jB s.ps as (kD [] st)=st:=Hd s.ps as st H;rw[c2]at J a2;have Y:∀b,b<w.heap.size->Gc.own b=.out\/Gc.own b=.fz:=λb f=>Go.Eng.unlent g C (λr p _=>by simp) (λn x _ _=>by simp);have c6:=a2.withSlots (sl':=sl) λt d0 c4=>dH J _ _ (g.slots t d0 c4);refine⟨v,G.merge Gx w.heap.size [] ds2,rfl,⟨c.size,λb f=>(c.block b f (Y b f)).1⟩,⟨c.os,c.tape,c.output,c.size,λb f d1=>⟨(c.block b f (Y b f)).1,CM f (λr p _=>by simp)⟩,λ_ _ _=>rfl⟩,J,c6,?_⟩;have b0:=He (ds2:=ds2) (λd hd=>by simp[ds2,hd]) a3 (λm b6=>⟨0,by simp[ds2,c9,b6]⟩);refine LI a4 c8 (YD U lv 0 us a3.length (λj t u V c3=>?_));have Q:=b0 j t u V c3;rcases l with l |l
  ·exact cU (λb f=>⟨c0.read l f,rfl⟩) _ _ _ Q
  ·exact Qh (sH l j t V) Q
 ·simp[aF]at F
end
end Go.Eng

namespace Go.Eng
section
variable{ext:Nat->Value}{P:Program}{E:eQ}{ctx:rZ}{w w':World}{G:Gh}{st:St}{sl:Nat->Option Value}{act:Act}{nt:Nat}
theorem F2{t:TypeId}{v u:Value}(h:(Instr.loadAt t v).run P w=.ok u w):(do loadVar t (<-asAddr v):Sem Value).run P w=.ok u w:=by
 cases v with
 |pointer a=>
  cases a with
  |none=>simp[Instr.loadAt,Instr.sureAddr]at h
  |some a=>simpa[Instr.loadAt,Instr.sureAddr,asAddr]using h
 |_=>simp[Instr.loadAt,Instr.sureAddr]at h
theorem FJ(j:fV P E)(c:gO ext nt w G st act):∀(l:List ResultVar){as:List A},jL E st l=some as->∃us,(l.mapM (m:=Sem) (λ
  |.tmp t=>pure (act.tmps.getD t undef)
  |.cell a t=>do loadVar t (<-asAddr (act.tmps.getD a undef)))).run P w=.ok us w/\eF w G st as us
 |[],as,h=>by simp[jL,ok]at h;subst h;exact⟨[],rfl,rfl⟩
 |.tmp t::l,as,h=>by simp only[jL]at h;obtain⟨q,g,d⟩:=bind_some h;simp[ok]at d;subst d;obtain⟨us,e,f⟩:=FJ j c l g;refine⟨act.tmps.getD t undef::us,?_,_,us,rfl,NP (c.slots t),f⟩;rw[List.mapM_cons];simp only[Sem.run_bind,Sem.run_pure,Result.andThen_ok,e]
 |.cell t ty::l,as,h=>by simp only[jL]at h;obtain⟨ti,g,d⟩:=bind_some h;obtain⟨a,s,v⟩:=bind_some d;obtain⟨q,y,r⟩:=bind_some v;simp[ok]at r;subst r;obtain⟨us,e,f⟩:=FJ j c l y;obtain⟨u,C,F⟩:=Ff (P:=P) (j.types _ _ g) c.rel (NP (c.slots t)) s;refine⟨u::us,?_,u,us,rfl,F,f⟩;have:=F2 (C w (FW.refl w));rw[List.mapM_cons];simp only[Sem.run_bind]at this⊢;rw[this];simp only[Result.andThen_ok,e,Sem.run_pure]
theorem PX(g:fV P E)(j:gO ext nt w G st act){f:Func}{as:List A}(h:jL E st f.results.toList=some as):∃us,(results f act.tmps).run P w=.ok (if us.length=1 then us.getD 0 undef else .tuple ⟨us⟩) w/\eF w G st as us:=by
 obtain⟨us,d,e⟩:=FJ g j _ h;refine⟨us,?_,e⟩;unfold results;rw[Array.mapM_eq_mapM_toList];rw[Sem.run_bind,Sem.run_map];erw [d];simp only[Result.andThen_ok,Sem.run_pure];by_cases c:us.length=1
 ·match us,c with
  |[u],_=>rfl
 ·have:¬(us.toArray.size=1):=by simpa using c
  rw[if_neg c];simp[c]
structure Wm(w:World)(G:Gh)(st:St)(bl:List Nat):Prop where
 ex:∀n∈bl,∃x,look st.bx n=some x
theorem VF(s:cZ w G st sl){m:RM}{a:A}{v:Value}{r:La D}(h:A4 st m a=some r)(y:dC w G st a v){ds:List (Nat×Nat)}(C:∀d,d∈r.ds->d∈ds):
  ∃ns bl,Wc w G ds m v r.x ns (bl.map λn=>(G.B n).1)/\r.os.Perm (bl.map qV++ns)/\Wm w G st bl:=by
 unfold A4 at h;split at h
 ·rename_i lv l;obtain⟨p,f,c⟩:=bind_some h;simp[ok]at c;subst c;obtain⟨vs,rfl,Q⟩:=y;obtain⟨ns,g,j⟩:=VA s f Q C;exact⟨dP ns,[],⟨rfl,vs,ns,rfl,g,rfl⟩,by simp only[List.map_nil,List.nil_append];rw[j],⟨by simp⟩⟩
 ·rename_i lv a;obtain⟨p,f,c⟩:=bind_some h;simp[ok]at c;subst c;obtain⟨ns,g,j⟩:=VA (vs:=[v]) s f ⟨v,[],rfl,y,rfl⟩ C;exact⟨dP ns,[],⟨rfl,[v],ns,rfl,g,rfl⟩,by simp only[List.map_nil,List.nil_append];rw[j],⟨by simp⟩⟩
 ·simp[ok]at h;subst h;exact⟨[],[],.inl ⟨rfl,y,rfl,rfl⟩,by simp,⟨by simp⟩⟩
 ·rename_i el b u;obtain⟨l,f,c⟩:=bind_some h;obtain⟨p,F,H⟩:=bind_some c;simp[ok]at H;subst H;obtain⟨x,t,T,U⟩:=fB f;subst U;have hv:=y.2 x t T;obtain⟨cs,e,vs,K,V,L,P⟩:=OC s t (uE f t);obtain⟨ns,g,j⟩:=VA s F L C;have W:=rH F;refine⟨dP ns,[b],.inr ⟨fM p.x,[],(G.B b).1,(G.B b).2,ns,rfl,by rw[hv];rfl,⟨(s.boxes b x t).2.1,cs,e,vs,K,by omega,P,g⟩,rfl,rfl⟩,?_,⟨λn J=>by simp at J;subst J;exact⟨x,t⟩⟩⟩;simp only[List.map_cons,List.map_nil];rw[j];exact List.Perm.refl _
 ·simp[aF]at h
theorem Hf{α:Type}{a b c d e f:List α}(g:a.Perm (b++c))(h:d.Perm (e++f)):(a++d).Perm ((b++e)++(c++f)):=by refine(List.Perm.append g h).trans ?_;rw[List.append_assoc,List.append_assoc];refine List.Perm.append_left b ?_;rw[<-List.append_assoc,<-List.append_assoc];exact List.Perm.append_right f List.perm_append_comm
theorem VG(s:cZ w G st sl){ds:List (Nat×Nat)}{X:D}:∀{f:List RM}{l:List A}{us:List Value}{r:La (List D)}(c:Nat),mF st f l=some r->eF w G st l us->(∀d,d∈r.ds->d∈ds)->(∀j e,r.x[j]?=some e->X.fld (c+j)=e)->
  ∃ns bl,Gu w G ds f us X c ns (bl.map λn=>(G.B n).1)/\r.os.Perm (bl.map qV++ns)/\Wm w G st bl
 |[],[],us,r,c,h,hv,_,_=>by simp[mF,ok]at h;subst h;exact⟨[],[],⟨hv,rfl,rfl⟩,by simp,⟨by simp⟩⟩
 |m::f,a::l,us,r,c,h,hv,t,hx=>by
  simp only[mF]at h;obtain⟨p,J,K⟩:=bind_some h;obtain⟨q,L,g⟩:=bind_some K;simp[ok]at g;subst g;obtain⟨v,a1,rfl,Q,T⟩:=hv;obtain⟨u,b1,C,F,H⟩:=VF s J Q (ds:=ds) (λd hd=>t d (by simp[hd]));obtain⟨y,b2,W,Y,a0⟩:=VG s (c+1) L T (λd hd=>t d (by simp[hd])) (λj e V=>by have:=hx (j+1) e (by simpa using V);rwa [show c+(j+1)=c+1+j by omega]at this);have U:X.fld c=p.x:=by have:=hx 0 p.x rfl;simpa using this
  refine⟨u++y,b1++b2,⟨v,a1,u,y,b1.map λn=>(G.B n).1,b2.map λn=>(G.B n).1,rfl,rfl,by simp,by rw[U];exact C,W⟩,?_,⟨λn P=>?_⟩⟩
  ·simp only[List.map_append];exact Hf F Y
  ·rcases List.mem_append.1 P with h |h
   ·exact H.ex n h
   ·exact a0.ex n h
 |[],_::_,_,_,_,h,_,_,_=>by simp[mF,aF]at h
 |_::_,[],_,_,_,h,_,_,_=>by simp[mF,aF]at h
theorem LP(g:cZ w G st sl){ds:List (Nat×Nat)}:∀{ps:List (TypeId×PM)}{vs:List Value}{r:La (List D)}(i:Nat),EE st i ps=some r->gX ps=true->vs.length=ps.length->(∀d,d∈r.ds->d∈ds)->
  (∀(k:Nat)(t:TypeId)(el:List LT)(v:Value),ps[k]?=some (t,PM.io el)->vs[k]?=some v->v=.pointer (some ⟨(G.B (500+(i+k))).1,(G.B (500+(i+k))).2,none⟩))->
   ∃ns bl,RI w G ds ps vs r.x ns (bl.map λn=>(G.B n).1)/\r.os.Perm (bl.map qV++ns)/\Wm w G st bl
 |[],vs,r,i,h,_,c,_,_=>by simp[EE,ok]at h;subst h;have:vs=[]:=List.eq_nil_of_length_eq_zero (by simpa using c);subst this;exact⟨[],[],⟨rfl,rfl,rfl,rfl⟩,by simp,⟨by simp⟩⟩
 |p::ps,[],r,i,h,_,c,_,_=>by simp at c
 |p::ps,v::vs,r,i,h,b3,c,C,F=>by
  obtain⟨Q,Y⟩:=IC b3;by_cases y:∃t el,p=(t,.io el)
  ·obtain⟨t,el,rfl⟩:=y;simp only[EE]at h;obtain⟨q,T,a7⟩:=bind_some h;obtain⟨b4,a9,U⟩:=bind_some a7;simp[ok]at U;subst U;unfold A5 at T;obtain⟨x,l,u⟩:=bind_some T;split at u;case h_2=>simp[aF]at u
   rename_i b1;obtain⟨a0,V,W⟩:=bind_some u;simp[ok]at W;subst W;simp only[nJ]at l;obtain⟨cs,e,us,a1,b5,a2,a3⟩:=OC g l b1;obtain⟨ns,a4,a5⟩:=VA g V a2 (ds:=ds) (λd hd=>C d (by simp[hd]));have b6:=rH V;have hv:=F 0 t el v rfl rfl;simp only[Nat.add_zero]at hv;obtain⟨s,b2,K,L,P⟩:=LP g (i+1) a9 Y (by simpa using c) (λd hd=>C d (by simp[hd])) (λk t el v H hv=>by have:=F (k+1) t el v (by simpa using H) (by simpa using hv);rwa [show i+(k+1)=i+1+k by omega]at this);refine⟨dP ns++s,(500+i)::b2,⟨v,vs,fM a0.x,b4.x,_,_,ns,s,_,rfl,rfl,hv,⟨(g.boxes _ x l).2.1,cs,e,us,a1,by omega,a3,a4⟩,rfl,by simp,K⟩,?_,⟨λn J=>?_⟩⟩
   ·have b0:(Al (500+i) 0 1++a0.os).Perm ([500+i].map qV++dP ns):=by rw[a5];exact List.Perm.refl _
    exact Hf b0 L
   ·rcases List.mem_cons.1 J with rfl |J
    ·exact⟨x,l⟩
    ·exact P.ex n J
  ·have a6:EE st (i+1) ps=some r:=by
    obtain⟨t,m⟩:=p;cases m with
    |io el=>exact absurd ⟨t,el,rfl⟩ y
    |sio lv=>simp[gX]at Q
    |sub j b7 k=>simp[gX]at Q
    |clo f c0=>simp[gX]at Q
    |_=>simpa[EE]using h
   obtain⟨s,b2,K,L,P⟩:=LP g (i+1) a6 Y (by simpa using c) C (λk t el v H hv=>by have:=F (k+1) t el v (by simpa using H) (by simpa using hv);rwa [show i+(k+1)=i+1+k by omega]at this);refine⟨s,b2,?_,L,P⟩;obtain⟨t,m⟩:=p;cases m with
   |io el=>exact absurd ⟨t,el,rfl⟩ y
   |_=>exact⟨v,vs,rfl,K⟩
theorem Rg(f:cZ w G st sl){bl:List Nat}(hg:Wm w G st bl)(h:bl.Nodup):(bl.map λn=>(G.B n).1).Nodup:=by
 induction bl with
 |nil=>exact List.nodup_nil
 |cons b bl m=>simp only[List.map_cons,List.nodup_cons]at h⊢;refine⟨λg=>?_,m ⟨λn j=>hg.ex n (by simp[j])⟩ h.2⟩;obtain⟨n,c,d⟩:=List.mem_map.1 g;obtain⟨x,hx⟩:=hg.ex n (by simp[c]);obtain⟨r,l⟩:=hg.ex b (by simp);exact f.apartB n b x r hx l (λe=>h.1 (e▸c)) d
theorem ID:∀(ps:List (TypeId×PM)){i:Nat}{xs:List D}{st tQ:St},gX ps=true->eI E i ps xs st=some tQ->(∀t,t<i\/i+ps.length<=t->tQ.sl.get t=st.sl.get t)/\∀n,n<500+i->look tQ.bx n=look st.bx n
 |[],i,xs,st,tQ,_,h=>by
  cases xs with
  |nil=>simp[eI,ok]at h;subst h;exact⟨λ_ _=>rfl,λ_ _=>rfl⟩
  |cons _ _=>simp[eI,aF]at h
 |p::ps,i,xs,st,tQ,C,h=>by
  obtain⟨r,F⟩:=IC C;have key:∀{xs:List D}{st1:St}{a:A},st1.sl=st.sl->(∀n,n<500+i->look st1.bx n=look st.bx n)->eI E (i+1) ps xs (st1.put i a)=some tQ->
    (∀t,t<i\/i+(p::ps).length<=t->tQ.sl.get t=st.sl.get t)/\∀n,n<500+i->look tQ.bx n=look st.bx n:=λ{xs st1 a}v c y=>by
   obtain⟨g,l⟩:=ID ps F y;refine⟨λt ht=>?_,λn s=>?_⟩
   ·simp only[List.length_cons]at ht;rw[g t (by omega)];simp only[St.put,Tr.get_set];rw[if_neg (by omega),v]
   ·rw[l n (by omega)];exact c n s
  obtain⟨t,m⟩:=p;cases m with
  |ro=>
   cases xs with
   |nil=>simp[eI,aF]at h
   |cons x xs=>simp only[eI]at h;obtain⟨ti,_,c⟩:=bind_some h;obtain⟨a,_,d⟩:=bind_some c;exact key rfl (λ_ _=>rfl) d
  |rp=>
   cases xs with
   |nil=>simp[eI,aF]at h
   |cons x xs=>simp only[eI]at h;obtain⟨e,_,c⟩:=bind_some h;obtain⟨u,_,d⟩:=bind_some c;exact key rfl (λ_ _=>rfl) d
  |fnv f=>
   cases xs with
   |nil=>simp[eI,aF]at h
   |cons x xs=>simp only[eI]at h;exact key rfl (λ_ _=>rfl) h
  |mv=>
   cases xs with
   |nil=>simp[eI,aF]at h
   |cons x xs=>simp only[eI]at h;obtain⟨ti,_,c⟩:=bind_some h;obtain⟨u,_,d⟩:=bind_some c;exact key (st1:=st.newArr (500+i) ti.e (eH true u.lv) x.els) rfl (λ_ _=>rfl) d
  |io el=>
   cases xs with
   |nil=>simp[eI,aF]at h
   |cons x xs=>simp only[eI]at h;obtain⟨g,l⟩:=pR [] (nm (500+i) 0) el.length x el 0 st;refine key (st1:=(dA [] (nm (500+i) 0) el.length x 0 el st).1.newBox (500+i) (dA [] (nm (500+i) 0) el.length x 0 el st).2) g (λn s=>?_) h;simp only[St.newBox,bR];rw[if_neg (by omega),l]
  |sio lv=>simp[gX]at r
  |sub j G k=>simp[gX]at r
  |clo f H=>simp[gX]at r
theorem Wn:∀(ps:List (TypeId×PM)){i:Nat}{xs:List D}{st tQ:St},gX ps=true->eI E i ps xs st=some tQ->∀(k:Nat)(t:TypeId)(el:List LT),ps[k]?=some (t,.io el)->
  ∃c x,tQ.sl.get (i+k)=.pb (500+(i+k)) c 0/\look tQ.bx (500+(i+k))=some x/\x.uid=c
 |[],i,xs,st,tQ,_,_,k,t,el,l=>by simp at l
 |p::ps,i,xs,st,tQ,F,h,k,t,el,l=>by
  obtain⟨r,s⟩:=IC F;have hx:∃u st1,eI E (i+1) ps u st1=some tQ:=by
   obtain⟨K,m⟩:=p;cases xs with
   |nil=>cases m<;>simp[eI,aF]at h
   |cons x xs=>
    cases m with
    |ro=>simp only[eI]at h;obtain⟨ti,_,d⟩:=bind_some h;obtain⟨a,_,g⟩:=bind_some d;exact⟨_,_,g⟩
    |rp=>simp only[eI]at h;obtain⟨e,_,d⟩:=bind_some h;obtain⟨G,_,g⟩:=bind_some d;exact⟨_,_,g⟩
    |fnv f=>simp only[eI]at h;exact⟨_,_,h⟩
    |mv=>simp only[eI]at h;obtain⟨ti,_,d⟩:=bind_some h;obtain⟨G,_,g⟩:=bind_some d;exact⟨_,_,g⟩
    |io el=>simp only[eI]at h;exact⟨_,_,h⟩
    |sio lv=>simp[gX]at r
    |sub j H k=>simp[gX]at r
    |clo f J=>simp[gX]at r
  cases k with
  |zero=>
   simp at l;subst l;cases xs with
   |nil=>simp[eI,aF]at h
   |cons x xs=>
    simp only[eI]at h;obtain⟨v,y⟩:=ID ps s h;simp only[Nat.add_zero];rw[v i (by omega),y (500+i) (by omega)];refine⟨(dA [] (nm (500+i) 0) el.length x 0 el st).1.ctr,{uid:=(dA [] (nm (500+i) 0) el.length x 0 el st).1.ctr,lv:=(dA [] (nm (500+i) 0) el.length x 0 el st).2 },?_,?_,rfl⟩
    ·simp[St.put,Tr.get_set]
    ·simp[St.put,St.newBox,bR]
  |succ k=>obtain⟨u,st1,C⟩:=hx;have:=Wn ps s C k t el (by simpa using l);rwa [show i+1+k=i+(k+1)by omega]at this
end
end Go.Eng

namespace Go.Eng
section
variable{P:Program}{E:eQ}{ctx:rZ}
theorem Wo{vs:List Value}{n t:Nat}(c:vs.length<=n):((⟨vs⟩:Array Value)++Array.replicate (n-vs.length) undef).getD t undef=(vs[t]?).getD undef:=by
 rw[Array.getD_eq_getD_getElem?];by_cases h:t<vs.length
 ·rw[Array.getElem?_append_left (by simpa using h)];simp
 ·rw[Array.getElem?_append_right (by simpa using h),List.getElem?_eq_none (by omega)];simp only[Array.getElem?_replicate,Option.getD_none];split<;>rfl
theorem aBg{act:Act}{t:Nat}(h:act.tmps.size<=1000):tv (λ_=>undef) act t=act.tmps.getD t undef:=by
 unfold tv;split
 ·rfl
 ·rw[Array.getD_eq_getD_getElem?,Array.getElem?_eq_none (by omega)];rfl
theorem IE(c4:fV P E)(e6:iW P E ctx)(f9:P.follows .mixedOrders=true){f:Func}{c:Code}{s:EC}{h:eV}{k m:Nat}(hf:P.funcs[s.fn]?=some f)(f2:f.body=some c)
  (g1:kG E h f.ntmps c=true)(e4:f.ntmps<=500)(c8:s.ps.length<=f.ntmps)(h9:s.ps.length<=100)(g2:gX s.ps=true){tQ:St}{r:D×List D}(c2:KK E ctx k f c s h tQ=some r)
  (e0:∀t,s.ps.length<=t->tQ.sl.get t=.undef)
  (d3:∀(kk:Nat)(t:TypeId)(el:List LT),s.ps[kk]?=some (t,PM.io el)->∃a2 x,tQ.sl.get kk=.pb (500+kk) a2 0/\look tQ.bx (500+kk)=some x/\x.uid=a2)
  (w:World)(G:Gh)(vs:List Value)(g7:vs.length=s.ps.length)(b5:cZ w G tQ (λi=>vs[i]?)):
  Calls P s.fn ⟨vs⟩ w (λe w'=>∃v G',e=.returned v/\Fr w G w' G'/\aCP w' G' s vs r v):=by
 unfold KK at c2;obtain⟨h4,e2,b1⟩:=bind_some c2;obtain⟨ex,st1⟩:=h4;have f5:(ex=.norm\/ex=.ret)/\∃as u v,jL E st1 f.results.toList=some as/\mF st1 s.rs as=some u/\EE st1 0 s.ps=some v/\nodup (u.os++v.os)=true/\apart (u.os++v.os) (u.ds++v.ds)=true/\r=((match u.x with|[x]=>x |xs=>.l xs),v.x):=by
  have key:∀{X:M (D×List D)},X=some r->X=((jL E st1 f.results.toList).bind λvs=>(mF st1 s.rs vs).bind λu=>(EE st1 0 s.ps).bind λv=>
    bif nodup (u.os++v.os)&&apart (u.os++v.os) (u.ds++v.ds)then ok ((match u.x with|[x]=>x |xs=>.l xs),v.x)else aF "result: shared")->
    ∃as u v,jL E st1 f.results.toList=some as/\mF st1 s.rs as=some u/\EE st1 0 s.ps=some v/\nodup (u.os++v.os)=true/\apart (u.os++v.os) (u.ds++v.ds)=true/\r=((match u.x with|[x]=>x |xs=>.l xs),v.x):=by
   intro X f0 f4;subst f4;obtain⟨as,a5,g⟩:=bind_some f0;obtain⟨u,a6,a7⟩:=bind_some g;obtain⟨v,a9,T⟩:=bind_some a7;obtain⟨b0,c1⟩:=aV T;simp only[Bool.and_eq_true]at b0;simp only[ok,Option.some.injEq]at c1;exact⟨as,u,v,a5,a6,a9,b0.1,b0.2,c1.symm⟩
  cases ex with
  |norm=>exact⟨.inl rfl,key b1 rfl⟩
  |ret=>exact⟨.inr rfl,key b1 rfl⟩
  |exit id=>simp[aF]at b1
 obtain⟨f6,as,u,v,a5,g,a6,a7,a9,T⟩:=f5;have e9:gO (λ_=>undef) f.ntmps w G tQ {tmps:=(⟨vs⟩:Array Value)++Array.replicate (f.ntmps-vs.length) undef,defers:=[]}:=by
  refine⟨b5.none,λt=>?_,?_,rfl⟩
  ·rw[aBg (by simp;omega)];show dC w G tQ (tQ.sl.get t) (((⟨vs⟩:Array Value)++Array.replicate (f.ntmps-vs.length) undef).getD t undef);rw[Wo (by omega)];cases hv:vs[t]?with
   |some Y=>exact b5.slots t Y hv
   |none=>have:vs.length<=t:=List.getElem?_eq_none_iff.1 hv;rw[e0 t (by omega)];exact trivial
  ·show((⟨vs⟩:Array Value)++Array.replicate (f.ntmps-vs.length) undef).size=f.ntmps;simp;omega
 refine calls_of_wp hf f2 ?_;refine qJ c4 e6 f9 e4 k c 0 g1 e9 e2 _ (λh8 a a' w' y=>?_) (λw' G' c0 c5 J=>?_)
 ·obtain⟨_,Y,Gx,g5,_⟩:=y;simp at g5
 ·
  have main:c0.defers=[]/\∃Y,(results f c0.tmps).run P w'=.ok Y w'/\∃d0 Gx,Ending.returned Y=.returned d0/\Fr w G w' Gx/\aCP w' Gx s vs r d0:=by
   refine⟨J.defers,?_⟩;obtain⟨us,h0,a1⟩:=PX (P:=P) c4 J a5;refine⟨_,h0,_,G',rfl,c5,?_⟩;obtain⟨h2,d2,o1,o2,h3⟩:=LP (ds:=u.ds++v.ds) J.rel 0 a6 g2 g7 (λd hd=>by simp[hd]) (λkk t el a0 c7 hv=>by
    obtain⟨a2,x,e1,a3,a4⟩:=d3 kk t el c7;simp only[Nat.zero_add]at⊢;have:=b5.slots kk a0 hv;rw[e1]at this;have g6:=this.2 x a3 a4;have i0:kk<100:=by have:=(List.getElem?_eq_some_iff.1 c7).1;omega
    rw[c5.B (500+kk) (by omega) (by omega)];exact g6)
   have g0:=LN a7;have f1:=LO a9;have b2:∀(K C:List Nat)(a0:Value),RH w' G' (u.ds++v.ds) s.rs a0 r.1 K (C.map λn=>(G'.B n).1)->u.os.Perm (C.map qV++K)->Wm w' G' st1 C->aCP w' G' s vs r a0:=by
    intro K C a0 U V W;have c9:=Hf V o2;have L:=c9.nodup g0;obtain⟨b7,h1,j0⟩:=List.nodup_append.1 L;rw[<-List.map_append]at b7;have f3:(C++d2).Nodup:=by
     have f7:∀l:List Nat,(l.map qV).Nodup->l.Nodup:=by
      intro l;induction l with
      |nil=>intro _;exact List.nodup_nil
      |cons a l b6=>intro y;simp only[List.map_cons,List.nodup_cons]at y;exact List.nodup_cons.2 ⟨λf8=>y.1 (List.mem_map_of_mem f8),b6 y.2⟩
     exact f7 _ b7
    have c6:=Rg J.rel ⟨λn L=>(List.mem_append.1 L).elim (W.ex n) (h3.ex n)⟩ f3;rw[List.map_append]at c6;refine⟨⟨u.ds++v.ds,K,_,h2,_,U,by rw[T];exact o1,List.perm_append_comm.nodup h1,List.perm_append_comm.nodup c6,λn L d hd=>f1 n ?_ d hd⟩,J.rel.live,J.rel.hdr⟩;refine c9.mem_iff.2 ?_;simp only[List.mem_append]at L⊢;exact .inr L.symm
   cases Q:s.rs with
   |nil=>
    rw[Q]at g;cases as with
    |cons _ _=>simp[mF,aF]at g
    |nil=>simp[mF,ok]at g;have:us=[]:=a1;subst this;refine b2 [] [] _ ?_ (by rw[<-g];simp) ⟨by simp⟩;rw[Q];exact⟨rfl,rfl,rfl⟩
   |cons i8 F=>
    cases F with
    |nil=>
     rw[Q]at g;cases as with
     |nil=>simp[mF,aF]at g
     |cons a as=>
      cases as with
      |cons _ _=>simp only[mF]at g;obtain⟨p,_,H⟩:=bind_some g;simp[aF]at H
      |nil=>
       simp only[mF]at g;obtain⟨p,e3,H⟩:=bind_some g;simp[ok]at H;obtain⟨v0,h5,e1,a3,a4⟩:=a1;have:h5=[]:=a4;subst this;subst e1;obtain⟨K,C,U,V,W⟩:=VF (ds:=u.ds++v.ds) J.rel e3 a3 (λd hd=>by rw[<-H];simp[hd]);refine b2 K C _ ?_ (by rw[<-H];simpa using V) W;have b4:r.1=p.x:=by rw[T,<-H]
       rw[Q,b4];simpa[RH]using U
    |cons b7 F=>
     have c8:us.length=as.length:=(cX.1 a1).1;have b3:=g;rw[Q]at b3;have g8:∀{F:List RM}{l:List A}{r:La (List D)},mF st1 F l=some r->r.x.length=F.length/\l.length=F.length:=by
      intro F;induction F with
      |nil=>intro l r y;cases l with
       |nil=>simp[mF,ok]at y;subst y;exact⟨rfl,rfl⟩
       |cons _ _=>simp[mF,aF]at y
      |cons m F b6=>intro l r y;cases l with
       |nil=>simp[mF,aF]at y
       |cons a l=>simp only[mF]at y;obtain⟨p,_,H⟩:=bind_some y;obtain⟨q,e5,c3⟩:=bind_some H;simp[ok]at c3;subst c3;obtain⟨i1,i2⟩:=b6 e5;exact⟨by simp[i1],by simp[i2]⟩
     obtain⟨d1,h6⟩:=g8 b3;have g3:¬us.length=1:=by rw[c8,h6];simp
     rw[if_neg g3];have b4:r.1=.l u.x:=by
      rw[T];cases g4:u.x with
      |nil=>rfl
      |cons h7 ys=>
       cases ys with
       |nil=>rw[g4]at d1;simp at d1
       |cons _ _=>rfl
     obtain⟨K,C,U,V,W⟩:=VG (ds:=u.ds++v.ds) (X:=.l u.x) J.rel 0 b3 a1 (λd hd=>by simp[hd]) (λj h7 g9=>by simp only[D.fld,D.els,Nat.zero_add,List.getD,g9];rfl);refine b2 K C _ ?_ V W;rw[Q,b4];exact⟨us,rfl,U⟩
  rcases f6 with rfl |rfl
  ·exact main
  ·exact main
theorem F3(K:fV P E)(J:iW P E ctx)(V:P.follows .mixedOrders=true){f:Func}{c:Code}{s:EC}{h:eV}{k m:Nat}{g:rZ}(Q:∀xs,g m xs=Ml E ctx k f c s h xs)(hf:P.funcs[s.fn]?=some f)(L:f.body=some c)
  (W:kG E h f.ntmps c=true)(H:f.ntmps<=500)(U:s.ps.length<=f.ntmps)(C:s.ps.length<=100)(e:gX s.ps=true):LJ P E g m s:=by
 intro xs r l;rw[Q]at l;obtain⟨tQ,d,F⟩:=bind_some l;obtain⟨y,a1⟩:=ID s.ps e d;refine⟨tQ,d,λw G vs a0 Y=>IE (m:=m) K J V hf L W H U C e F (λt ht=>?_) (λkk t el T=>?_) w G vs a0 Y⟩
 ·rw[y t (by omega)];simp only[Tr.get_nil]
 ·obtain⟨u,x,e1,j,v⟩:=Wn s.ps e d kk t el T;simp only[Nat.zero_add]at e1 j;exact⟨u,x,e1,j,v⟩
theorem F4(T:fV P E)(Q:iW P E ctx)(Y:P.follows .mixedOrders=true){f:Func}{c:Code}{s:EC}{h:eV}{k m:Nat}{a3:rZ}(c0:∀xs,a3 m xs=Uo E ctx k f c s h xs)(hf:P.funcs[s.fn]?=some f)(U:f.body=some c)
  (a0:kG E h f.ntmps c=true)(L:f.ntmps<=500)(W:s.ps.length<=f.ntmps)(J:s.ps.length<=100)(C:gX s.ps=true):LJ P E a3 m s:=by
 intro xs r u;rw[c0]at u;unfold Uo at u;split at u;case h_2=>simp[aF]at u
 rename_i t0 a7;obtain⟨tQ,a6,y⟩:=bind_some u;obtain⟨a4,c7⟩:=ID s.ps C a6;have H:∀(st:St)(kk:Nat)(t:TypeId)(el:List LT),s.ps[kk]?=some (t,PM.io el)->∃a2 x,st.sl.get kk=.pb (500+kk) a2 0/\look st.bx (500+kk)=some x/\x.uid=a2:=λst kk t el g=>by
  rw[a7]at g;cases kk with
  |zero=>simp at g
  |succ n=>simp at g
 have V:s.ps.length=1:=by rw[a7];rfl
 refine⟨tQ,a6,λw G vs a1 F=>?_⟩;unfold Px at y;split at y
 ·rename_i e el c2;obtain⟨c5,b3,b4⟩:=bind_some y;obtain⟨d1,K,b5⟩:=bind_some b4;obtain⟨c6,b6,j⟩:=bind_some b5;have c3:c5=(.l [],[]):=by
   unfold P3 at K;split at K
   ·rfl
   ·simp[aF]at K
  have c4:c6=(.l [],[])/\r=(.l [],[]):=by
   unfold P3 at j;split at j
   ·simp[ok]at j;exact⟨rfl,j.symm⟩
   ·simp[aF]at j
  obtain⟨rfl,rfl⟩:=c4;subst c3;obtain⟨v,rfl⟩:∃v,vs=[v]:=by rw[V]at a1;exact List.length_eq_one_iff.1 a1
  ·have hv:=F.slots 0 v rfl;rw[c2]at hv;obtain⟨a,n,b0,a5,b1,c8,c9,b2,d0⟩:=hv.2 rfl;have c1:n=0:=by simpa[D.els]using b1.symm
   subst c1;have a9:xL (λi=>([v]:List Value)[i]?) 0 v=λi=>([v]:List Value)[i]?:=by
    funext i;cases i with
    |zero=>rfl
    |succ i=>rfl
   have g:∀(x:A)t,s.ps.length<=t->(tQ.put 0 x).sl.get t=.undef:=λx t ht=>by show(tQ.sl.set 0 x).get t=_;rw[Tr.get_set,if_neg (by omega),a4 t (by omega)];simp only[Tr.get_nil]
   cases a with
   |none=>have b7:=b2 rfl;subst b7;have l:=F.put (d:=0) (a:=.nils) (v:=v) a5;rw[a9]at l;exact IE (m:=m) T Q Y hf U a0 L W J C b3 (g _) (H _) w G [v] V.symm l
   |some ad=>have l:=F.put (d:=0) (a:=.ez) (v:=v) ⟨ad,b0,a5⟩;rw[a9]at l;exact IE (m:=m) T Q Y hf U a0 L W J C b6 (g _) (H _) w G [v] V.symm l
 ·exact IE (m:=m) T Q Y hf U a0 L W J C y (λt ht=>by rw[a4 t (by omega)];simp only[Tr.get_nil]) (H _) w G vs a1 F
theorem aBh(j:fV P E)(u:∀m s,E.sg.look m=some s->∃f,P.funcs[s.fn]?=some f/\f.name≠ "runtime.NumGoroutine"/\f.body.isNone=false)(hf:∀m s,E.sg.look m=some s->gX s.ps=true->LJ P E ctx m s)
  (F:∀m s e el f,E.sg.look m=some s->lJ s.ps=some (e,el,f)->s.rs=[]/\Hc P ctx m s e el f)(v:∀q g,E.ic ctx q=some g->aAZ P g):iW P E ctx:=
 ⟨u,λt c d hv h=>F1 j (hf _ _ c) (λe el f=>F _ _ e el f c) t d hv h,λc C d hv r l y h=>aBf j (hf _ _ c l) C d hv r l y h,v⟩
def Lj:List A->A
 |[a]=>a
 |l=>.tup l
structure kH where
 fn:FuncId
 f:Func
 c:Code
 h:eV
 np:Nat
def Hg(E:eQ)(ctx:rZ)(k:Nat)(s:kH)(st:St):M (A×St):=
 (JY E s.h ctx k 0 s.c st).bind λr=>match r.1 with
  |.exit _=>aF "exit out of the body"
  |_=>(jL E r.2 s.f.results.toList).bind λvs=>ok (Lj vs,r.2)
def aEn(E:eQ)(k:Nat)(T:BT kH):rZ->Nat->Option Ifn:=λctx q=>(T.look q).map λs=>{fn:=s.fn,np:=s.np,run:=Hg E ctx k s}
def wZ(E:eQ)(k:Nat)(T:BT kH):Nat->eQ
 |0=>{E with ic:=λ_ _=>none}
 |n+1=>{E with ic:=aEn (wZ E k T n) k T}
structure aBi(P:Program)(E:eQ)(s:kH):Prop where
 func:P.funcs[s.fn]?=some s.f
 name:s.f.name≠ "runtime.NumGoroutine"
 body:s.f.body=some s.c
 code:kG E s.h s.f.ntmps s.c=true
 tmps:s.f.ntmps<=500
 np:s.np<=s.f.ntmps
theorem F5{w:World}{G:Gh}{st:St}{as:List A}{us:List Value}(h:eF w G st as us):dC w G st (Lj as) (if us.length=1 then us.getD 0 undef else .tuple ⟨us⟩):=by
 match as,us,h with
 |[],us,h=>have h:us=[]:=h;subst h;exact⟨[],rfl,rfl⟩
 |[a],us,h=>obtain⟨v,vs,rfl,d,c⟩:=h;have c:vs=[]:=c;subst c;simpa[Lj]using d
 |a::a'::as,us,h=>have e:=h;obtain⟨v,vs,rfl,d,c⟩:=h;obtain⟨f,g,rfl,j,l⟩:=c;rw[if_neg (by simp)];exact⟨v::f::g,rfl,e⟩
theorem aEo{E:eQ}{ctx:rZ}(r:fV P E)(C:iW P E ctx)(U:P.follows .mixedOrders=true){k:Nat}{s:kH}(c:aBi P E s):aAZ P {fn:=s.fn,np:=s.np,run:=Hg E ctx k s}:=by
 refine⟨⟨s.f,c.func,c.name,by rw[c.body];rfl⟩,?_⟩;intro w G st st' a vs ext j u W Y T Q;simp only at j u W;unfold Hg at j;obtain⟨a3,y,g⟩:=bind_some j;obtain⟨ex,st1⟩:=a3;have J:(ex=.norm\/ex=.ret)/\∃as,jL E st1 s.f.results.toList=some as/\a=Lj as/\st'=st1:=by
  have key:((jL E st1 s.f.results.toList).bind λvs=>ok (Lj vs,st1))=some (a,st')->∃as,jL E st1 s.f.results.toList=some as/\a=Lj as/\st'=st1:=by intro h;obtain⟨as,e,f⟩:=bind_some h;simp only[ok,Option.some.injEq,Prod.mk.injEq]at f;exact⟨as,e,f.1.symm,f.2.symm⟩
  cases ex with
  |norm=>exact⟨.inl rfl,key g⟩
  |ret=>exact⟨.inr rfl,key g⟩
  |exit id=>simp[aF]at g
 obtain⟨K,as,e,rfl,rfl⟩:=J;have V:vs.length<=s.f.ntmps:=by rw[u];exact c.np
 have H:gO ext s.f.ntmps w G st {tmps:=(⟨vs⟩:Array Value)++Array.replicate (s.f.ntmps-vs.length) undef,defers:=[]}:=by
  refine⟨Y,λt=>?_,by simp;omega,rfl⟩;unfold tv;split
  ·rename_i ht;show dC w G st (st.sl.get t) (((⟨vs⟩:Array Value)++Array.replicate (s.f.ntmps-vs.length) undef).getD t undef);rw[Wo V];exact T t ht
  ·exact Q t (by omega)
 refine calls_of_wp c.func c.body ?_;refine qJ r C U c.tmps k s.c 0 c.code H y _ (λa4 a a' w' L=>?_) (λw' G' m F d=>?_)
 ·obtain⟨_,l,Gx,a0,_⟩:=L;simp at a0
 ·have main:m.defers=[]/\∃l,(results s.f m.tmps).run P w'=.ok l w'/\∃v Gx,Ending.returned l=.returned v/\Fr w G w' Gx/\cZ w' Gx st' (λ_=>none)/\dC w' Gx st' (Lj as) v/\∀t,1000<=t->dC w' Gx st' (st'.sl.get t) (ext t):=by
   refine⟨d.defers,?_⟩;obtain⟨us,a1,a2⟩:=PX (P:=P) r d e;exact⟨_,a1,_,G',rfl,F,d.rel,F5 a2,λt ht=>by have:=d.slots t;unfold tv at this;rwa [if_neg (by omega)]at this⟩
  rcases K with rfl |rfl
  ·exact main
  ·exact main
theorem aBj(E:eQ)(k:Nat)(T:BT kH):∀n,PG (wZ E k T n)=PG E
 |0=>by kernel_rfl
 |n+1=>by kernel_rfl
theorem aBk(E:eQ)(k:Nat)(T:BT kH):∀n,rD (wZ E k T n)=rD E
 |0=>by kernel_rfl
 |n+1=>by kernel_rfl
theorem EM(E:eQ)(k:Nat)(T:BT kH):∀n,(wZ E k T n).sg=E.sg
 |0=>rfl
 |n+1=>rfl
theorem Hh(E:eQ)(k:Nat)(T:BT kH):∀n,eI (wZ E k T n)=eI E
 |0=>by kernel_rfl
 |n+1=>by kernel_rfl
theorem aDS{E:eQ}{ctx:rZ}{k:Nat}{T:BT kH}(r:P.follows .mixedOrders=true)(j:∀n,fV P (wZ E k T n))(d:iW P (wZ E k T 0) ctx)(l:∀n q s,T.look q=some s->aBi P (wZ E k T n) s):∀n,iW P (wZ E k T n) ctx
 |0=>d
 |n+1=>by
  have C:=aDS r j d l n;refine⟨λm s c=>d.fn m s (by rw[EM]at c⊢;exact c),λhd c f hv h=>?_,λc y f hv e v u h=>?_,λq g t=>?_⟩
  ·have:=d.call hd (by rw[EM]at c⊢;exact c) f hv (by rw[aBj]at h⊢;exact h);exact this
  ·exact d.gd (by rw[EM]at c⊢;exact c) y f hv (by rw[aBk]at e⊢;exact e) v u h
  simp only[wZ,aEn,Option.map_eq_some_iff]at t;obtain⟨s,e,rfl⟩:=t;exact aEo (j n) C r (l n q s e)
end
end Go.Eng

namespace Go.Eng
def R7:LT->Value->Bool
 |.int k,.int c n=>mE k c&&aD n 0
 |.bool,.bool b=>!b
 |.str,.string s=>Nat.beq s.data.size 0
 |.sl ..,.slice none 0 0=>true
 |_,_=>false
def YF:List LT->List Value->Bool
 |[],[]=>true
 |t::ts,v::vs=>R7 t v&&YF ts vs
 |_,_=>false
theorem Bs{t:LT}{v:Value}(h:R7 t v=true):v=fE t:=by
 unfold R7 at h;split at h
 ·simp only[Bool.and_eq_true,bT]at h;rw[(eJ _ _).1 h.1,h.2];rfl
 ·simp only[Bool.not_eq_true']at h;rw[h];rfl
 ·rename_i s;have:=Nat.eq_of_beq_eq_true h;cases s with
  |mk d=>simp only at this;rw[Array.eq_empty_of_size_eq_zero this];rfl
 ·rfl
 ·simp at h
theorem VH:∀{ts:List LT}{vs:List Value},YF ts vs=true->vs=ts.map fE
 |[],[],_=>rfl
 |t::ts,v::vs,h=>by simp only[YF,Bool.and_eq_true]at h;rw[Bs h.1,VH h.2];rfl
 |[],_::_,h=>by simp[YF]at h
 |_::_,[],h=>by simp[YF]at h
def VI(P:Program):List (Nat×TypeId)->List Field->Bool
 |[],_=>true
 |(off,c)::l,fd::m=>Nat.beq fd.offset off&&(Nat.beq fd.type c&&((match P.info? c with|some j=>!Nat.beq j.size 0 |none=>false)&&VI P l m))
 |_::_,[]=>false
def Rh(P:Program):List Field->Bool
 |[]=>true
 |fd::m=>(match P.info? fd.type with|some _=>true |none=>false)&&Rh P m
def R8:List (Nat×TypeId)->TypeId->Bool
 |[],_=>true
 |(_,c)::l,e=>Nat.beq c e&&R8 l e
def aBl(P:Program)(ti:TI):TypeDesc->Bool
 |.struct fs=>VI P ti.fs fs.toList
 |.array n e=>Nat.beq ti.fs.length n&&R8 ti.fs e
 |.slice e=>Nat.beq ti.e e&&Nat.beq ti.lv.length 1
 |.int k=>match ti.lv with|[.int k']=>mE k k' |_=>false
 |.bool=>match ti.lv with|[.bool]=>true |_=>false
 |.string=>match ti.lv with|[.str]=>true |_=>false
 |_=>true
theorem PY{P:Program}:∀{l:List (Nat×TypeId)}{m:List Field},VI P l m=true->∀(f off:Nat)(c:TypeId),l[f]?=some (off,c)->∃fd:Field,m[f]?=some fd/\fd.offset=off/\fd.type=c/\∃j,P.info? c=some j/\j.size≠0
 |[],_,_,f,off,c,h=>by simp at h
 |(o,t)::l,fd::m,h,f,off,c,hf=>by
  simp only[VI,Bool.and_eq_true]at h;cases f with
  |zero=>
   simp at hf;obtain⟨rfl,rfl⟩:=hf;refine⟨fd,rfl,Nat.eq_of_beq_eq_true h.1,Nat.eq_of_beq_eq_true h.2.1,?_⟩;have d:=h.2.2.1;split at d
   ·rename_i j g;refine⟨j,g,λe=>?_⟩;rw[e]at d;simp at d
   ·simp at d
  |succ f=>exact PY h.2.2.2 f off c (by simpa using hf)
 |_::_,[],h,_,_,_,_=>by simp[VI]at h
theorem VJ{P:Program}:∀{m:List Field},Rh P m=true->∀(j:Nat)(fd:Field),m[j]?=some fd->∃i,P.info? fd.type=some i
 |[],_,j,fd,h=>by simp at h
 |fd'::m,h,j,fd,c=>by
  simp only[Rh,Bool.and_eq_true]at h;cases j with
  |zero=>
   simp at c;subst c;have d:=h.1;split at d
   ·rename_i i e;exact⟨i,e⟩
   ·simp at d
  |succ j=>exact VJ h.2 j fd (by simpa using c)
theorem Bt:∀{l:List (Nat×TypeId)}{e:TypeId},R8 l e=true->∀(i off:Nat)(c:TypeId),l[i]?=some (off,c)->c=e
 |[],_,_,i,off,c,h=>by simp at h
 |(o,t)::l,e,h,i,off,c,d=>by
  simp only[R8,Bool.and_eq_true]at h;cases i with
  |zero=>simp at d;rw[<-d.2];exact Nat.eq_of_beq_eq_true h.1
  |succ i=>exact Bt h.2 i off c (by simpa using d)
theorem Wp{P:Program}{ti:TI}{d:TypeDesc}(h:aBl P ti d=true):A7 P ti d:=by
 unfold aBl at h;split at h
 ·rename_i fs;intro f off j hf;obtain⟨fd,c,g⟩:=PY h f off j hf;exact⟨fd,by simpa using c,g⟩
 ·simp only[Bool.and_eq_true]at h;exact⟨Nat.eq_of_beq_eq_true h.1,Bt h.2⟩
 ·simp only[Bool.and_eq_true]at h;exact⟨Nat.eq_of_beq_eq_true h.1,Nat.eq_of_beq_eq_true h.2⟩
 ·rename_i k;split at h
  ·rename_i t e;have:=(eJ _ _).1 h;subst this;exact e
  ·simp at h
 ·split at h
  ·rename_i e;exact e
  ·simp at h
 ·split at h
  ·rename_i e;exact e
  ·simp at h
 ·rename_i c g l m r s;unfold A7;split
  ·exact(c _ rfl).elim
  ·exact(g _ _ rfl).elim
  ·exact(l _ rfl).elim
  ·exact(m _ rfl).elim
  ·exact(r rfl).elim
  ·exact(s rfl).elim
  ·trivial
def R9(ti:TI)(d:TypeDesc):Bool:=
 match ti.agg,ti.lv with
 |false,[.int k]=>match d with|.int k'=>mE k k' |_=>false
 |false,[.bool]=>match d with|.bool=>true |_=>false
 |false,[.str]=>match d with|.string=>true |_=>false
 |_,_=>true
def slB(P:Program)(ti:TI):TypeDesc->Bool
 |.slice e=>Nat.beq e ti.e&&(match P.info? e with|some j=>Nat.beq j.size ti.ek |none=>false)
 |_=>false
def aEp(P:Program):TypeDesc->Bool
 |.struct fs=>Rh P fs.toList
 |_=>true
def aFr:TypeDesc->Bool
 |.array _ _=>true
 |_=>false
def S0:TypeDesc->Bool
 |.struct _=>true
 |_=>false
def aBm(ti:TI)(z:Option Value):Bool:=
 match z with
 |some z=>YF ti.lv z.cells.toList
 |none=>false
def tiB(P:Program)(t:TypeId)(ti:TI):Bool:=
 match P.underlying t,P.info? t with
 |some d,some i=>aBm ti i.zero&&(Nat.beq i.size ti.lv.length&&(Nat.beq i.bytes ti.bytes&&(DU (aCA d) ti.agg&&(aBl P ti d&&(R9 ti d&&(tO (eH false ti.lv) ti.lv&&
   (aEp P d&&((!ti.arr||aFr d)&&((!(ti.agg&&!ti.arr)||S0 d)&&(!ti.sl||slB P ti d))))))))))
 |_,_=>false
theorem d5{P:Program}{t:TypeId}{ti:TI}(h:tiB P t ti=true):kR P t ti:=by
 unfold tiB at h;split at h
 ·rename_i d i hd U;simp only[Bool.and_eq_true]at h;obtain⟨m,G,H,Y,J,c,K,L,C,y,g⟩:=h;have v:∃z,i.zero=some z/\z.cells.toList=ti.lv.map fE:=by
   unfold aBm at m;split at m
   ·rename_i z v;exact⟨z,v,VH m⟩
   ·simp at m
  obtain⟨z,W,z2⟩:=v;have Q:aCA d=ti.agg:=by cases f:aCA d<;>cases F:ti.agg<;>simp_all[DU]
  refine⟨⟨d,i,z,hd,U,Nat.eq_of_beq_eq_true G,Nat.eq_of_beq_eq_true H,W,z2,Q,Wp J⟩,λf k l=>?_,λf l=>?_,gF _ _ K,λfs r j fd u=>?_,λf l=>?_,λf=>?_,λf F=>?_,λV=>?_⟩
  ·simp only[R9,f,l]at c;split at c
   ·rename_i a0;have:=(eJ _ _).1 c;subst this;exact hd
   ·simp at c
  ·simp only[R9,f,l]at c;split at c
   ·exact hd
   ·simp at c
  ·rw[hd]at r;injection r with r;subst r;exact VJ L j fd (by simpa using u)
  ·simp only[R9,f,l]at c;split at c
   ·exact hd
   ·simp at c
  ·simp only[f,Bool.not_true,Bool.false_or]at C;cases d<;>simp[aFr]at C;exact⟨_,_,hd⟩
  ·simp only[f,F,Bool.not_false,Bool.and_self,Bool.not_true,Bool.false_or]at y;cases d<;>simp[S0]at y;exact⟨_,hd⟩
  ·simp only[V,Bool.not_true,Bool.false_or]at g;unfold slB at g;split at g
   ·rename_i e;simp only[Bool.and_eq_true]at g;have T:=Nat.eq_of_beq_eq_true g.1;subst T;have s:=g.2;split at s
    ·rename_i j u;exact⟨j,hd,u,Nat.eq_of_beq_eq_true s⟩
    ·simp at s
   ·simp at g
 ·simp at h
def BT.allB{α:Type}(f:Nat->α->Bool):BT α->Bool
 |.nil=>true
 |.node k v l r=>f k v&&(l.allB f&&r.allB f)
theorem BT.look_all{α:Type}{f:Nat->α->Bool}:∀{t:BT α}{n:Nat}{v:α},t.allB f=true->t.look n=some v->f n v=true
 |.nil,n,v,_,h=>by simp[BT.look]at h
 |.node k x l r,n,v,h,c=>by
  simp only[BT.allB,Bool.and_eq_true]at h;simp only[BT.look]at c;cases d:Nat.beq n k with
  |true=>rw[d]at c;simp at c;subst c;rw[Nat.eq_of_beq_eq_true d];exact h.1
  |false=>
   rw[d]at c;simp only[cond_false]at c;cases e:Nat.ble n k with
   |true=>rw[e]at c;exact BT.look_all h.2.1 c
   |false=>rw[e]at c;exact BT.look_all h.2.2 c
def ptB(P:Program)(t e:TypeId):Bool:=
 (match P.underlying t with|some (.pointer e')=>Nat.beq e' e |_=>false)&&(match P.info? t with|some i=>Nat.beq i.size 1&&(match i.zero with|some (.pointer none)=>true |_=>false) |none=>false)
def aCR(P:Program):Nat->List Field->Bool
 |_,[]=>true
 |j,fd::l=>(!(fd.name== "_"))&&(Nat.beq fd.offset j&&((match P.underlying fd.type with|some (.int _)=>true |_=>false)&&aCR P (j+1) l))
def eqB(P:Program)(t:TypeId):Bool:=
 match P.underlying t,P.info? t with
 |some (.struct fs),some i=>Nat.beq i.size fs.size&&(!P.stoodInHeld t&&(!P.eqGuardType P.depth t&&aCR P 0 fs.toList))
 |_,_=>false
theorem Hi{P:Program}:∀{l:List Field}{n:Nat},aCR P n l=true->∀(j:Nat)(fd:Field),l[j]?=some fd->fd.name≠ "_"/\fd.offset=n+j/\∃k,P.underlying fd.type=some (.int k)
 |[],_,_,j,fd,h=>by simp at h
 |f::l,n,h,j,fd,c=>by
  simp only[aCR,Bool.and_eq_true,Bool.not_eq_true']at h;cases j with
  |zero=>
   simp at c;subst c;refine⟨λe=>?_,Nat.eq_of_beq_eq_true h.2.1,?_⟩
   ·have:=h.1;rw[e]at this;simp at this
   ·have d:=h.2.2.1;split at d
    ·rename_i k r;exact⟨k,r⟩
    ·simp at d
  |succ j=>obtain⟨g,s,m⟩:=Hi h.2.2.2 j fd (by simpa using c);exact⟨g,by omega,m⟩
theorem d6{P:Program}{t:TypeId}(h:eqB P t=true):aFi P t:=by
 unfold eqB at h;split at h
 ·rename_i fs i g l;simp only[Bool.and_eq_true,Bool.not_eq_true']at h;obtain⟨c,d,e,f⟩:=h;refine⟨fs,i,g,l,Nat.eq_of_beq_eq_true c,d,e,λj fd m=>?_⟩;obtain⟨r,u,s⟩:=Hi f j fd (by simpa using m);exact⟨r,by omega,s⟩
 ·simp at h
def aFs:LT->TypeDesc->Bool
 |.str,.string=>true
 |.int k,.int c=>mE k c
 |_,_=>false
def aEq(P:Program)(t:TypeId)(c:MI):Bool:=
 (match P.underlying t with|some (.map k e)=>Nat.beq k c.key&&Nat.beq e c.el |_=>false)&&((match P.underlying c.key with|some d=>aFs c.kk d |_=>false)&&
  (match P.info? c.el with|some i=>(match i.zero with|some z=>R7 c.ek z |none=>false) |none=>false))
theorem F6{P:Program}{t:TypeId}{c:MI}(h:aEq P t c=true):∃d,P.underlying t=some (.map c.key c.el)/\EF c.kk=some d/\P.underlying c.key=some d/\∃i,P.info? c.el=some i/\i.zero=some (fE c.ek):=by
 simp only[aEq,Bool.and_eq_true]at h;obtain⟨f,g,j⟩:=h;have e1:P.underlying t=some (.map c.key c.el):=by
  split at f
  ·rename_i k e m;simp only[Bool.and_eq_true]at f;rw[m,Nat.eq_of_beq_eq_true f.1,Nat.eq_of_beq_eq_true f.2]
  ·simp at f
 have l:∃i,P.info? c.el=some i/\i.zero=some (fE c.ek):=by
  split at j
  ·rename_i i r;split at j
   ·rename_i z u;exact⟨i,r,by rw[u,Bs j]⟩
   ·simp at j
  ·simp at j
 split at g
 ·rename_i d hd;refine⟨d,e1,?_,hd,l⟩;cases s:c.kk<;>rw[s]at g<;>cases d<;>simp[aFs]at g<;>simp[EF];exact(eJ _ _).1 g
 ·simp at g
def aEr(P:Program)(E:eQ):Bool:=E.mt.allB (aEq P)&&(E.tt.allB (tiB P)&&(E.pt.allB (ptB P)&&allB (eqB P) E.eqt))
theorem F7{P:Program}{E:eQ}(h:aEr P E=true):fV P E:=by
 simp only[aEr,Bool.and_eq_true]at h;obtain⟨g,j,l,m⟩:=h;refine⟨λt v ht=>F6 (BT.look_all g ht),λt ti ht=>d5 (BT.look_all j ht),λt e ht=>?_,λt ht=>d6 (hZ m t (HZ.1 ht))⟩;have:=BT.look_all l ht;simp only[ptB,Bool.and_eq_true]at this;obtain⟨d,c⟩:=this;constructor
 ·split at d
  ·rename_i u r;rw[r,Nat.eq_of_beq_eq_true d]
  ·simp at d
 ·split at c
  ·rename_i i s;simp only[Bool.and_eq_true]at c;refine⟨i,s,Nat.eq_of_beq_eq_true c.1,?_⟩;have f:=c.2;split at f
   ·assumption
   ·simp at f
  ·simp at c
abbrev kV:=BT (Func×eV)
abbrev aCS:=Nat->Option (List D->Option (D×List D))
def Eb(E:eQ):aCS:=λm=>bif Nat.beq m E.srt then some As else none
def qK(E:eQ)(B:kV)(X:aCS)(k:Nat):Nat->rZ
 |0=>λm xs=>match X m with
  |some f=>f xs
  |none=>none
 |n+1=>λm xs=>match X m with
  |some f=>f xs
  |none=>match B.look m,E.sg.look m with
   |some b,some s=>match b.1.body with
    |some c=>bif b.2.fork then Uo E (qK E B X k n) k b.1 c s b.2 xs else Ml E (qK E B X k n) k b.1 c s b.2 xs
    |none=>none
   |_,_=>none
def fnB(E:eQ)(m:Nat)(b:Func×eV):Bool:=
 match b.1.body,E.sg.look m with
 |some c,some s=>kG E b.2 b.1.ntmps c&&(Nat.ble b.1.ntmps 500&&(Nat.ble s.ps.length b.1.ntmps&&Nat.ble s.ps.length 100))
 |_,_=>true
def aFt(P:Program)(E:eQ)(B:kV)(X:aCS):Prop:=
 (∀m s,E.sg.look m=some s->∃f,P.funcs[s.fn]?=some f/\f.name≠ "runtime.NumGoroutine"/\f.body.isNone=false)/\
 ∀m s b,X m=none->E.sg.look m=some s->B.look m=some b->P.funcs[s.fn]?=some b.1
theorem aEs{P:Program}{E:eQ}{B:kV}{X:aCS}{k:Nat}(H:fV P E)(Q:P.follows .mixedOrders=true)(J:aFt P E B X)(U:B.allB (fnB E)=true)
  (W:∀ctx:rZ,(∀m s,E.sg.look m=some s->gX s.ps=true->LJ P E ctx m s)->(∀m s e el f,E.sg.look m=some s->lJ s.ps=some (e,el,f)->s.rs=[]/\Hc P ctx m s e el f)->iW P E ctx)
  (K:∀m s f,X m=some f->E.sg.look m=some s->gX s.ps=true->∀ctx:rZ,(∀xs,ctx m xs=f xs)->LJ P E ctx m s)
  (V:∀m s e el f,E.sg.look m=some s->lJ s.ps=some (e,el,f)->s.rs=[]/\∃F,X m=some F/\∀ctx:rZ,(∀xs,ctx m xs=F xs)->Hc P ctx m s e el f):∀n m s,E.sg.look m=some s->gX s.ps=true->LJ P E (qK E B X k n) m s:=by
 intro n;induction n with
 |zero=>
  intro m s d l;cases hx:X m with
  |some f=>exact K m s f hx d l _ (λxs=>by simp only[qK,hx])
  |none=>intro xs r t;simp[qK,hx]at t
 |succ n a1=>
  intro m s d l;cases hx:X m with
  |some f=>exact K m s f hx d l _ (λxs=>by simp only[qK,hx])
  |none=>
   cases g:B.look m with
   |none=>intro xs r t;simp[qK,hx,g]at t
   |some b=>
    cases j:b.1.body with
    |none=>intro xs r t;simp[qK,hx,g,d,j]at t
    |some c=>
     have T:=BT.look_all U g;simp only[fnB,j,d,Bool.and_eq_true]at T;obtain⟨u,v,y,C⟩:=T;have G:iW P E (qK E B X k n):=W _ a1 λm' a2 e el f Y a0=>by obtain⟨u,F,v,y⟩:=V m' a2 e el f Y a0;exact⟨u,y _ λxs=>by cases n<;>simp only[qK,v]⟩
     cases L:b.2.fork with
     |true=>refine F4 (k:=k) (h:=b.2) H G Q (λxs=>?_) (J.2 m s b hx d g) j u (Nat.le_of_ble_eq_true v) (Nat.le_of_ble_eq_true y) (Nat.le_of_ble_eq_true C) l;simp only[qK,hx,g,d,j,L,cond_true]
     |false=>refine F3 (k:=k) (h:=b.2) H G Q (λxs=>?_) (J.2 m s b hx d g) j u (Nat.le_of_ble_eq_true v) (Nat.le_of_ble_eq_true y) (Nat.le_of_ble_eq_true C) l;simp only[qK,hx,g,d,j,L,cond_false]
end Go.Eng

namespace Go.Eng
noncomputable def Gh.top(w:World):Gh:={own:=λb=>if b<w.heap.size then .fz else .out,H:=λ_ _=>.slice none 0 0,B:=λ_=>(0,0)}
theorem cZ.top{w:World}{st:St}{sl:Nat->Option Value}(c:st.bx=[])(d:st.ar=[])(e:∀t v,sl t=some v->dC w (Gh.top w) st (st.sl.get t) v):cZ w (Gh.top w) st sl:=
 ⟨e,λb x h=>by rw[c]at h;simp[look]at h,λb b' x f h=>by rw[c]at h;simp[look]at h,λr a h=>by rw[d]at h;simp[look]at h,λb c=>by
  simp only[Gh.top]at c;split at c
  ·assumption
  ·exact absurd rfl c,λ_ _=>⟨Option.none,0,0,rfl⟩⟩
theorem Fr.below{w w':World}{G':Gh}(h:Fr w (Gh.top w) w' G'):Go.RowKit.Below w.heap.size w w':=
 ⟨h.os,h.tape,h.output,h.size,λk c=>(h.block k c (.inr (by simp[Gh.top,c]))).1⟩
def DY{α:Type}(Q:Nat->α->Prop):BT α->Prop
 |.nil=>True
 |.node k v l r=>Q k v/\DY Q l/\DY Q r
theorem DY.look{α:Type}{Q:Nat->α->Prop}:∀{t:BT α}{n:Nat}{v:α},DY Q t->t.look n=some v->Q n v
 |.nil,n,v,_,h=>by simp[BT.look]at h
 |.node k x l r,n,v,⟨e,f,g⟩,h=>by
  simp only[BT.look]at h;cases c:Nat.beq n k with
  |true=>rw[c]at h;simp at h;subst h;rw[Nat.eq_of_beq_eq_true c];exact e
  |false=>
   rw[c]at h;simp only[cond_false]at h;cases d:Nat.ble n k with
   |true=>rw[d]at h;exact DY.look f h
   |false=>rw[d]at h;exact DY.look g h
def sgB(E:eQ)(m:Nat)(s:EC):Bool:=Nat.beq s.fn m&&(match lJ s.ps with
 |none=>!(Nat.beq m E.srt)
 |some _=>Nat.beq m E.srt&&s.rs.isEmpty)
def RK(P:Program)(E:eQ):Prop:=∀s e el f,E.sg.look E.srt=some s->lJ s.ps=some (e,el,f)->∀ctx:rZ,(∀xs,ctx E.srt xs=As xs)->Hc P ctx E.srt s e el f
def aFu(P:Program)(m:Nat)(_:EC):Prop:=∃f,P.funcs[m]?=some f/\f.name≠ "runtime.NumGoroutine"/\f.body.isNone=false
def aFv(P:Program)(m:Nat)(b:Func×eV):Prop:=P.funcs[m]?=some b.1
theorem d7(E:eQ)(k:Nat)(T:BT kH):∀n,kG (wZ E k T n)=kG E
 |0=>by kernel_rfl
 |n+1=>by kernel_rfl
theorem aEt(E:eQ)(k:Nat)(T:BT kH):∀n,fnB (wZ E k T n)=fnB E
 |0=>by kernel_rfl
 |n+1=>by kernel_rfl
theorem F8{P:Program}{E:eQ}(k:Nat)(T:BT kH)(c:fV P E):∀n,fV P (wZ E k T n)
 |0=>⟨c.maps,c.types,c.ptrs,c.eqs⟩
 |n+1=>⟨c.maps,c.types,c.ptrs,c.eqs⟩
theorem S2{P:Program}{E:eQ}{k:Nat}{T:BT kH}{ctx:rZ}{m:Nat}{s:EC}(n:Nat):LJ P (wZ E k T n) ctx m s<->LJ P E ctx m s:=by unfold LJ;rw[Hh]
def F9(P:Program)(_:Nat)(s:kH):Prop:=P.funcs[s.fn]?=some s.f/\s.f.name≠ "runtime.NumGoroutine"/\s.f.body=some s.c
def aBn(E:eQ)(_:Nat)(s:kH):Bool:=kG E s.h s.f.ntmps s.c&&(Nat.ble s.f.ntmps 500&&Nat.ble s.np s.f.ntmps)
theorem aBo{P:Program}{E:eQ}{B:kV}{T:BT kH}{k:Nat}(C:fV P E)(G:P.follows .mixedOrders=true)(Q:B.allB (fnB E)=true)(a0:E.sg.allB (sgB E)=true)(a1:RK P E)(L:DY (aFu P) E.sg)(l:DY (aFv P) B)(U:T.allB (aBn E)=true)(V:DY (F9 P) T)(N:Nat):
  ∀n m s,E.sg.look m=some s->gX s.ps=true->LJ P (wZ E k T N) (qK (wZ E k T N) B (Eb E) k n) m s:=by
 have r:∀m s,E.sg.look m=some s->s.fn=m/\((lJ s.ps=none/\Nat.beq m E.srt=false)\/(∃q,lJ s.ps=some q)/\m=E.srt/\s.rs=[]):=λm s h=>by
  have:=BT.look_all a0 h;simp only[sgB,Bool.and_eq_true]at this;refine⟨Nat.eq_of_beq_eq_true this.1,?_⟩;cases d:lJ s.ps with
  |none=>rw[d]at this;left;exact⟨rfl,by simpa using this.2⟩
  |some q=>rw[d]at this;simp only[Bool.and_eq_true]at this;right;exact⟨⟨q,rfl⟩,Nat.eq_of_beq_eq_true this.2.1,by simpa using this.2.2⟩
 have F:∀m s,E.sg.look m=some s->∃f,P.funcs[s.fn]?=some f/\f.name≠ "runtime.NumGoroutine"/\f.body.isNone=false:=λm s h=>by rw[(r m s h).1];exact DY.look L h
 have Y:∀ctx:rZ,(∀m s,(wZ E k T N).sg.look m=some s->gX s.ps=true->LJ P (wZ E k T N) ctx m s)->(∀m s e el f,(wZ E k T N).sg.look m=some s->lJ s.ps=some (e,el,f)->s.rs=[]/\Hc P ctx m s e el f)->iW P (wZ E k T N) ctx:=by
  intro ctx hf H;rw[EM]at hf H;have K:iW P (wZ E k T 0) ctx:=by refine aBh (F8 k T C 0) (by rw[EM];exact F) (λm s t j=>?_) (by rw[EM];exact H) (λq g u=>by simp[wZ]at u);rw[EM]at t;exact(S2 0).2 ((S2 N).1 (hf m s t j))
  refine aDS G (F8 k T C) K (λn q s u=>?_) N;have c:=BT.look_all U u;obtain⟨v,y,J⟩:=DY.look V u;simp only[aBn,Bool.and_eq_true]at c;exact⟨v,y,J,by rw[d7];exact c.1,Nat.le_of_ble_eq_true c.2.1,Nat.le_of_ble_eq_true c.2.2⟩
 intro n m s t j;refine aEs (F8 k T C N) G ⟨?_,λm s b _ h c=>?_⟩ (by rw[aEt];exact Q) Y (λm s f h l j=>?_) (λm s e el f h d=>?_) n m s (by rw[EM];exact t) j
 ·rw[EM];exact F
 ·rw[EM]at h;rw[(r m s h).1];exact DY.look l c
 ·rw[EM]at l;rcases(r m s l).2 with⟨_,g⟩ |⟨⟨q,g⟩,_,_⟩
  ·simp[Eb,g]at h
  ·have:gX s.ps=false:=by
    unfold lJ at g;split at g
    ·rename_i e;rw[e];rfl
    ·cases g
   rw[this]at j;cases j
 ·rw[EM]at h;rcases(r m s h).2 with⟨g,_⟩ |⟨_,v,y⟩
  ·rw[g]at d;cases d
  ·subst v;refine⟨y,As,by simp[Eb],λctx W=>?_⟩;exact a1 s e el f h d ctx W
theorem d8{P:Program}{E:eQ}{ctx:rZ}{m:Nat}{s:EC}(r:LJ P E ctx m s)(G:s.rs=[.val false [.bool]]){xs:List D}{q:Bool}(F:ctx m xs=some (.b q,[])){w:World}{vs:List Value}(y:vs.length=s.ps.length)
  (H:∀tQ,eI E 0 s.ps xs Gv=some tQ->tQ.bx=[]/\tQ.ar=[]/\∀t v,vs[t]?=some v->dC w (Gh.top w) tQ (tQ.sl.get t) v):
  Calls P s.fn ⟨vs⟩ w (λe w'=>e=.returned (.bool q)/\Go.RowKit.Below w.heap.size w w'):=by
 obtain⟨tQ,j,l⟩:=r xs _ F;obtain⟨f,g,h⟩:=H tQ j;refine(l w (Gh.top w) vs y (cZ.top f g h)).mono λe w' u=>?_;obtain⟨v,G',rfl,hf,C⟩:=u;refine⟨?_,hf.below⟩;obtain⟨ds,T,b1,U,b2,o1,_⟩:=C.ex;rw[G]at o1;obtain⟨_,us,os,c,J,_⟩:=o1;simp only[Bool.false_eq_true,if_false]at c;subst c;obtain⟨v0,W,n,V,e1,K,d,L⟩:=J;injection e1 with e1 Q;subst e1;have:v=.bool q:=d.2;rw[this]
end Go.Eng

namespace Go.Eng
mutual
inductive IX(σ τ:Type) where
 |ret (x:D) (bs:List D)
 |again (s:σ)
 |out (t:τ)
 |bad
 |ask (b:Bool) (t f:IX σ τ)
 |call (m:Nat) (xs:List D) (nb:Nat) (k:D->List D->IX σ τ)
 |loop (b:Nat) (s:σ) (ks:Ri σ τ)
inductive Ri(σ τ:Type) where
 |nil
 |cons (k:List D->IX σ τ) (ks:Ri σ τ)
end
abbrev X:=IX St (Ex×St)
abbrev Sh:=IX (List D) (Nat×List D)
def sJ{α:Type}(x:M α)(k:α->X):X:=
 match x with
 |some a=>k a
 |none=>.bad
def YG:List D->D
 |[]=>.i 0
 |x::_=>x
def Hj:List D->Bool
 |[]=>true
 |_::_=>false
def gD(l:List D)(i:Nat):D:=l.getD i (.i 0)
def Hk(l:List D):Nat->Nat->List D
 |_,0=>[]
 |i,n+1=>gD l i::Hk l (i+1) n
def Ni:List (TypeId×PM)->Nat
 |[]=>0
 |(_,.io _)::l=>Ni l+1
 |(_,.sio _)::l=>Ni l+1
 |(_,.clo _ _)::l=>Ni l+1
 |_::l=>Ni l
def LQ(rs:List RM)(dep:List (Nat×Nat))(d:Nat)(x:D)(st:St):M St:=
 match rs with
 |[]=>ok (st.put d (.tup []))
 |[m]=>(BP dep d 0 x m st).bind λq=>ok (q.1.put d q.2)
 |ms=>(HH dep d x 0 ms st).bind λq=>ok (q.1.put d (.tup q.2))
def aBp(s:EC)(st:St)(d:Nat)(as:List A)(u:List Nat×List Nat×List (Nat×Nat)×List D)(r:D×List D):M St:=
 (jZ s.ps as r.2 (jB s.ps as (kD u.2.1 st))).bind λst=>LQ s.rs u.2.2.1 d r.1 st
section
variable(E:eQ)(h:eV)
def aCT(nn:Bool)(x:D)(k:D->X):X:=.ask (Hj x.els) (bif nn then .bad else k (.l [])) (k (.l [YG x.els]))
def G4(nn:Bool)(x:D):Nat->List RM->(List D->X)->X
 |_,[],k=>k []
 |c,.ptr _::d,k=>aCT nn (x.fld c) λe=>G4 nn x (c+1) d λl=>k (e::l)
 |c,.val _ _::d,k=>G4 nn x (c+1) d λl=>k (x.fld c::l)
def aFw(nn:Bool)(rs:List RM)(x:D)(k:D->X):X:=
 match rs with
 |[]=>k x
 |[.ptr _]=>aCT nn x k
 |[.val _ _]=>k x
 |ms=>G4 nn x 0 ms λl=>k (.l l)
def S3(st:St)(d n:Nat)(s:EC)(as:List A)(k:St->X):X:=
 match lJ s.ps with
 |some (e,el,f)=>sJ (Du st e el f as) λq=>.call n [.l q.2.data,.l []] 1 λx bs=>sJ (Dt st d q.1 q.2 (x,Hk bs 0 1)) k
 |none=>sJ (rD E st as s.ps as) λu=>
  bif gX s.ps&&(nodup u.1&&(apart u.1 u.2.2.1&&NL s u.2.2.1))then
   .call n u.2.2.2 (Ni s.ps) λx bs=>aFw (has h.nn d) s.rs x λc=>sJ (aBp s st d as u (c,Hk bs 0 (Ni s.ps))) k
  else .bad
def Rl(agg:Bool)(lv:List LT)(ds:List (Nat×Nat))(r:D×List D):M tE:=
 match r.2 with
 |[]=>rv (EB agg lv.length (HB ds lv.length r.1 0 lv))
 |_::_=>aF "guarded call: gives back"
def Rm(R:Bool)(m:Nat)(agg:Bool)(lv:List LT)(ds:List (Nat×Nat))(xs:List D)(k:tE->X):X:=
 .ask R (.call m xs 0 λx _=>sJ (Rl agg lv ds (x,[])) k) (sJ (Rl agg lv ds (.i 0,[])) k)
def Rn(st:St)(R:Bool)(d m:Nat)(s:EC)(as:List A)(agg:Bool)(k:tE->X):List LT->X
 |[.bool]=>bif agg then .bad else .ask R (S3 E h st d m s as λs=>k (.st s)) (k (.val (.bool false)))
 |_=>.bad
def YH(st:St)(R:Bool)(d m:Nat)(as:List A)(s:EC)(k:tE->X):X:=
 match s.rs with
 |[.val agg lv]=>sJ (rD E st as s.ps as) λu=>
  match u.1 with
  |[]=>bif gX s.ps&&(!qH u.2.2.1||qX lv)then Rm R m agg lv u.2.2.1 u.2.2.2 k else .bad
  |_::_=>Rn E h st R d m s as agg k lv
 |_=>.bad
def Ro(R gd:Bool)(st:St)(d:Nat)(c:Array Operand)(k:tE->X):A->X
 |.fn n caps=>sJ (E.sg.look (KG h d n)) λs=>bif Nat.beq s.fn n then
   (bif gd then YH E h st R d (KG h d n) (Zu st.sl c.toList++caps) s k else S3 E h st d (KG h d n) s (Zu st.sl c.toList++caps) λs=>k (.st s))
   else .bad
 |_=>.bad
def noC:rZ:=λ_ _=>none
def Rp(st:St)(d:Nat)(data:List D):St:=
 match look st.ar d with
 |some b=>{st with ar:=pC st.ar d {b with data:=data++b.data}}
 |none=>st
def YI(st:St)(d:Nat)(e:TypeId)(c:TI)(el:List LT)(data:List D)(ns:aCt)(k:St->X):X:=
 match ns with
 |.flat ys=>.ask (iP (data.length+ys.length) c.bytes) (bif Nat.beq el.length c.lv.length then k (st.newArr d e el (data++ys))else .bad) .bad
 |.cells n l=>.ask (iP (data.length+n) c.bytes) (bif Nat.beq el.length c.lv.length then sJ (appElems d el.length n l (st.newArr d e el [])) λs=>k (Rp s d data)else .bad) .bad
def Rq(st:St)(d:Nat)(c:TI)(e:TypeId)(g:Option (List LT))(x f:A)(k:St->X):X:=
 match x with
 |.nils=>sJ (JN st (aCu st g c.lv f) f) λns=>YI st d e c (aCu st g c.lv f) [] ns λs=>k (s.view d)
 |.vw r u p=>sJ (cW st r u p) λq=>sJ (JN st q.2.2.1 f) λns=>sJ (JO st d r p) λs1=>YI s1 d q.2.1 c q.2.2.1 q.2.2.2 ns λs=>k (s.view d)
 |.px r u n=>sJ (cW st r u []) λq=>.ask (Nat.ble n q.2.2.2.length) (sJ (JN st q.2.2.1 f) λns=>sJ (JO st d r []) λs1=>YI s1 d q.2.1 c q.2.2.1 (q.2.2.2.take n) ns λs=>k (s.view d)) .bad
 |_=>.bad
def YJ(st:St)(d:Nat)(t:TypeId)(l:List Operand)(k:St->X):X:=
 match l with
 |[x,e]=>sJ (qY E t) λti=>sJ (qY E ti.e) λc=>bif ti.sl then Rq st d c ti.e (look h.el d) (dZ st.sl x) (dZ st.sl e) k else .bad
 |_=>.bad
def Rr(st:St)(r u:Nat)(p:List (Nat×Nat))(i j:Nat)(x:A)(k:St->X):X:=
 sJ (iJ st r u p) λa=>match a.stale with
  |[]=>sJ (wrLeaf st r u p i j x) k
  |_::_=>bif !JM p.length a.stale then .bad else sJ (lN a.e a.el a.data p) λq=>
   match q.2.1[j]?,x with
   |some (.sl true _ _),.nils=>.ask (fill (p++[(i,j)]) a.stale) (k (setRow st r a p i j q.2.1.length (.l []) true)) .bad
   |some (.sl true e el),.vw c d []=>bif Nat.beq c r then .bad else sJ (iJ st c d []) λb=>
     bif Nat.beq b.e e&&tO el b.el then
      match b.stale with
      |[]=>.ask (fill (p++[(i,j)]) a.stale) (k (setRow (st.gone c) r a p i j q.2.1.length (.l b.data) true)) .bad
      |_::_=>.bad
     else .bad
   |_,_=>sJ (wrLeaf st r u p i j x) k
def OE(r:Nat)(p:List (Nat×Nat))(i:Nat)(k:St->X):St->Nat->Nat->List A->X
 |st,_,_,[]=>k st
 |st,u,j,a::l=>Rr st r u p i j a λst=>OE r p i k st (gZ st r p) (j+1) l
def G5(st:St)(p v:A)(k:St->X):X:=
 match p with
 |.pa r u p _ i off=>OE r p i k st u off (fD v)
 |p=>sJ (WZ st p v) k
def Hl(st:St)(n:Nat)(p v:A)(k:St->X):X:=
 bif iR st (fD v)&&Nat.beq (fD v).length n then(bif iK st p then G5 st p v k else .bad)else .bad
def G6(st:St)(ti:Option TI)(x:A)(n:Int):Bool:=
 match x with
 |.fz _ _ _ xs=>aA n xs.length
 |.vw r u p=>match Tw st r u p with
  |some q=>aA n q.2.2.length
  |none=>false
 |.sx _ _ _ m _=>aA n m
 |_=>match ti with
  |some ti=>aA n ti.fs.length
  |none=>false
def Wq(op:BinOp)(c:A):Option Bool:=
 match op,c with
 |.quo,.int _ b=>some (!aD b 0)
 |.rem,.int _ b=>some (!aD b 0)
 |.shl,.int _ b=>some (cP 0 b)
 |.shr,.int _ b=>some (cP 0 b)
 |_,_=>none
def Nj(st:St):Op->Option Bool
 |.indexAddr t x i=>match dZ st.sl i with
  |.int _ n=>some (G6 st (qY E t) (dZ st.sl x) n)
  |_=>none
 |.index _ x i=>match dZ st.sl x,dZ st.sl i with
  |.str s,.int _ n=>some (aA n s.length)
  |_,_=>none
 |.binOp op _ _ c _=>Wq op (dZ st.sl c)
 |_=>none
def Rs(R gd:Bool)(st:St)(d:Nat)(o:Op)(k:tE->X):X:=
 match Nj E st o with
 |none=>sJ (qI E h noC R gd st d o) k
 |some c=>.ask (!R||c) (sJ (qI E h noC false gd st d o) k) .bad
def Wr(d c:Option Int)(n:Nat):Bool:=jT (d.getD 0) (c.getD (n:Int)) (n:Int)
def Rt(R gd:Bool)(st:St)(d:Nat)(ti:TI)(l c:Option Int)(x:A)(k:tE->X):X:=
 match x with
 |.vw r u p=>bif ti.sl then
   (bif has h.pfx d then(match p,l,c with
     |[],none,some n=>sJ (cW st r u []) λq=>.ask (!R||(cP 0 n&&cP n (q.2.2.2.length:Int))) (sJ (rv (Pe false st ti.ek r u p l c)) k) .bad
     |[],some n,none=>sJ (cW st r u []) λq=>.ask (!R||(cP 0 n&&cP n (q.2.2.2.length:Int))) (sJ (rv (Pe false st ti.ek r u p l c)) k) .bad
     |_,_,_=>.bad)
    else bif has h.snap d then sJ (cW st r u p) λq=>.ask (!R||Wr l c q.2.2.2.length) (sJ (rv (O5 false st ti.ek r u p l c)) k) .bad
    else bif gd then .bad else sJ (cW st r u p) λq=>.ask (Wr l c q.2.2.2.length) (bif Nat.beq ti.ek q.2.2.1.length then
     sJ (JO st d r p) λs1=>k (.st ((s1.newArr d q.2.1 q.2.2.1 ((q.2.2.2.take (c.getD (q.2.2.2.length:Int)).toNat).drop (l.getD 0).toNat)).view d))else .bad) .bad)
   else .bad
 |.fz _ _ _ xs=>.ask (!R||Wr l c xs.length) (sJ (rv (KA false ti x l c)) k) .bad
 |.str s=>.ask (!R||Wr l c s.length) (sJ (rv (KA false ti x l c)) k) .bad
 |.nils=>sJ (rv (KA R ti x l c)) k
 |_=>.bad
def G7(R gd:Bool)(st:St)(d:Nat)(t:TypeId)(x:A)(f e:Option A)(k:tE->X):X:=
 bif iK st x then sJ (qY E t) λti=>sJ (KB f) λl=>sJ (KB e) λc=>Rt h R gd st d ti l c x k else .bad
def aEu(R gd:Bool)(st:St)(d:Nat)(o:Op)(op:BinOp)(t:TypeId)(x c:A)(k:tE->X):X:=
 match x,c with
 |.fz dep e el xs,.nils=>bif iK st x then .ask (Hj xs) .bad (sJ (rv (Zw E R t op (.fz dep e el (YG xs::xs.tail)) .nils)) k)else .bad
 |_,_=>Rs E h R gd st d o k
def aBq(gd:Bool)(st:St)(d:Nat)(t:TypeId)(a b:A)(k:tE->X):X:=
 bif gd then .bad else
 match a,b with
 |.int .i64 n,.int .i64 m=>sJ (qY E t) λti=>sJ (qY E ti.e) λc=>
  bif ti.sl&&tO (eH false (KF h d c)) c.lv then
   .ask (cP 0 n&&(aD n m&&iP n.toNat c.bytes)) (k (.st ((st.newArr d ti.e (KF h d c) (List.replicate n.toNat (fM (fA c.lv)))).view d))) .bad
  else .bad
 |_,_=>.bad
def Ru(st:St)(d:Nat)(t e:TypeId)(l:List Operand)(k:St->X):X:=
 match l with
 |[x,g]=>match dZ st.sl x,dZ st.sl g with
  |.nils,.int .i64 n=>sJ (qY E t) λti=>sJ (qY E ti.e) λc=>sJ (qY E e) λf=>
   bif ti.sl&&(aAo f&&(TJ c.lv&&Nat.ble 1 c.lv.length))then
    .ask (aT 0 n&&iP n.toNat c.bytes) (k ((st.newArr d ti.e c.lv (List.replicate n.toNat (fM (fA c.lv)))).view d)) .bad
   else .bad
  |_,_=>.bad
 |_=>.bad
def S4(R gd:Bool)(st:St)(d:Nat)(o:Op)(k:tE->X):X:=
 match o with
 |.call c=>match c.callee with
  |.value f=>Ro E h R gd st d c.args k (dZ st.sl f)
  |.builtin .append=>bif gd then .bad else(match c.argTypes.toList with
   |[t,e]=>bif Nat.beq t e then YJ E h st d t c.args.toList λs=>k (.st s)else Ru E st d t e c.args.toList λs=>k (.st s)
   |_=>.bad)
  |_=>sJ (qI E h noC R gd st d o) k
 |.makeSlice t n m=>aBq E h gd st d t (dZ st.sl n) (dZ st.sl m) k
 |.store t p x=>bif gd then .bad else sJ (Ps E t) λn=>Hl st n (dZ st.sl p) (dZ st.sl x) λs=>k (.st (s.put d .undef))
 |.slice t x j g none=>G7 E h R gd st d t (dZ st.sl x) (j.map (dZ st.sl)) (g.map (dZ st.sl)) k
 |.binOp op t x l _=>aEu E h R gd st d o op t (dZ st.sl x) (dZ st.sl l) k
 |o=>Rs E h R gd st d o k
def IF(i:Nat)(o:Oper)(s:RS)(R gd:Bool)(G:List (Nat×Bool))(k:RS->X):X:=
 match o.dst with
 |some d=>S4 E h R gd s.st (FT h.nb+d) o.op λr=>sJ (TM s i d (FT h.nb+d) R G r) k
 |none=>bif gd then .bad else S4 E h R gd s.st (FT h.nb+4000) o.op λr=>sJ (Pt s r) k
end
abbrev InX:=Nat->St->(A×St->X)->X
section
variable(E:eQ)(h:eV)(Tb:BT kH)(it:InX)
def aBr(s:RS)(i d:Nat)(q:InH)(np:Nat)(as:List A)(k:RS->X):X:=
 bif aAu s.sg q&&(Nat.beq as.length np&&Nat.ble np 500)then
  it q.site (Ey s.st q as) λr=>k (s.note i d true [] ((BU r.2 q).put d r.1) r.1)
 else .bad
def Hm(i:Nat)(o:Oper)(s:RS)(d:Nat)(q:InH)(k:RS->X):X:=
 match o.op with
 |.call c=>match c.callee with
  |.value f=>match dZ s.st.sl f with
   |.fn n caps=>sJ (Tb.look q.site) λg=>bif Nat.beq g.fn n then aBr it s i d q g.np (Zu s.st.sl c.args.toList++caps) k else .bad
   |_=>.bad
  |_=>.bad
 |_=>.bad
def VK(i:Nat)(o:Oper)(s:RS)(R gd:Bool)(G:List (Nat×Bool))(k:RS->X):X:=
 match JQ h o with
 |some q=>bif gd then .bad else Hm Tb it i o s q.1 q.2 λs=>bif BM (Ao E s) q.2.ck then k s else .bad
 |none=>match ckP h i o with
  |[]=>IF E h i o s R gd G k
  |c::l=>bif gd then .bad else IF E h i o s R gd G λs=>.ask (BM (Ao E s) (c::l)) (k s) .bad
def S5(i:Nat)(o:Oper)(s:RS)(j:Nat)(c:Bool)(g:Bool×Bool×List (Nat×Bool))(k:RS->X):X:=
 bif Uc (Ue s o) ((j,c)::g.2.2)then VK E h Tb it i o s (g.1&&DU g.2.1 c) true ((j,c)::g.2.2) k else .bad
def Rv(i:Nat)(o:Oper)(s:RS)(k:RS->X):X:=
 match o.guard with
 |none=>bif Uc (Ue s o) []then VK E h Tb it i o s true false [] k else .bad
 |some p=>sJ (look s.ge p.1) λg=>S5 E h Tb it i o s p.1 p.2 g k
def VL(k:RS->X):List (Nat×Oper)->RS->X
 |[],s=>k s
 |p::l,s=>Rv E h Tb it p.1 p.2 s λs=>VL k l s
def aCU(ops:List (Nat×Oper))(st:St)(k:Ex×St->X):X:=
 VL E h Tb it (λs=>k (.norm,sD s.sg s.st)) ops {st:=st,ge:=[],sg:=[],by_:=[]}
def S6(id:Nat)(ops:Array Oper)(st:St)(r:Ex×St)(k:Ex×St->X):List (List Nat)->X
 |[]=>k r
 |o::os=>aCU E h Tb it (KH ops.toList o) st λq=>sJ (Fc h id q) λq=>.ask (P1 r q) (S6 id ops st r k os) .bad
def aBs(id:Nat)(ops:Array Oper)(st:St)(r:Ex×St)(k:Ex×St->X):X:=
 match Ap h id with
 |none=>k r
 |some q=>S6 E h Tb it id ops st r k q.2
def aDT(st:St)(x c:X):A->X
 |.bool t=>.ask t x c
 |_=>.bad
def Nk(k:Ex×St->X):List (List D->Ex×St)->Ri St (Ex×St)
 |[]=>.nil
 |t::ts=>.cons (λds=>k (t ds)) (Nk k ts)
def aDU(k:Ex×St->X)(c:St->X)(r:Ex×St):X:=
 match r.1 with
 |.norm=>c r.2
 |_=>k r
def FK(lb:Nat)(T:Nat->List (List D->Ex×St)):Nat->Code->St->(Ex×St->X)->X
 |_,.skip,st,k=>k (.norm,st)
 |_,.region id ops _,st,k=>aCU E h Tb it (AO h id ops) st λr=>sJ (Fc h id r) λr=>aBs E h Tb it id ops st r k
 |b,.seq x d,st,k=>FK lb T b x st (aDU k λs=>FK lb T b d s k)
 |b,.cond c x d,st,k=>aDT st (FK lb T b x st k) (FK lb T b d st k) (dZ st.sl c)
 |_,.block id x,st,k=>FK lb T id x st λr=>sJ (Um id r) k
 |b,.loop _,st,k=>sJ (FV (look h.heads b) st) λs=>.loop (lb+b) s (Nk k (T (lb+b)))
 |_,.exit id,st,k=>k (.exit id,st)
 |_,.ret,st,k=>k (.ret,st)
 |_,.label _,st,k=>k (.norm,st)
 |b,.scope x,st,k=>FK lb T b x st k
 |_,_,_,_=>.bad
def YK(lb:Nat)(T:Nat->List (List D->Ex×St))(b:Nat)(x:Code)(s:St):X:=
 FK E h Tb it lb T b x s λr=>match r.1 with
  |.norm=>sJ (FV (look h.heads b) r.2) .again
  |_=>sJ (A1 (look h.ends b) r) .out
def Rw(f:Func)(s:EC)(r:Ex×St):M (D×List D):=
 match r.1 with
 |.exit _=>aF "exit out of the body"
 |_=>(jL E r.2 f.results.toList).bind λvs=>(mF r.2 s.rs vs).bind λu=>(EE r.2 0 s.ps).bind λv=>
    bif nodup (u.os++v.os)&&apart (u.os++v.os) (u.ds++v.ds)then
     ok ((match u.x with|[x]=>x |xs=>.l xs),v.x)
    else aF "result: shared"
def Nl(T:Nat->List (List D->Ex×St))(f:Func)(c:Code)(s:EC)(ds:List D):X:=
 sJ (eI E 0 s.ps ds {sl:=.nil,bx:=[],ar:=[],ctr:=1}) λst=>FK E h Tb it 0 T 0 c st λr=>sJ (Rw E f s r) λq=>.ret q.1 q.2
end
def itN(E:eQ)(Tb:BT kH)(T:Nat->List (List D->Ex×St)):Nat->InX
 |0=>λ_ _ _=>.bad
 |n+1=>λq st k=>
  match Tb.look q with
  |some s=>FK E s.h Tb (itN E Tb T n) (1000*(q+1)) T 0 s.c st λr=>
   match r.1 with
   |.exit _=>.bad
   |_=>sJ (jL E r.2 s.f.results.toList) λvs=>k (Lj vs,r.2)
  |none=>.bad
def dF:Nat->Code->List (Nat×Code)
 |b,.seq x c=>dF b x++dF b c
 |b,.cond _ x c=>dF b x++dF b c
 |_,.block id x=>dF id x
 |b,.loop x=>(b,x)::dF b x
 |b,.scope x=>dF b x
 |_,_=>[]
mutual
def IX.map{c e d h:Type}(f:Nat->c->d)(b0:Nat)(g:e->h):IX c e->IX d h
 |.ret x bs=>.ret x bs
 |.again s=>.again (f b0 s)
 |.out t=>.out (g t)
 |.bad=>.bad
 |.ask b p q=>.ask b (p.map f b0 g) (q.map f b0 g)
 |.call m xs nb k=>.call m xs nb λx bs=>(k x bs).map f b0 g
 |.loop b s ks=>.loop b (f b s) (ks.map f b0 g)
def Ri.map{c e d h:Type}(f:Nat->c->d)(b0:Nat)(g:e->h):Ri c e->Ri d h
 |.nil=>.nil
 |.cons k ks=>.cons (λds=>(k ds).map f b0 g) (ks.map f b0 g)
end
abbrev aBt:=List (Nat×(List D->St))
abbrev d9:=List (Nat×List (List D->Ex×St))
structure Fn where
 np:Nat
 bs:List Nat
 main:List D->Sh
 lps:List (Nat×(List D->Sh))
def gI(l:List D)(i:Nat):Int:=(gD l i).toI
def gB(l:List D)(i:Nat):Bool:=(gD l i).toB
def gS(l:List D)(i:Nat):List UInt8:=(gD l i).toS
def gL(l:List D)(i:Nat):List D:=(gD l i).els
def gN(l:List D)(i:Nat):Nat:=(gD l i).toI.toNat
def iA(s:List UInt8)(k:Int):Int:=((s.getD k.toNat 0).toNat:Int)
def aHj(k:IntKind)(a b:Int):Int:=k.wrap (a*2^(min b.toNat k.bits))
def aHk(k:IntKind)(a b:Int):Int:=a.fdiv (2^(min b.toNat k.bits))
def aHl(k:IntKind)(n:Int):Int:=FS .xor k (bif k.signed then-1 else k.max) n
abbrev t0(l r:Tr):Tr:=.node .undef l r
abbrev t1(a:A):Tr:=.node a .nil .nil
abbrev t2(a:A)(l r:Tr):Tr:=.node a l r
def tQ:St:={sl:=.nil,bx:=[],ar:=[],ctr:=0}
def Rx(S:aBt)(b:Nat)(ps:List D):St:=
 match look S b with
 |some g=>g ps
 |none=>tQ
def tOf(T:d9)(b:Nat):List (List D->Ex×St):=
 match look T b with
 |some l=>l
 |none=>[]
def S7:List (Nat×Code)->Nat->Code
 |[],_=>.skip
 |(m,c)::l,b=>bif Nat.beq m b then c else S7 l b
def sK(b:Nat)(c:Code):Code:=S7 (dF 0 c) b
def cd(f:Func):Code:=match f.body with|some c=>c |none=>.skip
def Ry(t:BT EC)(n:Nat):EC:=match t.look n with|some s=>s |none=>{fn:=0,ps:=[],rs:=[]}
def noT(_:List D):Ex×St:=(.exit 0,{sl:=.nil,bx:=[],ar:=[],ctr:=0})
def Nm(T:d9)(b:Nat)(q:Nat×List D):Ex×St:=((tOf T b).getD q.1 noT) q.2
def Sh.up(S:aBt)(T:d9)(b0:Nat)(t:Sh):X:=t.map (Rx S) b0 (Nm T b0)
end Go.Eng

namespace Go.Eng
inductive Lf(σ τ:Type) where
 |ret (x:D) (bs:List D)
 |again (s:σ)
 |out (t:τ)
section
variable{σ τ:Type}(C:Nat->List D->D->List D->Prop)(L:Nat->σ->Nat->List D->Prop)
mutual
def Ev:IX σ τ->Lf σ τ->Prop
 |.ret x bs,lf=>lf=.ret x bs
 |.again s,lf=>lf=.again s
 |.out t,lf=>lf=.out t
 |.bad,_=>False
 |.ask b p q,lf=>(b=true/\Ev p lf)\/(b=false/\Ev q lf)
 |.call m xs nb k,lf=>∃x bs,C m xs x bs/\bs.length=nb/\Ev (k x bs) lf
 |.loop b s ks,lf=>∃i ds,L b s i ds/\Kz ks i ds lf
def Kz:Ri σ τ->Nat->List D->Lf σ τ->Prop
 |.nil,_,_,_=>False
 |.cons k _,0,ds,lf=>Ev (k ds) lf
 |.cons _ ks,i+1,ds,lf=>Kz ks i ds lf
end
end
section
variable{E:eQ}{h:eV}{ctx:rZ}{L:Nat->St->Nat->List D->Prop}{lf:Lf St (Ex×St)}
abbrev cR(ctx:rZ):Nat->List D->D->List D->Prop:=λm xs x bs=>ctx m xs=some (x,bs)
theorem dQ{α:Type}{x:M α}{k:α->X}(c:Ev (cR ctx) L (sJ x k) lf):∃a,x=some a/\Ev (cR ctx) L (k a) lf:=by
 cases x with
 |none=>simp[sJ,Ev]at c
 |some a=>exact⟨a,rfl,c⟩
theorem EN{c:Bool}{p:X}(d:Ev (cR ctx) L (.ask c p .bad) lf):c=true/\Ev (cR ctx) L p lf:=by
 simp only[Ev]at d;rcases d with d |⟨_,d⟩
 ·exact d
 ·exact d.elim
theorem tJ{c:Bool}{p:X}(d:Ev (cR ctx) L (bif c then p else .bad) lf):c=true/\Ev (cR ctx) L p lf:=by
 cases c with
 |true=>exact⟨rfl,d⟩
 |false=>simp[Ev]at d
theorem aF8(c:D)(l:List D)(i:Nat):gD (c::l) (i+1)=gD l i:=by simp[gD]
theorem Ws:∀(c l:List D),Hk (c++l) c.length l.length=l
 |c,[]=>rfl
 |c,d::l=>by
  simp only[List.length_cons,Hk];have f:gD (c++d::l) c.length=d:=by simp[gD]
  have e:=Ws (c++[d]) l;simp only[List.append_assoc,List.singleton_append,List.length_append,List.length_singleton]at e;rw[f,e]
theorem YL{l:List D}{n:Nat}(c:l.length=n):Hk l 0 n=l:=by subst c;exact Ws [] l
def Nn(m:RM)(e x:D):Prop:=∀dep d c st,BP dep d c e m st=BP dep d c x m st
theorem aBv{nn:Bool}{x:D}{k:D->X}{el:List LT}(g:Ev (cR ctx) L (aCT nn x k) lf):∃h,Nn (.ptr el) h x/\Ev (cR ctx) L (k h) lf:=by
 simp only[aCT,Ev]at g;rcases g with⟨e,f⟩ |⟨e,f⟩
 ·cases nn with
  |true=>simp[Ev]at f
  |false=>
  refine⟨_,λdep d c st=>?_,f⟩;cases hx:x.els with
  |nil=>simp only[BP];rw[hx];rfl
  |cons z t=>rw[hx]at e;simp[Hj]at e
 ·refine⟨_,λdep d c st=>?_,f⟩;cases hx:x.els with
  |nil=>rw[hx]at e;simp[Hj]at e
  |cons z t=>simp only[BP];rw[hx];rfl
theorem Nn.refl(m:RM)(x:D):Nn m x x:=λ_ _ _ _=>rfl
theorem G8{nn:Bool}{x:D}:∀(f:List RM)(c:Nat){k:List D->X},Ev (cR ctx) L (G4 nn x c f k) lf->∃l,(∀j m,f[j]?=some m->Nn m (l.getD j (.i 0)) (x.fld (c+j)))/\Ev (cR ctx) L (k l) lf
 |[],c,k,e=>⟨[],λj m d=>by simp at d,e⟩
 |.val a lv::f,c,k,e=>by
  simp only[G4]at e;obtain⟨l,g,h⟩:=G8 f (c+1) e;refine⟨_,λj m d=>?_,h⟩;cases j with
  |zero=>simp at d;subst d;exact Nn.refl _ _
  |succ j=>simp at d;have:=g j m d;simpa[Nat.add_assoc,Nat.add_comm 1 j]using this
 |.ptr el::f,c,k,e=>by
  simp only[G4]at e;obtain⟨s,r,e⟩:=aBv (el:=el) e;obtain⟨l,g,h⟩:=G8 f (c+1) e;refine⟨_,λj m d=>?_,h⟩;cases j with
  |zero=>simp at d;subst d;exact r
  |succ j=>simp at d;have:=g j m d;simpa[Nat.add_assoc,Nat.add_comm 1 j]using this
theorem Bu{dep:List (Nat×Nat)}{d:Nat}{z x:D}:∀(e:List RM)(c:Nat)(st:St),(∀j m,e[j]?=some m->Nn m (z.fld (c+j)) (x.fld (c+j)))->HH dep d z c e st=HH dep d x c e st
 |[],_,_,_=>rfl
 |m::e,c,st,g=>by simp only[HH];have f:=g 0 m rfl dep d c st;simp only[Nat.add_zero]at f;rw[f];congr 1;funext r;rw[Bu e (c+1) r.1 λj m' h=>by have:=g (j+1) m' h;simpa[Nat.add_assoc,Nat.add_comm 1 j]using this];try rfl
theorem aEv{nn:Bool}{rs:List RM}{x:D}{k:D->X}(c:Ev (cR ctx) L (aFw nn rs x k) lf):∃e,(∀dep d st,LQ rs dep d e st=LQ rs dep d x st)/\Ev (cR ctx) L (k e) lf:=by
 match rs,c with
 |[],c=>exact⟨x,λ_ _ _=>rfl,c⟩
 |[.ptr el],c=>obtain⟨e,f,g⟩:=aBv (el:=el) c;exact⟨e,λdep d st=>by simp only[LQ];rw[f],g⟩
 |[.val a lv],c=>exact⟨x,λ_ _ _=>rfl,c⟩
 |m::m'::h,c=>
  have c:Ev (cR ctx) L (G4 nn x 0 (m::m'::h) λl=>k (.l l)) lf:=by cases m<;>exact c
  obtain⟨l,f,g⟩:=G8 _ _ c;refine⟨_,λdep d st=>?_,g⟩;simp only[LQ];rw[Bu (z:=.l l) (x:=x) (m::m'::h) 0 st λj q r=>by simpa[D.fld,D.els]using f j q r]
theorem S8{st:St}{d n:Nat}{s:EC}{as:List A}{k:St->X}(c:Ev (cR ctx) L (S3 E h st d n s as k) lf):∃g,PG E ctx st d n s as=some g/\Ev (cR ctx) L (k g) lf:=by
 unfold S3 at c;unfold PG;cases y:lJ s.ps with
 |some q=>obtain⟨e,el,f⟩:=q;rw[y]at c;simp only at c⊢;obtain⟨q,j,c⟩:=dQ c;simp only[Ev]at c;obtain⟨x,bs,l,m,c⟩:=c;rw[YL m]at c;obtain⟨g,r,c⟩:=dQ c;exact⟨g,by simp[j,l,r,nJ],c⟩
 |none=>rw[y]at c;simp only at c⊢;obtain⟨u,j,c⟩:=dQ c;obtain⟨F,c⟩:=tJ c;simp only[Ev]at c;obtain⟨x,bs,l,m,c⟩:=c;rw[YL m]at c;obtain⟨H,r,c⟩:=aEv c;obtain⟨g,t,c⟩:=dQ c;refine⟨g,?_,c⟩;rw[j];simp only[Option.bind_some,F,cond_true,nJ,l];simp only[aBp]at t;obtain⟨G,C,v⟩:=bind_some t;rw[C];simp only[Option.bind_some];rw[r]at v;exact v
theorem e7{R:Bool}{m:Nat}{agg:Bool}{lv:List LT}{ds:List (Nat×Nat)}{xs:List D}{k:tE->X}(c:Ev (cR ctx) L (Rm R m agg lv ds xs k) lf):∃r,XD ctx R m agg lv ds xs=some r/\Ev (cR ctx) L (k r) lf:=by
 simp only[Rm,Ev]at c;unfold XD;rcases c with⟨rfl,x,bs,e,f,c⟩ |⟨rfl,c⟩
 ·obtain⟨r,d,c⟩:=dQ c;have:bs=[]:=List.length_eq_zero_iff.1 f;subst this;exact⟨r,by simpa[nJ,e,Rl]using d,c⟩
 ·obtain⟨r,d,c⟩:=dQ c;exact⟨r,by simpa[nJ,Rl]using d,c⟩
theorem e8{st:St}{R:Bool}{d m:Nat}{s:EC}{as:List A}{agg:Bool}{k:tE->X}{l:List LT}(c:Ev (cR ctx) L (Rn E h st R d m s as agg k l) lf):∃r,XE E ctx st R d m s as agg l=some r/\Ev (cR ctx) L (k r) lf:=by
 unfold Rn at c;split at c
 ·cases agg with
  |true=>simp[Ev]at c
  |false=>
   simp only[cond_false,Ev]at c;rcases c with⟨rfl,c⟩ |⟨rfl,c⟩
   ·obtain⟨f,e,c⟩:=S8 c;exact⟨_,by simp[XE,e,rs,ok],c⟩
   ·exact⟨_,rfl,c⟩
 ·simp[Ev]at c
theorem Wt{st:St}{R:Bool}{d m:Nat}{as:List A}{s:EC}{k:tE->X}(c:Ev (cR ctx) L (YH E h st R d m as s k) lf):∃r,FU E ctx st R d m as s=some r/\Ev (cR ctx) L (k r) lf:=by
 unfold YH at c;split at c
 ·rename_i agg lv j;obtain⟨u,g,c⟩:=dQ c;split at c
  ·rename_i f;obtain⟨l,c⟩:=tJ c;obtain⟨r,e,c⟩:=e7 c;refine⟨r,?_,c⟩;unfold FU;simp only[j,g,Option.bind_some,f,l,cond_true];exact e
  ·rename_i v t f;obtain⟨r,e,c⟩:=e8 c;refine⟨r,?_,c⟩;unfold FU;simp only[j,g,Option.bind_some,f];exact e
 ·simp[Ev]at c
theorem i3{R gd:Bool}{st:St}{d:Nat}{e:Array Operand}{k:tE->X}{a:A}(c:Ev (cR ctx) L (Ro E h R gd st d e k a) lf):∃r,QL E h ctx R gd st d e a=some r/\Ev (cR ctx) L (k r) lf:=by
 unfold Ro at c;split at c
 ·rename_i n caps;obtain⟨s,f,c⟩:=dQ c;obtain⟨g,c⟩:=tJ c;unfold QL;simp only[f,nJ,Option.bind_some,g,cond_true];cases gd with
  |true=>simp only[cond_true]at c⊢;exact Wt c
  |false=>simp only[cond_false]at c⊢;obtain⟨l,j,c⟩:=S8 c;exact⟨_,by simp[j,rs,ok],c⟩
 ·simp[Ev]at c
end
end Go.Eng

namespace Go.Eng
theorem i4{α:Type}{c:Bool}{x:M α}{s:String}{d:α}(h:(bif c then aF s else x)=some d):c=false/\x=some d:=by
 cases c with
 |true=>simp[aF]at h
 |false=>exact⟨rfl,h⟩
structure kW(d:Nat)(data0:List D)(s t:St):Prop where
 ex:∃a l,s.ar=(d,a)::l/\look l d=none/\a.stale=[]/\t={s with ar:=(d,{a with data:=data0++a.data})::l}
theorem Hn{α:Type}{d:Nat}:∀{l:List (Nat×α)},look l d=none->mX l d=l
 |[],_=>rfl
 |(m,a)::l,h=>by
  simp only[look]at h;cases c:Nat.beq m d with
  |true=>rw[c]at h;simp at h
  |false=>rw[c]at h;simp only[mX,c,cond_false];rw[Hn (by simpa using h)]
theorem CO{α:Type}{d q:Nat}:∀{l:List (Nat×α)},look l d=none->look (mX l q) d=none
 |[],_=>rfl
 |(m,a)::l,h=>by
  simp only[look]at h;cases c:Nat.beq m d with
  |true=>rw[c]at h;simp at h
  |false=>
   rw[c]at h;simp only[mX];cases e:Nat.beq m q with
   |true=>exact CO (by simpa using h)
   |false=>simp only[cond_false,look,c];exact CO (by simpa using h)
theorem CP{α:Type}(d:Nat):∀(l:List (Nat×α)),look (mX l d) d=none
 |[]=>rfl
 |(m,a)::l=>by
  simp only[mX];cases c:Nat.beq m d with
  |true=>exact CP d l
  |false=>simp only[cond_false,look,c];exact CP d l
theorem EO{α:Type}(d:Nat)(a:α)(l:List (Nat×α)):look ((d,a)::l) d=some a:=by simp[look,pD]
theorem S9{α:Type}{d q:Nat}(a:α)(l:List (Nat×α))(h:q≠d):look ((d,a)::l) q=look l q:=by simp[look,pJ (Ne.symm h)]
theorem VM{α:Type}{d:Nat}(a b:α){l:List (Nat×α)}(h:look l d=none):pC ((d,a)::l) d b=(d,b)::l:=by simp[pC,mX,pD,Hn h]
theorem G9(data0 l:List D)(i:Nat)(z:D):(data0++l).getD (data0.length+i) z=l.getD i z:=by simp[List.getD_eq_getElem?_getD,List.getElem?_append_right]
theorem i5(data0 l:List D)(i:Nat)(z:D):(data0++l).set (data0.length+i) z=data0++l.set i z:=by rw[List.set_append_right _ _ (by omega)];simp
theorem kW.new{d:Nat}{data0:List D}{s:St}{e:TypeId}{el:List LT}{data:List D}:kW d data0 (s.newArr d e el data) (s.newArr d e el (data0++data)):=
 ⟨⟨_,mX s.ar d,rfl,CP d _,rfl,rfl⟩⟩
theorem kW.newBoth{d:Nat}{data0:List D}{s t:St}(h:kW d data0 s t){e:TypeId}{el:List LT}{data:List D}:kW d data0 (s.newArr d e el data) (t.newArr d e el (data0++data)):=by
 obtain⟨a,l,f,c,g,rfl⟩:=h.ex;refine⟨⟨{e:=e,el:=el,data:=data,uid:=s.ctr,hv:=WY s.ctr,dv:=s.ctr},l,?_,c,?_,?_⟩⟩
 ·simp only[St.newArr];rw[f,VM _ _ c]
 ·rfl
 ·simp only[St.newArr];rw[VM _ _ c]
theorem kW.arrOf_other{d:Nat}{data0:List D}{s t:St}(h:kW d data0 s t){q u:Nat}(f:Nat.beq q d=false)(p:List (Nat×Nat)):iJ t q u p=iJ s q u p:=by
 obtain⟨a,l,g,j,m,rfl⟩:=h.ex;have c:q≠d:=by intro e;subst e;rw[pD]at f;simp at f
 simp only[iJ];rw[g,S9 _ _ c,S9 _ _ c]
theorem kW.gone{d:Nat}{data0:List D}{s t:St}(h:kW d data0 s t){q:Nat}(c:Nat.beq q d=false):kW d data0 (s.gone q) (t.gone q):=by
 obtain⟨a,l,f,g,m,rfl⟩:=h.ex;have e:Nat.beq d q=false:=by
  cases j:Nat.beq d q with
  |false=>rfl
  |true=>rw[Nat.eq_of_beq_eq_true j,pD]at c;simp at c
 refine⟨⟨a,mX l q,?_,CO g,m,?_⟩⟩
 ·simp only[St.gone];rw[f];simp[mX,e]
 ·simp only[St.gone];simp[mX,e]
theorem kW.setRow{d:Nat}{data0:List D}{s t:St}(h:kW d data0 s t){a:xA}(c:look s.ar d=some a)(i j k:Nat)(x:D)(hdr:Bool):
  kW d data0 (setRow s d a [] i j k x hdr) (setRow t d {a with data:=data0++a.data} [] (data0.length+i) j k x hdr):=by
 obtain⟨a',l,f,e,g,rfl⟩:=h.ex;rw[f,EO]at c;injection c with c;subst c;refine⟨⟨{a' with data:=nQ a'.el a'.data [] (λdata=>data.set i (qU k (data.getD i (.i 0)) j x)),stale:=bif hdr then[]else a'.stale,dv:=s.ctr,hv:=bif hdr then xB s.ctr 0 a'.hv else a'.hv},l,?_,e,?_,?_⟩⟩
 ·simp only[Go.Eng.setRow];rw[f,VM _ _ e];rfl
 ·simp only[g];cases hdr<;>rfl
 ·simp only[Go.Eng.setRow];rw[VM _ _ e];simp only[nQ,G9,i5,List.length_nil]
theorem kW.gone_look{d:Nat}{s:St}{q:Nat}{a:xA}(f:look s.ar d=some a)(c:Nat.beq q d=false):look (s.gone q).ar d=some a:=by
 simp only[St.gone];rw[mG,if_neg]
 ·exact f
 ·intro e;subst e;rw[pD]at c;simp at c
theorem kW.wrLeaf{d u i j:Nat}{data0:List D}{s t:St}(h:kW d data0 s t){x:A}{y:St}(c:wrLeaf s d u [] i j x=some y):∃C,wrLeaf t d u [] (data0.length+i) j x=some C/\kW d data0 y C:=by
 obtain⟨a,l,F,T,m,G⟩:=h.ex;have e:look s.ar d=some a:=by rw[F,EO]
 have L:look t.ar d=some {a with data:=data0++a.data}:=by subst G;simp only[EO]
 unfold Go.Eng.wrLeaf at c⊢;simp only[iJ,e,L,iN]at c⊢;cases v:(Nat.ble (List.length ([]:List (Nat×Nat))) 4&&Nat.beq a.uid u)with
 |false=>rw[v]at c;simp[aF]at c
 |true=>
 rw[v]at c;simp only[cond_true,ok,Option.bind_some]at c⊢;obtain⟨P,c⟩:=(show(JM 0 a.stale=true)/\_ from by
  cases K:JM 0 a.stale with
  |false=>simp only[List.length_nil,K,Bool.not_false,cond_true,aF]at c;simp at c
  |true=>exact⟨rfl,c⟩)
 simp only[List.length_nil,P,Bool.not_true,cond_false,lN,nJ,Option.bind_some]at c⊢;generalize a.el[j]?=ol at c⊢;split at c
 ·obtain⟨g,c⟩:=aV c;simp only[Option.some.injEq]at c;subst c;exact⟨_,by simp only[g,cond_true],h.setRow e _ _ _ _ _⟩
 ·simp only[Option.some.injEq]at c;subst c;exact⟨_,rfl,h.setRow e _ _ _ _ _⟩
 ·simp only[Option.some.injEq]at c;subst c;exact⟨_,rfl,h.setRow e _ _ _ _ _⟩
 ·obtain⟨g,c⟩:=aV c;simp only[Option.some.injEq]at c;subst c;exact⟨_,by simp only[g,cond_true],h.setRow e _ _ _ _ _⟩
 ·simp only[Option.some.injEq]at c;subst c;exact⟨_,rfl,h.setRow e _ _ _ _ _⟩
 ·rw[m]at c⊢;simp only[Aj,fill,Bool.not_true,Bool.false_or,cond_true,ok,Option.some.injEq]at c⊢;subst c;exact⟨_,rfl,h.setRow e _ _ _ _ _⟩
 ·obtain⟨f,c⟩:=i4 c;obtain⟨b,H,c⟩:=bind_some c;obtain⟨Q,c⟩:=aV c;rw[m]at c⊢;have r:=λu=>h.arrOf_other (u:=u) f [];simp only[iJ,iN,ok,List.length_nil]at r;split at c
  ·rename_i J;simp only[Aj,fill,Bool.not_true,Bool.false_or,cond_true,ok,Option.some.injEq]at c;subst c;refine⟨_,?_,(h.gone f).setRow (kW.gone_look e f) _ _ _ _ _⟩;simp only[f,cond_false];rw[r,H];simp only[Option.bind_some,Q,cond_true,J,Aj,fill,Bool.not_true,Bool.false_or,ok];rw[m]
  ·simp[aF]at c
 ·simp[aF]at c
theorem kW.wrLeaves{d i:Nat}{data0:List D}:∀(l:List A){j u:Nat}{s t e:St},kW d data0 s t->wrLeaves s d u [] i j l=some e->∃f,wrLeaves t d u [] (data0.length+i) j l=some f/\kW d data0 e f
 |[],j,u,s,t,e,h,c=>by simp only[Go.Eng.wrLeaves,ok,Option.some.injEq]at c;subst c;exact⟨t,rfl,h⟩
 |x::l,j,u,s,t,e,h,c=>by
  simp only[Go.Eng.wrLeaves]at c⊢;obtain⟨s1,r,v⟩:=bind_some c;obtain⟨t1,y,g⟩:=h.wrLeaf r;have G:gZ t1 d []=gZ s1 d []:=by obtain⟨a,l,m,H,_,rfl⟩:=g.ex;simp only[gZ];rw[m,EO,EO];rfl
  obtain⟨f,C,F⟩:=kW.wrLeaves l g v;exact⟨f,by rw[y];simp only[Option.bind_some];rw[G];exact C,F⟩
theorem kW.appElems{d k:Nat}{data0:List D}:∀(n:Nat)(l:List A){s t f:St},kW d data0 s t->appElems d k n l s=some f->∃g,appElems d k n l t=some g/\kW d data0 f g
 |0,l,s,t,f,h,c=>by simp only[Go.Eng.appElems,ok,Option.some.injEq]at c;subst c;exact⟨t,rfl,h⟩
 |n+1,l,s,t,f,h,c=>by
  obtain⟨a,P,m,L,r,j⟩:=h.ex;have J:look s.ar d=some a:=by rw[m,EO]
  have K:look t.ar d=some {a with data:=data0++a.data}:=by subst j;simp only[EO]
  have H:t.ctr=s.ctr:=by subst j;rfl
  simp only[Go.Eng.appElems,J,K,nJ,Option.bind_some,r]at c⊢;obtain⟨s1,u,v⟩:=bind_some c;obtain⟨t1,y,C⟩:=kW.wrLeaves _ (h.newBoth (e:=a.e) (el:=a.el) (data:=a.data++[fM (fA a.el)])) u;obtain⟨g,F,G⟩:=kW.appElems n _ C v;refine⟨g,?_,G⟩;rw[List.append_assoc,List.length_append,H,y];exact F
theorem kW.patch{d:Nat}{data0:List D}{s t:St}(h:kW d data0 s t):t=Rp s d data0:=by obtain⟨a,l,c,e,g,f⟩:=h.ex;subst f;simp only[Rp];rw[c,EO];simp only;rw[VM _ _ e]
theorem Ho{d k n:Nat}{l:List A}{e:TypeId}{el:List LT}{data:List D}{st s:St}(h:appElems d k n l (st.newArr d e el [])=some s):appElems d k n l (st.newArr d e el data)=some (Rp s d data):=by obtain⟨t,c,f⟩:=kW.appElems n l (kW.new (data0:=data) (data:=[]) (d:=d) (s:=st) (e:=e) (el:=el)) h;rw[List.append_nil]at c;rw[c,f.patch]
section
variable{E:eQ}{h:eV}{ctx:rZ}{L:Nat->St->Nat->List D->Prop}{lf:Lf St (Ex×St)}
theorem Hp{st:St}{d:Nat}{e:TypeId}{h:TI}{el:List LT}{data:List D}{ns:aCt}{k:St->X}(c:Ev (cR ctx) L (YI st d e h el data ns k) lf):∃s,xC st d e h el data ns=some s/\Ev (cR ctx) L (k s) lf:=by
 cases ns with
 |flat ys=>simp only[YI]at c;obtain⟨f,c⟩:=EN c;obtain⟨g,c⟩:=tJ c;exact⟨_,by simp[xC,f,g,ok],c⟩
 |cells n l=>simp only[YI]at c;obtain⟨f,c⟩:=EN c;obtain⟨g,c⟩:=tJ c;obtain⟨s,j,c⟩:=dQ c;exact⟨_,by simp[xC,f,g,Ho j],c⟩
theorem i6{st:St}{d:Nat}{m:TI}{e:TypeId}{l:Option (List LT)}{x r:A}{k:St->X}(c:Ev (cR ctx) L (Rq st d m e l x r k) lf):∃s,HD st d m e l x r=some s/\Ev (cR ctx) L (k s) lf:=by
 unfold Rq at c;split at c
 ·obtain⟨ns,f,c⟩:=dQ c;obtain⟨s,g,c⟩:=Hp c;exact⟨_,by simp[HD,f,g,ok],c⟩
 ·obtain⟨q,h,c⟩:=dQ c;obtain⟨ns,f,c⟩:=dQ c;obtain⟨s1,g,c⟩:=dQ c;obtain⟨s,j,c⟩:=Hp c;exact⟨_,by simp[HD,h,f,g,j,ok],c⟩
 ·obtain⟨q,h,c⟩:=dQ c;obtain⟨t,c⟩:=EN c;obtain⟨ns,f,c⟩:=dQ c;obtain⟨s1,g,c⟩:=dQ c;obtain⟨s,j,c⟩:=Hp c;exact⟨_,by simp only[HD,h,Option.bind_some,t,cond_true,f,g,j];rfl,c⟩
 ·simp[Ev]at c
theorem Wu{st:St}{d:Nat}{t:TypeId}{l:List Operand}{k:St->X}(c:Ev (cR ctx) L (YJ E h st d t l k) lf):∃s,TH E h st d t l=some s/\Ev (cR ctx) L (k s) lf:=by
 unfold YJ at c;split at c
 ·obtain⟨ti,e,c⟩:=dQ c;obtain⟨m,f,c⟩:=dQ c;obtain⟨g,c⟩:=tJ c;obtain⟨s,j,c⟩:=i6 c;exact⟨s,by simp[TH,tyE,e,f,g,j],c⟩
 ·simp[Ev]at c
theorem i7{st:St}{r u:Nat}{p:List (Nat×Nat)}{i j:Nat}{x:A}{k:St->X}(c:Ev (cR ctx) L (Rr st r u p i j x k) lf):∃s,wrLeaf st r u p i j x=some s/\Ev (cR ctx) L (k s) lf:=by
 unfold Rr at c;obtain⟨a,h,c⟩:=dQ c;split at c
 ·exact dQ c
 ·rename_i F t C;cases d:JM p.length a.stale with
  |false=>rw[d]at c;simp[Ev]at c
  |true=>
   rw[d]at c;simp only[Bool.not_true,cond_false]at c;obtain⟨q,l,c⟩:=dQ c;split at c
   ·rename_i f _ _;obtain⟨e,c⟩:=EN c;refine⟨_,?_,c⟩;unfold wrLeaf;simp only[h,Option.bind_some,d,Bool.not_true,cond_false,l,nJ,f,e,Aj,Bool.false_or,cond_true,ok]
   ·rename_i f _ _;cases g:Nat.beq _ r with
    |true=>rw[g]at c;simp[Ev]at c
    |false=>
     rw[g]at c;simp only[cond_false]at c;obtain⟨b,m,c⟩:=dQ c;obtain⟨v,c⟩:=tJ c;split at c
     ·rename_i y;obtain⟨e,c⟩:=EN c;refine⟨_,?_,c⟩;unfold wrLeaf;simp only[h,Option.bind_some,d,Bool.not_true,cond_false,l,nJ,f,g,m,v,y,e,Aj,Bool.false_or,cond_true,ok]
     ·simp[Ev]at c
   ·exact dQ c
theorem Bv{r:Nat}{p:List (Nat×Nat)}{i:Nat}{k:St->X}:∀(l:List A){st:St}{u j:Nat},Ev (cR ctx) L (OE r p i k st u j l) lf->∃s,wrLeaves st r u p i j l=some s/\Ev (cR ctx) L (k s) lf
 |[],st,u,j,c=>⟨st,rfl,c⟩
 |a::l,st,u,j,c=>by simp only[OE]at c;obtain⟨s1,d,c⟩:=i7 c;obtain⟨s,e,c⟩:=Bv l c;exact⟨s,by simp only[wrLeaves,d,Option.bind_some];exact e,c⟩
theorem aBw{st:St}{p v:A}{k:St->X}(c:Ev (cR ctx) L (G5 st p v k) lf):∃s,WZ st p v=some s/\Ev (cR ctx) L (k s) lf:=by
 unfold G5 at c;split at c
 ·exact Bv _ c
 ·exact dQ c
theorem H0{st:St}{n:Nat}{p v:A}{k:St->X}(c:Ev (cR ctx) L (Hl st n p v k) lf):∃s,TK st n p v=some s/\Ev (cR ctx) L (k s) lf:=by unfold Hl at c;obtain⟨d,c⟩:=tJ c;obtain⟨e,c⟩:=tJ c;obtain⟨s,f,c⟩:=aBw c;exact⟨s,by simp only[TK,d,cond_true,lI,e];exact f,c⟩
end
end Go.Eng

namespace Go.Eng
section
variable{E:eQ}{h:eV}{ctx:rZ}{L:Nat->St->Nat->List D->Prop}{lf:Lf St (Ex×St)}
theorem Wv(R gd:Bool)(st:St)(d:Nat)(o:Op)(e:∀c f,o=.call c->c.callee≠.value f):qI E h noC R gd st d o=qI E h ctx R gd st d o:=by
 cases o;case call c=>
  simp only[qI];unfold BR;split
  ·rename_i f hf;exact absurd hf (e c f rfl)
  ·rfl
  ·rfl
 case slice t x lo hi mx=>cases mx<;>rfl
 case makeMap t q=>cases q<;>rfl
 all_goals rfl
theorem xQ{α:Type}{R c:Bool}{x d:α}(e:(!R||c)=true)(hx:Aj false c x=some d):Aj R c x=some d:=by simp only[Aj,Bool.not_false,Bool.true_or,cond_true]at hx;simp only[Aj,e,cond_true,hx]
theorem Lk{R:Bool}{k:Int}{x:A}{ti:TI}{d:A}(h:(!R||aA k ti.fs.length)=true)(hx:BQ E false k x ti=some d):BQ E R k x ti=some d:=by
 unfold BQ at hx⊢;split at hx
 ·rename_i o j l m;obtain⟨r,e,f⟩:=bind_some hx;obtain⟨c,g⟩:=aV f;rw[e];simp only[Bool.not_false,Bool.true_or,Bool.and_true]at c;simp only[Option.bind_some,c,h,Bool.and_true,cond_true];exact g
 ·simp[aF]at hx
theorem Dl{R:Bool}{st:St}{k:Int}{x:A}{ti:TI}{g:A}(d:(!R||G6 st (some ti) x k)=true)(hx:tY E false st k x ti=some g):tY E R st k x ti=some g:=by
 unfold tY at hx⊢;split at hx
 ·obtain⟨c,e⟩:=aV hx;simp only[G6]at d;simp only[c,cond_true];exact xQ d e
 ·obtain⟨q,c,e⟩:=bind_some hx;obtain⟨f,h⟩:=aV e;simp only[G6,c]at d;rw[c];simp only[Option.bind_some,f,cond_true];exact xQ d h
 ·obtain⟨c,e⟩:=aV hx;simp only[G6]at d;simp only[c,cond_true];exact xQ d e
 ·rename_i c e f;have:G6 st (some ti) x k=aA k ti.fs.length:=by
   unfold G6;split
   ·exact(c _ _ _ _ rfl).elim
   ·exact(e _ _ _ rfl).elim
   ·exact(f _ _ _ _ _ rfl).elim
   ·rfl
  rw[this]at d;exact Lk d hx
theorem Hq{α:Type}{st:St}{x:A}{f:A->M α}{c:α}(hx:lI st x f=some c):iK st x=true/\f x=some c:=aV hx
theorem aCV{R:Bool}{op:BinOp}{k h:IntKind}{a b:Int}{c:Bool}{j:A}(d:Wq op (.int h b)=some c)(e:(!R||c)=true)(hx:Pj false op k h a b=some j):Pj R op k h a b=some j:=by
 cases op;case quo=>
  simp only[Wq,Option.some.injEq]at d;subst d;simp only[Pj,Md]at hx⊢;obtain⟨f,g⟩:=aV hx;simp only[f,cond_true];exact xQ e g
 case rem=>
  simp only[Wq,Option.some.injEq]at d;subst d;simp only[Pj,Md]at hx⊢;obtain⟨f,g⟩:=aV hx;simp only[f,cond_true];exact xQ e g
 case shl=>
  simp only[Wq,Option.some.injEq]at d;subst d;simp only[Pj]at hx⊢;exact xQ e hx
 case shr=>
  simp only[Wq,Option.some.injEq]at d;subst d;simp only[Pj]at hx⊢;exact xQ e hx
 all_goals simp[Wq]at d
theorem aCW{R:Bool}{t:TypeId}{op:BinOp}{x d:A}{c:Bool}{z:A}(f:Wq op d=some c)(e:(!R||c)=true)(hx:Zw E false t op x d=some z):Zw E R t op x d=some z:=by
 unfold Zw at hx⊢;split at hx
 ·exact aCV f e hx
 ·exact hx
theorem aCX{R gd:Bool}{st:St}{d:Nat}{o:Op}{c:Bool}{r:tE}(e:Nj E st o=some c)(u:(!R||c)=true)(hx:qI E h noC false gd st d o=some r):qI E h ctx R gd st d o=some r:=by
 cases o;case indexAddr t x i=>
  simp only[Nj]at e;simp only[qI]at hx⊢;unfold rv at hx⊢;obtain⟨a,j,l⟩:=bind_some hx;obtain⟨C,m⟩:=Hq j;split at e
  ·rename_i k n v;simp only[Option.some.injEq]at e;subst e;simp only[v,yS]at m;obtain⟨ti,g,f⟩:=bind_some m;rw[g]at u;have:=Dl u f;simp only[lI,C,cond_true,v,yS,g,Option.bind_some,this];exact l
  ·simp at e
 case index t x i=>
  simp only[Nj]at e;simp only[qI]at hx⊢;unfold rv at hx⊢;obtain⟨a,j,l⟩:=bind_some hx;obtain⟨ti,g,f⟩:=bind_some j;split at e
  ·rename_i s k n H v;simp only[Option.some.injEq]at e;subst e;rw[H,v]at f⊢;simp only[TF]at f;obtain⟨F,G⟩:=aV f;have:=xQ u G;rw[g];simp only[Option.bind_some,TF,F,cond_true,this];exact l
  ·simp at e
 case binOp op t x y cc=>
  simp only[Nj]at e;simp only[qI]at hx⊢;unfold rv at hx⊢;obtain⟨a,j,l⟩:=bind_some hx;obtain⟨C,m⟩:=Hq j;obtain⟨g,f⟩:=Hq m;have:=aCW (R:=R) e u f;simp only[lI,C,g,cond_true,this];exact l
 all_goals simp[Nj]at e
theorem Ww{R gd:Bool}{st:St}{d:Nat}{o:Op}{k:tE->X}(m:∀c f,o=.call c->c.callee≠.value f)(e:Ev (cR ctx) L (Rs E h R gd st d o k) lf):∃r,qI E h ctx R gd st d o=some r/\Ev (cR ctx) L (k r) lf:=by
 unfold Rs at e;split at e
 ·obtain⟨r,g,e⟩:=dQ e;rw[Wv (ctx:=ctx) R gd st d o m]at g;exact⟨r,g,e⟩
 ·rename_i c l;obtain⟨j,e⟩:=EN e;obtain⟨r,g,e⟩:=dQ e;exact⟨r,aCX l j g,e⟩
theorem i9{R gd:Bool}{st:St}{d:Nat}{ti:TI}{l y:Option Int}{x:A}{k:tE->X}(c:Ev (cR ctx) L (Rt h R gd st d ti l y x k) lf):∃r,yT h R gd st d ti l y x=some r/\Ev (cR ctx) L (k r) lf:=by
 unfold Rt at c;split at c
 ·rename_i r u p;obtain⟨G,c⟩:=tJ c;simp only[yT,G,cond_true];cases C:has h.pfx d with
  |true=>
   rw[C]at c;simp only[cond_true]at c⊢;split at c
   ·obtain⟨q,v,c⟩:=dQ c;obtain⟨g,c⟩:=EN c;obtain⟨m,e,c⟩:=dQ c;refine⟨m,?_,c⟩;unfold rv at e⊢;obtain⟨a,f,s⟩:=bind_some e;have:∀n,Pe R st ti.ek r u [] none (some n)=Pe R st ti.ek r u [] none (some n):=λ_=>rfl;simp only[Pe,v,Option.bind_some]at f⊢;obtain⟨t,j⟩:=aV f;simp only[t,cond_true];rw[xQ g j];exact s
   ·obtain⟨q,v,c⟩:=dQ c;obtain⟨g,c⟩:=EN c;obtain⟨m,e,c⟩:=dQ c;refine⟨m,?_,c⟩;unfold rv at e⊢;obtain⟨a,f,s⟩:=bind_some e;simp only[Pe,v,Option.bind_some]at f⊢;obtain⟨t,j⟩:=aV f;simp only[t,cond_true];rw[xQ g j];exact s
   ·simp[Ev]at c
  |false=>
   rw[C]at c;simp only[cond_false]at c⊢;cases F:has h.snap d with
   |true=>rw[F]at c;simp only[cond_true]at c⊢;obtain⟨q,v,c⟩:=dQ c;obtain⟨g,c⟩:=EN c;simp only[Wr]at g;obtain⟨m,e,c⟩:=dQ c;refine⟨m,?_,c⟩;unfold rv at e⊢;obtain⟨a,f,s⟩:=bind_some e;simp only[O5,v,Option.bind_some]at f⊢;obtain⟨t,j⟩:=aV f;simp only[t,cond_true];unfold Eo at j⊢;rw[xQ g j];exact s
   |false=>
    rw[F]at c;simp only[cond_false]at c⊢;cases gd with
    |true=>simp[Ev]at c
    |false=>simp only[cond_false]at c⊢;obtain⟨q,v,c⟩:=dQ c;obtain⟨g,c⟩:=EN c;obtain⟨e,c⟩:=tJ c;obtain⟨s1,f,c⟩:=dQ c;refine⟨_,?_,c⟩;simp only[Wr]at g;simp only[rs,aD9,v,Option.bind_some,g,e,Bool.and_true,cond_true,f];rfl
 ·obtain⟨g,c⟩:=EN c;simp only[Wr]at g;obtain⟨m,e,c⟩:=dQ c;refine⟨m,?_,c⟩;unfold rv at e;obtain⟨a,f,s⟩:=bind_some e;simp only[yT,rv];simp only[KA]at f⊢;obtain⟨t,j⟩:=aV f;simp only[t,cond_true];unfold Eo at j⊢;rw[xQ g j];exact s
 ·obtain⟨g,c⟩:=EN c;simp only[Wr]at g;obtain⟨m,e,c⟩:=dQ c;refine⟨m,?_,c⟩;unfold rv at e;obtain⟨a,f,s⟩:=bind_some e;simp only[yT,rv];simp only[KA]at f⊢;obtain⟨t,j⟩:=aV f;simp only[t,cond_true];rw[xQ g j];exact s
 ·obtain⟨m,e,c⟩:=dQ c;exact⟨m,by simp only[yT];exact e,c⟩
 ·simp[Ev]at c
theorem aBx{R gd:Bool}{st:St}{d:Nat}{t:TypeId}{x:A}{f e:Option A}{k:tE->X}(c:Ev (cR ctx) L (G7 E h R gd st d t x f e k) lf):∃r,TG E h R gd st d t x f e=some r/\Ev (cR ctx) L (k r) lf:=by unfold G7 at c;obtain⟨g,c⟩:=tJ c;obtain⟨ti,j,c⟩:=dQ c;obtain⟨l,m,c⟩:=dQ c;obtain⟨v,s,c⟩:=dQ c;obtain⟨r,u,c⟩:=i9 c;exact⟨r,by simp only[TG,lI,g,cond_true,j,m,s,Option.bind_some,u],c⟩
theorem aEw{R gd:Bool}{st:St}{d:Nat}{op:BinOp}{t:TypeId}{x j:Operand}{l:TypeId}{k:tE->X}(g:Ev (cR ctx) L (aEu E h R gd st d (.binOp op t x j l) op t (dZ st.sl x) (dZ st.sl j) k) lf):∃r,qI E h ctx R gd st d (.binOp op t x j l)=some r/\Ev (cR ctx) L (k r) lf:=by
 unfold aEu at g;split at g
 ·rename_i dep e el xs hx y;obtain⟨m,g⟩:=tJ g;simp only[Ev]at g;rcases g with⟨_,g⟩ |⟨u,g⟩
  ·exact g.elim
  ·obtain⟨r,s,g⟩:=dQ g;refine⟨r,?_,g⟩;cases xs with
   |nil=>simp[Hj]at u
   |cons z C=>simp only[YG,List.tail_cons]at s;simp only[qI,lI];rw[hx]at m;rw[hx,y,m];simp only[cond_true,iK];exact s
 ·exact Ww (λc f v=>by simp at v) g
theorem aCY{gd:Bool}{st:St}{d:Nat}{t:TypeId}{a b:A}{k:tE->X}(c:Ev (cR ctx) L (aBq E h gd st d t a b k) lf):∃r,sC gd (Pp E h st d t a b)=some r/\Ev (cR ctx) L (k r) lf:=by
 unfold aBq at c;cases gd with
 |true=>simp[Ev]at c
 |false=>
  simp only[cond_false]at c;split at c
  ·obtain⟨ti,g,c⟩:=dQ c;obtain⟨l,j,c⟩:=dQ c;obtain⟨f,c⟩:=tJ c;obtain⟨e,c⟩:=EN c;refine⟨_,?_,c⟩;simp only[Bool.and_eq_true]at f e;simp only[sC,cond_false,Pp,tyE,g,j,Option.bind_some,Po,f.1,f.2,e.1,e.2.1,e.2.2,Bool.and_self,cond_true];rfl
  ·simp[Ev]at c
theorem j1{st:St}{d:Nat}{t g:TypeId}{l:List Operand}{k:St->X}(c:Ev (cR ctx) L (Ru E st d t g l k) lf):∃s,NN E st d t g l=some s/\Ev (cR ctx) L (k s) lf:=by
 unfold Ru at c;split at c
 ·rename_i x y;split at c
  ·rename_i n e1 h;obtain⟨ti,j,c⟩:=dQ c;obtain⟨u,m,c⟩:=dQ c;obtain⟨v,r,c⟩:=dQ c;obtain⟨e,c⟩:=tJ c;obtain⟨f,c⟩:=EN c;refine⟨_,?_,c⟩;simp only[Bool.and_eq_true]at e f;simp only[NN,tyE,j,m,r,Option.bind_some,e1,h,Pr,Pq,e.1,e.2.1,e.2.2.1,e.2.2.2,f.1,f.2,Bool.and_self,cond_true];rfl
  ·simp[Ev]at c
 ·simp[Ev]at c
theorem T1{R gd:Bool}{st:St}{d:Nat}{o:Op}{k:tE->X}(e:Ev (cR ctx) L (S4 E h R gd st d o k) lf):∃r,qI E h ctx R gd st d o=some r/\Ev (cR ctx) L (k r) lf:=by
 unfold S4 at e;split at e
 ·rename_i c;split at e
  ·rename_i f hf;obtain⟨r,g,e⟩:=i3 e;refine⟨r,?_,e⟩;simp only[qI,BR];rw[hf];exact g
  ·rename_i hf;cases gd with
   |true=>simp[Ev]at e
   |false=>
    simp only[cond_false]at e;split at e
    ·rename_i t y u;cases g:Nat.beq t y with
     |true=>rw[g]at e;simp only[cond_true]at e;obtain⟨s,j,e⟩:=Wu e;refine⟨_,?_,e⟩;simp only[qI,BR];rw[hf];simp only[iH,cond_false,u,g,cond_true,j,rs];rfl
     |false=>rw[g]at e;simp only[cond_false]at e;obtain⟨s,j,e⟩:=j1 e;refine⟨_,?_,e⟩;simp only[qI,BR];rw[hf];simp only[iH,cond_false,u,g,j,rs];rfl
    ·simp[Ev]at e
  ·rename_i hf _;obtain⟨r,g,e⟩:=dQ e;rw[Wv (ctx:=ctx) R gd st d _ (λc' f l v=>by injection l with l;subst l;exact hf f v)]at g;exact⟨r,g,e⟩
 ·rename_i t n m;obtain⟨r,g,e⟩:=aCY e;exact⟨r,by simp only[qI];exact g,e⟩
 ·rename_i t p x;cases gd with
  |true=>simp[Ev]at e
  |false=>simp only[cond_false]at e;obtain⟨n,g,e⟩:=dQ e;obtain⟨s,j,e⟩:=H0 e;exact⟨_,by simp only[qI,sC,cond_false,g,Option.bind_some,j,rs];rfl,e⟩
 ·obtain⟨r,g,e⟩:=aBx e;exact⟨r,by simp only[qI];exact g,e⟩
 ·exact aEw e
 ·rename_i g j C F G;exact Ww (λc f l=>(g c l).elim) e
theorem VN{i:Nat}{o:Oper}{s:RS}{R gd:Bool}{G:List (Nat×Bool)}{k:RS->X}(c:Ev (cR ctx) L (IF E h i o s R gd G k) lf):∃e,BG E h ctx i o s R gd G=some e/\Ev (cR ctx) L (k e) lf:=by
 unfold IF at c;unfold BG;split at c
 ·rename_i d hd;obtain⟨r,f,c⟩:=T1 c;obtain⟨e,g,c⟩:=dQ c;exact⟨e,by simp only[hd,f,Option.bind_some,g],c⟩
 ·rename_i hd;cases gd with
  |true=>simp[Ev]at c
  |false=>simp only[cond_false]at c;obtain⟨r,f,c⟩:=T1 c;obtain⟨e,g,c⟩:=dQ c;exact⟨e,by simp only[hd,cond_false,f,Option.bind_some,g],c⟩
variable{Tb:BT kH}{it:InX}
def uI(E:eQ)(ctx:rZ)(L:Nat->St->Nat->List D->Prop)(Tb:BT kH)(it:InX):Prop:=
 ∀q s st kk lf,Tb.look q=some s->Ev (λm xs x bs=>ctx m xs=some (x,bs)) L (it q st kk) lf->∃g r,E.ic ctx q=some g/\g.fn=s.fn/\g.np=s.np/\g.run st=some r/\Ev (λm xs x bs=>ctx m xs=some (x,bs)) L (kk r) lf
theorem H1(t:uI E ctx L Tb it){i:Nat}{o:Oper}{s:RS}{d:Nat}{q:InH}{k:RS->X}(e:Ev (cR ctx) L (Hm Tb it i o s d q k) lf):∃h,TN E ctx i o s d q=some h/\Ev (cR ctx) L (k h) lf:=by
 unfold Hm at e;unfold TN;split at e
 ·rename_i c v;split at e
  ·rename_i f hf;split at e
   ·rename_i n caps u;obtain⟨H,j,e⟩:=dQ e;obtain⟨l,e⟩:=tJ e;unfold aBr at e;obtain⟨m,e⟩:=tJ e;obtain⟨g,r,y,C,F,G,e⟩:=t _ _ _ _ _ j e;refine⟨_,?_,e⟩;rw[v];simp only[hf,u,nJ,y,Option.bind_some,C,l,cond_true,aAv,F,m,G];rfl
   ·simp[Ev]at e
  ·simp[Ev]at e
 ·simp[Ev]at e
theorem Hr(r:uI E ctx L Tb it){i:Nat}{o:Oper}{s:RS}{R gd:Bool}{G:List (Nat×Bool)}{k:RS->X}(d:Ev (cR ctx) L (VK E h Tb it i o s R gd G k) lf):∃e,AN E h ctx i o s R gd G=some e/\Ev (cR ctx) L (k e) lf:=by
 unfold VK at d;unfold AN;cases m:JQ h o with
 |none=>
  rw[m]at d;simp only at d⊢;cases j:ckP h i o with
  |nil=>rw[j]at d;exact VN d
  |cons c l=>
   rw[j]at d;simp only at d⊢;cases gd with
   |true=>simp[Ev]at d
   |false=>
    simp only[cond_false]at d⊢;obtain⟨e,f,d⟩:=VN d;simp only[Ev]at d;rcases d with⟨g,d⟩ |⟨_,d⟩
    ·exact⟨e,by simp only[f,Option.bind_some,ckS,g,cond_true,ok],d⟩
    ·exact d.elim
 |some q=>
  rw[m]at d;simp only at d⊢;cases gd with
  |true=>simp[Ev]at d
  |false=>simp only[cond_false]at d⊢;obtain⟨e,f,d⟩:=H1 r d;obtain⟨g,d⟩:=tJ d;exact⟨e,by simp only[f,Option.bind_some,ckS,g,cond_true,ok],d⟩
theorem j2(j:uI E ctx L Tb it){i:Nat}{o:Oper}{s:RS}{k:RS->X}(c:Ev (cR ctx) L (Rv E h Tb it i o s k) lf):∃d,QM E h ctx i o s=some d/\Ev (cR ctx) L (k d) lf:=by
 unfold Rv at c;unfold QM;split at c
 ·rename_i hg;obtain⟨e,c⟩:=tJ c;obtain⟨d,f,c⟩:=Hr j c;exact⟨d,by simp only[hg,e,cond_true,f],c⟩
 ·rename_i p hg;obtain⟨g,e,c⟩:=dQ c;unfold S5 at c;obtain⟨f,c⟩:=tJ c;obtain⟨d,l,c⟩:=Hr j c;exact⟨d,by simp only[hg,e,nJ,Option.bind_some,Pu,f,cond_true,l],c⟩
theorem Hs(d:uI E ctx L Tb it){k:RS->X}:∀(l:List (Nat×Oper)){s:RS},Ev (cR ctx) L (VL E h Tb it k l s) lf->∃e,HI E h ctx l s=some e/\Ev (cR ctx) L (k e) lf
 |[],s,c=>⟨s,rfl,c⟩
 |p::l,s,c=>by simp only[VL]at c;obtain⟨s1,f,c⟩:=j2 d c;obtain⟨j,g,c⟩:=Hs d l c;exact⟨j,by simp only[HI,f,Option.bind_some,g],c⟩
theorem aBy(e:uI E ctx L Tb it){ops:List (Nat×Oper)}{st:St}{k:Ex×St->X}(c:Ev (cR ctx) L (aCU E h Tb it ops st k) lf):∃r,XI E h ctx ops st=some r/\Ev (cR ctx) L (k r) lf:=by unfold aCU at c;obtain⟨s,d,c⟩:=Hs e ops c;exact⟨_,by simp only[XI,d,Option.bind_some];rfl,c⟩
theorem T2(d:uI E ctx L Tb it){id:Nat}{ops:Array Oper}{st:St}{r:Ex×St}{k:Ex×St->X}:∀(os:List (List Nat)),Ev (cR ctx) L (S6 E h Tb it id ops st r k os) lf->∃q,Aq E h ctx id ops st r os=some q/\Ev (cR ctx) L (k q) lf
 |[],c=>⟨r,rfl,c⟩
 |o::os,c=>by
  simp only[S6]at c;obtain⟨q,e,c⟩:=aBy d c;obtain⟨m,f,c⟩:=dQ c;simp only[Ev]at c;rcases c with⟨g,c⟩ |⟨_,c⟩
  ·obtain⟨l,j,c⟩:=T2 d os c;exact⟨l,by simp only[Aq,e,Option.bind_some,f,g,cond_true,j],c⟩
  ·exact c.elim
theorem aCZ(e:uI E ctx L Tb it){id:Nat}{ops:Array Oper}{st:St}{r:Ex×St}{k:Ex×St->X}(c:Ev (cR ctx) L (aBs E h Tb it id ops st r k) lf):
  ∃q,(match Ap h id with
   |none=>ok r
   |some q=>Aq E h ctx id ops st r q.2)=some q/\Ev (cR ctx) L (k q) lf:=by
 unfold aBs at c;cases d:Ap h id with
 |none=>rw[d]at c;exact⟨r,rfl,c⟩
 |some q=>rw[d]at c;exact T2 e q.2 c
def rJ(Q:Nat->Code->Prop):Nat->Code->Prop
 |b,.seq x c=>rJ Q b x/\rJ Q b c
 |b,.cond _ x c=>rJ Q b x/\rJ Q b c
 |_,.block id x=>rJ Q id x
 |b,.loop x=>Q b x
 |b,.scope x=>rJ Q b x
 |_,_=>True
variable{T:Nat->List (List D->Ex×St)}{k:Nat}
def VO(E:eQ)(h:eV)(ctx:rZ)(k:Nat)(L:Nat->St->Nat->List D->Prop)(lb:Nat)(T:Nat->List (List D->Ex×St))(b:Nat)(x:Code):Prop:=
 ∀st s i ds t,FV (look h.heads b) st=some s->L (lb+b) s i ds->(T (lb+b))[i]?=some t->JY E h ctx k b (.loop x) st=some (t ds)
theorem T3{kk:Ex×St->X}{ds:List D}:∀(ts:List (List D->Ex×St))(i:Nat),Kz (λm xs x bs=>ctx m xs=some (x,bs)) L (Nk kk ts) i ds lf->∃t,ts[i]?=some t/\Ev (cR ctx) L (kk (t ds)) lf
 |[],i,c=>by simp[Nk,Kz]at c
 |t::ts,0,c=>⟨t,rfl,by simpa[Nk,Kz]using c⟩
 |t::ts,i+1,c=>by simp only[Nk,Kz]at c;exact T3 ts i c
theorem IG(g:uI E ctx L Tb it){lb:Nat}:∀(c:Code){b:Nat}{st:St}{kk:Ex×St->X},rJ (VO E h ctx k L lb T) b c->Ev (cR ctx) L (FK E h Tb it lb T b c st kk) lf->∃r,JY E h ctx k b c st=some r/\Ev (cR ctx) L (kk r) lf
 |.skip,b,st,kk,_,d=>⟨_,rfl,d⟩
 |.region id ops C,b,st,kk,_,d=>by simp only[FK]at d;obtain⟨r,j,d⟩:=aBy g d;obtain⟨v,l,d⟩:=dQ d;obtain⟨y,m,d⟩:=aCZ g d;exact⟨y,by simp only[JY,P2,j,Option.bind_some,l];exact m,d⟩
 |.seq x u,b,st,kk,f,d=>by
  simp only[FK]at d;obtain⟨r,j,d⟩:=IG g x f.1 d;simp only[JY,j,Option.bind_some];unfold aDU at d;unfold Ul;obtain⟨e,s⟩:=r;cases e with
  |norm=>exact IG g u f.2 d
  |ret=>exact⟨_,rfl,d⟩
  |exit id=>exact⟨_,rfl,d⟩
 |.cond c x u,b,st,kk,f,d=>by
  simp only[FK]at d;simp only[JY];unfold aDT at d;unfold aAx;cases hv:dZ st.sl c with
  |bool t=>
   rw[hv]at d;simp only[Ev]at d;rcases d with⟨rfl,d⟩ |⟨rfl,d⟩
   ·simp only[cond_true];exact IG g x f.1 d
   ·simp only[cond_false];exact IG g u f.2 d
  |_=>rw[hv]at d;simp[Ev]at d
 |.block id x,b,st,kk,f,d=>by simp only[FK]at d;obtain⟨r,j,d⟩:=IG g x (b:=id) f d;obtain⟨v,l,d⟩:=dQ d;exact⟨v,by simp only[JY,j,Option.bind_some,l],d⟩
 |.loop x,b,st,kk,f,d=>by simp only[FK]at d;obtain⟨s,j,d⟩:=dQ d;simp only[Ev]at d;obtain⟨i,ds,l,d⟩:=d;obtain⟨t,m,d⟩:=T3 _ _ d;exact⟨_,f st s i ds t j l m,d⟩
 |.exit id,b,st,kk,_,d=>⟨_,rfl,d⟩
 |.ret,b,st,kk,_,d=>⟨_,rfl,d⟩
 |.rangeFunc ..,_,_,_,_,d=>by simp[FK,Ev]at d
 |.scope x,b,st,kk,f,d=>by simp only[FK]at d;simp only[JY];exact IG g x (b:=b) f d
 |.label _,b,st,kk,_,d=>⟨_,rfl,d⟩
 |.goto _,_,_,_,_,d=>by simp[FK,Ev]at d
 |.refuse _,_,_,_,_,d=>by simp[FK,Ev]at d
theorem aBz(l:uI E ctx L Tb it){lb b:Nat}{x:Code}{s:St}(m:rJ (VO E h ctx k L lb T) b x)(c:Ev (cR ctx) L (YK E h Tb it lb T b x s) lf):
  (∃s1 f,JY E h ctx k b x s=some (.norm,s1)/\FV (look h.heads b) s1=some f/\lf=.again f)\/
  (∃r t,JY E h ctx k b x s=some r/\(∀g,KJ g r=some r)/\A1 (look h.ends b) r=some t/\lf=.out t):=by
 unfold YK at c;obtain⟨r,j,c⟩:=IG l x m c;obtain⟨e,s1⟩:=r;cases e with
 |norm=>obtain⟨f,d,c⟩:=dQ c;exact .inl ⟨s1,f,j,d,c⟩
 |ret=>obtain⟨t,d,c⟩:=dQ c;exact .inr ⟨_,t,j,λ_=>rfl,d,c⟩
 |exit id=>obtain⟨t,d,c⟩:=dQ c;exact .inr ⟨_,t,j,λ_=>rfl,d,c⟩
theorem T4(m:uI E ctx L Tb it){f:Func}{c:Code}{s:EC}{ds:List D}(t:rJ (VO E h ctx k L 0 T) 0 c)(d:Ev (cR ctx) L (Nl E h Tb it T f c s ds) lf):∃r:D×List D,Ml E ctx k f c s h ds=some r/\lf=.ret r.1 r.2:=by unfold Nl at d;obtain⟨st,g,d⟩:=dQ d;obtain⟨r,j,d⟩:=IG m c t d;obtain⟨q,l,d⟩:=dQ d;refine⟨q,?_,d⟩;unfold Ml;rw[g];simp only[Option.bind_some];unfold KK;rw[j];simp only[Option.bind_some];obtain⟨e,u⟩:=r;cases e<;>exact l
end
end Go.Eng

namespace Go.Eng
def iS(E:eQ)(B:kV)(Tb:BT kH)(m:Nat)(xs:List D)(x:D)(bs:List D):Prop:=∃N,∀k n L,N<=k->N<=n->N<=L->qK (wZ E k Tb L) B (Eb E) k n m xs=some (x,bs)
structure FD where
 f:Func
 h:eV
 c:Code
 s:EC
 F:Fn
 S:aBt
 T:d9
def Fn.lp(F:Fn)(b:Nat)(p:List D):Sh:=
 match look F.lps b with
 |some g=>g p
 |none=>.bad
def T5(E:eQ)(h:eV)(ctx:rZ)(k b:Nat)(x:Code)(q:Nat)(s:St):M (Ex×St):=
 ((JY E h ctx k b x s).bind (KJ (TS (JY E h ctx k b x) (FV (Go.Eng.look h.heads b)) q))).bind (A1 (Go.Eng.look h.ends b))
structure LAt where
 h:eV
 c:Code
 b:Nat
 lb:Nat
def kA(d:FD)(Tb:BT kH)(n:Nat):LAt:=
 bif Nat.ble 1000 n then
  match Tb.look (n/1000-1)with
  |some s=>⟨s.h,s.c,n%1000,n/1000*1000⟩
  |none=>⟨d.h,d.c,n,0⟩
 else⟨d.h,d.c,n,0⟩
def PB(E:eQ)(B:kV)(Tb:BT kH)(d:FD)(b:Nat)(ps:List D)(i:Nat)(ds:List D):Prop:=
 ∃N,∀k n q L L0,N<=k->N<=n->N<=q->N<=L->N<=L0->T5 (wZ E k Tb L) (kA d Tb b).h (qK (wZ E k Tb L0) B (Eb E) k n) k (kA d Tb b).b (sK (kA d Tb b).b (kA d Tb b).c) q (Rx d.S b ps)=some (Nm d.T b (i,ds))
abbrev Ll:Nat:=4
def LR(c:Code):Prop:=∃bs:List Nat,dF 0 c=bs.map (λb=>(b,sK b c))/\BM (λb=>Nat.ble (b+1) 1000) bs=true
def siteLoopB(Tb:BT kH)(n:Nat):Bool:=
 match Tb.look (n/1000-1)with
 |some s=>has ((dF 0 s.c).map λq=>q.1) (n%1000)
 |none=>false
structure AU(E:eQ)(B:kV)(Tb:BT kH)(m:Nat)(d:FD):Prop where
 look:B.look m=some (d.f,d.h)
 sig:E.sg.look m=some d.s
 body:d.f.body=some d.c
 loops:dF 0 d.c=d.F.bs.map λb=>(b,sK b d.c)
 small:BM (λb=>Nat.ble (b+1) 1000) d.F.bs=true
 sub:BM (λq=>Nat.ble 1000 q.1||has d.F.bs q.1) d.F.lps=true
 sites:∀q s,Tb.look q=some s->LR s.c
 inSite:BM (λq=>Nat.ble (q.1+1) 1000||siteLoopB Tb q.1) d.F.lps=true
 ns:Nat.beq m E.srt=false
 main:∀x,Nl E d.h Tb (itN E Tb (tOf d.T) Ll) (tOf d.T) d.f d.c d.s (Hk x 0 d.F.np)=(d.F.main x).up d.S d.T 0
 round:∀b g,Go.Eng.look d.F.lps b=some g->∀p,YK E (kA d Tb b).h Tb (itN E Tb (tOf d.T) Ll) (kA d Tb b).lb (tOf d.T) (kA d Tb b).b (sK (kA d Tb b).b (kA d Tb b).c) (Rx d.S b p)=(g p).up d.S d.T b
theorem aBA{α:Type}{Q:Nat->α->Prop}:∀b g,look ([]:List (Nat×α)) b=some g->Q b g:=λb g h=>by simp[look]at h
theorem H2{α:Type}{Q:Nat->α->Prop}{b0:Nat}{d:α}{l:List (Nat×α)}(e:Q b0 d)(f:∀b g,look l b=some g->Q b g):∀b g,look ((b0,d)::l) b=some g->Q b g:=λb g h=>by
 simp only[look]at h;cases c:Nat.beq b0 b with
 |true=>rw[c]at h;simp only[cond_true,Option.some.injEq]at h;rw[<-Nat.eq_of_beq_eq_true c,<-h];exact e
 |false=>rw[c]at h;exact f b g h
section
variable{E:eQ}{B:kV}{Tb:BT kH}{d:FD}
def Lf.up(S:aBt)(T:d9)(b0:Nat):Lf (List D) (Nat×List D)->Lf St (Ex×St)
 |.ret x bs=>.ret x bs
 |.again ps=>.again (Rx S b0 ps)
 |.out t=>.out (Nm T b0 t)
def LK(E:eQ)(B:kV)(Tb:BT kH)(d:FD)(N k n L0:Nat)(b:Nat)(s:St)(i:Nat)(ds:List D):Prop:=
 ∀L st,N<=L->FV (look (kA d Tb b).h.heads (kA d Tb b).b) st=some s->JY (wZ E k Tb L) (kA d Tb b).h (qK (wZ E k Tb L0) B (Eb E) k n) k (kA d Tb b).b (.loop (sK (kA d Tb b).b (kA d Tb b).c)) st=some (Nm d.T b (i,ds))
theorem PB.LK{b:Nat}{ps:List D}{i:Nat}{ds:List D}(h:PB E B Tb d b ps i ds):∃N,∀M k n L0,N<=M->N<=k->N<=n->N<=L0->LK E B Tb d M k n L0 b (Rx d.S b ps) i ds:=by obtain⟨N,e⟩:=h;refine⟨N+1,λM k n L0 l m r j L st g f=>?_⟩;obtain⟨c,rfl⟩:∃c,k=c+1:=⟨k-1,by omega⟩;have:=e (c+1) n c L L0 (by omega) (by omega) (by omega) (by omega) (by omega);unfold T5 at this;simp only[JY,TS];rw[f];simp only[Option.bind_some];exact this
abbrev sA(E:eQ)(B:kV)(Tb:BT kH)(d:FD)(t:Sh)(lf:Lf (List D) (Nat×List D)):Prop:=Ev (iS E B Tb) (PB E B Tb d) t lf
abbrev EvK(E:eQ)(B:kV)(Tb:BT kH)(d:FD)(M k n L:Nat)(t:X)(lf:Lf St (Ex×St)):Prop:=Ev (λm xs x bs=>qK (wZ E k Tb L) B (Eb E) k n m xs=some (x,bs)) (LK E B Tb d M k n L) t lf
mutual
theorem trans(b0:Nat):∀(t:Sh){lf:Lf (List D) (Nat×List D)},sA E B Tb d t lf->∃N,∀M k n L,N<=M->N<=k->N<=n->N<=L->EvK E B Tb d M k n L (t.up d.S d.T b0) (lf.up d.S d.T b0)
 |.ret x bs,lf,c=>by simp only[sA,Ev]at c;subst c;exact⟨0,λM k n L _ _ _ _=>by simp only[Sh.up,IX.map,Lf.up,EvK,Ev]⟩
 |.again s,lf,c=>by simp only[sA,Ev]at c;subst c;exact⟨0,λM k n L _ _ _ _=>by simp only[Sh.up,IX.map,Lf.up,EvK,Ev]⟩
 |.out t,lf,c=>by simp only[sA,Ev]at c;subst c;exact⟨0,λM k n L _ _ _ _=>by simp only[Sh.up,IX.map,Lf.up,EvK,Ev]⟩
 |.bad,lf,c=>by simp[sA,Ev]at c
 |.ask b p q,lf,c=>by
  simp only[sA,Ev]at c;rcases c with⟨e,c⟩ |⟨e,c⟩
  ·obtain⟨N,f⟩:=trans b0 p c;exact⟨N,λM k n L h j l g=>by simp only[Sh.up,IX.map,EvK,Ev];exact .inl ⟨e,f M k n L h j l g⟩⟩
  ·obtain⟨N,f⟩:=trans b0 q c;exact⟨N,λM k n L h j l g=>by simp only[Sh.up,IX.map,EvK,Ev];exact .inr ⟨e,f M k n L h j l g⟩⟩
 |.call m xs nb kk,lf,c=>by simp only[sA,Ev]at c;obtain⟨x,bs,⟨r,e⟩,u,c⟩:=c;obtain⟨N,f⟩:=trans b0 (kk x bs) c;exact⟨max N r,λM k n L h j l g=>by simp only[Sh.up,IX.map,EvK,Ev];exact⟨x,bs,e k n L (by omega) (by omega) (by omega),u,f M k n L (by omega) (by omega) (by omega) (by omega)⟩⟩
 |.loop b s ks,lf,c=>by simp only[sA,Ev]at c;obtain⟨i,ds,e,c⟩:=c;obtain⟨r,e⟩:=e.LK;obtain⟨N,f⟩:=aBB b0 ks c;exact⟨max N r,λM k n L h j l g=>by simp only[Sh.up,IX.map,EvK,Ev];exact⟨i,ds,e M k n L (by omega) (by omega) (by omega) (by omega),f M k n L (by omega) (by omega) (by omega) (by omega)⟩⟩
theorem aBB(b0:Nat):∀(ks:Ri (List D) (Nat×List D)){i:Nat}{ds:List D}{lf:Lf (List D) (Nat×List D)},Kz (iS E B Tb) (PB E B Tb d) ks i ds lf->∃N,∀M k n L,N<=M->N<=k->N<=n->N<=L->Kz (λm xs x bs=>qK (wZ E k Tb L) B (Eb E) k n m xs=some (x,bs)) (LK E B Tb d M k n L) (ks.map (Rx d.S) b0 (Nm d.T b0)) i ds (lf.up d.S d.T b0)
 |.nil,i,ds,lf,c=>by simp[Kz]at c
 |.cons kk ks,0,ds,lf,c=>by simp only[Kz]at c;obtain⟨N,g⟩:=trans b0 (kk ds) c;exact⟨N,λM k n L f h j e=>by simp only[Ri.map,Kz];exact g M k n L f h j e⟩
 |.cons kk ks,i+1,ds,lf,c=>by simp only[Kz]at c;obtain⟨N,g⟩:=aBB b0 ks c;exact⟨N,λM k n L f h j e=>by simp only[Ri.map,Kz];exact g M k n L f h j e⟩
end
theorem kM{Q:Nat->Code->Prop}:∀(c:Code)(b:Nat),(∀q∈dF b c,Q q.1 q.2)->rJ Q b c
 |.seq x e,b,h=>⟨kM x b λq d=>h q (by simp[dF,d]),kM e b λq d=>h q (by simp[dF,d])⟩
 |.cond c x e,b,h=>⟨kM x b λq d=>h q (by simp[dF,d]),kM e b λq d=>h q (by simp[dF,d])⟩
 |.block id x,b,h=>kM x id h
 |.loop x,b,h=>h (b,x) (by simp[dF])
 |.skip,_,_=>trivial
 |.region ..,_,_=>trivial
 |.exit _,_,_=>trivial
 |.ret,_,_=>trivial
 |.rangeFunc ..,_,_=>trivial
 |.scope x,b,h=>kM x b h
 |.label _,_,_=>trivial
 |.goto _,_,_=>trivial
 |.refuse _,_,_=>trivial
theorem pS:∀(c:Code)(b:Nat)(q:Nat×Code),q∈dF b c->∀e∈dF q.1 q.2,e∈dF b c
 |.seq x g,b,q,d,e,f=>by
  simp only[dF,List.mem_append]at d⊢;rcases d with d |d
  ·exact .inl (pS x b q d e f)
  ·exact .inr (pS g b q d e f)
 |.cond c x g,b,q,d,e,f=>by
  simp only[dF,List.mem_append]at d⊢;rcases d with d |d
  ·exact .inl (pS x b q d e f)
  ·exact .inr (pS g b q d e f)
 |.block id x,b,q,d,e,f=>pS x id q d e f
 |.loop x,b,q,d,e,f=>by
  simp only[dF,List.mem_cons]at d⊢;rcases d with rfl |d
  ·exact .inr f
  ·exact .inr (pS x b q d e f)
 |.skip,_,_,d,_,_=>by simp[dF]at d
 |.region ..,_,_,d,_,_=>by simp[dF]at d
 |.exit _,_,_,d,_,_=>by simp[dF]at d
 |.ret,_,_,d,_,_=>by simp[dF]at d
 |.rangeFunc ..,_,_,d,_,_=>by simp[dF]at d
 |.scope x,b,q,d,e,f=>pS x b q d e f
 |.label _,_,_,d,_,_=>by simp[dF]at d
 |.goto _,_,_,d,_,_=>by simp[dF]at d
 |.refuse _,_,_,d,_,_=>by simp[dF]at d
theorem aC0(E:eQ)(k:Nat)(T:BT kH):∀n,FK (wZ E k T n)=FK E
 |0=>by kernel_rfl
 |n+1=>by kernel_rfl
theorem j3(E:eQ)(k:Nat)(T:BT kH):∀n,YK (wZ E k T n)=YK E
 |0=>by kernel_rfl
 |n+1=>by kernel_rfl
theorem Wx(E:eQ)(k:Nat)(T:BT kH):∀n,Nl (wZ E k T n)=Nl E
 |0=>by kernel_rfl
 |n+1=>by kernel_rfl
theorem H3(E:eQ)(k:Nat)(T:BT kH):∀n,jL (wZ E k T n)=jL E
 |0=>by kernel_rfl
 |n+1=>by kernel_rfl
theorem Rz{n:Nat}(h:n<1000):kA d Tb n=⟨d.h,d.c,n,0⟩:=by
 unfold kA;cases c:Nat.ble 1000 n with
 |true=>have:=Nat.le_of_ble_eq_true c;omega
 |false=>rfl
theorem Sa{q b:Nat}{s:kH}(e:Tb.look q=some s)(f:b<1000):kA d Tb (1000*(q+1)+b)=⟨s.h,s.c,b,1000*(q+1)⟩:=by
 unfold kA;rw[Nat.ble_eq_true_of_le (show 1000<=1000*(q+1)+b by omega)];simp only[cond_true];have e1:(1000*(q+1)+b)/1000=q+1:=by omega
 have c:(1000*(q+1)+b)%1000=b:=by omega
 rw[e1,c,Nat.add_sub_cancel,e];simp only[LAt.mk.injEq,true_and];omega
theorem Ec{h:eV}{c:Code}{lb M k n L0 L:Nat}(m:M<=L)(f:∀b,b<1000->kA d Tb (lb+b)=⟨h,c,b,lb⟩){bs:List Nat}(u:dF 0 c=bs.map λb=>(b,sK b c))(v:BM (λb=>Nat.ble (b+1) 1000) bs=true){q:Nat×Code}(e:q∈dF 0 c):
  VO (wZ E k Tb L) h (qK (wZ E k Tb L0) B (Eb E) k n) k (LK E B Tb d M k n L0) lb (tOf d.T) q.1 q.2:=by
 rw[u]at e;simp only[List.mem_map]at e;obtain⟨b,r,rfl⟩:=e;have y:=Nat.le_of_ble_eq_true (HV v b r);intro st s i ds t g j l;have:=j L st m (by rw[f b (by omega)];exact g);rw[f b (by omega)]at this;simp only[Nm]at this;simp only;rw[this];simp[List.getD_eq_getElem?_getD,l]
theorem VP(j:∀q s,Tb.look q=some s->LR s.c){M k n L0:Nat}:∀(D L:Nat),M+D<=L->uI (wZ E k Tb L) (qK (wZ E k Tb L0) B (Eb E) k n) (LK E B Tb d M k n L0) Tb (itN E Tb (tOf d.T) D)
 |0,L,_=>λq s st kk lf _ c=>by simp[itN,Ev]at c
 |D+1,L,H=>by
  obtain⟨e,rfl⟩:∃e,L=e+1:=⟨L-1,by omega⟩;have G:=VP j (M:=M) (k:=k) (n:=n) (L0:=L0) D e (by omega);intro q s st kk lf h c;simp only[itN,h]at c;obtain⟨bs,v,y⟩:=j q s h;rw[<-aC0 E k Tb e]at c;obtain⟨r,t,c⟩:=IG G (k:=k) s.c (kM _ _ λJ F=>Ec (L:=e) (by omega) (λb u=>Sa h u) v y F) c;obtain⟨ex,st1⟩:=r;have C:∃as,jL E st1 s.f.results.toList=some as/\(ex=.norm\/ex=.ret)/\Ev (λm xs x bs=>qK (wZ E k Tb L0) B (Eb E) k n m xs=some (x,bs)) (LK E B Tb d M k n L0) (kk (Lj as,st1)) lf:=by
   cases ex with
   |norm=>obtain⟨as,f,g⟩:=dQ c;exact⟨as,f,.inl rfl,g⟩
   |ret=>obtain⟨as,f,g⟩:=dQ c;exact⟨as,f,.inr rfl,g⟩
   |exit id=>simp[Ev]at c
  obtain⟨as,f,g,l⟩:=C;refine⟨{fn:=s.fn,np:=s.np,run:=Hg (wZ E k Tb e) (qK (wZ E k Tb L0) B (Eb E) k n) k s},(Lj as,st1),by simp[wZ,aEn,h],rfl,rfl,?_,l⟩;simp only[Hg];rw[t];simp only[Option.bind_some];rw[H3,f];rcases g with rfl |rfl<;>rfl
theorem bA{m:Nat}(c:AU E B Tb m d)(hf:d.h.fork=false){xs:List D}{x:D}{bs:List D}(hx:Hk xs 0 d.F.np=xs)(t:sA E B Tb d (d.F.main xs) (.ret x bs)):iS E B Tb m xs x bs:=by obtain⟨N,l⟩:=trans 0 _ t;refine⟨N+Ll+1,λk n L y C v=>?_⟩;obtain⟨n',rfl⟩:∃n',n=n'+1:=⟨n-1,by omega⟩;have f:=l N k n' L (by omega) (by omega) (by omega) (by omega);rw[<-c.main,hx,<-Wx E k Tb L]at f;obtain⟨r,h,e⟩:=T4 (VP c.sites Ll L (by omega)) (k:=k) (kM _ _ λq u=>Ec (L:=L) (by omega) (λb s=>by rw[Nat.zero_add];exact Rz s) c.loops c.small u) f;simp only[Lf.up]at e;injection e with e j;have g:=c.sig;rw[<-EM E k Tb L]at g;simp only[qK,Eb,c.ns,cond_false,c.look,g,c.body,hf,cond_false,h,e,j]
theorem aC1{m:Nat}(c:AU E B Tb m d)(hf:d.h.fork=true){t:TypeId}(J:d.s.ps=[(t,.ro)]){l:List D}{x:D}{bs:List D}(hx:d.F.np=1)
  (u:∀st,eI E 0 d.s.ps [.l l] {sl:=.nil,bx:=[],ar:=[],ctr:=1}=some st->∀g,Px g st (st.sl.get 0)=g st)(H:sA E B Tb d (d.F.main [.l l]) (.ret x bs)):iS E B Tb m [.l l] x bs:=by
 obtain⟨N,F⟩:=trans 0 _ H;refine⟨N+Ll+1,λk n L Q T P=>?_⟩;obtain⟨n',rfl⟩:∃n',n=n'+1:=⟨n-1,by omega⟩;have h:=F N k n' L (by omega) (by omega) (by omega) (by omega);rw[<-c.main,hx,<-Wx E k Tb L]at h;have e:Hk [D.l l] 0 1=[.l l]:=rfl;rw[e]at h;obtain⟨r,v,f⟩:=T4 (VP c.sites Ll L (by omega)) (k:=k) (kM _ _ λq K=>Ec (L:=L) (by omega) (λb G=>by rw[Nat.zero_add];exact Rz G) c.loops c.small K) h;simp only[Lf.up]at f;injection f with f y;have s:=c.sig;rw[<-EM E k Tb L]at s;simp only[qK,Eb,c.ns,cond_false,c.look,s,c.body,hf,cond_true];have C:Uo (wZ E k Tb L) (qK (wZ E k Tb L) B (Eb E) k n') k d.f d.c d.s d.h [.l l]=Ml (wZ E k Tb L) (qK (wZ E k Tb L) B (Eb E) k n') k d.f d.c d.s d.h [.l l]:=by
  unfold Uo Ml;rw[J]at u⊢;simp only;cases j:eI (wZ E k Tb L) 0 [(t,PM.ro)] [D.l l] {sl:=.nil,bx:=[],ar:=[],ctr:=1}with
  |none=>rfl
  |some st=>rw[Hh]at j;simp only[Option.bind_some];exact u st j _
 rw[C,v,f,y]
theorem aC2{F:Fn}{b:Nat}{g:List D->Sh}(h:look F.lps b=some g):(b,g)∈F.lps:=by
 have:∀l:List (Nat×(List D->Sh)),look l b=some g->(b,g)∈l:=by
  intro l;induction l with
  |nil=>intro h;simp[look]at h
  |cons p l e=>
   intro h;simp only[look]at h;cases c:Nat.beq p.1 b with
   |true=>
    rw[c]at h;simp only[cond_true,Option.some.injEq]at h;have d:=Nat.eq_of_beq_eq_true c;have:p=(b,g):=by rw[<-d,<-h]
    rw[this];exact List.mem_cons_self
   |false=>rw[c]at h;exact List.mem_cons_of_mem _ (e h)
 exact this _ h
theorem AU.at{m:Nat}(h:AU E B Tb m d){n:Nat}(r:1000<=n){g:List D->Sh}(hg:(n,g)∈d.F.lps):∃(s:kH)(bs:List Nat),Tb.look (n/1000-1)=some s/\dF 0 s.c=bs.map (λb=>(b,sK b s.c))/\n%1000∈bs:=by
 have c:=HV h.inSite _ hg;simp only[Bool.or_eq_true]at c;rcases c with c |c
 ·have:=Nat.le_of_ble_eq_true c;omega
 ·unfold siteLoopB at c;split at c
  ·rename_i s j;obtain⟨bs,f,l⟩:=h.sites _ s j;refine⟨s,bs,j,f,?_⟩;rw[f]at c;have e:(bs.map (λb=>(b,sK b s.c))).map (λq=>q.1)=bs:=by
    rw[List.map_map];exact List.map_id'' (λ_=>rfl) _
   rw[e]at c;exact HZ.1 c
  ·simp at c
theorem aBC{m:Nat}(c:AU E B Tb m d){b:Nat}{ps:List D}{lf:Lf (List D) (Nat×List D)}(F:sA E B Tb d (d.F.lp b ps) lf):∃N,∀k n L L0,N<=k->N<=n->N<=L->N<=L0->
  (∃s1 H,JY (wZ E k Tb L) (kA d Tb b).h (qK (wZ E k Tb L0) B (Eb E) k n) k (kA d Tb b).b (sK (kA d Tb b).b (kA d Tb b).c) (Rx d.S b ps)=some (.norm,s1)/\FV (look (kA d Tb b).h.heads (kA d Tb b).b) s1=some H/\lf.up d.S d.T b=.again H)\/
  (∃r t,JY (wZ E k Tb L) (kA d Tb b).h (qK (wZ E k Tb L0) B (Eb E) k n) k (kA d Tb b).b (sK (kA d Tb b).b (kA d Tb b).c) (Rx d.S b ps)=some r/\(∀g,KJ g r=some r)/\A1 (look (kA d Tb b).h.ends (kA d Tb b).b) r=some t/\lf.up d.S d.T b=.out t):=by
 obtain⟨N,U⟩:=trans b _ F;refine⟨N+Ll,λk n L L0 a9 b0 a6 a7=>?_⟩;have y:=U N k n L0 (by omega) (by omega) (by omega) (by omega);cases f:look d.F.lps b with
 |none=>simp only[Fn.lp,f,sA,Ev]at F
 |some g=>
  have hg:=aC2 f;have Y:d.F.lp b ps=g ps:=by simp only[Fn.lp,f]
  rw[Y,<-c.round _ _ f,<-j3 E k Tb L]at y;have a0:∃bs:List Nat,dF 0 (kA d Tb b).c=bs.map (λb'=>(b',sK b' (kA d Tb b).c))/\BM (λb'=>Nat.ble (b'+1) 1000) bs=true/\(kA d Tb b).b∈bs/\(∀b',b'<1000->kA d Tb ((kA d Tb b).lb+b')=⟨(kA d Tb b).h,(kA d Tb b).c,b',(kA d Tb b).lb⟩):=by
   by_cases V:b<1000
   ·rw[Rz V];refine⟨d.F.bs,c.loops,c.small,?_,λb' u=>by simp only[Nat.zero_add];exact Rz u⟩;have:=HV c.sub _ hg;simp only[Bool.or_eq_true]at this;rcases this with h |h
    ·have:=Nat.le_of_ble_eq_true h;omega
    ·exact HZ.1 h
   ·obtain⟨s,bs,j,K,P⟩:=c.at (show 1000<=b by omega) hg;obtain⟨J,v,Q⟩:=c.sites _ s j;have e:b=1000*(b/1000-1+1)+b%1000:=by omega
    have W:kA d Tb b=⟨s.h,s.c,b%1000,1000*(b/1000-1+1)⟩:=by have:=Sa (d:=d) j (show b%1000<1000 by omega);rw[<-e]at this;exact this
    rw[W];refine⟨J,v,Q,?_,λb' u=>Sa j u⟩;have C:(b%1000,sK (b%1000) s.c)∈dF 0 s.c:=by rw[K];exact List.mem_map.2 ⟨_,P,rfl⟩
    rw[v]at C;obtain⟨a5,T,l⟩:=List.mem_map.1 C;injection l with l _;rw[<-l];exact T
  obtain⟨bs,G,a2,a3,a4⟩:=a0;refine aBz (VP c.sites Ll L (by omega)) (k:=k) (lb:=(kA d Tb b).lb) (kM _ _ λq a1=>Ec (L:=L) (by omega) a4 G a2 (pS _ _ ((kA d Tb b).b,sK (kA d Tb b).b (kA d Tb b).c) ?_ q a1)) y;rw[G];exact List.mem_map.2 ⟨_,a3,rfl⟩
theorem xR{m:Nat}(s:AU E B Tb m d){b:Nat}{ps:List D}{i:Nat}{ds:List D}(u:sA E B Tb d (d.F.lp b ps) (.out (i,ds))):PB E B Tb d b ps i ds:=by
 obtain⟨N,l⟩:=aBC s u;refine⟨N,λk n q L L0 v y _ h j=>?_⟩;rcases l k n L L0 v y h j with⟨s1,C,_,_,e⟩ |⟨r,t,f,g,e,c⟩
 ·simp[Lf.up]at e
 ·simp only[Lf.up]at c;injection c with c;subst c;simp only[T5,f,Option.bind_some,g,e]
theorem rK{m:Nat}(v:AU E B Tb m d){b:Nat}{ps ps':List D}{i:Nat}{ds:List D}(y:sA E B Tb d (d.F.lp b ps) (.again ps'))(f:PB E B Tb d b ps' i ds):PB E B Tb d b ps i ds:=by
 obtain⟨N,s⟩:=aBC v y;obtain⟨g,u⟩:=f;refine⟨max N g+1,λk n q L L0 G f H C F=>?_⟩;obtain⟨e,rfl⟩:∃e,q=e+1:=⟨q-1,by omega⟩;rcases s k n L L0 (by omega) (by omega) (by omega) (by omega)with⟨s1,J,h,j,c⟩ |⟨r,t,_,_,_,l⟩
 ·simp only[Lf.up]at c;injection c with c;subst c;have:=u k n e L L0 (by omega) (by omega) (by omega) (by omega) (by omega);unfold T5 at this⊢;rw[h];simp only[Option.bind_some,KJ,TS];rw[j];simp only[Option.bind_some];exact this
 ·simp[Lf.up]at l
theorem cI{m:Nat}(c:AU E B Tb m d){b:Nat}(f:Nat->List D)(n:Nat){i:Nat}{ds:List D}(e:∀j,j<n->sA E B Tb d (d.F.lp b (f j)) (.again (f (j+1))))(g:sA E B Tb d (d.F.lp b (f n)) (.out (i,ds))):PB E B Tb d b (f 0) i ds:=by
 have:∀j,j<=n->PB E B Tb d b (f (n-j)) i ds:=by
  intro j;induction j with
  |zero=>intro _;exact xR c g
  |succ j h=>intro l;have:=e (n-(j+1)) (by omega);rw[show n-(j+1)+1=n-j by omega]at this;exact rK c this (h (by omega))
 have:=this n (Nat.le_refl n);rwa [Nat.sub_self]at this
end
end Go.Eng

namespace Go.Eng
abbrev Wy:=Lf (List D) (Nat×List D)
abbrev Cl:=Nat->List D->Option (D×List D)
abbrev Lo:=Nat->List D->Option (Nat×List D)
def Wz(nb:Nat)(k:D->List D->Option Wy):Option (D×List D)->Option Wy
 |some r=>bif Nat.beq r.2.length nb then k r.1 r.2 else none
 |none=>none
def T6(k:Nat->List D->Option Wy):Option (Nat×List D)->Option Wy
 |some o=>k o.1 o.2
 |none=>none
def aBD(k:List D->Option Wy)(ks:Nat->List D->Option Wy)(i:Nat)(ds:List D):Option Wy:=
 bif Nat.beq i 0 then k ds else ks (i-1) ds
noncomputable def goT(cl:Cl)(lp:Lo)(t:Sh):Option Wy:=
 IX.rec (motive_1:=λ_=>Option Wy) (motive_2:=λ_=>Nat->List D->Option Wy)
  (λx bs=>some (.ret x bs)) (λs=>some (.again s)) (λt=>some (.out t)) none
  (λb _ _ p q=>bif b then p else q)
  (λm xs nb _ k=>Wz nb k (cl m xs))
  (λb s _ ks=>T6 ks (lp b s))
  (λ_ _=>none)
  (λ_ _ k ks=>aBD k ks) t
noncomputable def goL(cl:Cl)(lp:Lo)(t:Ri (List D) (Nat×List D)):Nat->List D->Option Wy:=
 Ri.rec (motive_1:=λ_=>Option Wy) (motive_2:=λ_=>Nat->List D->Option Wy)
  (λx bs=>some (.ret x bs)) (λs=>some (.again s)) (λt=>some (.out t)) none
  (λb _ _ p q=>bif b then p else q)
  (λm xs nb _ k=>Wz nb k (cl m xs))
  (λb s _ ks=>T6 ks (lp b s))
  (λ_ _=>none)
  (λ_ _ k ks=>aBD k ks) t
def Ht(k:List D->Option (Nat×List D)):Option Wy->Option (Nat×List D)
 |some (.again ps)=>k ps
 |some (.out t)=>some t
 |some (.ret _ _)=>none
 |none=>none
noncomputable def Hu(cl:Cl)(F:Fn)(g:Nat):Lo:=
 Nat.rec (λ_ _=>none) (λ_ c b ps=>Ht (c b) (goT cl c (F.lp b ps))) g
def j4:Option Wy->Option (D×List D)
 |some (.ret x bs)=>some (x,bs)
 |_=>none
def fnG(k:Fn->Option (D×List D)):Option Fn->Option (D×List D)
 |some F=>k F
 |none=>none
def aC3(r:Option (D×List D)):Option (D×List D)->Option (D×List D)
 |some x=>some x
 |none=>r
noncomputable def j5(P:BT Fn)(X:Cl)(g n:Nat):Cl:=
 Nat.rec (λ_ _=>none) (λ_ c m xs=>aC3 (fnG (λF=>bif Nat.beq xs.length F.np then j4 (goT c (Hu c F g) (F.main xs))else none) (P.look m)) (X m xs)) n
section
variable{E:eQ}{B:kV}{Tb:BT kH}{d:FD}{cl:Cl}{lp:Lo}
mutual
theorem No(e:∀m xs r,cl m xs=some r->iS E B Tb m xs r.1 r.2)(f:∀b ps o,lp b ps=some o->PB E B Tb d b ps o.1 o.2):∀(t:Sh){lf:Wy},goT cl lp t=some lf->sA E B Tb d t lf
 |.ret x bs,lf,h=>by have h:some (Lf.ret x bs)=some lf:=h;injection h with h;subst h;simp only[sA,Ev]
 |.again s,lf,h=>by have h:some (Lf.again s)=some lf:=h;injection h with h;subst h;simp only[sA,Ev]
 |.out t,lf,h=>by have h:some (Lf.out t)=some lf:=h;injection h with h;subst h;simp only[sA,Ev]
 |.bad,lf,h=>by have h:none=some lf:=h;simp at h
 |.ask b p q,lf,h=>by
  have h:(bif b then goT cl lp p else goT cl lp q)=some lf:=h;simp only[sA,Ev];cases b with
  |true=>exact .inl ⟨rfl,No e f p h⟩
  |false=>exact .inr ⟨rfl,No e f q h⟩
 |.call m xs nb k,lf,h=>by
  have h:Wz nb (λx bs=>goT cl lp (k x bs)) (cl m xs)=some lf:=h;simp only[sA,Ev];cases c:cl m xs with
  |none=>rw[c]at h;simp[Wz]at h
  |some r=>
   rw[c]at h;simp only[Wz]at h;cases g:Nat.beq r.2.length nb with
   |false=>rw[g]at h;simp at h
   |true=>rw[g]at h;exact⟨r.1,r.2,e m xs r c,Nat.eq_of_beq_eq_true g,No e f (k r.1 r.2) h⟩
 |.loop b s ks,lf,h=>by
  have h:T6 (goL cl lp ks) (lp b s)=some lf:=h;simp only[sA,Ev];cases c:lp b s with
  |none=>rw[c]at h;simp[T6]at h
  |some o=>rw[c]at h;exact⟨o.1,o.2,f b s o c,aDX e f ks h⟩
theorem aDX(c:∀m xs r,cl m xs=some r->iS E B Tb m xs r.1 r.2)(e:∀b ps o,lp b ps=some o->PB E B Tb d b ps o.1 o.2):∀(t:Ri (List D) (Nat×List D)){i:Nat}{ds:List D}{lf:Wy},goL cl lp t i ds=some lf->Kz (iS E B Tb) (PB E B Tb d) t i ds lf
 |.nil,i,ds,lf,h=>by have h:none=some lf:=h;simp at h
 |.cons k ks,i,ds,lf,h=>by
  have h:aBD (λds=>goT cl lp (k ds)) (goL cl lp ks) i ds=some lf:=h;cases i with
  |zero=>simp only[Kz];exact No c e (k ds) h
  |succ i=>simp only[Kz];exact aDX c e ks h
end
theorem T7{m:Nat}(c:AU E B Tb m d)(e:∀m xs r,cl m xs=some r->iS E B Tb m xs r.1 r.2):∀(g:Nat)(b:Nat)(ps:List D)(o:Nat×List D),Hu cl d.F g b ps=some o->PB E B Tb d b ps o.1 o.2
 |0,b,ps,o,h=>by have h:none=some o:=h;simp at h
 |g+1,b,ps,o,h=>by
  have h:Ht (Hu cl d.F g b) (goT cl (Hu cl d.F g) (d.F.lp b ps))=some o:=h;have j:=T7 c e g;cases hg:goT cl (Hu cl d.F g) (d.F.lp b ps)with
  |none=>rw[hg]at h;simp[Ht]at h
  |some lf=>
   rw[hg]at h;have f:=No e (λb ps o l=>j b ps o l) _ hg;cases lf with
   |ret x bs=>simp[Ht]at h
   |again ps'=>exact rK c f (j b ps' o h)
   |out t=>simp only[Ht,Option.some.injEq]at h;subst h;exact xR c f
def T8(E:eQ)(B:kV)(Tb:BT kH)(P:BT Fn):Prop:=∀m F,P.look m=some F->∃d,d.F=F/\AU E B Tb m d/\d.h.fork=false
theorem aC4{xs:List D}{n:Nat}(h:Nat.beq xs.length n=true):Hk xs 0 n=xs:=YL (Nat.eq_of_beq_eq_true h)
theorem aBF{P:BT Fn}{X:Cl}(f:T8 E B Tb P)(j:∀m xs r,X m xs=some r->iS E B Tb m xs r.1 r.2)(g:Nat):∀(n:Nat)(m:Nat)(xs:List D)(r:D×List D),j5 P X g n m xs=some r->iS E B Tb m xs r.1 r.2
 |0,m,xs,r,h=>by have h:none=some r:=h;simp at h
 |n+1,m,xs,r,h=>by
  have h:aC3 (fnG (λF=>bif Nat.beq xs.length F.np then j4 (goT (j5 P X g n) (Hu (j5 P X g n) F g) (F.main xs))else none) (P.look m)) (X m xs)=some r:=h;have u:=aBF f j g n;cases hx:X m xs with
  |some y=>rw[hx]at h;simp only[aC3,Option.some.injEq]at h;subst h;exact j m xs y hx
  |none=>
   rw[hx]at h;simp only[aC3]at h;cases c:P.look m with
   |none=>rw[c]at h;simp[fnG]at h
   |some F=>
    rw[c]at h;simp only[fnG]at h;obtain⟨d,rfl,l,hf⟩:=f m F c;cases e:Nat.beq xs.length d.F.np with
    |false=>rw[e]at h;simp at h
    |true=>
     rw[e]at h;simp only[cond_true]at h;cases hg:goT (j5 P X g n) (Hu (j5 P X g n) d.F g) (d.F.main xs)with
     |none=>rw[hg]at h;simp[j4]at h
     |some lf=>
      rw[hg]at h;cases lf with
      |again s=>simp[j4]at h
      |out t=>simp[j4]at h
      |ret x bs=>simp only[j4,Option.some.injEq]at h;subst h;exact bA l hf (aC4 e) (No u (λb ps o v=>T7 l u g b ps o v) _ hg)
def Xa(E:eQ)(B:kV)(Tb:BT kH):BT Fn->Prop
 |.nil=>True
 |.node m F l r=>(∃d,d.F=F/\AU E B Tb m d/\d.h.fork=false)/\Xa E B Tb l/\Xa E B Tb r
theorem RL:∀{P:BT Fn},Xa E B Tb P->T8 E B Tb P
 |.nil,_,m,F,h=>by simp[BT.look]at h
 |.node k F l r,⟨f,g,j⟩,m,d,h=>by
  simp only[BT.look]at h;cases c:Nat.beq m k with
  |true=>rw[c]at h;simp only[cond_true,Option.some.injEq]at h;subst h;rw[Nat.eq_of_beq_eq_true c];exact f
  |false=>
   rw[c]at h;simp only[cond_false]at h;cases e:Nat.ble m k with
   |true=>rw[e]at h;exact RL g m d h
   |false=>rw[e]at h;exact RL j m d h
end
end Go.Eng

namespace Go.Eng
@[simp] theorem aC5(a b:Int):cP a b=decide (a<=b):=by rw[Bool.eq_iff_iff];simp only[eR,decide_eq_true_eq]
@[simp] theorem aGa(a b:Int):aT a b=decide (a<b):=by rw[Bool.eq_iff_iff];simp only[aT,aC5,Bool.not_eq_true',decide_eq_false_iff_not,decide_eq_true_eq];omega
@[simp] theorem aGb(a b:Int):aD a b=decide (a=b):=by rw[XN,Bool.eq_iff_iff];simp
@[simp] theorem aEx(k:Int)(n:Nat):aA k n=decide (0<=k/\k<n):=by simp[aA]
theorem uJ{n:Int}(c:-9223372036854775808<=n)(d:n<=9223372036854775807):bC .i64 n=n:=by simp[bC,TC,TD,c,d]
@[simp] theorem qL(x:D)(l:List D):gD (x::l) 0=x:=rfl
@[simp] theorem rL(x:D)(l:List D)(n:Nat):gD (x::l) (n+1)=gD l n:=by simp[gD]
@[simp] theorem aHn(l:List D)(n:Nat):gI l n=(gD l n).toI:=rfl
@[simp] theorem aHo(l:List D)(n:Nat):gB l n=(gD l n).toB:=rfl
@[simp] theorem aHp(l:List D)(n:Nat):gS l n=(gD l n).toS:=rfl
@[simp] theorem aHq(l:List D)(n:Nat):gL l n=(gD l n).els:=rfl
@[simp] theorem aHr(l:List D)(n:Nat):gN l n=(gD l n).toI.toNat:=rfl
@[simp] theorem kB(n:Int):(D.i n).toI=n:=rfl
@[simp] theorem kN(b:Bool):(D.b b).toB=b:=rfl
@[simp] theorem aG8(s:List UInt8):(D.s s).toS=s:=rfl
@[simp] theorem kX(l:List D):(D.l l).els=l:=rfl
@[simp] theorem jO(l:List D)(n:Nat):(D.l l).fld n=gD l n:=rfl
section
variable{σ τ:Type}{C:Nat->List D->D->List D->Prop}{L:Nat->σ->Nat->List D->Prop}{lf:Lf σ τ}{p q:IX σ τ}
theorem aC{b:Bool}(c:b=true)(h:Ev C L p lf):Ev C L (.ask b p q) lf:=by simp only[Ev];exact .inl ⟨c,h⟩
theorem aJ{b:Bool}(c:b=false)(h:Ev C L q lf):Ev C L (.ask b p q) lf:=by simp only[Ev];exact .inr ⟨c,h⟩
theorem aFy{b:Bool}(d:b=true->Ev C L p lf)(c:b=false->Ev C L q lf):Ev C L (.ask b p q) lf:=by
 cases b with
 |true=>exact aC rfl (d rfl)
 |false=>exact aJ rfl (c rfl)
theorem bK{m nb:Nat}{xs:List D}{k:D->List D->IX σ τ}{x:D}{bs:List D}(c:C m xs x bs)(d:bs.length=nb)(e:Ev C L (k x bs) lf):Ev C L (.call m xs nb k) lf:=by simp only[Ev];exact⟨x,bs,c,d,e⟩
theorem aP{b:Nat}{s:σ}{ks:Ri σ τ}{i:Nat}{ds:List D}(c:L b s i ds)(d:Kz C L ks i ds lf):Ev C L (.loop b s ks) lf:=by simp only[Ev];exact⟨i,ds,c,d⟩
theorem bD{k:List D->IX σ τ}{ks:Ri σ τ}{ds:List D}(h:Ev C L (k ds) lf):Kz C L (.cons k ks) 0 ds lf:=by simpa only[Kz]using h
theorem eB{k:List D->IX σ τ}{ks:Ri σ τ}{i:Nat}{ds:List D}(h:Kz C L ks i ds lf):Kz C L (.cons k ks) (i+1) ds lf:=by simpa only[Kz]using h
theorem bJ{x c:D}{bs cs:List D}(d:c=x)(e:cs=bs):Ev C L (.ret x bs:IX σ τ) (.ret c cs):=by subst d;subst e;simp only[Ev]
theorem aO{s t:σ}(h:t=s):Ev C L (.again s:IX σ τ) (.again t):=by subst h;simp only[Ev]
theorem bG{s t:τ}(h:t=s):Ev C L (.out s:IX σ τ) (.out t):=by subst h;simp only[Ev]
end
section
variable{E:eQ}{B:kV}{Tb:BT kH}{d:FD}
def dS:Nat->(Nat->Bool)->Bool
 |0,_=>false
 |n+1,P=>dS n P||P n
theorem bQ{n:Nat}{P:Nat->Bool}:dS n P=false<->∀j,j<n->P j=false:=by
 induction n with
 |zero=>simp[dS]
 |succ n g=>
  simp only[dS,Bool.or_eq_false_iff,g];constructor
  ·rintro⟨c,d⟩ j f;by_cases e:j=n
   ·rw[e];exact d
   ·exact c j (by omega)
  ·intro h;exact⟨λj f=>h j (by omega),h n (by omega)⟩
theorem xS{n:Nat}{P:Nat->Bool}(h:dS n P=true):∃j,j<n/\P j=true/\∀i,i<j->P i=false:=by
 induction n with
 |zero=>simp[dS]at h
 |succ n f=>
  cases c:dS n P with
  |true=>obtain⟨j,g,d⟩:=f c;exact⟨j,by omega,d⟩
  |false=>simp only[dS,c,Bool.false_or]at h;exact⟨n,by omega,h,λi e=>bQ.1 c i e⟩
theorem aC6{m:Nat}(e:AU E B Tb m d){b:Nat}(f:Nat->List D)(n:Nat)(P:Nat->Bool){i0 i1:Nat}{d0 d1:List D}
  (g:∀j,j<n->P j=false->sA E B Tb d (d.F.lp b (f j)) (.again (f (j+1))))(u:∀j,j<n->P j=true->sA E B Tb d (d.F.lp b (f j)) (.out (i0,d0)))(t:sA E B Tb d (d.F.lp b (f n)) (.out (i1,d1))):
  PB E B Tb d b (f 0) (bif dS n P then i0 else i1) (bif dS n P then d0 else d1):=by
 cases h:dS n P with
 |true=>obtain⟨j,l,r,s⟩:=xS h;exact cI e f j (λk c=>g k (by omega) (s k c)) (u j l r)
 |false=>exact cI e f n (λk c=>g k c (bQ.1 h k c)) t
end
end Go.Eng

namespace Go.Eng
theorem Sb{P:Program}{E:eQ}{B:kV}{Tb:BT kH}{m:Nat}{s:EC}(l:∀k N n,LJ P (wZ E k Tb N) (qK (wZ E k Tb N) B (Eb E) k n) m s)(r:s.rs=[.val false [.bool]]){xs:List D}{q:Bool}(f:iS E B Tb m xs (.b q) [])
  {w:World}{vs:List Value}(j:vs.length=s.ps.length)
  (u:∃tQ,eI E 0 s.ps xs Gv=some tQ/\tQ.bx=[]/\tQ.ar=[]/\∀t v,vs[t]?=some v->dC w (Gh.top w) tQ (tQ.sl.get t) v):
  Calls P s.fn ⟨vs⟩ w (λe w'=>e=.returned (.bool q)/\Go.RowKit.Below w.heap.size w w'):=by
 obtain⟨N,g⟩:=f;obtain⟨tQ,c,d⟩:=u;refine d8 (l N N N) r (g N N N (Nat.le_refl _) (Nat.le_refl _) (Nat.le_refl _)) j λst h=>?_;rw[Hh,c]at h;injection h with h;subst h;exact d
end Go.Eng
