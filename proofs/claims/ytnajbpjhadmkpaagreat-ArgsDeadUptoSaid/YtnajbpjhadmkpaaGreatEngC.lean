/- Part 3 of the proof: functions and calls are sound; functions as trees of questions. -/
import Derived.Test.YtnajbpjhadmkpaaGreatEngB
import Derived.Scope
import Derived.Laws.Sem
import Derived.KernelRfl
import Derived.Below
set_option linter.unusedSimpArgs false
set_option linter.unusedVariables false
namespace Go.Eng
def Gh.moved(G:Gh)(q r:Nat):Gh:=
 {own:=λb=>match G.own b with
   |.arr r' p=>if r'=q then .arr r p else if r'=r then .out else .arr r' p
   |t=>t
  H:=λm=>if m=r then G.H q else G.H m
  B:=G.B}
section
variable{ext:Nat->Value}{w:World}{G:Gh}{st:St}{act:Act}{nt:Nat}
theorem PP{q r:Nat}(b:Nat)(h:∀r p,G.own b≠.arr r p):(G.moved q r).own b=G.own b:=by
 cases c:G.own b with
 |arr d s=>exact absurd c (h d s)
 |_=>simp[Gh.moved,c]
theorem aDD{q r:Nat}{b:Nat}{p:cP}(h:G.own b=.arr q p):(G.moved q r).own b=.arr r p:=by simp[Gh.moved,h]
theorem Xs{q r m:Nat}{b:Nat}{p:cP}(h:G.own b=.arr m p)(c:m≠q)(d:m≠r):(G.moved q r).own b=.arr m p:=by simp[Gh.moved,h,c,d]
theorem v8{q r:Nat}{b:Nat}(h:(G.moved q r).own b≠.out):G.own b≠.out:=λe=>h (by simp[Gh.moved,e])
theorem aB0(q r:Nat):Fr w G w (G.moved q r):=
 ⟨rfl,rfl,rfl,Nat.le_refl _,λb _ c=>⟨rfl,PP b (by rcases c with c |c<;>rw[c]<;>simp)⟩,λ_ _ _=>rfl⟩
theorem yN{q r:Nat}(e:q≠r)(m:Nat):∀l:List (Nat×xZ),look (Wf q r l) m=if m=r then look l q else if m=q then none else look l m
 |[]=>by simp[Wf,look]
 |(k,a)::l=>by
  simp only[Wf];by_cases g:k=r
  ·subst g;simp only[qD,cond_true];rw[yN e m l];by_cases c:m=k
   ·subst c;simp[fJ,Ne.symm e]
   ·simp[fJ,c,Ne.symm c]
  ·simp only[qK g,cond_false];by_cases f:k=q
   ·subst f;simp only[qD,cond_true,fJ];rw[yN e m l];by_cases c:m=r
    ·subst c;simp
    ·simp only[Ne.symm c,if_false,c];by_cases d:m=k
     ·subst d;simp
     ·simp[d,Ne.symm d]
   ·simp only[qK f,cond_false,fJ];rw[yN e m l];by_cases c:k=m
    ·subst c;simp[g,f]
    ·simp only[c,if_false];by_cases d:m=r
     ·subst d;simp[f]
     ·simp[d]
theorem ZQ(q r b:Nat):∀l:List (Nat×Bx),look (p8 q r l) b=(look l b).map λx=>{x with lv:=mapR (VI q r) x.lv}
 |[]=>rfl
 |(m,x)::l=>by
  simp only[p8,fJ];by_cases h:m=b
  ·simp[h]
  ·simp[h,ZQ q r b l]
theorem Sy{ks:List Nat}{q r:Nat}(y:q≠r):∀(a:A)(v:Value),mK a=true->dN w G st a v->dN w (G.moved q r) (St.rename ks st q r) (VI q r a) v:=by
 intro a v Q h;have C:St.rename ks st q r={st with sl:=Wg (VI q r) st.sl ks .nil,bx:=p8 q r st.bx,ar:=Wf q r st.ar}:=by simp[St.rename,qK y]
 have K:∀{m u p a'},lH (St.rename ks st q r) m u p a'->m≠q->m≠r->lH st m u p a':=λ{m u p a'}hv d c=>by rw[C]at hv;have:=hv.1;simp only[yN y,if_neg d,if_neg c]at this;exact⟨this,hv.2⟩
 have L:∀{u p a'},lH (St.rename ks st q r) r u p a'->lH st q u p a':=λ{u p a'}hv=>by rw[C]at hv;have:=hv.1;simp only[yN y,if_true]at this;exact⟨this,hv.2⟩
 have a0:∀{u p a'},¬lH (St.rename ks st q r) q u p a':=λ{u p a'}hv=>by rw[C]at hv;have:=hv.1;simp[yN y,y]at this
 have j:(St.rename ks st q r).ctr=st.ctr:=by rw[C]
 have J:∀p,(G.moved q r).H r p=G.H q p:=λp=>by simp[Gh.moved]
 have H:∀m p,m≠r->(G.moved q r).H m p=G.H m p:=λm p Y=>by simp[Gh.moved,Y]
 have T:∀b t,look (St.rename ks st q r).bx b=some t->∃x,look st.bx b=some x/\x.uid=t.uid:=λb t hx=>by
  rw[C]at hx;simp only[ZQ]at hx;cases W:look st.bx b with
  |none=>simp[W]at hx
  |some x=>simp[W]at hx;subst hx;exact⟨x,rfl,rfl⟩
 have V:∀b,vG G [] b->vG (G.moved q r) [] b/\w.heap[b]?=w.heap[b]?:=λb P=>by rw[PC]at P⊢;exact⟨by rw[PP b (by rw[P];simp),P],rfl⟩
 cases a with
 |vw m u p=>
  simp only[VI];by_cases d:m=q
  ·subst d;simp only[qD,cond_true];refine⟨by rw[j];exact h.1,λa' g=>?_⟩;obtain⟨l,s,U⟩:=h.2 a' (L g);exact⟨by rw[J];exact l,s,U⟩
  ·simp only[qK d,cond_false];by_cases c:m=r
   ·subst c;simp only[qD,cond_true];exact trivial
   ·simp only[qK c,cond_false];refine⟨by rw[j];exact h.1,λa' g=>?_⟩;obtain⟨l,s,U⟩:=h.2 a' (K g d c);exact⟨by rw[H m _ c];exact l,s,U⟩
 |px m u n=>
  simp only[VI];by_cases d:m=q
  ·subst d;simp only[qD,cond_true];exact⟨by rw[j];exact h.1,λa' g=>by rw[J];exact h.2 a' (L g)⟩
  ·simp only[qK d,cond_false];by_cases c:m=r
   ·subst c;simp only[qD,cond_true];exact trivial
   ·simp only[qK c,cond_false];exact⟨by rw[j];exact h.1,λa' g=>by rw[H m _ c];exact h.2 a' (K g d c)⟩
 |sx m u k n a1=>
  simp only[VI];by_cases d:m=q
  ·subst d;simp only[qD,cond_true];exact⟨by rw[j];exact h.1,λa' g=>by rw[J];exact h.2 a' (L g)⟩
  ·simp only[qK d,cond_false];by_cases c:m=r
   ·subst c;simp only[qD,cond_true];exact trivial
   ·simp only[qK c,cond_false];exact⟨by rw[j];exact h.1,λa' g=>by rw[H m _ c];exact h.2 a' (K g d c)⟩
 |pa m u p k i off=>
  simp only[VI];by_cases d:m=q
  ·subst d;simp only[qD,cond_true];exact⟨by rw[j];exact h.1,λa' g=>by rw[J];exact h.2 a' (L g)⟩
  ·simp only[qK d,cond_false];by_cases c:m=r
   ·subst c;simp only[qD,cond_true];exact trivial
   ·simp only[qK c,cond_false];exact⟨by rw[j];exact h.1,λa' g=>by rw[H m _ c];exact h.2 a' (K g d c)⟩
 |fz dep e el xs=>
  cases dep with
  |nil=>exact⟨by simp,λ_=>dE V _ _ _ (h.2 rfl)⟩
  |cons _ _=>exact trivial
 |pz dep el x off=>
  cases dep with
  |nil=>refine⟨by simp,λ_=>?_⟩;obtain⟨b,o,l,s⟩:=h.2 rfl;exact⟨b,o,l,sL V _ _ _ _ _ _ s⟩
  |cons _ _=>exact trivial
 |sb b u k n=>refine⟨by rw[j];exact h.1,λt hx F=>?_⟩;obtain⟨x,l,s⟩:=T b t hx;exact h.2 x l (s.trans F)
 |pb b u off=>refine⟨by rw[j];exact h.1,λt hx F=>?_⟩;obtain⟨x,l,s⟩:=T b t hx;exact h.2 x l (s.trans F)
 |mp b u=>refine⟨by rw[j];exact h.1,λt hx F=>?_⟩;obtain⟨x,l,s⟩:=T b t hx;exact h.2 x l (s.trans F)
 |agg xs=>simp[mK]at Q
 |tup xs=>simp[mK]at Q
 |fn f xs=>simp[mK]at Q
 |_=>exact h
theorem iM.ren(h:iM ext nt w G st act){ks:List Nat}{q r:Nat}(l:q≠r)(L:mG ks st):iM ext nt w (G.moved q r) (St.rename ks st q r) act/\mG ks (St.rename ks st q r)/\(St.rename ks st q r).ctr=st.ctr:=by
 have u:St.rename ks st q r={st with sl:=Wg (VI q r) st.sl ks .nil,bx:=p8 q r st.bx,ar:=Wf q r st.ar}:=by simp[St.rename,qK l]
 have hg:∀t,(St.rename ks st q r).sl.get t=if t∈ks then(st.sl.get t).mapR (VI q r)else .undef:=λt=>by rw[u];show(Wg (VI q r) st.sl ks .nil).get t=_;rw[Xq];simp[Tr.get_nil]
 have K:∀b,G.own b=.fz->(G.moved q r).own b=.fz/\w.heap[b]?=w.heap[b]?:=λb d=>⟨by rw[PP b (by rw[d];simp),d],rfl⟩;refine⟨⟨?_,λt=>?_,h.size,h.defers⟩,λt ht=>by rw[hg,if_neg ht],by rw[u]⟩
 ·refine h.rel.remap (f:=VI q r) (Sy l) (λb P hx=>?_) (λb d=>⟨by rw[PP b (by rw[d];simp),d],rfl⟩) (λm a' g=>?_) (λb d=>h.rel.live b (v8 d)) (λm p=>?_)
  ·rw[u]at hx⊢;simp only[ZQ]at hx;cases y:look st.bx b with
   |none=>simp[y]at hx
   |some x=>simp[y]at hx;subst hx;exact⟨x,rfl,⟨rfl,rfl⟩,(h.rel.boxes b x y).1,rfl⟩
  ·rw[u]at g⊢;simp only[yN l]at g;by_cases e1:m=r
   ·subst e1;rw[if_pos rfl]at g;obtain⟨C,F,H,J⟩:=h.rel.arrs q a' g;refine⟨C,F,H,?_⟩;have j:(G.moved q m).H m []=G.H q []:=by simp[Gh.moved]
    rw[j];exact VS K (λs _=>.inr ⟨by simp[Gh.moved],λb d=>⟨aDD d,rfl⟩⟩) (λ_ _ h=>h) J
   ·rw[if_neg e1]at g;by_cases v:m=q
    ·simp[v]at g
    ·rw[if_neg v]at g;obtain⟨C,F,H,J⟩:=h.rel.arrs m a' g;refine⟨C,F,H,?_⟩;have j:∀p,(G.moved q r).H m p=G.H m p:=λp=>by simp[Gh.moved,e1]
     rw[j];exact HH K j (λb p d=>⟨Xs d v e1,rfl⟩) J
  ·by_cases e1:m=r
   ·obtain⟨a,n,c,e⟩:=h.rel.hdr q p;exact⟨a,n,c,by simp[Gh.moved,e1,e]⟩
   ·obtain⟨a,n,c,e⟩:=h.rel.hdr m p;exact⟨a,n,c,by simp[Gh.moved,e1,e]⟩
 ·rw[hg];split
  ·exact WN (Sy l) _ _ (h.slots t)
  ·exact trivial
def Gh.nilAt(G:Gh)(r:Nat):Gh:={G with H:=λm p=>if m=r/\p=[]then .slice none 0 0 else G.H m p}
theorem JJ{r:Nat}:∀{dep:List (Nat×Nat)},He r dep=false->∀d∈dep,d.1≠r
 |[],_,_,h=>absurd h (by simp)
 |(m,v)::l,h,d,hd=>by
  simp only[He]at h;by_cases e:m=r
  ·subst e;simp[qD]at h
  ·simp only[qK e,cond_false]at h;rcases List.mem_cons.1 hd with rfl |hd
   ·exact e
   ·exact JJ h d hd
theorem MW{r:Nat}{a0:xZ}:∀{dep:List (Nat×Nat)},(∀d∈dep,d.1≠r)->depOk {st with ar:=qC st.ar r a0} dep=depOk st dep
 |[],_=>rfl
 |(m,v)::l,h=>by have c:=h (m,v) (by simp);simp only at c;simp only[depOk,bR,if_neg c];rw[MW (λd hd=>h d (by simp[hd]))]
theorem X6{r:Nat}{a0:xZ}:∀(a:A)(v:Value),mK a=true->DB r a=false->dN w G st a v->dN w (G.nilAt r) {st with ar:=qC st.ar r a0} a v:=by
 intro a v t g h;have l:∀{m u p a'},lH {st with ar:=qC st.ar r a0} m u p a'->m≠r->lH st m u p a':=λ{m u p a'}hv y=>by have:=hv.1;simp only[bR,if_neg y]at this;exact⟨this,hv.2⟩
 have j:∀m p,m≠r->(G.nilAt r).H m p=G.H m p:=λm p c=>by simp[Gh.nilAt,c]
 cases a with
 |vw m u p=>
  have c:m≠r:=λe=>by subst e;simp[DB,qD]at g
  refine⟨h.1,λa' d=>?_⟩;obtain⟨C,F,H⟩:=h.2 a' (l d c);exact⟨by rw[j m _ c];exact C,F,H⟩
 |px m u n=>
  have c:m≠r:=λe=>by subst e;simp[DB,qD]at g
  exact⟨h.1,λa' d=>by rw[j m _ c];exact h.2 a' (l d c)⟩
 |sx m u k n J=>
  have c:m≠r:=λe=>by subst e;simp[DB,qD]at g
  exact⟨h.1,λa' d=>by rw[j m _ c];exact h.2 a' (l d c)⟩
 |pa m u p k i off=>
  have c:m≠r:=λe=>by subst e;simp[DB,qD]at g
  exact⟨h.1,λa' d=>by rw[j m _ c];exact h.2 a' (l d c)⟩
 |fz dep e el xs=>have hd:=JJ (r:=r) (dep:=dep) g;exact⟨h.1,λs=>h.2 (by rw[<-MW (st:=st) (a0:=a0) hd];exact s)⟩
 |pz dep el x off=>have hd:=JJ (r:=r) (dep:=dep) g;exact⟨h.1,λs=>h.2 (by rw[<-MW (st:=st) (a0:=a0) hd];exact s)⟩
 |agg xs=>simp[mK]at t
 |tup xs=>simp[mK]at t
 |fn f xs=>simp[mK]at t
 |_=>exact h
theorem Ih{f:A->Bool}{t:Tr}:∀{ks:List Nat},QR f t ks=false->∀k∈ks,(t.get k).any f=false
 |[],_,_,h=>absurd h (by simp)
 |k::ks,h,d,c=>by
  simp only[QR,Bool.or_eq_false_iff]at h;rcases List.mem_cons.1 c with rfl |c
  ·exact h.1
  ·exact Ih h.2 d c
theorem Dj{f:A->Bool}{b:Nat}{x:Bx}:∀{l:List (Nat×Bx)},MA f l=false->look l b=some x->VF f x.lv=false
 |[],_,h=>by simp[look]at h
 |(m,d)::l,h,c=>by
  simp only[MA,Bool.or_eq_false_iff]at h;rw[fJ]at c;split at c
  ·injection c with c;subst c;exact h.1
  ·exact Dj h.2 c
theorem Xt{f:A->Bool}:∀{l:List A}{j:Nat},VF f l=false->(l.getD j .undef).any f=false
 |[],j,_=>by simp[A.any]
 |a::l,0,h=>by simp only[VF,Bool.or_eq_false_iff]at h;exact h.1
 |a::l,j+1,h=>by simp only[VF,Bool.or_eq_false_iff]at h;rw[List.getD_cons_succ];exact Xt h.2
theorem iM.new(h:iM ext nt w G st act){ks:List Nat}{r:Nat}{e:TypeId}{el:List LT}(P:mG ks st)(l:0<st.ctr)(s:(QR (DB r) st.sl ks||MA (DB r) st.bx)=false):
  iM ext nt w (G.nilAt r) {st with ar:=qC st.ar r {e:=e,el:=el,data:=[],uid:=0,hv:=YN 0,dv:=0}} act:=by
 simp only[Bool.or_eq_false_iff]at s;have y:∀m p,m≠r->(G.nilAt r).H m p=G.H m p:=λm p L=>by simp[Gh.nilAt,L]
 refine⟨⟨λ_ _ h=>by simp at h,λb x hx=>?_,h.rel.apartB,λm a d=>?_,h.rel.live,λm p=>?_⟩,λt=>?_,h.size,h.defers⟩
 ·obtain⟨H,J,K⟩:=h.rel.boxes b x hx;exact⟨H,J,K.step rfl rfl rfl λj Y v W=>Fx (f:=DB r) X6 _ _ (Xt (Dj s.2 hx)) W⟩
 ·simp only[bR]at d;by_cases e1:m=r
  ·subst e1;rw[if_pos rfl]at d;injection d with d;subst d;refine⟨l,l,⟨rfl,λu C=>by simp[YN]at C;subst C;exact l⟩,?_⟩;have:(G.nilAt m).H m []=.slice none 0 0:=by simp[Gh.nilAt]
   rw[this];exact⟨none,0,0,rfl,rfl,Nat.le_refl _,Nat.zero_le _,λ_=>rfl,by simp⟩
  ·rw[if_neg e1]at d;obtain⟨Q,T,U,V⟩:=h.rel.arrs m a d;refine⟨Q,T,U,?_⟩;rw[y m _ e1];exact HH (G:=G) (G':=G.nilAt r) (λb g=>⟨g,rfl⟩) (λp=>y m p e1) (λb p g=>⟨g,rfl⟩) V
 ·by_cases e1:m=r/\p=[]
  ·exact⟨none,0,0,by simp[Gh.nilAt,e1]⟩
  ·obtain⟨a,n,c,F⟩:=h.rel.hdr m p;exact⟨a,n,c,by simp only[Gh.nilAt,if_neg e1];exact F⟩
 ·show dN w (G.nilAt r) _ (st.sl.get t) _;by_cases ht:t∈ks
  ·exact Fx (f:=DB r) X6 _ _ (Ih s.1 t ht) (h.slots t)
  ·rw[P t ht];exact trivial
def RJ:List LT->List LT->cP->Bool
 |_,_,[]=>false
 |el,c,(_,j)::s=>match el[j]?,c[j]?with
  |some (.sl true _ x),some (.sl true _ d)=>RJ x d s
  |some (.sl true _ _),some (.sl false _ _)=>true
  |_,_=>false
def Sz:LT->LT->cP->Bool
 |.sl true _ el,.sl true _ c,s=>RJ el c s
 |.sl true _ _,.sl false _ _,_=>true
 |_,_,_=>false
def Gh.frz(G:Gh)(q:Nat)(el c:List LT):Gh:=
 {own:=λb=>match G.own b with
   |.arr r p=>if r=q/\RJ el c p=true then .fz else .arr r p
   |t=>t
  H:=G.H
  B:=G.B}
theorem aB1{q:Nat}{el c:List LT}{b:Nat}(h:G.own b=.fz):(G.frz q el c).own b=.fz:=by simp[Gh.frz,h]
theorem Fy{q r:Nat}{el c:List LT}{b:Nat}{p:cP}(h:G.own b=.arr r p):(G.frz q el c).own b=if r=q/\RJ el c p=true then .fz else .arr r p:=by simp[Gh.frz,h]
theorem aDE{q:Nat}{el c:List LT}{b:Nat}(h:G.own b=.box):(G.frz q el c).own b=.box:=by simp[Gh.frz,h]
theorem X7{q:Nat}{el c:List LT}{b:Nat}(h:G.own b=.out):(G.frz q el c).own b=.out:=by simp[Gh.frz,h]
mutual
theorem Xu{G':Gh}{q:Nat}(g:∀b,G.own b=.fz->G'.own b=.fz):∀(t:LT)(p:cP)(v:Value)(x:D),(∀s b,G.own b=.arr q (p++s)->G'.own b=.fz)->Wo w G [] q t p v x->vD w (λb=>G'.own b=.fz) t v x
 |.sl true e el,p,v,x,f,h=>by
  rcases vF.1 h with h |⟨U,a,n,c,u,y,C,F,H,J⟩
  ·simp at h
  ·refine⟨a,n,c,u,y,C,F,H,λad K V=>?_⟩;obtain⟨l,m,cs,P,Q,T,r⟩:=J ad K;exact⟨l,λi L=>Ii g el p i _ _ _ _ 0 (f [] _ (by simpa using m)) (λj s b d=>f ((i,j)::s) b d) (r i L)⟩
 |.sl false e el,p,v,x,f,h=>dE (λb d=>⟨g b d,rfl⟩) _ v x h
 |.int k,p,v,x,f,h=>dE (λb d=>⟨g b d,rfl⟩) _ v x h
 |.bool,p,v,x,f,h=>dE (λb d=>⟨g b d,rfl⟩) _ v x h
 |.str,p,v,x,f,h=>dE (λb d=>⟨g b d,rfl⟩) _ v x h
theorem Ii{G':Gh}{q:Nat}(d:∀b,G.own b=.fz->G'.own b=.fz):∀(ts:List LT)(p:cP)(i b o k:Nat)(x:D)(j:Nat),G'.own b=.fz->(∀j s b,G.own b=.arr q (p++(i,j)::s)->G'.own b=.fz)->U8 w G [] q ts p i b o k x j->F9 w (λb=>G'.own b=.fz) ts b o k x j
 |[],_,_,_,_,_,_,_,_,_,_=>trivial
 |t::ts,p,i,b,o,k,x,j,c,e,⟨⟨v,f,g⟩,h⟩=>⟨c,⟨v,f,Xu d t _ v _ (λs b c=>e j s b (by simpa using c)) g⟩,Ii d ts p i b o k x (j+1) c e h⟩
end
theorem Xv(t c:LT)(s:cP):(match some t,some c with
  |some (.sl true _ x),some (.sl true _ d)=>RJ x d s
  |some (.sl true _ _),some (.sl false _ _)=>true
  |_,_=>false)=Sz t c s:=by
 cases t with
 |sl o1 e1 f=>cases c with
  |sl o2 e g=>cases o1<;>cases o2<;>rfl
  |_=>cases o1<;>rfl
 |_=>rfl
theorem ZR:∀{el c:List LT},LI el c=true->c.length=el.length
 |[],[],_=>rfl
 |[],_::_,h=>by simp[LI]at h
 |_::_,[],h=>by simp[LI]at h
 |t::ts,d::e,h=>by simp only[LI,Bool.and_eq_true]at h;simp[ZR h.2]
mutual
theorem aDF{G':Gh}{q:Nat}(j:∀b,G.own b=.fz->G'.own b=.fz)(y:∀p,G'.H q p=G.H q p):∀(t d:LT)(p:cP)(v:Value)(x:D),Hf t d=true->(∀s b,G.own b=.arr q (p++s)->G'.own b=if Sz t d s=true then .fz else .arr q (p++s))->Wo w G [] q t p v x->Wo w G' [] q d p v x
 |.sl true e el,d,p,v,x,hf,g,h=>by
  cases d with
  |sl o' a4 u=>
   cases o' with
   |true=>
    simp only[Hf,Bool.and_eq_true]at hf;have r:=Nat.eq_of_beq_eq_true hf.1;subst r;rcases vF.1 h with h |⟨l,a,n,c,P,Q,T,U,V,W⟩
    ·simp at h
    ·refine vF.2 (.inr ⟨by rw[y];exact l,a,n,c,P,Q,T,U,V,λad Y=>?_⟩);obtain⟨F,H,cs,C,J,K,L⟩:=W ad Y;have f:=g [] ad.block (by simpa using H);simp only[Sz,RJ,Bool.false_eq_true,if_false,List.append_nil]at f;rw[ZR hf.2];exact⟨F,f,cs,C,J,K,λi a1=>Ta j y el u p i _ _ _ _ 0 hf.2 (λm t d a2 a3 s b f=>by
      have:=g ((i,m)::s) b (by simpa using f);have e1:Sz (.sl true e el) (.sl true e u) ((i,m)::s)=Sz t d s:=by simp only[Sz,RJ,a2,a3];exact Xv t d s
      rw[e1]at this;simpa using this) (L i a1)⟩
   |false=>simp only[Hf,Bool.and_eq_true]at hf;have r:=Nat.eq_of_beq_eq_true hf.1;subst r;have a0:=iG _ _ hf.2;subst a0;have l:=Xu (G':=G') j (.sl true e el) p v x (λs b f=>by have:=g s b f;simpa[Sz]using this) h;exact(DD false (.sl true e el) v x).2 l
  |int k=>simp[Hf]at hf
  |bool=>simp[Hf]at hf
  |str=>simp[Hf]at hf
 |.sl false e el,d,p,v,x,hf,g,h=>by have:=LT.beq_eq _ _ (show(LT.sl false e el).beq d=true from by simpa[Hf]using hf);subst this;exact dE (λb f=>⟨j b f,rfl⟩) _ v x h
 |.int k,d,p,v,x,hf,g,h=>by have:=LT.beq_eq _ _ (show(LT.int k).beq d=true from by simpa[Hf]using hf);subst this;exact dE (λb f=>⟨j b f,rfl⟩) _ v x h
 |.bool,d,p,v,x,hf,g,h=>by have:=LT.beq_eq _ _ (show LT.bool.beq d=true from by simpa[Hf]using hf);subst this;exact dE (λb f=>⟨j b f,rfl⟩) _ v x h
 |.str,d,p,v,x,hf,g,h=>by have:=LT.beq_eq _ _ (show LT.str.beq d=true from by simpa[Hf]using hf);subst this;exact dE (λb f=>⟨j b f,rfl⟩) _ v x h
theorem Ta{G':Gh}{q:Nat}(g:∀b,G.own b=.fz->G'.own b=.fz)(f:∀p,G'.H q p=G.H q p):∀(ts d:List LT)(p:cP)(i b o k:Nat)(x:D)(j:Nat),LI ts d=true->
  (∀(m:Nat)(t c:LT),ts[m]?=some t->d[m]?=some c->∀s b,G.own b=.arr q (p++(i,j+m)::s)->G'.own b=if Sz t c s=true then .fz else .arr q (p++(i,j+m)::s))->U8 w G [] q ts p i b o k x j->U8 w G' [] q d p i b o k x j
 |[],[],_,_,_,_,_,_,_,_,_,_=>trivial
 |[],_::_,_,_,_,_,_,_,_,hf,_,_=>by simp[LI]at hf
 |_::_,[],_,_,_,_,_,_,_,hf,_,_=>by simp[LI]at hf
 |t::ts,c::d,p,i,b,o,k,x,j,hf,h,⟨⟨v,l,r⟩,u⟩=>by
  simp only[LI,Bool.and_eq_true]at hf;refine⟨⟨v,l,aDF g f t c _ v _ hf.1 (λs b e=>?_) r⟩,Ta g f ts d p i b o k x (j+1) hf.2 (λm t1 F y C s b e=>?_) u⟩
  ·have:=h 0 t c rfl rfl s b (by simpa using e);simpa using this
  ·have:=h (m+1) t1 F (by simpa using y) (by simpa using C) s b (by rw[show j+(m+1)=j+1+m by omega];exact e);rw[show j+(m+1)=j+1+m by omega]at this;exact this
end
theorem MX:∀(l:List A),VF (λ_=>false) l=false
 |[]=>rfl
 |x::xs=>by have c:x.any (λ_=>false)=false:=any_none1 x;simp only[VF,c,MX xs,Bool.or_self]
where any_none1:∀a:A,a.any (λ_=>false)=false
 |.agg xs=>MX xs
 |.tup xs=>MX xs
 |.fn _ xs=>MX xs
 |.int _ _=>rfl
 |.bool _=>rfl
 |.undef=>rfl
 |.str _=>rfl
 |.nils=>rfl
 |.fz ..=>rfl
 |.vw ..=>rfl
 |.px ..=>rfl
 |.sx ..=>rfl
 |.sb ..=>rfl
 |.pa ..=>rfl
 |.pb ..=>rfl
 |.mp ..=>rfl
 |.ez=>rfl
 |.pz ..=>rfl
 |.nilp=>rfl
theorem iM.frz(h:iM ext nt w G st act){ks:List Nat}(c1:mG ks st){q:Nat}{a:xZ}{r:List LT}(a0:look st.ar q=some a)(a9:a.stale=[])(hf:LI a.el r=true):
  Fr w G w (G.frz q a.el r)/\iM ext nt w (G.frz q a.el r) {st with ar:=qC st.ar q {a with el:=r,hv:=YN st.ctr},ctr:=st.ctr+1} act/\
   mG ks {st with ar:=qC st.ar q {a with el:=r,hv:=YN st.ctr},ctr:=st.ctr+1}/\∀(x:A)(v:Value),mK x=true->dN w G st x v->dN w (G.frz q a.el r) {st with ar:=qC st.ar q {a with el:=r,hv:=YN st.ctr},ctr:=st.ctr+1} x v:=by
 let st':St:={st with ar:=qC st.ar q {a with el:=r,hv:=YN st.ctr},ctr:=st.ctr+1}
 have a2:∀b,G.own b=.fz->(G.frz q a.el r).own b=.fz:=λb g=>aB1 g;have a3:=ZR hf;have a6:∀dep:List (Nat×Nat),depOk st' dep=depOk st dep:=by
  intro dep;induction dep with
  |nil=>rfl
  |cons d l b0=>
   obtain⟨m,v⟩:=d;simp only[depOk,st',bR]at b0⊢;rw[b0];by_cases e1:m=q
   ·subst e1;rw[if_pos rfl,a0]
   ·rw[if_neg e1]
 have T:∀{m u p a'},lH st' m u p a'->u<st.ctr->(m≠q/\lH st m u p a')\/(m=q/\p=[]/\lH st q u [] a/\a'={a with el:=r,hv:=YN st.ctr}):=λ{m u p a'}hv P=>by
  obtain⟨C,Q,L⟩:=hv;simp only[st',bR]at C;by_cases e1:m=q
  ·subst e1;rw[if_pos rfl]at C;injection C with C;subst C;cases p with
   |nil=>exact .inr ⟨rfl,rfl,⟨a0,Nat.zero_le _,L⟩,rfl⟩
   |cons x p=>
    exfalso;simp only[jL,YN]at L;simp only[List.length_cons]at Q;have:p.length=0\/p.length=1\/p.length=2\/p.length=3:=by omega
    rcases this with e |e |e |e<;>rw[e]at L<;>simp at L<;>omega
  ·rw[if_neg e1]at C;exact .inl ⟨e1,C,Q,L⟩
 have a4:∀(x:A)(v:Value),mK x=true->dN w G st x v->dN w (G.frz q a.el r) st' x v:=by
  intro x v a1 h;have a7:∀dep b,vG G dep b->vG (G.frz q a.el r) dep b:=λdep b g=>by
   rcases g with g |⟨d,hd,p,g⟩
   ·exact .inl (a2 b g)
   ·rw[vG,Fy g];split
    ·exact .inl rfl
    ·exact .inr ⟨d,hd,p,rfl⟩
  cases x with
  |vw m u p=>
   refine⟨Nat.lt_succ_of_lt h.1,λa' H=>?_⟩;rcases T H h.1 with⟨_,k⟩ |⟨rfl,rfl,k,rfl⟩
   ·exact h.2 a' k
   ·exact⟨(h.2 a k).1,⟨_,rfl⟩,trivial⟩
  |px m u n=>
   refine⟨Nat.lt_succ_of_lt h.1,λa' H=>?_⟩;rcases T H h.1 with⟨_,k⟩ |⟨rfl,_,k,rfl⟩
   ·exact h.2 a' k
   ·exact h.2 a k
  |sx m u kk n d0=>
   refine⟨Nat.lt_succ_of_lt h.1,λa' H=>?_⟩;rcases T H h.1 with⟨_,k⟩ |⟨rfl,_,k,rfl⟩
   ·exact h.2 a' k
   ·obtain⟨y,F⟩:=h.2 a k;exact⟨by simp only;rw[a3];exact y,F⟩
  |pa m u p k i off=>
   refine⟨Nat.lt_succ_of_lt h.1,λa' H=>?_⟩;rcases T H h.1 with⟨_,k⟩ |⟨rfl,rfl,k,rfl⟩
   ·exact h.2 a' k
   ·obtain⟨t,y,F,J,K⟩:=h.2 a k;simp only[VN,Option.some.injEq]at y;subst y;exact⟨_,rfl,trivial,by simp only at J⊢;rw[a3];exact J,K⟩
  |fz dep e el xs=>exact⟨λd hd=>Nat.lt_succ_of_lt (h.1 d hd),λY=>dE (λb g=>⟨a7 dep b g,rfl⟩) _ _ _ (h.2 (by rw[<-a6];exact Y))⟩
  |pz dep el x off=>refine⟨λd hd=>Nat.lt_succ_of_lt (h.1 d hd),λY=>?_⟩;obtain⟨b,o,y,F⟩:=h.2 (by rw[<-a6];exact Y);exact⟨b,o,y,sL (λb g=>⟨a7 dep b g,rfl⟩) _ _ _ _ _ _ F⟩
  |sb b u k n=>exact⟨Nat.lt_succ_of_lt h.1,h.2⟩
  |pb b u off=>exact⟨Nat.lt_succ_of_lt h.1,h.2⟩
  |mp b u=>exact⟨Nat.lt_succ_of_lt h.1,h.2⟩
  |agg xs=>simp[mK]at a1
  |tup xs=>simp[mK]at a1
  |fn f xs=>simp[mK]at a1
  |_=>exact h
 have a5:∀(x:A)(v:Value),dN w G st x v->dN w (G.frz q a.el r) st' x v:=λx v h=>Fx (f:=λ_=>false) (λx v C _ Q=>a4 x v C Q) x v (MX.any_none1 x) h;refine⟨⟨rfl,rfl,rfl,Nat.le_refl _,λb _ g=>⟨rfl,by rcases g with g |g<;>rw[g]<;>first|exact X7 g |exact aB1 g⟩,λ_ _ _=>rfl⟩,⟨⟨λ_ _ h=>by simp at h,λb x hx=>?_,h.rel.apartB,λm x hx=>?_,λb g=>h.rel.live b (λe=>g (X7 e)),h.rel.hdr⟩,λt=>a5 _ _ (h.slots t),h.size,h.defers⟩,c1,a4⟩
 ·obtain⟨U,V,W⟩:=h.rel.boxes b x hx;exact⟨Nat.lt_succ_of_lt U,aDE V,W.step rfl rfl rfl λj c9 v c2=>a5 _ _ c2⟩
 ·simp only[bR]at hx;by_cases e1:m=q
  ·subst e1;rw[if_pos rfl]at hx;injection hx with hx;subst hx;obtain⟨y,F,J,K⟩:=h.rel.arrs m a a0;refine⟨Nat.lt_succ_of_lt y,Nat.lt_succ_of_lt F,⟨rfl,λu P=>by simp[YN]at P;subst P;exact Nat.lt_succ_self _⟩,?_⟩;rw[a9]at K;simp only[a9];obtain⟨ad,n,c,c3,c4,c5,c6,c7,c8⟩:=K;refine⟨ad,n,c,c3,c4,c5,c6,c7,λx hx=>?_⟩;obtain⟨U,V,cs,b2,W,b4,b5⟩:=c8 x hx;rw[a3];refine⟨U,?_,cs,b2,W,b4,λi b6=>Ta a2 (λ_=>rfl) a.el r [] i _ _ _ _ 0 hf (λk t b1 b7 c0 s b g=>?_) (b5 i b6)⟩
   ·rw[Fy V];simp[RJ]
   ·rw[Fy g];have b3:RJ a.el r ([]++(i,0+k)::s)=Sz t b1 s:=by
     simp only[List.nil_append,RJ,Nat.zero_add,b7,c0];exact Xv t b1 s
    rw[b3];simp
  ·rw[if_neg e1]at hx;obtain⟨y,F,J,K⟩:=h.rel.arrs m x hx;refine⟨Nat.lt_succ_of_lt y,Nat.lt_succ_of_lt F,⟨J.1,λu P=>Nat.lt_succ_of_lt (J.2 u P)⟩,?_⟩;exact HH (G:=G) (G':=G.frz q a.el r) (λb g=>⟨a2 b g,rfl⟩) (λp=>rfl) (λb p g=>⟨by rw[Fy g,if_neg (λh=>e1 h.1)],rfl⟩) K
def Gh.fzAll(G:Gh)(q:Nat):Gh:=
 {own:=λb=>match G.own b with
   |.arr r p=>if r=q then .fz else .arr r p
   |t=>t
  H:=G.H
  B:=G.B}
theorem PQ{q r:Nat}{b:Nat}{p:cP}(h:G.own b=.arr r p):(G.fzAll q).own b=if r=q then .fz else .arr r p:=by simp[Gh.fzAll,h]
theorem Ij{q:Nat}{b:Nat}(h:∀r p,G.own b≠.arr r p):(G.fzAll q).own b=G.own b:=by
 unfold Gh.fzAll;cases e:G.own b with
 |arr r p=>exact absurd e (h r p)
 |_=>simp[e]
theorem iM.fzA(h:iM ext nt w G st act){ks:List Nat}(Y:mG ks st){q:Nat}{a:xZ}(T:look st.ar q=some a)(a0:a.stale=[]):
  Fr w G w (G.fzAll q)/\iM ext nt w (G.fzAll q) {st with ar:=nZ st.ar q} act/\mG ks {st with ar:=nZ st.ar q}/\
   dN w (G.fzAll q) {st with ar:=nZ st.ar q} (.fz [] a.e (eZ false a.el) a.data) (G.H q []):=by
 let st':St:={st with ar:=nZ st.ar q}
 have g:∀b,G.own b=.fz->(G.fzAll q).own b=.fz:=λb d=>by rw[Ij (by rw[d];simp)];exact d
 have U:∀b,G.own b=.box->(G.fzAll q).own b=.box:=λb d=>by rw[Ij (by rw[d];simp)];exact d
 have J:∀b,G.own b=.out->(G.fzAll q).own b=.out:=λb d=>by rw[Ij (by rw[d];simp)];exact d
 have Q:Le w G st w (G.fzAll q) st':=by
  refine⟨Nat.le_refl _,λr u p a' _ hv=>?_,λb b2 _ hx=>⟨b2,hx,rfl,rfl⟩,λr a' _ hx=>?_,λb d=>⟨g b d,rfl⟩⟩
  ·obtain⟨f,L,P⟩:=hv;simp only[st',nH]at f;split at f
   ·simp at f
   ·exact⟨a',⟨f,L,P⟩,rfl,rfl,rfl,λh=>h⟩
  ·simp only[st',nH]at hx;split at hx
   ·simp at hx
   ·rename_i W;exact⟨a',hx,rfl,λb p d=>⟨⟨p,by rw[PQ d,if_neg W]⟩,rfl⟩⟩
 have F:∀(x:A)(v:Value),dN w G st x v->dN w (G.fzAll q) st' x v:=λx v hx=>dR Q x v hx;refine⟨⟨rfl,rfl,rfl,Nat.le_refl _,λb _ d=>⟨rfl,by rcases d with d |d<;>rw[d]<;>first|exact J b d |exact g b d⟩,λ_ _ _=>rfl⟩,
  ⟨⟨λ_ _ h=>by simp at h,λb x hx=>?_,h.rel.apartB,λm x hx=>?_,λb d=>h.rel.live b (λe=>d (J b e)),h.rel.hdr⟩,λt=>F _ _ (h.slots t),h.size,h.defers⟩,Y,?_⟩
 ·obtain⟨y,C,H⟩:=h.rel.boxes b x hx;exact⟨y,U _ C,H.step rfl rfl rfl λj b5 v a4=>F _ _ a4⟩
 ·simp only[nH]at hx;split at hx
  ·simp at hx
  ·rename_i e1;obtain⟨a1,a2,a3,l⟩:=h.rel.arrs m x hx;refine⟨a1,a2,a3,?_⟩;exact HH (G:=G) (G':=G.fzAll q) (λb d=>⟨g b d,rfl⟩) (λp=>rfl) (λb p d=>⟨by rw[PQ d,if_neg e1],rfl⟩) l
 ·obtain⟨_,_,_,l⟩:=h.rel.arrs q a T;rw[a0]at l;obtain⟨ad,n,c,a5,a6,a7,a9,b0,b1⟩:=l;refine⟨by simp,λ_=>⟨ad,n,c,a5,a6,a7,a9,b0,λx hx b6=>?_⟩⟩;obtain⟨y,C,cs,b3,H,b4,K⟩:=b1 x hx;refine⟨y,λi V=>?_⟩;rw[jZ,yG];refine sL (ok1:=λb=>(G.fzAll q).own b=.fz) (λb d=>⟨.inl d,rfl⟩) _ _ _ _ _ _ (Ii (G':=G.fzAll q) (q:=q) g a.el [] i _ _ _ _ 0 (by rw[PQ C,if_pos rfl]) (λj s b d=>by rw[PQ d,if_pos rfl]) (K i V))
theorem Dk(h:iM ext nt w G st act){ks:List Nat}(g:mG ks st)(f:0<st.ctr){r:Nat}{c:Conv}{a a':A}{v:Value}(j:dN w G st a v){st':St}(d:Wh ks r c a st=some (st',a')):
  ∃G',Fr w G w G'/\(∀b,G'.B b=G.B b)/\iM ext nt w G' st' act/\mG ks st'/\0<st'.ctr/\dN w G' st' a' v:=by
 unfold Wh at d;split at d
 ·rename_i e el;cases F:(QR (DB r) st.sl ks||MA (DB r) st.bx)with
  |true=>simp[F,aG]at d
  |false=>simp[F,ok]at d;obtain⟨rfl,rfl⟩:=d;refine⟨G.nilAt r,⟨rfl,rfl,rfl,Nat.le_refl _,λ_ _ _=>⟨rfl,rfl⟩,λ_ _ _=>rfl⟩,λ_=>rfl,h.new g f F,g,f,f,λa' L=>⟨?_,⟨_,rfl⟩,trivial⟩⟩;have hv:v=.slice none 0 0:=j;rw[hv];simp[Gh.nilAt]
 ·rename_i e el q;simp[ok]at d;obtain⟨rfl,rfl⟩:=d;by_cases H:q=r
  ·subst H;have:St.rename ks st q q=st:=by simp[St.rename,qD]
   rw[this];exact⟨G,Fr.refl w G,λ_=>rfl,h,g,f,j⟩
  ·obtain⟨u,y,C⟩:=h.ren H g;refine⟨G.moved q r,aB0 q r,λ_=>rfl,u,y,by rw[C];exact f,?_⟩;have:=Sy (ks:=ks) H (.vw q 0 []) v rfl j;simpa[VI,qD]using this
 ·rename_i e el;simp[ok]at d;obtain⟨rfl,rfl⟩:=d;have hv:v=.slice none 0 0:=j;exact⟨G,Fr.refl w G,λ_=>rfl,h,g,f,by simp,λ_=>⟨none,0,0,hv,rfl,Nat.le_refl _,Nat.zero_le _,λ_=>rfl,by simp⟩⟩
 ·simp[ok]at d;obtain⟨rfl,rfl⟩:=d;exact⟨G,Fr.refl w G,λ_=>rfl,h,g,f,j⟩
 ·simp[ok]at d;obtain⟨rfl,rfl⟩:=d;exact⟨G,Fr.refl w G,λ_=>rfl,h,g,f,j⟩
 ·rename_i e el q;obtain⟨x,s,l⟩:=bind_some d;simp only[oM]at s;split at l
  ·rename_i J;obtain⟨m,t⟩:=aU l;simp only[ok,Option.some.injEq,Prod.mk.injEq]at t;obtain⟨rfl,rfl⟩:=t;simp only[Bool.and_eq_true]at m;obtain⟨u,y,C,K⟩:=h.frz g s J m.2.2;exact⟨_,u,λ_=>rfl,y,C,Nat.succ_pos _,K _ _ rfl j⟩
  ·simp[aG]at l
 ·simp[ok]at d;obtain⟨rfl,rfl⟩:=d;have hv:v=.slice none 0 0:=j;exact⟨G,Fr.refl w G,λ_=>rfl,h,g,f,by simp,λ_=>⟨none,0,0,hv,rfl,Nat.le_refl _,Nat.zero_le _,λ_=>rfl,by simp⟩⟩
 ·simp[ok]at d;obtain⟨rfl,rfl⟩:=d;exact⟨G,Fr.refl w G,λ_=>rfl,h,g,f,j⟩
 ·rename_i e el q;obtain⟨x,s,l⟩:=bind_some d;simp only[oM]at s;split at l
  ·rename_i J;obtain⟨m,t⟩:=aU l;simp only[ok,Option.some.injEq,Prod.mk.injEq]at t;obtain⟨rfl,rfl⟩:=t;simp only[Bool.and_eq_true]at m;obtain⟨u,y,C,K⟩:=h.fzA g s J;refine⟨_,u,λ_=>rfl,y,C,f,?_⟩;rw[(j.2 x ⟨s,Nat.zero_le _,Nat.eq_of_beq_eq_true m.1⟩).1,iG _ _ m.2.2,<-Nat.eq_of_beq_eq_true m.2.1];exact K
  ·simp[aG]at l
 ·simp[aG]at d
theorem iM.put(h:iM ext nt w G st act){t:Nat}{a:A}(c:dN w G st a (tv ext act t)):iM ext nt w G (st.put t a) act:=by
 refine⟨h.rel.slotsTo _,λd=>?_,h.size,h.defers⟩;refine pZ.2 ?_;simp only[St.put,Tr.get_set];split
 ·rename_i e;subst e;exact c
 ·exact h.slots d
theorem JK{n:Nat}:∀{l:List Nat},has l n=true<->n∈l
 |[]=>by simp[has]
 |m::l=>by
  by_cases h:m=n
  ·subst h;simp[has,qD]
  ·simp[has,qK h,JK (l:=l),Ne.symm h]
theorem mG.put{ks:List Nat}(f:mG ks st){t:Nat}(ht:t∈ks)(a:A):mG ks (st.put t a):=λd c=>by have:d≠t:=λe=>c (e▸ht);simp[St.put,Tr.get_set,this,f d c]
theorem Dl{ks:List Nat}{nb:Nat}:∀(l:List (Nat×Conv)){G:Gh}{st st':St},iM ext nt w G st act->mG ks st->0<st.ctr->Wi ks nb l st=some st'->∃G',Fr w G w G'/\iM ext nt w G' st' act/\mG ks st'/\0<st'.ctr
 |[],G,st,st',h,f,e,d=>by simp[Wi,ok]at d;subst d;exact⟨G,Fr.refl w G,h,f,e⟩
 |(t,c)::l,G,st,st',h,f,e,d=>by simp only[Wi]at d;obtain⟨j,m⟩:=aU d;obtain⟨q,r,s⟩:=bind_some m;obtain⟨K,u,_,v,y,C,F⟩:=Dk h f e (h.slots t) r;obtain⟨g,H,J⟩:=Dl l (v.put F) (y.put (JK.1 j) _) C s;exact⟨g,u.trans H,J⟩
theorem iM.setLeaf(h:iM ext nt w G st act){b j:Nat}{x:Bx}{a:A}(hx:look st.bx b=some x)(W:x.mp=none)(u:∀cs e,w.heap[(G.B b).1]?=some (.cells cs e (0,0))->∀v,cs[(G.B b).2 +j]?=some v->dN w G st a v):
  iM ext nt w G {st with bx:=qC st.bx b {uid:=x.uid,lv:=x.lv.set j a}} act:=by
 have s:=Le.bxPut (w:=w) (G:=G) hx (x.lv.set j a);refine⟨?_,λt=>dR s _ _ (h.slots t),h.size,h.defers⟩;obtain⟨P,Q,V⟩:=h.rel.boxes b x hx;obtain⟨cs,e,F,T,U⟩:=V.cells W;refine h.rel.step s (λ_ _ h=>by simp at h) (λb' f c=>?_) (λb1 b2 a1 a2 e1 C Y=>?_) (λr a u=>.inl ⟨u,λ_=>rfl,λb p h=>⟨h,rfl⟩⟩) h.rel.live h.rel.hdr
 ·simp only[bR]at c;by_cases g:b'=b
  ·rw[if_pos g]at c;injection c with c;subst c;subst g;refine .inr ⟨P,Q,lA.of_cells rfl ⟨cs,e,F,by simpa using T,λd y=>?_⟩⟩;simp only[List.length_set]at y;obtain⟨v,m,K⟩:=U d y;refine⟨v,m,dR s _ _ ?_⟩;by_cases H:d=j
   ·subst H;have:(x.lv.set d a).getD d .undef=a:=by simp[List.getD,y]
    rw[this];exact u cs e F v m
   ·have:(x.lv.set j a).getD d .undef=x.lv.getD d .undef:=by simp[List.getD,List.getElem?_set,Ne.symm H]
    rw[this];exact K
  ·rw[if_neg g]at c;exact .inl ⟨c,rfl,rfl,(h.rel.boxes b' f c).2.1⟩
 ·simp only[bR]at e1 C;have J:∀b' f,(if b'=b then some ({uid:=x.uid,lv:=x.lv.set j a}:Bx)else look st.bx b')=some f->∃L,look st.bx b'=some L/\L.lv.length=f.lv.length:=λb' f l=>by
   split at l
   ·rename_i g;injection l with l;subst l;subst g;exact⟨x,hx,by simp⟩
   ·exact⟨f,l,rfl⟩
  obtain⟨y1,a0,a3⟩:=J b1 a1 e1;obtain⟨y2,m,K⟩:=J b2 a2 C;exact h.rel.apartB b1 b2 y1 y2 a0 m Y
theorem JL{ks:List Nat}:∀(l:List (Nat×Nat×Conv)){G:Gh}{st st':St},iM ext nt w G st act->mG ks st->0<st.ctr->YW ks l st=some st'->∃G',Fr w G w G'/\iM ext nt w G' st' act/\mG ks st'/\0<st'.ctr
 |[],G,st,st',h,s,r,f=>by simp[YW,ok]at f;subst f;exact⟨G,Fr.refl w G,h,s,r⟩
 |(b,j,c)::l,G,st,st',h,s,r,f=>by
  simp only[YW]at f;cases hx:look st.bx b with
  |none=>simp only[hx]at f;exact JL l h s r f
  |some x=>
   simp only[hx]at f;obtain⟨q,g,L⟩:=bind_some f;obtain⟨a4,t,P⟩:=bind_some L;simp only[oM]at t;obtain⟨a9,b0,d⟩:=h.rel.boxes b x hx;by_cases y:j<x.lv.length
   ·have Q:x.mp=none:=d.noMap y;obtain⟨cs,e,u,b1,K⟩:=d.cells Q;obtain⟨v,a0,a1⟩:=K j y;obtain⟨a5,U,C,F,V,W,Y⟩:=Dk h s r a1 g;have T:=F.setLeaf (j:=j) (a:=q.2) t ((F.rel.boxes b a4 t).2.2.noMap' (by rw[C];exact u)) (λa6 a7 d b2 m=>by
     rw[C]at d m;rw[u]at d;injection d with d;injection d with d;subst d;rw[a0]at m;injection m with m;subst m;exact Y)
    obtain⟨H,a2,a3⟩:=JL l T V W P;exact⟨H,U.trans a2,a3⟩
   ·have:x.lv.getD j .undef=.undef:=by
     simp only[List.getD];rw[List.getElem?_eq_none (by omega)];rfl
    rw[this]at g;unfold Wh at g;split at g<;>first|(rename_i J;simp at J;done) |(simp[aG]at g;done) |(simp_all;done)
theorem MY(h:iM ext nt w G st act){a:Option Ann}{st':St}(c:FL a st=some st'):∃G',Fr w G w G'/\iM ext nt w G' st' act:=by
 cases a with
 |none=>simp[FL,ok]at c;subst c;exact⟨G,Fr.refl w G,h⟩
 |some a=>
  obtain⟨m,r⟩:=h.keep a.keep;have e:=m.gc a.keep;have s:mG a.keep ((st.keep a.keep).gc a.keep):=r;have t:0<((st.keep a.keep).gc a.keep).ctr:=Nat.lt_succ_self 0;simp only[FL]at c;split at c
  ·simp[ok]at c;subst c;exact⟨G,Fr.refl w G,e⟩
  ·obtain⟨s1,g,j⟩:=bind_some c;obtain⟨P,l,d⟩:=bind_some j;simp[ok]at d;subst d;obtain⟨J,u,v,y,C⟩:=Dl _ e s t g;obtain⟨f,F,H,K,L⟩:=JL _ v y C l;exact⟨f,u.trans F,H.gc _⟩
end
end Go.Eng

namespace Go.Eng
def K4:Ex->Exit
 |.norm=>.normal
 |.ret=>.ret
 |.exit id=>.exit id
def lC(E:fC)(h:fI)(nt:Nat):Code->Bool
 |.skip=>true
 |.region id ops d=>aBZ E h nt id ops d
 |.seq x c=>lC E h nt x&&lC E h nt c
 |.cond _ x c=>lC E h nt x&&lC E h nt c
 |.block _ x=>lC E h nt x
 |.loop x=>lC E h nt x
 |.exit _=>true
 |.ret=>true
 |.label _=>true
 |.scope x=>lC E h nt x
 |_=>false
section
variable{ext:Nat->Value}{P:Program}{nt:Nat}
theorem aB2{p:Nat->Prop}(h:∃n,p n):∃n,p n/\∀m,p m->n<=m:=by
 obtain⟨n,f⟩:=h;induction n using Nat.strongRecOn with
 |_ n j=>
  by_cases c:∃m,m<n/\p m
  ·obtain⟨m,d,e⟩:=c;exact j m d e
  ·exact⟨n,f,λm g=>by
    rcases Nat.lt_or_ge m n with h |h
    ·exact absurd ⟨m,h,g⟩ c
    ·exact h⟩
theorem K5{x:Code}{f:St->M (Ex×St)}{hd:St->M St}{Q:Exit->Act->World->Prop}{w0:World}{m:Gh}{ex:Ex}{st1:St}
  (hf:∀{w:World}{G:Gh}{st:St}{act:Act}{e:Ex}{st':St},iM ext nt w G st act->f st=some (e,st')->∀Q:Exit->Act->World->Prop,(∀c a a' w,Q (.panic c) a w->Q (.panic c) a' w)->(∀w' G' d,Fr w G w' G'->iM ext nt w' G' st' d->Q (K4 e) d w')->x.wp P Q act w)
  (a0:∀{w:World}{G:Gh}{st st':St}{act:Act},iM ext nt w G st act->hd st=some st'->∃G',Fr w G w G'/\iM ext nt w G' st' act)
  (W:∀c a a' w,Q (.panic c) a w->Q (.panic c) a' w)(H:∀w' G' d,Fr w0 m w' G'->iM ext nt w' G' st1 d->Q (K4 ex) d w')
  {k:Nat}{st:St}{act:Act}(h:iM ext nt w0 m st act)(a1:MB f hd k st=some (ex,st1)):(Code.loop x).wp P Q act w0:=by
 classical
 let t:Nat->Act->World->Prop:=λn a w=>∃G st,Fr w0 m w G/\iM ext nt w G st a/\MB f hd n st=some (ex,st1)
 let I:Act->World->Prop:=λa w=>∃n,t n a w
 let l:Act->World->Nat:=λa w=>if g:I a w then Classical.choose (aB2 g)else 0
 have a2:∀n a w,t n a w->l a w<=n:=λn a w u=>by have g:I a w:=⟨n,u⟩;simp only[l,dif_pos g];exact(Classical.choose_spec (aB2 g)).2 n u
 refine wp_loop I l ⟨k,m,st,Fr.refl w0 m,h,a1⟩ λa w g=>?_;have u:t (l a w) a w:=by simp only[l,dif_pos g];exact(Classical.choose_spec (aB2 g)).1
 obtain⟨G,a5,v,L,s⟩:=u;cases K:l a w with
 |zero=>rw[K]at s;simp[MB,aG]at s
 |succ n=>
  rw[K]at s;simp only[MB]at s;obtain⟨st3,T,U⟩:=bind_some s;obtain⟨r,V,j⟩:=bind_some U;obtain⟨e,st4⟩:=r;obtain⟨a4,F,a3⟩:=a0 L T;refine hf a3 V _ (λc a a' w Y=>W c a a' w Y) (λw' G' d y C=>?_);cases e with
  |norm=>simp only[DC]at j;have J:t n d w':=⟨G',st4,(v.trans F).trans y,C,j⟩;exact⟨⟨n,J⟩,Nat.lt_succ_of_le (a2 n d w' J)⟩
  |ret=>simp[DC,ok]at j;obtain⟨rfl,rfl⟩:=j;exact H w' G' d ((v.trans F).trans y) C
  |exit id=>simp[DC,ok]at j;obtain⟨rfl,rfl⟩:=j;exact H w' G' d ((v.trans F).trans y) C
theorem rN{E:fC}{y:fI}{ctx:sJ}(H:gY P E)(F:jV P E ctx)(J:P.follows .mixedOrders=true)(C:nt<=500)(k:Nat):∀(c:Code)(b:Nat),lC E y nt c=true->
  ∀{w:World}{G:Gh}{st:St}{act:Act}{ex:Ex}{st':St},iM ext nt w G st act->FM E y ctx k b c st=some (ex,st')->
   ∀Q:Exit->Act->World->Prop,(∀c a a' w,Q (.panic c) a w->Q (.panic c) a' w)->(∀w' G' l,Fr w G w' G'->iM ext nt w' G' st' l->Q (K4 ex) l w')->c.wp P Q act w
 |.skip,b,_,w,G,st,act,ex,st',j,h,Q,u,d=>by simp[FM,ok]at h;obtain⟨rfl,rfl⟩:=h;exact wp_skip (d w G act (Fr.refl w G) j)
 |.region id ops b3,b,g,w,G,st,act,ex,st',j,h,Q,u,d=>by
  simp only[FM]at h;refine J9 H F J C g j (λa3 K=>?_) h u (λw' G' l Y v s=>?_)
  ·unfold Fc at K;split at K
   ·simp only[ok,Option.some.injEq,Prod.mk.injEq]at K;obtain⟨rfl,rfl⟩:=K;exact⟨rfl,_,Fr.refl _ _,a3⟩
   ·unfold Wj at K;obtain⟨b1,W,U⟩:=bind_some K;simp only[ok,Option.some.injEq,Prod.mk.injEq]at U;obtain⟨rfl,rfl⟩:=U;obtain⟨L,a0,a1⟩:=MY a3 W;exact⟨rfl,L,a0,a1⟩
  ·have:=d w' G' l v s;rw[Y]at this;exact this
 |.seq x a2,b,g,w,G,st,act,ex,st',j,h,Q,u,d=>by
  simp only[lC,Bool.and_eq_true]at g;simp only[FM]at h;obtain⟨r,T,m⟩:=bind_some h;obtain⟨e1,st1⟩:=r;refine wp_seq (rN H F J C k x b g.1 j T _ (λc a a' w y=>u c a a' w y) (λw' G' l v s=>?_));cases e1 with
  |norm=>simp only[Oc]at m;exact rN H F J C k a2 b g.2 s m Q u (λb2 L a5 a6 b0=>d b2 L a5 (v.trans a6) b0)
  |ret=>simp[Oc,ok]at m;obtain⟨rfl,rfl⟩:=m;exact d w' G' l v s
  |exit id=>simp[Oc,ok]at m;obtain⟨rfl,rfl⟩:=m;exact d w' G' l v s
 |.cond c x a2,b,g,w,G,st,act,ex,st',j,h,Q,u,d=>by
  simp only[lC,Bool.and_eq_true]at g;simp only[FM]at h;have hv:=q8 (w:=w) (G:=G) (st:=st) (act:=act) j.slots c;unfold U5 at h;split at h
  ·rename_i t Y;rw[Y]at hv;refine wp_cond (t:=t) hv ?_;cases t with
   |true=>exact rN H F J C k x b g.1 j (by simpa using h) Q u d
   |false=>exact rN H F J C k a2 b g.2 j (by simpa using h) Q u d
  ·simp[aG]at h
 |.block id x,b,g,w,G,st,act,ex,st',j,h,Q,u,d=>by
  simp only[lC]at g;simp only[FM]at h;obtain⟨r,T,m⟩:=bind_some h;obtain⟨e1,st1⟩:=r;refine wp_block (rN H F J C k x id g j T _ (λc a a' w y=>u c a a' w y) (λw' G' l v s=>?_));cases e1 with
  |norm=>simp[Od,ok]at m;obtain⟨rfl,rfl⟩:=m;exact d w' G' l v s
  |ret=>simp[Od,ok]at m;obtain⟨rfl,rfl⟩:=m;exact d w' G' l v s
  |exit i=>
   simp only[Od]at m;show if i=id then Q .normal l w' else Q (.exit i) l w'
   by_cases e:i=id
   ·subst e;simp[qD,ok]at m;obtain⟨rfl,rfl⟩:=m;rw[if_pos rfl];exact d w' G' l v s
   ·simp[qK e,ok]at m;obtain⟨rfl,rfl⟩:=m;rw[if_neg e];exact d w' G' l v s
 |.loop x,b,g,w,G,st,act,ex,st',j,h,Q,u,d=>by
  simp only[lC]at g;simp only[FM]at h;obtain⟨r,T,m⟩:=bind_some h;obtain⟨e1,st1⟩:=r;obtain⟨b1,W,U⟩:=bind_some m;simp[ok]at U;obtain⟨rfl,rfl⟩:=U;exact K5 (f:=FM E y ctx k b x) (hd:=FL (look y.heads b)) (λs V a4 a9 a7=>rN H F J C k x b g s V a4 a9 a7) (λs V=>MY s V) u
   (λw' G' l v s=>by obtain⟨L,a0,a1⟩:=MY s W;exact d w' L l (v.trans a0) a1) j T
 |.exit id,b,_,w,G,st,act,ex,st',j,h,Q,u,d=>by simp[FM,ok]at h;obtain⟨rfl,rfl⟩:=h;exact wp_exit (d w G act (Fr.refl w G) j)
 |.ret,b,_,w,G,st,act,ex,st',j,h,Q,u,d=>by simp[FM,ok]at h;obtain⟨rfl,rfl⟩:=h;exact wp_ret (d w G act (Fr.refl w G) j)
 |.rangeFunc ..,_,g,_,_,_,_,_,_,_,_,_,_,_=>by simp[lC]at g
 |.scope x,b,g,w,G,st,act,ex,st',j,h,Q,u,d=>by simp only[lC]at g;simp only[FM]at h;refine wp_scope_straight (rN H F J C k x b g j h _ (λc a a' w y=>u c a a' w y) (λw' G' l v s=>?_));have:=d w' G' l v s;cases ex<;>exact this
 |.label _,b,_,w,G,st,act,ex,st',j,h,Q,u,d=>by simp[FM,ok]at h;obtain⟨rfl,rfl⟩:=h;exact wp_label (d w G act (Fr.refl w G) j)
 |.goto _,_,g,_,_,_,_,_,_,_,_,_,_,_=>by simp[lC]at g
 |.refuse _,_,g,_,_,_,_,_,_,_,_,_,_,_=>by simp[lC]at g
end
end Go.Eng

namespace Go.Eng
def X8(w:World)(G:Gh)(ds:List (Nat×Nat)):LT->Value->D->Option Nat->Prop
 |.sl true e el,v,x,some m=>yH w G [] m e el [] v x.els
 |.sl true _ _,v,x,none=>v=.slice none 0 0/\x.els=[]
 |.sl false e el,v,x,n=>n=none/\vD w (vG G ds) (.sl false e el) v x
 |.int k,v,x,n=>n=none/\vD w (vG G ds) (.int k) v x
 |.bool,v,x,n=>n=none/\vD w (vG G ds) .bool v x
 |.str,v,x,n=>n=none/\vD w (vG G ds) .str v x
def RK(w:World)(G:Gh)(ds:List (Nat×Nat)):List LT->List Value->Nat->D->Nat->List (Option Nat)->Prop
 |[],vs,_,_,_,ns=>vs=[]/\ns=[]
 |t::ts,vs,k,x,j,ns=>∃v d n c,vs=v::d/\ns=n::c/\X8 w G ds t v (lf k x j) n/\RK w G ds ts d k x (j+1) c
def eA:List (Option Nat)->List Nat
 |[]=>[]
 |none::l=>eA l
 |some m::l=>m::eA l
theorem RK.length{w:World}{G:Gh}{ds:List (Nat×Nat)}:∀{ts:List LT}{vs:List Value}{k:Nat}{x:D}{j:Nat}{ns:List (Option Nat)},RK w G ds ts vs k x j ns->vs.length=ts.length
 |[],_,_,_,_,_,⟨h,_⟩=>by rw[h];rfl
 |_::_,_,_,_,_,_,⟨v,f,n,e,c,_,_,d⟩=>by rw[c];simp[d.length]
section
variable{w:World}{G:Gh}{st:St}{sl:Nat->Option Value}
theorem zM{ds ds':List (Nat×Nat)}(h:∀d,d∈ds->d∈ds')(b:Nat)(c:vG G ds b):vG G ds' b:=by
 rcases c with c |⟨d,hd,p,e⟩
 ·exact .inl c
 ·exact .inr ⟨d,h d hd,p,e⟩
theorem aGZ{ds:List (Nat×Nat)}{t:LT}{v:Value}{x:D}(ht:sB t=false)(h:vD w (vG G ds) t v x):X8 w G ds t v x none:=by
 cases t with
 |sl o e el=>cases o with
  |true=>simp[sB]at ht
  |false=>exact⟨rfl,h⟩
 |int k=>exact⟨rfl,h⟩
 |bool=>exact⟨rfl,h⟩
 |str=>exact⟨rfl,h⟩
theorem Ng(y:dI w G st sl){t:LT}{a:A}{v:Value}{r:Mz D}(h:IN st t a=some r)(l:dN w G st a v){ds:List (Nat×Nat)}(F:∀d,d∈r.ds->d∈ds):
  ∃n,X8 w G ds t v r.x n/\r.os=eA [n]:=by
 unfold IN at h;split at h
 ·rename_i k L n;obtain⟨f,c⟩:=aU h;simp[ok]at c;subst c;have:=(fD k L).1 f;subst this;exact⟨none,⟨rfl,l⟩,rfl⟩
 ·simp[ok]at h;subst h;exact⟨none,⟨rfl,l⟩,rfl⟩
 ·simp[ok]at h;subst h;exact⟨none,⟨rfl,l⟩,rfl⟩
 ·rename_i o e el;simp[ok]at h;subst h;have hv:v=.slice none 0 0:=l;cases o with
  |true=>exact⟨none,⟨hv,rfl⟩,rfl⟩
  |false=>exact⟨none,⟨rfl,by rw[hv];exact Hp⟩,rfl⟩
 ·rename_i e el r' u;obtain⟨a',f,c⟩:=bind_some h;split at c
  ·rename_i K;obtain⟨g,j⟩:=aU c;simp[ok]at j;subst j;simp only[Bool.and_eq_true]at g;have e1:=Nat.eq_of_beq_eq_true g.1;have m:=iG _ _ g.2;subst e1;subst m;have C:=eH f;obtain⟨J,_,_⟩:=l.2 a' C;have H:=(y.arrs r' a' C.1).2.2.2;rw[K]at H;exact⟨some r',by rw[J];exact H,rfl⟩
  ·simp[aG]at c
 ·rename_i e el dep Q T xs;obtain⟨f,c⟩:=aU h;simp[ok]at c;subst c;simp only[Bool.and_eq_true]at f;obtain⟨f,g,j⟩:=f;have:=iG _ _ j;subst this;exact⟨none,⟨rfl,dE (λb s=>⟨zM F b s,rfl⟩) _ _ _ (l.2 f)⟩,rfl⟩
 ·rename_i e el r' u p;obtain⟨q,f,c⟩:=bind_some h;obtain⟨g,j⟩:=aU c;simp[ok]at j;subst j;simp only[Bool.and_eq_true]at g;have m:=iG _ _ g.2;obtain⟨J,P⟩:=MG y l f;subst m;exact⟨none,⟨rfl,dE (λb s=>⟨zM F b s,rfl⟩) _ _ _ P⟩,rfl⟩
 ·simp[aG]at h
theorem Ik(l m:List (Option Nat)):eA (l++m)=eA l++eA m:=by
 induction l with
 |nil=>rfl
 |cons a l c=>cases a<;>simp[eA,c]
theorem LJ(g:dI w G st sl){ds:List (Nat×Nat)}{k:Nat}{x:D}:∀{lv:List LT}{l:List A}{vs:List Value}{r:Mz (LD)}(j:Nat),cL st lv l=some r->eT w G st l vs->(∀d,d∈r.ds->d∈ds)->
  (∀c e,r.x[c]?=some e->lf k x (j+c)=e)->∃ns,RK w G ds lv vs k x j ns/\r.os=eA ns/\r.x.length=lv.length
 |[],[],vs,r,j,h,hv,_,_=>by simp[cL,ok]at h;subst h;exact⟨[],⟨hv,rfl⟩,rfl,rfl⟩
 |t::ts,a::l,vs,r,j,h,hv,m,hx=>by simp only[cL]at h;obtain⟨p,C,F⟩:=bind_some h;obtain⟨q,H,f⟩:=bind_some F;simp[ok]at f;subst f;obtain⟨v,U,rfl,J,K⟩:=hv;obtain⟨n,u,y⟩:=Ng g C J (ds:=ds) (λd hd=>m d (by simp[hd]));obtain⟨ns,P,Q,T⟩:=LJ g (j+1) H K (λd hd=>m d (by simp[hd])) (λc e L=>by have:=hx (c+1) e (by simpa using L);rw[<-this];congr 1;omega);have s:=hx 0 p.x rfl;refine⟨n::ns,⟨v,U,n,ns,rfl,rfl,by rw[Nat.add_zero]at s;rw[s];exact u,P⟩,?_,by simp[T]⟩;have:n::ns=[n]++ns:=rfl;simp only;rw[this,Ik,y,Q]
 |[],_::_,_,_,_,h,_,_,_=>by simp[cL,aG]at h
 |_::_,[],_,_,_,h,_,_,_=>by simp[cL,aG]at h
theorem yO{st:St}:∀{lv:List LT}{l:List A}{r:Mz (LD)},cL st lv l=some r->r.x.length=lv.length
 |[],[],r,h=>by simp[cL,ok]at h;subst h;rfl
 |t::ts,a::l,r,h=>by simp only[cL]at h;obtain⟨p,f,d⟩:=bind_some h;obtain⟨q,e,c⟩:=bind_some d;simp[ok]at c;subst c;simp[yO e]
 |[],_::_,_,h=>by simp[cL,aG]at h
 |_::_,[],_,h=>by simp[cL,aG]at h
theorem WS(g:dI w G st sl){ds:List (Nat×Nat)}{lv:List LT}{l:List A}{vs:List Value}{r:Mz (LD)}(h:cL st lv l=some r)(hv:eT w G st l vs)(j:∀d,d∈r.ds->d∈ds):
  ∃ns,RK w G ds lv vs lv.length (zG r.x) 0 ns/\r.os=eA ns:=by
 have m:=yO h;obtain⟨ns,e,f,_⟩:=LJ (k:=lv.length) (x:=zG r.x) g 0 h hv j (λs u c=>by have t:=(List.getElem?_eq_some_iff.1 c).1;rw[Nat.zero_add,IW m s (by omega)];simp[List.getD,c]);exact⟨ns,e,f⟩
end
def Gh.noFz(G:Gh):Gh:={G with own:=λb=>match G.own b with|.fz=>.out |t=>t}
theorem Il{G:Gh}{b r:Nat}{p:cP}:G.noFz.own b=.arr r p<->G.own b=.arr r p:=by simp only[Gh.noFz];cases G.own b<;>simp
mutual
theorem aB3{w:World}{G:Gh}{S:List cP}{r:Nat}:∀(t:LT)(p:cP)(v:Value)(x:D),t.noFz=true->Wo w G S r t p v x->Wo w G.noFz S r t p v x
 |.sl true e el,p,v,x,d,h=>by
  simp only[LT.noFz,Bool.true_and]at d;rcases h with h |⟨u,a,n,c,y,C,F,H,J,K⟩
  ·exact .inl h
  ·refine .inr ⟨u,a,n,c,y,C,F,H,J,λad L=>?_⟩;obtain⟨g,j,cs,f,l,m,s⟩:=K ad L;exact⟨g,Il.2 j,cs,f,l,m,λi P=>Im el p i _ _ _ _ _ d (s i P)⟩
 |.sl false e el,p,v,x,d,h=>by simp[LT.noFz]at d
 |.int k,_,v,x,_,h=>h
 |.bool,_,v,x,_,h=>h
 |.str,_,v,x,_,h=>h
theorem Im{w:World}{G:Gh}{S:List cP}{r:Nat}:∀(ts:List LT)(p:cP)(i b o k:Nat)(x:D)(j:Nat),pR ts=true->U8 w G S r ts p i b o k x j->U8 w G.noFz S r ts p i b o k x j
 |[],_,_,_,_,_,_,_,_,_=>trivial
 |t::ts,p,i,b,o,k,x,j,c,⟨⟨v,d,e⟩,f⟩=>by simp only[pR,Bool.and_eq_true]at c;exact⟨⟨v,d,aB3 t _ v _ c.1 e⟩,Im ts p i b o k x (j+1) c.2 f⟩
end
theorem aB4{w:World}{G:Gh}{S:List cP}{r:Nat}{e:TypeId}{el:List LT}{p:cP}{v:Value}{data:LD}(K:pR el=true)(h:yH w G S r e el p v data):yH w G.noFz S r e el p v data:=by obtain⟨a,n,c,s,t,u,y,C,F⟩:=h;refine⟨a,n,c,s,t,u,y,C,λad H=>?_⟩;obtain⟨f,g,cs,d,j,l,m⟩:=F ad H;exact⟨f,Il.2 g,cs,d,j,l,λi J=>Im el p i _ _ _ _ _ K (m i J)⟩
def Gh.adopt(Gm Gx:Gh)(c d:Nat)(v:Value):Gh:=
 {own:=λb=>match Gx.own b with
   |.arr r p=>if r=c then .arr d p else Gm.own b
   |_=>Gm.own b
  H:=λm p=>if m=d then(match p with|[]=>v |_::_=>Gx.H c p)else Gm.H m p
  B:=Gm.B}
theorem PR{Gm Gx:Gh}{c d:Nat}{v:Value}{b:Nat}(h:∀p,Gx.own b≠.arr c p):(Gm.adopt Gx c d v).own b=Gm.own b:=by
 simp only[Gh.adopt];cases f:Gx.own b with
 |arr r p=>have:r≠c:=λe=>h p (by rw[f,e]);simp[this]
 |_=>rfl
theorem In{Gm Gx:Gh}{c d:Nat}{v:Value}{b:Nat}{p:cP}(h:Gx.own b=.arr c p):(Gm.adopt Gx c d v).own b=.arr d p:=by simp[Gh.adopt,h]
theorem Dm{w:World}{Gm Gx:Gh}{st:St}{sl:Nat->Option Value}(u:dI w Gm st sl){g d:Nat}{e:TypeId}{el:List LT}{v:Value}{data:LD}(F:yH w Gx [] g e el [] v data)
  (a3:∀b p,Gx.own b=.arr g p->Gm.own b=.out)(m:(∀b,Gx.own b=.fz->Gm.own b=.fz)\/pR el=true)(a6:∀b,Gx.own b≠.out->b<w.heap.size)(a4:∀r p,∃a n c,Gx.H r p=.slice a n c):
  Le w Gm st w (Gm.adopt Gx g d v) (st.newArr d e el data)/\dI w (Gm.adopt Gx g d v) (st.newArr d e el data) sl/\dN w (Gm.adopt Gx g d v) (st.newArr d e el data) (.vw d st.ctr []) v:=by
 have hv:∃a n c,v=.slice a n c:=by obtain⟨a,n,c,h,_⟩:=F;exact⟨a,n,c,h⟩
 have t:∀b T,Gm.own b=T->T≠.out->(Gm.adopt Gx g d v).own b=T:=λb T f a7=>by rw[PR (λp C=>a7 (by rw[<-f];exact a3 b p C)),f]
 have L:(Gm.adopt Gx g d v).H d []=v:=by simp[Gh.adopt]
 have b1:yH w (Gm.adopt Gx g d v) [] d e el [] v data:=by
  have key:∀l:Gh,(∀b p,l.own b=.arr g p->Gx.own b=.arr g p)->(∀p,l.H g p=Gx.H g p)->(∀b,l.own b=.fz->(Gm.adopt Gx g d v).own b=.fz)->yH w l [] g e el [] v data->yH w (Gm.adopt Gx g d v) [] d e el [] v data:=λl K a0 a1 a2=>by obtain⟨a,n,c,H,J,b3,b4,b5,b6⟩:=a2;refine⟨a,n,c,H,J,b3,b4,b5,λad y=>?_⟩;obtain⟨Q,U,cs,P,V,W,Y⟩:=b6 ad y;refine⟨Q,In (K _ _ U),cs,P,V,W,λi a5=>?_⟩;refine MC (λb f=>⟨a1 b f,rfl⟩) el [] [] i i _ _ _ _ _ (λ_=>rfl) (λj q _=>.inr ⟨?_,λb f=>⟨In (K _ _ f),rfl⟩⟩) (λj q b0=>by simp at b0) (Y i a5);simp only[List.nil_append];simp[Gh.adopt,a0]
  rcases m with m |m
  ·exact key Gx (λ_ _ h=>h) (λ_=>rfl) (λb f=>t b .fz (m b f) (by simp)) F
  ·exact key Gx.noFz (λb p h=>Il.1 h) (λ_=>rfl) (λb f=>by simp only[Gh.noFz]at f;cases a9:Gx.own b<;>simp[a9]at f) (aB4 m F)
 obtain⟨H,J⟩:=iK u (stg:=st) (d:=d) (e:=e) (el:=el) (data:=data) (w':=w) (G':=Gm.adopt Gx g d v) ⟨rfl,rfl,Nat.le_refl _⟩
  (λr s a y=>.inl ⟨y,λp=>by simp[Gh.adopt,s],λb p f=>⟨t b _ f (by simp),rfl⟩⟩) (λb f=>⟨t b _ f (by simp),rfl⟩) (λ_=>rfl) (λb f=>⟨t b _ f (by simp),rfl⟩)
  (by rw[L];exact b1) (λb f=>by
   by_cases h:∃p,Gx.own b=.arr g p
   ·obtain⟨p,h⟩:=h;exact a6 b (by rw[h];simp)
   ·rw[PR (λp C=>h ⟨p,C⟩)]at f;exact u.live b f) (λr p=>by
   by_cases s:r=d
   ·cases p with
    |nil=>obtain⟨a,n,c,e⟩:=hv;exact⟨a,n,c,by simp[Gh.adopt,s,e]⟩
    |cons x q=>obtain⟨a,n,c,e⟩:=a4 g (x::q);exact⟨a,n,c,by simp[Gh.adopt,s,e]⟩
   ·obtain⟨a,n,c,e⟩:=u.hdr r p;exact⟨a,n,c,by simp[Gh.adopt,s,e]⟩)
 refine⟨H,J,?_⟩;have:=jJ (w:=w) (G:=Gm.adopt Gx g d v) (stg:=st) (d:=d) (e:=e) (el:=el) (data:=data);rw[L]at this;have b2:iV (st.newArr d e el data) d []=st.ctr:=by simp[iV,St.newArr,bR,jL]
 rw[b2]at this;exact this
theorem WT{w:World}{G:Gh}{st:St}{sl:Nat->Option Value}(g:dI w G st sl){d:Nat}{e:TypeId}{el:List LT}:
  Le w G st w (G.nilAt d) (st.newArr d e el [])/\dI w (G.nilAt d) (st.newArr d e el []) sl/\dN w (G.nilAt d) (st.newArr d e el []) (.vw d st.ctr []) (.slice none 0 0):=by
 have h:(G.nilAt d).H d []=.slice none 0 0:=by simp[Gh.nilAt]
 obtain⟨t,u⟩:=iK g (stg:=st) (d:=d) (e:=e) (el:=el) (data:=[]) (w':=w) (G':=G.nilAt d) ⟨rfl,rfl,Nat.le_refl _⟩
  (λr m a l=>.inl ⟨l,λp=>by simp[Gh.nilAt,m],λb p f=>⟨f,rfl⟩⟩) (λb f=>⟨f,rfl⟩) (λ_=>rfl) (λb f=>⟨f,rfl⟩)
  (by rw[h];exact⟨none,0,0,rfl,rfl,Nat.le_refl _,Nat.zero_le _,λ_=>rfl,by simp⟩) g.live (λr p=>by
   by_cases e1:r=d/\p=[]
   ·exact⟨none,0,0,by simp[Gh.nilAt,e1]⟩
   ·obtain⟨a,n,c,j⟩:=g.hdr r p;exact⟨a,n,c,by simp only[Gh.nilAt,if_neg e1];exact j⟩)
 refine⟨t,u,?_⟩;have:=jJ (w:=w) (G:=G.nilAt d) (stg:=st) (d:=d) (e:=e) (el:=el) (data:=[]);rw[h]at this;have s:iV (st.newArr d e el []) d []=st.ctr:=by simp[iV,St.newArr,bR,jL]
 rw[s]at this;exact this
structure aGj(Gx Gm Gm':Gh)(ns:List Nat):Prop where
 own:∀b,(∀n p,n∈ns->Gx.own b≠.arr n p)->Gm'.own b=Gm.own b
 arr:∀b n p,n∈ns->Gx.own b=.arr n p->∃r q,Gm'.own b=.arr r q
 B:∀b,Gm'.B b=Gm.B b
theorem qT(dep:List (Nat×Nat))(nb k:Nat)(x:D):∀(ts:List LT)(j:Nat)(st:St),(dJ dep nb k x j ts st).1.sl =st.sl/\(dJ dep nb k x j ts st).1.bx =st.bx
 |[],j,st=>⟨rfl,rfl⟩
 |.sl true e el::ts,j,st=>by simp only[dJ];exact qT dep nb k x ts (j+1) (st.newArr (nb+j) e el (lf k x j).els)
 |.sl false e el::ts,j,st=>by simp only[dJ];exact qT dep nb k x ts (j+1) st
 |.int c::ts,j,st=>by simp only[dJ];exact qT dep nb k x ts (j+1) st
 |.bool::ts,j,st=>by simp only[dJ];exact qT dep nb k x ts (j+1) st
 |.str::ts,j,st=>by simp only[dJ];exact qT dep nb k x ts (j+1) st
theorem Xw{dep:List (Nat×Nat)}{nb k:Nat}{x:D}{j:Nat}{t:LT}{ts:List LT}{st:St}(ht:sB t=false):
  dJ dep nb k x j (t::ts) st=((dJ dep nb k x (j+1) ts st).1,CT dep t (lf k x j)::(dJ dep nb k x (j+1) ts st).2):=by
 cases t with
 |sl o e el=>cases o with
  |true=>simp[sB]at ht
  |false=>rfl
 |_=>rfl
theorem DS{w:World}{Gx:Gh}{ds dep:List (Nat×Nat)}{nb k:Nat}{x:D}(W:∀b,Gx.own b≠.out->b<w.heap.size)(U:∀r p,∃a n c,Gx.H r p=.slice a n c):
  ∀{ts:List LT}{vs:List Value}{j:Nat}{ns:List (Option Nat)}{Gm:Gh}{st:St}{sl:Nat->Option Value},RK w Gx ds ts vs k x j ns->dI w Gm st sl->(eA ns).Nodup->(∀n∈eA ns,∀d∈ds,d.1≠n)->
   (∀n∈eA ns,∀b p,Gx.own b=.arr n p->Gm.own b=.out)->((∀b,vG Gx ds b->vG Gm dep b)\/pR ts=true)->(∀d,d∈dep->d.2<st.ctr)->((∀b,Gx.own b=.fz->Gm.own b=.fz)\/∀t∈ts,zT t=true)->
   ∃Gm',aGj Gx Gm Gm' (eA ns)/\Le w Gm st w Gm' (dJ dep nb k x j ts st).1 /\dI w Gm' (dJ dep nb k x j ts st).1 sl/\eT w Gm' (dJ dep nb k x j ts st).1 (dJ dep nb k x j ts st).2 vs
 |[],vs,j,ns,Gm,st,sl,⟨a1,a2⟩,H,_,_,_,_,_,_=>by subst a1;subst a2;exact⟨Gm,⟨λ_ _=>rfl,λb n p l=>by simp[eA]at l,λ_=>rfl⟩,Le.refl w Gm st,H,rfl⟩
 |t::ts,vs,j,ns,Gm,st,sl,⟨v,b0,n,a0,a1,a2,G,a3⟩,H,F,y,C,g,J,T=>by
  subst a1;subst a2;by_cases ht:sB t=true
  ·obtain⟨e,el,rfl⟩:∃e el,t=.sl true e el:=by
    cases t with
    |sl o e el=>cases o with
     |true=>exact⟨e,el,rfl⟩
     |false=>simp[sB]at ht
    |_=>simp[sB]at ht
   have b3:(∀b,Gx.own b=.fz->Gm.own b=.fz)\/pR el=true:=by
    rcases T with h |h
    ·exact .inl h
    ·exact .inr (by have:=h (.sl true e el) (by simp);simpa[zT]using this)
   cases n with
   |some m=>
    simp only[eA]at F y C⊢;obtain⟨a6,a7,a9⟩:=Dm (d:=nb+j) H G (C m (by simp)) b3 W U;have V:∀b,(∀p,Gx.own b≠.arr m p)->(Gm.adopt Gx m (nb+j) v).own b=Gm.own b:=λb f=>PR f;obtain⟨Gm',s,u,L,P⟩:=DS W U (dep:=dep) (nb:=nb) (ns:=a0) (j:=j+1) a3 a7 (List.nodup_cons.1 F).2 (λn l=>y n (by simp[l]))
     (λn l b p f=>by rw[V b (λp' Y=>by rw[f]at Y;injection Y with Y;exact(List.nodup_cons.1 F).1 (Y▸l))];exact C n (by simp[l]) b p f)
     (by
      rcases g with g |g
      ·left;intro b f;have b6:∀p,Gx.own b≠.arr m p:=λp K=>by
        rcases f with f |⟨d,hd,p',f⟩
        ·rw[K]at f;simp at f
        ·rw[K]at f;injection f with f;exact y m (by simp) d hd f.symm
       have:=g b f;unfold vG at this⊢;rw[V b b6];exact this
      ·exact .inr (by simp only[pR,Bool.and_eq_true]at g;exact g.2))
     (λd hd=>Nat.lt_succ_of_lt (J d hd))
     (by
      rcases T with h |h
      ·left;intro b f;rw[V b (λp K=>by rw[f]at K;simp at K)];exact h b f
      ·exact .inr λt ht=>h t (by simp[ht]))
    refine⟨Gm',⟨λb f=>?_,λb n p l f=>?_,λb=>s.B b⟩,?_,?_,?_⟩
    ·rw[s.own b (λn p l=>f n p (by simp[l])),V b (λp=>f m p (by simp))]
    ·by_cases a5:n∈eA a0
     ·exact s.arr b n p a5 f
     ·have:n=m:=by
       rcases List.mem_cons.1 l with h |h
       ·exact h
       ·exact absurd h a5
      subst this;refine⟨nb+j,p,?_⟩;rw[s.own b (λn' p' b5 Q=>by rw[f]at Q;injection Q with Q;exact a5 (Q▸b5))];exact In f
    ·exact a6.trans u
    ·exact L
    ·exact⟨v,b0,rfl,dR u _ _ a9,P⟩
   |none=>
    simp only[eA]at F y C⊢;obtain⟨hv,b7⟩:=G;subst hv;obtain⟨a6,a7,a9⟩:=WT (d:=nb+j) (e:=e) (el:=el) H;obtain⟨Gm',s,u,L,P⟩:=DS W U (dep:=dep) (nb:=nb) (ns:=a0) (j:=j+1) a3 a7 F y C (g.imp id λh=>by simp only[pR,Bool.and_eq_true]at h;exact h.2) (λd hd=>Nat.lt_succ_of_lt (J d hd))
     (T.imp id λh t ht=>h t (by simp[ht]))
    have a4:(dJ dep nb k x j (.sl true e el::ts) st)=((dJ dep nb k x (j+1) ts (st.newArr (nb+j) e el [])).1,.vw (nb+j) st.ctr []::(dJ dep nb k x (j+1) ts (st.newArr (nb+j) e el [])).2):=by simp only[dJ,b7]
    rw[a4];exact⟨Gm',⟨s.own,s.arr,s.B⟩,a6.trans u,L,_,b0,rfl,dR u _ _ a9,P⟩
  ·have b2:sB t=false:=by simpa using ht
   have b4:n=none/\vD w (vG Gx ds) t v (lf k x j):=by
    cases t with
    |sl o e el=>cases o with
     |true=>simp[sB]at ht
     |false=>exact G
    |int k=>exact G
    |bool=>exact G
    |str=>exact G
   obtain⟨rfl,b1⟩:=b4;simp only[eA]at F y C⊢;obtain⟨Gm',s,u,L,P⟩:=DS W U (dep:=dep) (nb:=nb) (ns:=a0) (j:=j+1) a3 H F y C (g.imp id λh=>by simp only[pR,Bool.and_eq_true]at h;exact h.2) J (T.imp id λh t ht=>h t (by simp[ht]));rw[Xw b2];refine⟨Gm',s,u,L,v,b0,rfl,?_,P⟩;have hd:dN w Gm st (CT dep t (lf k x j)) v:=by
    rcases g with g |g
    ·exact MD J (dE (λb f=>⟨g b f,rfl⟩) _ _ _ b1)
    ·simp only[pR,Bool.and_eq_true]at g;exact MD J (Sc (λo e el a4=>by
      subst a4;have:=g.1;cases o with
      |true=>simp[sB]at b2
      |false=>simp[LT.noFz]at this) b1)
   exact dR u _ _ hd
end Go.Eng

namespace Go.Eng
structure E5(G:Gh)(st:St)(ds:List (Nat×Nat))(gs bn:List Nat)(Gk:Gh):Prop where
 fz:∀b,G.own b=.fz->Gk.own b=.fz
 dep:∀b d p,d∈ds->G.own b=.arr d.1 p->Gk.own b=.fz
 rp:∀n x u,look st.bx n=some x->(sA n,u)∈ds->Gk.own (G.B n).1 =.fz
 free:∀b r p,G.own b=.arr r p->(∀d∈ds,d.1≠r)->r∉gs->Gk.own b=.out
 box:∀b,G.own b=.box->(∀n x,look st.bx n=some x->(G.B n).1 =b->(∀u,(sA n,u)∉ds)/\n∉bn)->Gk.own b=.out
 out:∀b,G.own b=.out->Gk.own b=.out
def okI(G:Gh)(st:St)(ds:List (Nat×Nat))(b:Nat):Prop:=vG G ds b\/∃n x u,look st.bx n=some x/\(sA n,u)∈ds/\b=(G.B n).1
theorem E5.okI{G Gk:Gh}{st:St}{ds:List (Nat×Nat)}{gs bn:List Nat}(h:E5 G st ds gs bn Gk){b:Nat}(c:okI G st ds b):vG Gk [] b:=by
 rw[PC];rcases c with(c |⟨d,hd,p,c⟩) |⟨n,x,u,e,f,rfl⟩
 ·exact h.fz b c
 ·exact h.dep b d p hd c
 ·exact h.rp n x u e f
section
variable{P:Program}{w:World}{G:Gh}{st:St}{slc:Nat->Option Value}{E:fC}{ds:List (Nat×Nat)}
theorem K6(a4:gY P E)(V:dI w G st slc){t:TypeId}{ti:TI}(ht:E.tt.look t=some ti){a:A}{v:Value}(g:dN w G st a v){p:List (Nat×Nat)×D}(h:aDm E st ti a=some p)(Y:∀d,d∈p.1->d∈ds):
  ∃vs,(if ti.agg then v=.agg ⟨vs⟩else vs=[v])/\vs.length=ti.lv.length/\∀(j:Nat)(t:LT)(u:Value),ti.lv[j]?=some t->vs[j]?=some u->vD w (okI G st ds) t u (lf ti.lv.length p.2 j):=by
 have b7:=a4.types _ _ ht;have b4:∀(a:A),dN w G st a v->FB (Qz a) ti.agg=true->∀q,E7 st ti.lv (fW a)=some q->q.1=p.1->zG q.2=p.2->
   ∃vs,(if ti.agg then v=.agg ⟨vs⟩else vs=[v])/\vs.length=ti.lv.length/\∀(j:Nat)(t:LT)(u:Value),ti.lv[j]?=some t->vs[j]?=some u->vD w (okI G st ds) t u (lf ti.lv.length p.2 j):=by
  intro a g e7 q d1 e1 a9;have c1:Qz a=ti.agg:=by cases s:Qz a<;>cases J:ti.agg<;>simp_all[FB]
  obtain⟨vs,a1,U⟩:∃vs,(if ti.agg then v=.agg ⟨vs⟩else vs=[v])/\eT w G st (fW a) vs:=by
   rw[<-c1];cases a with
   |agg xs=>obtain⟨vs,d3,e0⟩:=g;exact⟨vs,d3,e0⟩
   |_=>exact⟨[v],rfl,v,[],rfl,g,rfl⟩
  obtain⟨b0,F,H,T⟩:=IY V d1 (λj t f=>DI b7.lvF j t f) U;refine⟨vs,a1,H,λj t u f C=>?_⟩;have c7:j<ti.lv.length:=(List.getElem?_eq_some_iff.1 f).1;rw[<-a9,IW F j c7];exact dE (λb W=>⟨.inl (zM (by rw[e1];exact Y) b W),rfl⟩) _ _ _ (T j t u f C)
 unfold aDm at h;split at h
 ·rename_i b u k n;unfold aBd at h;obtain⟨m,s,J⟩:=bind_some h;obtain⟨l,K,y⟩:=bind_some J;obtain⟨a2,b5⟩:=aU y;obtain⟨q,b6,a3⟩:=bind_some b5;simp[ok]at a3;subst a3;simp only[Bool.and_eq_true,Bool.not_eq_true']at a2;obtain⟨a1,U,b1,b2,b3⟩:=a2;have c8:=Nat.eq_of_beq_eq_true U;have a5:=iG _ _ b2;have f0:=Nat.le_of_ble_eq_true b3;simp only[oM]at s;have c0:=a4.types _ _ s;obtain⟨x,L,e3,e4⟩:=fU K;subst e4;obtain⟨hv,d0⟩:=g.2 x L e3;obtain⟨_,_,c3⟩:=V.boxes b x L;obtain⟨cs,e,e2,f2,a6⟩:=c3.cells (vH K L);have c2:∃vs:List Value,eT w G st (kH (k*n) x.lv) vs/\∀j v,vs[j]?=some v->w.cell? ⟨(G.B b).1,(G.B b).2 +j,none⟩=some v:=by
   refine⟨(List.range (kH (k*n) x.lv).length).map λj=>(cs[(G.B b).2 +j]?).getD undef,dG.2 ⟨by simp,λj a v g r=>?_⟩,λj v r=>?_⟩
   ·have f:=(List.getElem?_eq_some_iff.1 g).1;rw[List.getElem?_map,List.getElem?_range f]at r;rw[mP,List.getElem?_take]at g;split at g
    ·have a0:j<x.lv.length:=(List.getElem?_eq_some_iff.1 g).1;obtain⟨v0,Q,a7⟩:=a6 j a0;simp[Q]at r;subst r;simpa[List.getD,g]using a7
    ·simp at g
   ·have f:j<(kH (k*n) x.lv).length:=by have:=(List.getElem?_eq_some_iff.1 r).1;simpa using this
    rw[List.getElem?_map,List.getElem?_range f]at r;have a0:j<x.lv.length:=by rw[mP]at f;simp at f;omega
    obtain⟨v0,Q,a7⟩:=a6 j a0;simp[Q]at r;subst r;simp[World.cell?,e2,Q]
  obtain⟨vs,e5,e6⟩:=c2;have d2:∀(j:Nat)(t:LT),(Fb m.lv n)[j]?=some t->t.setOwn false=t:=λj t ht=>by
   have f:j<n*m.lv.length:=by have:=(List.getElem?_eq_some_iff.1 ht).1;rwa [zW]at this
   have c9:0<m.lv.length:=Nat.pos_of_ne_zero (λh=>by rw[h]at f;simp at f);have e:=Nat.div_add_mod j m.lv.length;have c5:j/m.lv.length<n:=Nat.div_lt_of_lt_mul (by rw[Nat.mul_comm];exact f);have:=VT m.lv n (j/m.lv.length) (j%m.lv.length) c5 (Nat.mod_lt _ c9);rw[Nat.mul_comm,e,ht]at this;exact DI c0.lvF _ t this.symm
  obtain⟨b0,F,H,T⟩:=IY V b6 d2 e5;rw[zW]at F H;refine⟨[v],by rw[b1];rfl,by rw[a5];rfl,λj t u f C=>?_⟩;have c6:j=0:=by have:=(List.getElem?_eq_some_iff.1 C).1;simp at this;omega
  subst c6;rw[a5]at f⊢;simp at f C;subst f;subst C;have c4:∀d,d∈q.1->d∈ds:=λd hd=>Y d (by simp[hd]);have:=V0 (w:=w) (okb:=okI G st ds) (e:=ti.e) (el:=m.lv) (b:=(G.B b).1) (o:=(G.B b).2) (n:=n) (c:=n) (vs:=vs) (xs:=q.2) (.inr ⟨b,x,0,L,Y _ (by simp),rfl⟩) (Nat.le_refl _) d0 (by rw[H]) (by rw[F])
   e6 (λj t v f hv=>dE (λb W=>⟨.inl (zM c4 b W),rfl⟩) _ _ _ (T j t v f hv)) false
  rw[hv];rw[c8];simpa[lf]using this
 ·rename_i a' f1;obtain⟨s,J⟩:=aU h;obtain⟨q,K,y⟩:=bind_some J;simp[ok]at y;exact b4 a g s q K (by rw[<-y]) (by rw[<-y])
theorem Xx(g0:gY P E)(V:dI w G st slc){f:TI}(c9:eZ false f.lv=f.lv){a:A}{v:Value}(s:dN w G st a v){u:Arg}(h:U0 st f a=some u)(L:∀d,d∈u.ds->d∈ds):
  u.os=[]/\u.gs=[]/\∃b o,v=.pointer (some ⟨b,o,none⟩)/\F9 w (okI G st ds) f.lv b o f.lv.length u.x 0:=by
 unfold U0 at h;split at h
 ·rename_i dep el x;obtain⟨m,C⟩:=aU h;simp[ok]at C;subst C;simp only[Bool.and_eq_true]at m;have a1:=iG _ _ m.2;obtain⟨b,o,e5,e6⟩:=s.2 m.1;refine⟨rfl,rfl,b,o,e5,?_⟩;rw[a1,yG,jZ];exact sL (λb H=>⟨.inl (zM L b H),rfl⟩) _ _ _ _ _ _ e6
 ·rename_i b a9 off;obtain⟨l,m,C⟩:=bind_some h;obtain⟨q,K,F⟩:=bind_some C;simp[ok]at F;subst F;obtain⟨x,T,f0,f1⟩:=fU m;subst f1;have hv:=s.2 x T f0;obtain⟨_,_,d1⟩:=V.boxes b x T;obtain⟨cs,e,e7,g1,a6⟩:=d1.cells (vH m T);have Y:(kH f.lv.length (oN off x.lv)).length=f.lv.length:=by
   obtain⟨g4,e1,_⟩:=bind_some K;have:=yO e1;have c6:∀{lv:List LT}{l:List A}{r:Mz (LD)},cL st lv l=some r->l.length=lv.length:=by
    intro lv;induction lv with
    |nil=>intro l r J;cases l with
     |nil=>rfl
     |cons _ _=>simp[cL,aG]at J
    |cons t ts e4=>intro l r J;cases l with
     |nil=>simp[cL,aG]at J
     |cons a l=>simp only[cL]at J;obtain⟨g2,_,d2⟩:=bind_some J;obtain⟨g3,d3,_⟩:=bind_some d2;simp[e4 d3]
   exact c6 e1
  have a4:∀j,j<f.lv.length->off+j<x.lv.length/\(kH f.lv.length (oN off x.lv))[j]?=x.lv[off+j]?:=λj g=>by rw[kI,if_pos g];rw[mP,sM]at Y;simp at Y;exact⟨by omega,rfl⟩
  have d0:∃vs:List Value,eT w G st (kH f.lv.length (oN off x.lv)) vs/\∀j v,vs[j]?=some v->w.cell? ⟨(G.B b).1,(G.B b).2 +off+j,none⟩=some v:=by
   refine⟨(List.range f.lv.length).map λj=>(cs[(G.B b).2 +(off+j)]?).getD undef,dG.2 ⟨by simp[Y],λj a v s y=>?_⟩,λj v y=>?_⟩
   ·have g:j<f.lv.length:=by have:=(List.getElem?_eq_some_iff.1 s).1;omega
    obtain⟨W,e1⟩:=a4 j g;rw[e1]at s;obtain⟨v0,U,a7⟩:=a6 (off+j) W;rw[List.getElem?_map,List.getElem?_range g]at y;simp[U]at y;subst y;simpa[List.getD,s]using a7
   ·have g:j<f.lv.length:=by have:=(List.getElem?_eq_some_iff.1 y).1;simpa using this
    obtain⟨W,e1⟩:=a4 j g;obtain⟨v0,U,a7⟩:=a6 (off+j) W;rw[List.getElem?_map,List.getElem?_range g]at y;simp[U]at y;subst y;simp[World.cell?,e7,Nat.add_assoc,U]
  obtain⟨vs,a2,b0⟩:=d0;obtain⟨f7,b5,f8,b6⟩:=IY V K (λj t g=>DI c9 j t g) a2;refine⟨rfl,rfl,_,_,hv,Rx (.inr ⟨b,x,0,T,L _ (by simp),rfl⟩) f.lv 0 (λj t g=>?_)⟩;have e0:j<f.lv.length:=(List.getElem?_eq_some_iff.1 g).1;have a5:vs[j]?=some vs[j]:=by simp[show j<vs.length by omega]
  rw[Nat.zero_add,IW b5 j e0];exact⟨_,b0 j _ a5,dE (λb H=>⟨.inl (zM (λd hd=>L d (by simp[hd])) b H),rfl⟩) _ _ _ (b6 j t _ g a5)⟩
 ·rename_i r a9 p k i;obtain⟨q,m,C⟩:=bind_some h;obtain⟨K,F⟩:=aU C;simp[ok]at F;subst F;have a1:=iG _ _ K;obtain⟨a0,v0,_,a2,b0⟩:=IU m;obtain⟨t,b7,f9,c2,b,o,n,c,c3,c4,c5⟩:=s.2 a0 v0;have e3:dN w G st (.vw r a9 p) (G.H r p):=⟨s.1,λa' a3=>by
   have:=DR a3 v0.1;obtain⟨f2,c0,c1,_⟩:=s.2 a' a3;exact⟨rfl,⟨f2,c0⟩,c1⟩⟩
  obtain⟨_,c8⟩:=MG V e3 m;obtain⟨a,n',c',e1,f3,f4,f5,f6,b4⟩:=c8;rw[c3]at e1;injection e1 with b1 b2 b3;subst b1;subst b2;subst b3;obtain⟨_,c7⟩:=b4 _ rfl (by omega);have Q:=HF a2;rw[b7]at Q;have e2:k=q.2.2.1.length:=by rw[c2];injection Q with Q;rw[Q]
  refine⟨rfl,rfl,b,o+i*k+0,c5,?_⟩;have:=c7 i c4;rw[jZ]at this;rw[a1,jZ,Nat.add_zero,e2];exact sL (λb H=>⟨.inl (zM L b H),rfl⟩) _ _ _ _ _ _ this
 ·simp[aG]at h
end
end Go.Eng

namespace Go.Eng
section
variable{P:Program}{w:World}{G Gk:Gh}{st stk:St}{slc sl:Nat->Option Value}{E:fC}{ds:List (Nat×Nat)}{os0:List Nat}
theorem ZS{dep:List (Nat×Nat)}(f:∀d,d∈dep->d.2<stk.ctr){k:Nat}{x:D}:∀(ts:List LT)(c:Nat)(vs:List Value),vs.length=ts.length->(∀(j:Nat)(t:LT)(u:Value),ts[j]?=some t->vs[j]?=some u->vD w (vG Gk dep) t u (lf k x (c+j)))->
  eT w Gk stk (IK dep k x c ts) vs
 |[],_,vs,e,_=>by have:vs=[]:=List.eq_nil_of_length_eq_zero e;exact this
 |t::ts,c,[],e,_=>by simp at e
 |t::ts,c,v::vs,e,h=>by refine⟨v,vs,rfl,MD f (by have:=h 0 t v rfl rfl;simpa using this),ZS f ts (c+1) vs (by simpa using e) (λj t u g l=>?_)⟩;have:=h (j+1) t u (by simpa using g) (by simpa using l);rwa [show c+(j+1)=c+1+j by omega]at this
theorem MZ{agg:Bool}{n:Nat}{l:List A}{a:A}{v:Value}{vs:List Value}(h:FJ agg n l=some a)(hv:if agg then v=.agg ⟨vs⟩else vs=[v])(d:eT w Gk stk l vs):dN w Gk stk a v:=by
 obtain⟨_,c⟩:=IT h;cases agg with
 |true=>simp only[if_true]at c hv;subst c;subst hv;exact⟨vs,rfl,d⟩
 |false=>simp only[Bool.false_eq_true,if_false]at c hv;subst c;subst hv;obtain⟨m,r,e,f,j⟩:=d;injection e with e1 g;subst e1;exact f
theorem E5.change{gs0 bn0 t s:List Nat}{Gk':Gh}(j:dI w G st slc)(l:E5 G st ds gs0 bn0 Gk)(H:∀n,n∈gs0->n∈t)(J:∀n,n∈bn0->n∈s)(h:∀b,Gk'.own b=Gk.own b\/(∃r p,G.own b=.arr r p/\r∈t/\∀d∈ds,d.1≠r)\/(∃n x,look st.bx n=some x/\b=(G.B n).1 /\n∈s/\∀u,(sA n,u)∉ds)):E5 G st ds t s Gk':=by
 refine⟨λb c=>?_,λb d p hd c=>?_,λn x u hx m=>?_,λb r p c hd F=>?_,λb c y=>?_,λb c=>?_⟩
 ·rcases h b with h |⟨r,p,h,_⟩ |⟨n,x,g,f,_⟩
  ·rw[h];exact l.fz b c
  ·rw[c]at h;simp at h
  ·have:=(j.boxes n x g).2.1;rw[<-f,c]at this;simp at this
 ·rcases h b with h |⟨r,q,h,_,f⟩ |⟨n,x,g,f,_⟩
  ·rw[h];exact l.dep b d p hd c
  ·rw[c]at h;injection h with h;exact absurd h (f d hd)
  ·have:=(j.boxes n x g).2.1;rw[<-f,c]at this;simp at this
 ·rcases h (G.B n).1 with h |⟨r,q,h,_,f⟩ |⟨n',K,g,f,_,v⟩
  ·rw[h];exact l.rp n x u hx m
  ·have:=(j.boxes n x hx).2.1;rw[h]at this;simp at this
  ·by_cases e:n=n'
   ·subst e;exact absurd m (v u)
   ·exact absurd f (j.apartB n n' x K hx g e)
 ·rcases h b with h |⟨r',q,h,g,f⟩ |⟨n,x,g,f,_⟩
  ·rw[h];exact l.free b r p c hd (λm=>F (H r m))
  ·rw[c]at h;injection h with h;exact absurd (h▸g) F
  ·have:=(j.boxes n x g).2.1;rw[<-f,c]at this;simp at this
 ·rcases h b with h |⟨r',q,h,g,f⟩ |⟨n,x,g,f,v,_⟩
  ·rw[h];exact l.box b c (λn x hx C=>⟨(y n x hx C).1,λm=>(y n x hx C).2 (J _ m)⟩)
  ·rw[c]at h;simp at h
  ·exact absurd v (y n x g f.symm).2
 ·rcases h b with h |⟨r',q,h,g,f⟩ |⟨n,x,g,f,_⟩
  ·rw[h];exact l.out b c
  ·rw[c]at h;simp at h
  ·have:=(j.boxes n x g).2.1;rw[<-f,c]at this;simp at this
theorem sN{l m:List Nat}(h:(l++m).Nodup):∀n∈l,n∉m:=λn d c=>(List.nodup_append.1 h).2.2 n d n c rfl
theorem sO{st:St}:∀{lv:List LT}{l:List A}{r:Mz (LD)},cL st lv l=some r->l.length=lv.length
 |[],[],_,_=>rfl
 |t::ts,a::l,r,h=>by simp only[cL]at h;obtain⟨p,_,c⟩:=bind_some h;obtain⟨q,d,_⟩:=bind_some c;simp[sO d]
 |[],_::_,_,h=>by simp[cL,aG]at h
 |_::_,[],_,h=>by simp[cL,aG]at h
theorem PS(m:dI w G st slc){n:Nat}{x:Bx}(hx:look st.bx n=some x)(s:x.mp=none):∃cs e vs,w.heap[(G.B n).1]?=some (.cells cs e (0,0))/\(G.B n).2 +x.lv.length<=cs.size/\eT w G st x.lv vs/\∀j v,vs[j]?=some v->cs[(G.B n).2 +j]?=some v:=by
 obtain⟨_,_,r⟩:=m.boxes n x hx;obtain⟨cs,e,t,u,h⟩:=r.cells s;refine⟨cs,e,(List.range x.lv.length).map λj=>(cs[(G.B n).2 +j]?).getD undef,t,u,dG.2 ⟨by simp,λj a v g c=>?_⟩,λj v c=>?_⟩
 ·have d:=(List.getElem?_eq_some_iff.1 g).1;obtain⟨v0,f,l⟩:=h j d;rw[List.getElem?_map,List.getElem?_range d]at c;simp[f]at c;subst c;simpa[List.getD,g]using l
 ·have d:j<x.lv.length:=by have:=(List.getElem?_eq_some_iff.1 c).1;simpa using this
  obtain⟨v0,f,l⟩:=h j d;rw[List.getElem?_map,List.getElem?_range d]at c;simp[f]at c;subst c;exact f
theorem Pc{Gx:Gh}(f:dI w Gk stk sl){d b o:Nat}{l:List A}{cs:Array Value}{e:TypeId}{vs:List Value}(s:Gk.own b=.out)(m:w.heap[b]?=some (.cells cs e (0,0)))(J:o+l.length<=cs.size)(r:eT w Gk stk l vs)
  (F:∀j v,vs[j]?=some v->cs[o+j]?=some v):Le w Gk stk w ((Gk.tag b .box).box d (b,o)) (stk.newBox d l)/\dI w ((Gk.tag b .box).box d (b,o)) (stk.newBox d l) sl/\dN w ((Gk.tag b .box).box d (b,o)) (stk.newBox d l) (.pb d stk.ctr 0) (.pointer (some ⟨b,o,none⟩)):=by
 have g:∀b',Gk.own b'≠.out->(Gk.tag b .box).own b'=Gk.own b'/\w.heap[b']?=w.heap[b']?:=λb' c=>by have:b'≠b:=λe=>c (by rw[e];exact s);exact⟨by simp[Gh.tag,this],rfl⟩
 have y:∀b',(Gk.tag b .box).own b'≠.out->b'<w.heap.size:=λb' c=>by
  simp only[Gh.tag]at c;split at c
  ·rename_i e1;rw[e1];exact(Array.getElem?_eq_some_iff.1 m).1
  ·exact f.live b' c
 have h:=Le.world (st:=stk) g (λ_ _=>rfl) (λ_=>rfl);have C:=f.world g (λ_ _=>rfl) (λ_=>rfl) y;have L:=(dG.1 r).1;refine⟨h.trans (Le.newBox _ _ _ _ _ _),C.newBox (cs:=cs) (e:=e) (by simp[Gh.tag]) m J (λj G=>?_) (λb' K hx P=>?_),?_⟩
 ·have H:j<vs.length:=by omega
  have t:vs[j]?=some vs[j]:=by simp[H]
  exact⟨vs[j],F j _ t,dR h _ _ ((dG.1 r).2 j _ _ (by simp[List.getD,G]) t)⟩
 ·intro e1;have:=(f.boxes b' K hx).2.1;have u:(Gk.B b').1 =b:=e1;rw[u,s]at this;simp at this
 ·exact⟨Nat.lt_succ_self _,λx hx Q=>by simp[Gh.box]⟩
def sP:TypeId×PM->A->List Nat
 |(_,.io _),.pb n _ _=>[n]
 |_,_=>[]
def gZ:List (TypeId×PM)->List A->List Nat
 |p::ps,a::as=>sP p a++gZ ps as
 |_,_=>[]
theorem w5(b5:gY P E)(F:dI w G st slc){all:List A}{p:TypeId×PM}{a:A}{v:Value}{u:Arg}{i:Nat}{ps:List (TypeId×PM)}{xs:LD}{uV:St}(h:FC E st all p a=some u)(V:dN w G st a v)(b6:∀d,d∈u.ds->d∈ds)
  (a6:(u.os++os0).Nodup)(W:∀n∈u.os,∀d∈ds,d.1≠n)(c1:iS [p]=true){gs0 bn0:List Nat}(c8:∀r,r∈gs0->r∈os0)(e4:∀n,n∈bn0->sA n∈os0)(Y:dI w Gk stk sl)(H:E5 G st ds gs0 bn0 Gk)(K:eY E i (p::ps) (u.x::xs) stk=some uV):
  ∃Gk' c3 a',eY E (i+1) ps xs (c3.put i a')=some uV/\dI w Gk' c3 sl/\dN w Gk' c3 a' v/\E5 G st ds (u.gs++gs0) (sP p a++bn0) Gk'/\(∀r,r∈u.gs->r∈u.os)/\∀n,n∈sP p a->sA n∈u.os:=by
 obtain⟨t,m⟩:=p;cases m with
 |ro=>simp only[FC]at h;obtain⟨ti,C,J⟩:=bind_some h;obtain⟨q,L,Q⟩:=bind_some J;simp[ok]at Q;subst Q;simp only[oM]at C;obtain⟨vs,a4,T,a9⟩:=K6 b5 F C V L (ds:=ds) b6;simp only[eY,oM,C,Option.bind_some]at K;obtain⟨a',b4,a5⟩:=bind_some K;have e5:=ZS (w:=w) (Gk:=Gk) (stk:=stk) (dep:=[]) (by simp) (k:=ti.lv.length) (x:=q.2) ti.lv 0 vs T (λj t u e7 c2=>by rw[Nat.zero_add];exact dE (λb y=>⟨H.okI y,rfl⟩) _ _ _ (a9 j t u e7 c2));exact⟨Gk,stk,a',a5,Y,MZ b4 a4 e5,by simpa[sP]using H,by simp,by simp[sP]⟩
 |rp=>simp only[FC,LU]at h;obtain⟨e,C,J⟩:=bind_some h;obtain⟨b2,L,Q⟩:=bind_some J;simp only[oM]at C L;obtain⟨a4,c5,b,o,T,a9⟩:=Xx b5 F (b5.types _ _ L).lvF V Q (ds:=ds) b6;simp only[eY,oM,C,Option.bind_some,L]at K;refine⟨Gk,stk,.pz [] b2.lv u.x 0,K,Y,⟨by simp,λ_=>⟨b,o,T,?_⟩⟩,by rw[c5];simpa[sP]using H,by rw[c5];simp,by simp[sP]⟩;exact sL (λb y=>⟨H.okI y,rfl⟩) _ _ _ _ _ _ a9
 |fnv f=>
  cases a<;>simp only[FC,aG]at h<;>(try cases h);rename_i g caps;cases caps with
  |cons _ _=>simp[FC,aG]at h
  |nil=>simp only[FC]at h;obtain⟨C,J⟩:=aU (s:= "") h;simp[ok]at J;subst J;have:=Nat.eq_of_beq_eq_true C;subst this;simp only[eY]at K;obtain⟨vs,e1,b3⟩:=V;exact⟨Gk,stk,.fn f [],K,Y,⟨vs,e1,b3⟩,by simpa[sP]using H,by simp,by simp[sP]⟩
 |mv=>
  cases a<;>simp only[FC,aG]at h<;>(try cases h)
  ·simp only[eY]at K;obtain⟨ti,C,J⟩:=bind_some K;obtain⟨b2,L,Q⟩:=bind_some J;obtain⟨d2,a1,a2⟩:=WT (d:=500+i) (e:=ti.e) (el:=eZ true b2.lv) Y;have hv:v=.slice none 0 0:=V;subst hv;exact⟨_,_,_,Q,a1,a2,by simpa[sP]using H.change (Gk':=Gk.nilAt (500+i)) F (λn U=>U) (λn U=>U) (λb=>.inl rfl),by simp,by simp[sP]⟩
  ·rename_i r f9 p;cases p with
   |cons _ _=>simp[FC,aG]at h
   |nil=>
    simp only[FC]at h;obtain⟨q,C,J⟩:=bind_some h;obtain⟨ti,b2,L,Q,b4⟩:=zY J;obtain⟨a5,c6⟩:=aU (s:= "") b4;simp[ok]at c6;subst c6;simp only[Bool.and_eq_true]at a5;have e1:=Nat.eq_of_beq_eq_true a5.1;have b3:=iG _ _ a5.2;obtain⟨a',a4,T,a9,g3,g4,g5,g6,f4⟩:=mQ F V C;simp only[eY,oM,L,Option.bind_some,Q]at K;have d1:∀d∈ds,d.1≠r:=W r (by simp);have f3:r∉gs0:=λc=>sN a6 r (by simp) (c8 r c);obtain⟨d2,a1,a2⟩:=Dm (d:=500+i) Y f4 (λb p y=>H.free b r p y d1 f3) (.inl H.fz) F.live F.hdr;rw[e1,b3]at a1 a2;refine⟨_,_,_,K,a1,a2,H.change F (λn U=>by simp[U]) (λn U=>by simp[U]) (λb=>?_),by simp,by simp[sP]⟩;by_cases y:∃p,G.own b=.arr r p
    ·obtain⟨p,y⟩:=y;exact .inr (.inl ⟨r,p,y,by simp,d1⟩)
    ·exact .inl (PR (λp a0=>y ⟨p,a0⟩))
 |io el=>
  simp only[FC]at h;unfold LU at h;split at h
  ·rename_i e6;simp at e6
  ·rename_i g2 n f9 b7;injection b7 with b7;subst b7;obtain⟨l,C,J⟩:=bind_some h;obtain⟨q,L,Q⟩:=bind_some J;simp[ok]at Q;subst Q;obtain⟨x,a3,f6,f7⟩:=fU C;subst f7;have hv:=V.2 x a3 f6;obtain⟨cs,e,vs,e2,g1,c4,e3⟩:=PS F a3 (vH C a3);have g9:=sO L;obtain⟨ns,a4,T⟩:=WS F L c4 (ds:=ds) b6;simp only at a6 W;have c0:sA n∈Ce n 0 1++q.os:=by simp[Ce,sA]
   have b1:∀m∈eA ns,m∈Ce n 0 1++q.os:=λm c=>by rw[T];simp[c]
   have c9:∀u,(sA n,u)∉ds:=λu c2=>W _ c0 _ c2 rfl;have f0:n∉bn0:=λc=>sN a6 _ c0 (e4 n c);have c7:=(F.boxes n x a3).2.1;simp only[eY]at K;obtain⟨a7,d3,h1,f8,e0⟩:=DS (nb:=nm (500+i) 0) (dep:=[]) F.live F.hdr a4 Y (by
     have:=(List.nodup_append.1 (List.nodup_append.1 a6).1).2.1;rw[T]at this;exact this) (λm c=>W m (b1 m c)) (λm c b p y=>H.free b m p y (W m (b1 m c)) (λhg=>sN a6 m (b1 m c) (c8 m hg)))
    (.inl λb y=>H.okI (.inl y)) (by simp) (.inl H.fz)
   have f2:a7.own (G.B n).1 =.out:=by
    rw[d3.own _ (λm p _ a0=>by rw[c7]at a0;simp at a0)];exact H.box _ c7 (λn' g0 f5 f1=>by
     by_cases e1:n'=n
     ·subst e1;exact⟨c9,f0⟩
     ·exact absurd f1 (F.apartB n' n g0 x f5 a3 e1))
   have g8:=(dG.1 e0).1;have g7:=(dG.1 c4).1;obtain⟨d2,a1,a2⟩:=Pc (Gx:=G) (d:=500+i) (o:=(G.B n).2) f8 f2 e2 (by omega) e0 e3;refine⟨_,_,_,K,a1,by rw[hv];exact a2,H.change F (λm c=>by simp[c]) (λm c=>by simp[c]) (λb=>?_),λr d0=>by simp at d0⊢;exact .inr d0,λm c=>by simp[sP]at c;subst c;exact c0⟩;by_cases y:b=(G.B n).1
   ·exact .inr (.inr ⟨n,x,a3,y,by simp[sP],c9⟩)
   ·have e1:((a7.tag (G.B n).1 .box).box (500+i) ((G.B n).1,(G.B n).2)).own b=a7.own b:=by simp[Gh.box,Gh.tag,y]
    by_cases b0:∃m p,m∈eA ns/\G.own b=.arr m p
    ·obtain⟨m,p,c,b0⟩:=b0;exact .inr (.inl ⟨m,p,b0,by rw[T];simp[c],W m (b1 m c)⟩)
    ·exact .inl (by
      show((a7.tag (G.B n).1 .box).box (500+i) ((G.B n).1,(G.B n).2)).own b=_;rw[e1];exact d3.own b (λm p c a0=>b0 ⟨m,p,c,a0⟩))
  ·simp[aG]at h
 |sio lv=>simp[iS]at c1
 |sub j h0 k=>simp[iS]at c1
 |clo f ms=>simp[iS]at c1
end
end Go.Eng

namespace Go.Eng
def aEN(w:World)(G:Gh)(ds:List (Nat×Nat))(el:List LT)(b o:Nat)(c:D)(os:List (Option Nat)):Prop:=
 G.own b=.box/\∃cs e vs,w.heap[b]?=some (.cells cs e (0,0))/\o+el.length<=cs.size/\(∀(j:Nat)(v:Value),vs[j]?=some v->cs[o+j]?=some v)/\RK w G ds el vs el.length c 0 os
def Xy(w:World)(G:Gh)(ds:List (Nat×Nat)):RM->Value->D->List Nat->List Nat->Prop
 |.val agg lv,u,x,ns,bs=>bs=[]/\∃vs os,(if agg then u=.agg ⟨vs⟩else vs=[u])/\RK w G ds lv vs lv.length x 0 os/\ns=eA os
 |.ptr el,u,x,ns,bs=>(x.els=[]/\u=.pointer none/\ns=[]/\bs=[])\/
   ∃c ys b o os,x.els=c::ys/\u=.pointer (some ⟨b,o,none⟩)/\aEN w G ds el b o c os/\ns=eA os/\bs=[b]
def Io(w:World)(G:Gh)(ds:List (Nat×Nat)):List RM->List Value->D->Nat->List Nat->List Nat->Prop
 |[],us,_,_,ns,bs=>us=[]/\ns=[]/\bs=[]
 |m::ms,us,x,c,ns,bs=>∃u f d e b1 b2,us=u::f/\ns=d++e/\bs=b1++b2/\Xy w G ds m u (x.fld c) d b1/\Io w G ds ms f x (c+1) e b2
def SZ(w:World)(G:Gh)(ds:List (Nat×Nat)):List RM->Value->D->List Nat->List Nat->Prop
 |[],v,_,ns,bs=>v=.tuple #[]/\ns=[]/\bs=[]
 |[m],v,x,ns,bs=>Xy w G ds m v x ns bs
 |ms,v,x,ns,bs=>∃us,v=.tuple ⟨us⟩/\Io w G ds ms us x 0 ns bs
def TA(w:World)(G:Gh)(ds:List (Nat×Nat)):List (TypeId×PM)->List Value->LD->List Nat->List Nat->Prop
 |[],vs,xs,ns,bs=>vs=[]/\xs=[]/\ns=[]/\bs=[]
 |(_,.io el)::ps,vs,xs,ns,bs=>∃v c x e b o os d b2,vs=v::c/\xs=x::e/\v=.pointer (some ⟨b,o,none⟩)/\aEN w G ds el b o x os/\ns=eA os++d/\bs=b::b2/\TA w G ds ps c e d b2
 |_::ps,vs,xs,ns,bs=>∃v c,vs=v::c/\TA w G ds ps c xs ns bs
structure aDG(w:World)(G:Gh)(s:CV)(vs:List Value)(r:D×LD)(v:Value):Prop where
 ex:∃ds n1 b1 n2 b2,SZ w G ds s.rs v r.1 n1 b1/\TA w G ds s.ps vs r.2 n2 b2/\(n2++n1).Nodup/\(b2++b1).Nodup/\∀n∈n2++n1,∀d∈ds,d.1≠n
 live:∀b,G.own b≠.out->b<w.heap.size
 hdr:∀r p,∃a n c,G.H r p=.slice a n c
def Ip:St:={sl:=.nil,bx:=[],ar:=[],ctr:=1}
def NA(P:Program)(E:fC)(ctx:sJ)(m:Nat)(s:CV):Prop:=
 ∀xs r,ctx m xs=some r->∃uV,eY E 0 s.ps xs Ip=some uV/\
  ∀w G vs,vs.length=s.ps.length->dI w G uV (λi=>vs[i]?)->Calls P s.fn ⟨vs⟩ w (λe w'=>∃v G',e=.returned v/\Fr w G w' G'/\aDG w' G' s vs r v)
section
variable{P:Program}{w:World}{G Gk:Gh}{st stk:St}{slc sl:Nat->Option Value}{E:fC}{ds:List (Nat×Nat)}{os0:List Nat}
theorem E5.sub{gs0 bn0 g f:List Nat}(c:E5 G st ds gs0 bn0 Gk)(h:∀n,n∈gs0->n∈g)(m:∀n,n∈bn0->n∈f):E5 G st ds g f Gk:=
 ⟨c.fz,c.dep,c.rp,λb r p d hd s=>c.free b r p d hd (λe=>s (h r e)),λb d j=>c.box b d (λn x hx l=>⟨(j n x hx l).1,λe=>(j n x hx l).2 (m _ e)⟩),c.out⟩
def CO(sl:Nat->Option Value):Nat->List Value->Nat->Option Value
 |_,[]=>sl
 |i,v::vs=>CO (yK sl i v) (i+1) vs
theorem RL:∀(vs:List Value)(sl:Nat->Option Value)(i t:Nat),CO sl i vs t=if i<=t/\t<i+vs.length then vs[t-i]?else sl t
 |[],sl,i,t=>by rw[CO,if_neg (by simp)]
 |v::vs,sl,i,t=>by
  rw[CO,RL vs];simp only[List.length_cons,yK];by_cases c:i+1<=t/\t<i+1+vs.length
  ·rw[if_pos c,if_pos (by omega),show t-i=t-(i+1)+1 by omega];simp
  ·rw[if_neg c];by_cases d:t=i
   ·subst d;simp
   ·rw[if_neg d,if_neg (by omega)]
theorem TB(C:gY P E)(F:dI w G st slc){all:List A}:∀(ps:List (TypeId×PM)){as:List A}{vs:List Value}{i:Nat}{u:List Nat×List Nat×List (Nat×Nat)×LD}{stk uV:St}{Gk:Gh}{sl:Nat->Option Value}{os0 gs0 bn0:List Nat},sK E st all ps as=some u->eT w G st as vs->
  (∀d,d∈u.2.2.1->d∈ds)->(u.1++os0).Nodup->(∀n∈u.1,∀d∈ds,d.1≠n)->iS ps=true->(∀r,r∈gs0->r∈os0)->(∀n,n∈bn0->sA n∈os0)->dI w Gk stk sl->E5 G st ds gs0 bn0 Gk->eY E i ps u.2.2.2 stk=some uV->
   vs.length=ps.length/\∃Gc,dI w Gc uV (CO sl i vs)/\E5 G st ds (u.2.1++gs0) (gZ ps as++bn0) Gc/\(∀r,r∈u.2.1->r∈u.1)/\∀n,n∈gZ ps as->sA n∈u.1
 |[],[],vs,i,u,stk,uV,Gk,sl,os0,gs0,bn0,h,hv,_,_,_,_,_,_,s,l,e=>by simp[sK,ok]at h;subst h;simp[eY,ok]at e;subst e;have:vs=[]:=hv;subst this;exact⟨rfl,Gk,s,by simpa[gZ]using l,by simp,by simp[gZ]⟩
 |p::ps,a::as,vs,i,u,stk,uV,Gk,sl,os0,gs0,bn0,h,hv,j,K,g,b7,J,H,s,l,e=>by
  simp only[sK]at h;obtain⟨U,a2,a3⟩:=bind_some h;obtain⟨b6,a4,y⟩:=bind_some a3;simp[ok]at y;subst y;obtain⟨v,c0,rfl,a7,a9⟩:=hv;simp only at j K g e;have a5:iS [p]=true:=by obtain⟨t,m⟩:=p;cases m<;>simp_all[iS]
  have a6:iS ps=true:=by obtain⟨t,m⟩:=p;cases m<;>simp_all[iS]
  have L:(b6.1++(U.os++os0)).Nodup:=by refine List.Perm.nodup ?_ K;rw[List.append_assoc];exact(List.perm_append_comm_assoc _ _ _).symm.trans (List.Perm.refl _)|>.symm.symm.symm
  obtain⟨Gk',b5,a',b0,b1,b2,b3,Q,T⟩:=w5 C F a2 a7 (λd hd=>j d (by simp[hd])) (by
   refine(List.nodup_append.1 L).2.1) (λn c=>g n (by simp[c])) a5 J H s l e
  have b4:=b1.put (d:=i) b2;obtain⟨V,Gc,W,Y,a0,a1⟩:=TB C F ps (stk:=b5.put i a') (i:=i+1) (os0:=U.os++os0) a4 a9 (λd hd=>j d (by simp[hd])) L (λn c=>g n (by simp[c])) a6
   (λr f=>by simp only[List.mem_append]at f⊢;exact f.imp (Q r) (J r)) (λn c=>by simp only[List.mem_append]at c⊢;exact c.imp (T n) (H n)) b4 b3 b0
  refine⟨by simp[V],Gc,W,Y.sub (λn c=>?_) (λn c=>?_),λr f=>?_,λn c=>?_⟩
  ·simp only[List.mem_append]at c⊢;rcases c with h |h |h
   ·exact .inl (.inr h)
   ·exact .inl (.inl h)
   ·exact .inr h
  ·simp only[gZ,List.mem_append]at c⊢;rcases c with h |h |h
   ·exact .inl (.inr h)
   ·exact .inl (.inl h)
   ·exact .inr h
  ·simp only[List.mem_append]at f⊢;exact f.imp (Q r) (a0 r)
  ·simp only[gZ,List.mem_append]at c⊢;exact c.imp (T n) (a1 n)
 |[],_::_,_,_,_,_,_,_,_,_,_,_,h,_,_,_,_,_,_,_,_,_,_=>by simp[sK,aG]at h
 |_::_,[],_,_,_,_,_,_,_,_,_,_,h,_,_,_,_,_,_,_,_,_,_=>by simp[sK,aG]at h
open Classical in
noncomputable def Gh.base(G:Gh)(st:St)(ds:List (Nat×Nat)):Gh:=
 {own:=λb=>match G.own b with
   |.fz=>.fz
   |.arr r _=>if∃d∈ds,d.1=r then .fz else .out
   |.box=>if∃n x u,look st.bx n=some x/\(sA n,u)∈ds/\(G.B n).1 =b then .fz else .out
   |.out=>.out
  H:=G.H
  B:=G.B}
theorem Xz(G:Gh)(st:St)(g:∀n x,look st.bx n=some x->G.own (G.B n).1 =.box)(ds:List (Nat×Nat)):E5 G st ds [] [] (G.base st ds):=by
 refine⟨λb h=>by simp[Gh.base,h],λb d p hd h=>?_,λn x u hx l=>?_,λb r p h hd _=>?_,λb h j=>?_,λb h=>by simp[Gh.base,h]⟩
 ·simp only[Gh.base,h];rw[if_pos ⟨d,hd,rfl⟩]
 ·simp only[Gh.base,g n x hx];rw[if_pos ⟨n,x,u,hx,l,rfl⟩]
 ·simp only[Gh.base,h];rw[if_neg (by rintro⟨d,c,e⟩;exact hd d c e)]
 ·simp only[Gh.base,h];rw[if_neg (by rintro⟨n,x,u,c,e,f⟩;exact(j n x c f).1 u e)]
theorem w6{b:Nat}(h:(G.base st ds).own b≠.out):G.own b≠.out:=λe=>h (by simp[Gh.base,e])
theorem Ya(c:dI w G st slc):dI w (G.base st ds) Ip (λ_=>none):=
 ⟨λ_ _ h=>by simp at h,λb x h=>by simp[Ip,look]at h,λb b' x e h=>by simp[Ip,look]at h,λr a h=>by simp[Ip,look]at h,λb d=>c.live b (w6 d),c.hdr⟩
end
end Go.Eng

namespace Go.Eng
open Classical in
noncomputable def Gh.merge(G Gx:Gh)(n:Nat)(gs:List Nat)(ds':List (Nat×Nat)):Gh:=
 {own:=λb=>if b<n/\¬∃r p,G.own b=.arr r p/\r∈gs then G.own b else
   match Gx.own b with
   |.fz=>.fz
   |.arr c _=>if∃d∈ds',d.1=c then .fz else .out
   |_=>.out
  H:=G.H
  B:=G.B}
section
variable{w w':World}{G Gc Gx:Gh}{st:St}{slc:Nat->Option Value}{ds ds':List (Nat×Nat)}{gs bn:List Nat}
theorem WU:∀(gs:List Nat)(st:St)(r:Nat),look (kZ gs st).ar r=if r∈gs then none else look st.ar r
 |[],st,r=>by simp[kZ]
 |g::gs,st,r=>by
  rw[kZ,WU gs];simp only[St.gone,nH,List.mem_cons];by_cases h:r∈gs
  ·simp[h]
  ·by_cases e:r=g
   ·simp[e]
   ·simp[h,e]
theorem JM:∀(gs:List Nat)(st:St),(kZ gs st).bx=st.bx/\(kZ gs st).sl=st.sl/\(kZ gs st).ctr=st.ctr
 |[],st=>⟨rfl,rfl,rfl⟩
 |g::gs,st=>JM gs (st.gone g)
theorem GO:∀n,(IP n).length=n
 |0=>rfl
 |n+1=>congrArg (·+1) (GO n)
theorem Iq:∀(n j:Nat),(IP n).getD j .undef=.undef
 |0,j=>by simp[IP]
 |n+1,0=>rfl
 |n+1,j+1=>by rw[IP,List.getD_cons_succ];exact Iq n j
theorem NB(st:St)(b n:Nat):look (IQ st b).bx n=if n=b then(look st.bx n).map (λx=>{uid:=x.uid,lv:=IP x.lv.length})else look st.bx n:=by
 unfold IQ;cases h:look st.bx b with
 |none=>
  by_cases e:n=b
  ·subst e;simp[h]
  ·simp[e]
 |some x=>
  simp only[bR];by_cases e:n=b
  ·subst e;simp[h]
  ·simp[e]
theorem Yb(st:St)(b:Nat):(IQ st b).ar=st.ar/\(IQ st b).sl=st.sl/\(IQ st b).ctr=st.ctr:=by unfold IQ;cases look st.bx b<;>exact⟨rfl,rfl,rfl⟩
theorem PT:∀(ps:List (TypeId×PM))(as:List A)(st:St),(jY ps as st).ar=st.ar/\(jY ps as st).sl=st.sl/\(jY ps as st).ctr=st.ctr/\
  ∀n,(n∉gZ ps as->look (jY ps as st).bx n=look st.bx n)/\(n∈gZ ps as->look (jY ps as st).bx n=(look st.bx n).map (λx=>{uid:=x.uid,lv:=IP x.lv.length}))
 |[],as,st=>by
  have:jY [] as st=st:=by cases as<;>rfl
  rw[this];exact⟨rfl,rfl,rfl,λn=>⟨λ_=>rfl,λh=>by simp[gZ]at h⟩⟩
 |p::ps,[],st=>by
  have:jY (p::ps) [] st=st:=by obtain⟨t,m⟩:=p;cases m<;>rfl
  rw[this];exact⟨rfl,rfl,rfl,λn=>⟨λ_=>rfl,λh=>by simp[gZ]at h⟩⟩
 |p::ps,a::as,st=>by
  by_cases c:∃b,sP p a=[b]
  ·obtain⟨b,c⟩:=c;have f:jY (p::ps) (a::as) st=jY ps as (IQ st b):=by
    obtain⟨t,m⟩:=p;cases m<;>cases a<;>simp[sP]at c;subst c;rfl
   rw[f];obtain⟨u,v,y,e⟩:=PT ps as (IQ st b);obtain⟨l,r,s⟩:=Yb st b;refine⟨u.trans l,v.trans r,y.trans s,λn=>⟨λd=>?_,λd=>?_⟩⟩
   ·simp only[gZ,c,List.mem_append,List.mem_singleton,not_or]at d;rw[(e n).1 d.2,NB,if_neg d.1]
   ·simp only[gZ,c,List.mem_append,List.mem_singleton]at d;by_cases g:n∈gZ ps as
    ·rw[(e n).2 g,NB];split
     ·cases look st.bx n<;>simp[GO]
     ·rfl
    ·rw[(e n).1 g,NB];have:n=b:=d.resolve_right g;rw[if_pos this]
  ·have j:sP p a=[]:=by
    obtain⟨t,m⟩:=p;cases m<;>cases a<;>first|rfl |exact absurd ⟨_,rfl⟩ c
   have f:jY (p::ps) (a::as) st=jY ps as st:=by obtain⟨t,m⟩:=p;cases m<;>cases a<;>first|rfl |(simp[sP]at j)
   rw[f];have:=PT ps as st;simpa[gZ,j]using this
theorem DT{b:Nat}{n:Nat}(e:b<n)(h:∀r p,G.own b=.arr r p->r∉gs):(G.merge Gx n gs ds').own b=G.own b:=by simp only[Gh.merge];rw[if_pos ⟨e,λ⟨r,p,c,d⟩=>h r p c d⟩]
theorem unlent(s:dI w G st slc)(c:E5 G st ds gs bn Gc){b:Nat}(h:∀r p,G.own b=.arr r p->r∉gs)(l:∀n x,look st.bx n=some x->(G.B n).1 =b->n∉bn):Gc.own b=.out\/Gc.own b=.fz:=by
 cases e:G.own b with
 |out=>exact .inl (c.out b e)
 |fz=>exact .inr (c.fz b e)
 |arr r p=>
  by_cases hd:∃d∈ds,d.1=r
  ·obtain⟨d,f,rfl⟩:=hd;exact .inr (c.dep b d p f e)
  ·exact .inl (c.free b r p e (λd f g=>hd ⟨d,f,g⟩) (h r p e))
 |box=>
  by_cases hd:∃n x u,look st.bx n=some x/\(sA n,u)∈ds/\(G.B n).1 =b
  ·obtain⟨n,x,u,f,g,rfl⟩:=hd;exact .inr (c.rp n x u f g)
  ·exact .inl (c.box b e (λn x hx j=>⟨λu m=>hd ⟨n,x,u,hx,m,j⟩,l n x hx j⟩))
theorem aB5(l:dI w G st slc)(b1:E5 G st ds gs bn Gc)(Y:Fr w Gc w' Gx)(b7:∀b,Gx.own b≠.out->b<w'.heap.size){ps:List (TypeId×PM)}{as:List A}(b3:bn=gZ ps as)
  (b4:∀n x,look st.bx n=some x->n∈bn->∃cs e,w'.heap[(G.B n).1]?=some (.cells cs e (0,0))/\(G.B n).2 +x.lv.length<=cs.size):
  Le w G st w' (G.merge Gx w.heap.size gs ds') (jY ps as (kZ gs st))/\dI w' (G.merge Gx w.heap.size gs ds') (jY ps as (kZ gs st)) (λ_=>none):=by
 subst b3;obtain⟨e1,d0,a5⟩:=JM gs st;obtain⟨a6,d1,a7,V⟩:=PT ps as (kZ gs st);have P:∀r a,look (jY ps as (kZ gs st)).ar r=some a->look st.ar r=some a/\r∉gs:=λr a h=>by
  rw[a6,WU]at h;split at h
  ·simp at h
  ·rename_i d;exact⟨h,d⟩
 have H:∀n f,look (jY ps as (kZ gs st)).bx n=some f->∃x,look st.bx n=some x/\x.uid=f.uid/\x.lv.length=f.lv.length/\(n∉gZ ps as->f=x)/\(n∈gZ ps as->f.lv=IP x.lv.length/\f.mp=none):=λn f h=>by
  by_cases d:n∈gZ ps as
  ·rw[(V n).2 d,e1]at h;cases a2:look st.bx n with
   |none=>simp[a2]at h
   |some x=>simp[a2]at h;subst h;exact⟨x,rfl,rfl,by simp[GO],λh=>absurd d h,λ_=>⟨rfl,rfl⟩⟩
  ·rw[(V n).1 d,e1]at h;exact⟨f,h,rfl,rfl,λ_=>rfl,λh=>absurd h d⟩
 have J:(jY ps as (kZ gs st)).ctr=st.ctr:=a7.trans a5;have Q:∀b,b<w.heap.size->(∀r p,G.own b=.arr r p->r∉gs)->(∀n x,look st.bx n=some x->(G.B n).1 =b->n∉gZ ps as)->w'.heap[b]?=w.heap[b]?:=λb c y L=>(Y.block b c (unlent l b1 y L)).1;have a1:∀b,G.own b=.fz->(G.merge Gx w.heap.size gs ds').own b=.fz/\w'.heap[b]?=w.heap[b]?:=λb c=>by have s:=l.live b (by rw[c];simp);refine⟨by rw[DT s (λr p h=>by rw[c]at h;simp at h),c],Q b s (λr p h=>by rw[c]at h;simp at h) (λn x hx d=>?_)⟩;have:=(l.boxes n x hx).2.1;rw[d,c]at this;simp at this
 have a4:∀r,r∉gs->∀b p,G.own b=.arr r p->(G.merge Gx w.heap.size gs ds').own b=.arr r p/\w'.heap[b]?=w.heap[b]?:=λr c3 b p c=>by
  have s:=l.live b (by rw[c];simp);have y:∀r' p',G.own b=.arr r' p'->r'∉gs:=λr' p' h=>by rw[c]at h;injection h with h;exact h▸c3
  refine⟨by rw[DT s y,c],Q b s y (λn x hx d=>?_)⟩;have:=(l.boxes n x hx).2.1;rw[d,c]at this;simp at this
 have a0:Le w G st w' (G.merge Gx w.heap.size gs ds') (jY ps as (kZ gs st)):=by
  refine⟨by rw[J];exact Nat.le_refl _,λr u p a' _ h=>?_,λn f _ hx=>?_,λr a' _ h=>?_,a1⟩
  ·exact⟨a',⟨(P r a' h.1).1,h.2⟩,rfl,rfl,rfl,λh=>h⟩
  ·obtain⟨x,g,m,_⟩:=H n f hx;exact⟨x,g,m,rfl⟩
  ·obtain⟨g,m⟩:=P r a' h;exact⟨a',g,rfl,λb p c=>by obtain⟨C,t⟩:=a4 r m b p c;exact⟨⟨p,C⟩,t⟩⟩
 refine⟨a0,λ_ _ h=>by simp at h,λn f hx=>?_,λn n' x f y L c2=>?_,λr a b2=>?_,λb c=>?_,l.hdr⟩
 ·obtain⟨x,g,m,a9,b0,W⟩:=H n f hx;obtain⟨C,t,b5⟩:=l.boxes n x g;have s:=l.live (G.B n).1 (by rw[t];simp);have a3:(G.merge Gx w.heap.size gs ds').own (G.B n).1 =.box:=by rw[DT s (λr p h=>by rw[t]at h;simp at h),t]
  by_cases d:n∈gZ ps as
  ·obtain⟨K,F,c8,T⟩:=b4 n x g d;refine⟨by rw[J,<-m];exact C,a3,lA.of_cells (W d).2 ⟨K,F,c8,by rw[<-a9];exact T,λj b6=>?_⟩⟩;have c0:(G.B n).2 +j<K.size:=by omega
   refine⟨K[(G.B n).2 +j],Array.getElem?_eq_getElem c0,?_⟩;rw[(W d).1,Iq];exact trivial
  ·have c4:=b0 d;subst c4;refine⟨by rw[J];exact C,a3,b5.step ?_ rfl rfl λj b6 v T=>dR a0 _ _ T⟩;exact Q (G.B n).1 s (λr p h=>by rw[t]at h;simp at h) (λn' U c5 c1=>by
     by_cases F:n'=n
     ·subst F;exact d
     ·exact absurd c1 (l.apartB n' n U f c5 g F))
 ·obtain⟨U,g,_⟩:=H n x y;obtain⟨c9,m,_⟩:=H n' f L;exact l.apartB n n' U c9 g m c2
 ·obtain⟨g,m⟩:=P r a b2;obtain⟨C,t,c6,c7⟩:=l.arrs r a g;rw[J];exact⟨C,t,c6,HH a1 (λ_=>rfl) (λb p c=>a4 r m b p c) c7⟩
 ·simp only[Gh.merge]at c;split at c
  ·rename_i h;exact Nat.lt_of_lt_of_le h.1 Y.size
  ·refine b7 b (λe=>?_);rw[e]at c;simp at c
end
end Go.Eng

namespace Go.Eng
section
variable{w w':World}{G Gc Gx Gm:Gh}{st s:St}{slc sl:Nat->Option Value}{ds ds':List (Nat×Nat)}{gs bn:List Nat}
structure cJ(w:World)(G Gc:Gh)(st:St)(ds:List (Nat×Nat))(gs bn:List Nat)(w':World)(Gx:Gh):Prop where
 imp:E5 G st ds gs bn Gc
 fr:Fr w Gc w' Gx
 rel:∃sl,dI w G st sl
 box:∀n x,look st.bx n=some x->n∈bn->Gx.own (G.B n).1 =.box
theorem cJ.unlent(h:cJ w G Gc st ds gs bn w' Gx){b:Nat}(g:b<w.heap.size)(d:∀r p,G.own b=.arr r p->r∉gs)(c:Gx.own b≠.box\/∀n x,look st.bx n=some x->(G.B n).1 =b->n∉bn):Gx.own b=Gc.own b/\(Gc.own b=.out\/Gc.own b=.fz):=by
 obtain⟨sl,f⟩:=h.rel;have e:∀n x,look st.bx n=some x->(G.B n).1 =b->n∉bn:=by
  rcases c with c |c
  ·intro n x hx l j;have:=h.box n x hx j;rw[l]at this;exact c this
  ·exact c
 have:=Go.Eng.unlent f h.imp d e;exact⟨(h.fr.block b g this).2,this⟩
theorem NC(b:Nat):(b<w.heap.size/\(∀r p,G.own b=.arr r p->r∉gs)/\(G.merge Gx w.heap.size gs ds').own b=G.own b)\/
  ((G.merge Gx w.heap.size gs ds').own b=match Gx.own b with|.fz=>.fz |.arr rx _=>(open Classical in if∃d∈ds',d.1=rx then .fz else .out) |_=>.out):=by
 by_cases h:b<w.heap.size/\¬∃r p,G.own b=.arr r p/\r∈gs
 ·left;refine⟨h.1,λr p c e=>h.2 ⟨r,p,c,e⟩,?_⟩;simp only[Gh.merge];rw[if_pos h]
 ·right;simp only[Gh.merge];rw[if_neg h];try(cases Gx.own b<;>simp)
theorem cJ.arr(h:cJ w G Gc st ds gs bn w' Gx){b n:Nat}{p:cP}(e:Gx.own b=.arr n p):(G.merge Gx w.heap.size gs ds').own b=if∃d∈ds',d.1=n then .fz else .out:=by
 rcases NC (w:=w) (G:=G) (Gx:=Gx) (gs:=gs) (ds':=ds') b with⟨c,j,l⟩ |c
 ·obtain⟨f,g⟩:=h.unlent c j (.inl (by rw[e];simp));rw[e]at f;rw[<-f]at g;simp at g
 ·rw[c,e]
theorem cJ.free(h:cJ w G Gc st ds gs bn w' Gx){b n:Nat}{p:cP}(f:Gx.own b=.arr n p)(g:∀d∈ds',d.1≠n):(G.merge Gx w.heap.size gs ds').own b=.out:=by rw[h.arr f,if_neg (by rintro⟨d,c,e⟩;exact g d c e)]
theorem cJ.ptr(h:cJ w G Gc st ds gs bn w' Gx){b:Nat}(f:Gx.own b=.box)(j:∀n x,look st.bx n=some x->(G.B n).1 =b->n∉bn):(G.merge Gx w.heap.size gs ds').own b=.out:=by
 rcases NC (w:=w) (G:=G) (Gx:=Gx) (gs:=gs) (ds':=ds') b with⟨c,g,l⟩ |c
 ·obtain⟨d,e⟩:=h.unlent c g (.inr j);rw[f]at d;rw[<-d]at e;simp at e
 ·rw[c,f]
theorem Dn{d:Nat×Nat}:∀{l:List (Nat×Nat)},rL l=false->d∈l->d.1<1000000000000
 |[],_,h=>by simp at h
 |(r,v)::l,h,hd=>by
  simp only[rL,Bool.or_eq_false_iff]at h;rcases List.mem_cons.1 hd with rfl |hd
  ·have:=h.1;rcases Nat.lt_or_ge r 1000000000000 with h |h
   ·exact h
   ·exact absurd (Nat.ble_eq_true_of_le h) (by simp[this])
  ·exact Dn h.2 hd
theorem cJ.read(h:cJ w G Gc st ds gs bn w' Gx)(t:rL ds=false){b:Nat}(c:vG Gx ds' b):vG (G.merge Gx w.heap.size gs ds') ds b:=by
 rcases c with c |⟨d,hd,p,c⟩
 ·rcases NC (w:=w) (G:=G) (Gx:=Gx) (gs:=gs) (ds':=ds') b with⟨j,l,s⟩ |j
  ·obtain⟨e,F⟩:=h.unlent j l (.inl (by rw[c];simp));rw[c]at e;unfold vG;rw[s];cases f:G.own b with
   |out=>have:=h.imp.out b f;rw[<-e]at this;simp at this
   |fz=>exact .inl rfl
   |arr r p=>
    by_cases hd:∃d∈ds,d.1=r
    ·obtain⟨d,g,rfl⟩:=hd;exact .inr ⟨d,g,p,rfl⟩
    ·have:=h.imp.free b r p f (λd g m=>hd ⟨d,g,m⟩) (l r p f);rw[<-e]at this;simp at this
   |box=>have:=h.imp.box b f (λn x hx y=>⟨λu C=>by have:=Dn t C;simp[sA]at this;omega,λv=>by have:=h.box n x hx v;rw[y,c]at this;simp at this⟩);rw[<-e]at this;simp at this
  ·left;rw[j,c]
 ·left;rw[h.arr c,if_pos ⟨d,hd,rfl⟩]
structure Mg(Gx Gm0 Gm:Gh)(done bdone:List Nat):Prop where
 own:∀b,(∀n p,n∈done->Gx.own b≠.arr n p)->b∉bdone->Gm.own b=Gm0.own b
theorem Mg.refl(Gx Gm0:Gh):Mg Gx Gm0 Gm0 [] []:=⟨λ_ _ _=>rfl⟩
theorem Mg.into{Gm0 Gm':Gh}{done bdone ns:List Nat}(h:Mg Gx Gm0 Gm done bdone)(k:aGj Gx Gm Gm' ns):Mg Gx Gm0 Gm' (ns++done) bdone:=
 ⟨λb d e=>by rw[k.own b (λn p c=>d n p (by simp[c]))];exact h.own b (λn p c=>d n p (by simp[c])) e⟩
structure Can(Gx Gm0:Gh)(ds ds':List (Nat×Nat))(names blocks:List Nat):Prop where
 free:∀n∈names,∀b p,Gx.own b=.arr n p->Gm0.own b=.out
 ptr:∀b∈blocks,Gm0.own b=.out
 pbox:∀b∈blocks,Gx.own b=.box
 read:rL ds=false->∀b,vG Gx ds' b->vG Gm0 ds b
 ap:∀n∈names,∀d∈ds',d.1≠n
theorem Tc{Gm0:Gh}{names blocks done bdone:List Nat}(g:Can Gx Gm0 ds ds' names blocks)(F:Mg Gx Gm0 Gm done bdone)(K:∀b∈bdone,Gx.own b=.box)(J:dI w' Gm s sl)(U:∀b,Gx.own b≠.out->b<w'.heap.size)(T:∀r p,∃a n c,Gx.H r p=.slice a n c)
  {ts:List LT}{vs:List Value}{k nb:Nat}{x:D}{os:List (Option Nat)}{dep:List (Nat×Nat)}(h:RK w' Gx ds' ts vs k x 0 os)(G:(eA os++done).Nodup)(C:∀n∈eA os,n∈names)(P:∀n∈done,n∈names)
  (L:(dep=ds/\rL ds=false)\/ds=[]\/pR ts=true)(Q:∀d,d∈dep->d.2<s.ctr)(Y:ds=[]\/∀t∈ts,zT t=true):
  ∃Gm',Mg Gx Gm0 Gm' (eA os++done) bdone/\Le w' Gm s w' Gm' (dJ dep nb k x 0 ts s).1 /\dI w' Gm' (dJ dep nb k x 0 ts s).1 sl/\eT w' Gm' (dJ dep nb k x 0 ts s).1 (dJ dep nb k x 0 ts s).2 vs/\∀b,Gm'.B b=Gm.B b:=by
 have y:∀b,(∀n p,n∈done->Gx.own b≠.arr n p)->Gx.own b≠.box->Gm.own b=Gm0.own b:=λb f u=>F.own b f (λV=>u (K b V));have v:∀(dep:List (Nat×Nat)),(∀b,vG Gx ds' b->vG Gm0 dep b)->∀b,vG Gx ds' b->vG Gm dep b:=λdep hd b e=>by
  have:=hd b e;unfold vG at this⊢;rw[y b (λn p j l=>by
   rcases e with e |⟨d,hd,p',e⟩
   ·rw[l]at e;simp at e
   ·rw[l]at e;injection e with e;exact g.ap n (P n j) d hd e.symm) (λl=>by
   rcases e with e |⟨d,hd,p',e⟩
   ·rw[l]at e;simp at e
   ·rw[l]at e;simp at e)]
  exact this
 obtain⟨Gm',H,a0,a1,a2⟩:=DS (nb:=nb) (dep:=dep) U T h J (List.nodup_append.1 G).1 (λn j=>g.ap n (C n j)) (λn j b p e=>by
   rw[y b (λn' p' W m=>by rw[e]at m;injection m with m;exact sN G n j (m▸W)) (by rw[e];simp)];exact g.free n (C n j) b p e)
  (by
   rcases L with⟨f,u⟩ |f |f
   ·subst f;exact .inl (v dep (λb e=>g.read u b e))
   ·subst f;refine .inl (v dep (λb e=>?_));have:=g.read rfl b e;exact zM (ds:=[]) (by simp) b this
   ·exact .inr f) Q (by
   rcases Y with f |f
   ·left;subst f;intro b e;have:=v [] (λb e=>g.read rfl b e) b (.inl e);exact(PC b).1 this
   ·exact .inr f)
 exact⟨Gm',F.into H,a0,a1,a2,H.B⟩
theorem aFh(d:dI w Gm s sl){b:Nat}{x:Bx}{l:List A}{cs:Array Value}{e:TypeId}{vs:List Value}(hx:look s.bx b=some x)(Q:w.heap[(Gm.B b).1]?=some (.cells cs e (0,0)))(W:(Gm.B b).2 +l.length<=cs.size)(H:eT w Gm s l vs)
  (T:∀(j:Nat)(v:Value),vs[j]?=some v->cs[(Gm.B b).2 +j]?=some v):Le w Gm s w Gm {s with bx:=qC s.bx b {uid:=x.uid,lv:=l}}/\dI w Gm {s with bx:=qC s.bx b {uid:=x.uid,lv:=l}} sl:=by
 have g:=Le.bxPut (w:=w) (G:=Gm) hx l;have a4:=(dG.1 H).1;obtain⟨K,L,_⟩:=d.boxes b x hx;refine⟨g,d.step g (λt v hv=>dR g _ _ (d.slots t v hv)) (λb' f c=>?_) (λb1 b2 a1 a2 e1 y V=>?_) (λr a P=>.inl ⟨P,λ_=>rfl,λb p h=>⟨h,rfl⟩⟩) d.live d.hdr⟩
 ·simp only[bR]at c;by_cases m:b'=b
  ·rw[if_pos m]at c;injection c with c;subst c;subst m;refine .inr ⟨K,L,lA.of_cells rfl ⟨cs,e,Q,W,λj u=>?_⟩⟩;have U:j<vs.length:=by simp only at u;omega
   have J:vs[j]?=some vs[j]:=by simp[U]
   refine⟨vs[j],T j _ J,dR g _ _ ?_⟩;exact(dG.1 H).2 j _ _ (by simp only at u;simp[List.getD,u]) J
  ·rw[if_neg m]at c;exact .inl ⟨c,rfl,rfl,(d.boxes b' f c).2.1⟩
 ·simp only[bR]at e1 y;have C:∀b' f,(if b'=b then some ({uid:=x.uid,lv:=l}:Bx)else look s.bx b')=some f->∃a3,look s.bx b'=some a3:=λb' f F=>by
   split at F
   ·rename_i h;exact⟨x,h▸hx⟩
   ·exact⟨f,F⟩
  obtain⟨y1,Y⟩:=C b1 a1 e1;obtain⟨y2,a0⟩:=C b2 a2 y;exact d.apartB b1 b2 y1 y2 Y a0 V
theorem Yc{l m:List A}(h:l.length=m.length):uY m 0 l=l:=by
 apply List.ext_getElem?;intro j;rw[ML l m 0 j (by omega)];by_cases c:j<l.length
 ·rw[if_pos (by omega)];rfl
 ·rw[if_neg (by omega),List.getElem?_eq_none (by omega),List.getElem?_eq_none (by omega)]
theorem DU{Gm0:Gh}{names blocks:List Nat}(a5:Can Gx Gm0 ds ds' names blocks)(b0:∀b,Gx.own b≠.out->b<w'.heap.size)(a7:∀r p,∃a n c,Gx.H r p=.slice a n c):
  ∀(ps:List (TypeId×PM)){as:List A}{vs:List Value}{xs:LD}{d b2 done:List Nat}{Gm:Gh}{s g:St},TA w' Gx ds' ps vs xs d b2->eT w G st as vs->Le w G st w' Gm s->kV ps as xs s=some g->dI w' Gm s sl->Mg Gx Gm0 Gm done []->
   (∀n,Gm.B n=G.B n)->(d++done).Nodup->(∀n∈d,n∈names)->(∀n∈done,n∈names)->(ds=[]\/uZ ps=true)->iS ps=true->
   ∃l,Mg Gx Gm0 l (d++done) []/\Le w' Gm s w' l g/\dI w' l g sl/\∀n,l.B n=G.B n
 |[],as,vs,xs,d,b2,done,Gm,s,g,⟨H,J,f4,h0⟩,hv,K,hg,L,T,y,_,_,_,_,_=>by
  subst H;subst J;subst f4;have:as=[]:=by
   cases as with
   |nil=>rfl
   |cons a as=>obtain⟨v,d2,e,_⟩:=hv;simp at e
  subst this;simp[kV,ok]at hg;subst hg;exact⟨Gm,T,Le.refl w' Gm s,L,y⟩
 |p::ps,[],vs,xs,d,b2,done,Gm,s,g,P,hv,K,hg,L,T,y,_,_,_,_,W=>by obtain⟨t,m⟩:=p;cases m<;>simp_all[kV,aG,iS]
 |p::ps,a::as,vs,xs,d,b2,done,Gm,s,g,P,hv,K,hg,L,T,y,b1,V,a6,b3,W=>by
  obtain⟨v,d2,rfl,c4,c5⟩:=hv;have c2:iS ps=true:=by obtain⟨t,m⟩:=p;cases m<;>simp_all[iS]
  by_cases a9:∃t el,p=(t,.io el)
  ·obtain⟨t,el,rfl⟩:=a9;obtain⟨b6,Y,x,h8,b,o,os,c7,g8,e1,e2,e3,H,e4,e5,J⟩:=P;injection e1 with a1 a2;subst a1;subst a2;subst e2;subst e4;subst e5;simp only[kV]at hg;obtain⟨s1,U,e6⟩:=bind_some hg;have c3:ds=[]\/pR el=true:=b3.imp id λh=>by simp only[uZ,Bool.and_eq_true]at h;exact h.1
   have b4:ds=[]\/uZ ps=true:=b3.imp id λh=>by simp only[uZ,Bool.and_eq_true]at h;exact h.2
   unfold Ra at U;split at U
   ·rename_i n u;obtain⟨lv,e7,f0⟩:=bind_some U;obtain⟨f1,b7⟩:=aU f0;have h3:=Nat.eq_of_beq_eq_true f1;obtain⟨d3,y1,y2,y3⟩:=fU e7;have F:v=.pointer (some ⟨(G.B n).1,(G.B n).2 +0,none⟩):=by
     obtain⟨y0,g2,g3,_⟩:=K.bx n d3 (by rw[y2];exact c4.1) y1;exact c4.2 y0 g2 (g3.trans y2)
    rw[e3]at F;injection F with F;injection F with F;injection F with f6 c0;subst f6;rw[Nat.add_zero]at c0;subst c0;obtain⟨h6,cs,e,us,g4,h7,g5,c8⟩:=H;have f8:(eA os++done).Nodup:=by exact(List.Sublist.append (List.sublist_append_left (eA os) c7) (List.Sublist.refl done)).nodup b1
    obtain⟨e0,g6,c9,g7,d0,d1⟩:=Tc (nb:=nm n 0) (dep:=[]) a5 T (by simp) L b0 a7 c8 f8 (λm Q=>V m (by simp[Q])) a6 (by
      rcases c3 with h |h
      ·exact .inr (.inl h)
      ·exact .inr (.inr h)) (by simp) (by
      rcases c3 with h |h
      ·exact .inl h
      ·right;have:∀(ts:List LT),pR ts=true->∀t∈ts,zT t=true:=by
        intro ts;induction ts with
        |nil=>intro _ t ht;simp at ht
        |cons t0 ts g1=>
         intro C t ht;simp only[pR,Bool.and_eq_true]at C;rcases List.mem_cons.1 ht with rfl |ht
         ·cases t with
          |sl o e el=>cases o with
           |true=>simpa[zT,LT.noFz]using C.1
           |false=>rfl
          |_=>rfl
         ·exact g1 C.2 t ht
       exact this el h)
    unfold Qy at b7;obtain⟨h5,f2,f3⟩:=bind_some b7;obtain⟨z,a0,z2,z3⟩:=fU f2;obtain⟨g9,a3⟩:=jO f3;have c1:=(qT [] (nm n 0) el.length x el 0 s).2;rw[c1,y1]at a0;injection a0 with a0;subst a0;rw[y3]at z3;subst z3;have h1:=(dG.1 d0).1;have h2:=c8.length;rw[Yc (by omega)]at a3;have g0:look (dJ [] (nm n 0) el.length x 0 el s).1.bx n=some d3:=by rw[c1];exact y1
    have a4:e0.B n=G.B n:=(d1 n).trans (y n);obtain⟨b5,c6⟩:=aFh (cs:=cs) (e:=e) g7 g0 (by rw[a4];exact g4) (by rw[a4];omega) d0 (by rw[a4];exact g5);rw[<-y2]at a3;rw[a3]at b5 c6;have f9:(c7++(eA os++done)).Nodup:=by refine List.Perm.nodup ?_ b1;rw[List.append_assoc];exact(List.perm_append_comm_assoc _ _ _)
    obtain⟨l,t1,t2,t3,t4⟩:=DU a5 b0 a7 ps (done:=eA os++done) J c5 ((K.trans c9).trans b5) e6 c6 g6 (λn=>(d1 n).trans (y n)) f9 (λm Q=>V m (by simp[Q])) (λm Q=>by
     rcases List.mem_append.1 Q with h |h
     ·exact V m (by simp[h])
     ·exact a6 m h) b4 c2
    refine⟨l,⟨λb H J=>t1.own b (λn p C=>H n p ?_) J⟩,(c9.trans b5).trans t2,t3,t4⟩;simp only[List.mem_append]at C⊢;rcases C with h |h |h
    ·exact .inl (.inr h)
    ·exact .inl (.inl h)
    ·exact .inr h
   ·simp[aG]at U
  ·have f5:∃b6 Y,v::d2=b6::Y/\TA w' Gx ds' ps Y xs d b2:=by
    obtain⟨t,m⟩:=p;cases m with
    |io el=>exact absurd ⟨t,el,rfl⟩ a9
    |_=>exact P
   obtain⟨b6,Y,e1,P⟩:=f5;injection e1 with a1 a2;subst a1;subst a2;have f7:kV ps as xs s=some g:=by
    obtain⟨t,m⟩:=p;cases m with
    |io el=>exact absurd ⟨t,el,rfl⟩ a9
    |sio lv=>simp[iS]at W
    |sub j h4 k=>simp[iS]at W
    |clo f ms=>simp[iS]at W
    |_=>cases xs<;>simpa[kV]using hg
   have b4:ds=[]\/uZ ps=true:=b3.imp id λh=>by obtain⟨t,m⟩:=p;cases m<;>simp_all[uZ]
   exact DU a5 b0 a7 ps P c5 K f7 L T y b1 V a6 b4 c2
end
end Go.Eng

namespace Go.Eng
section
variable{w w':World}{G Gc Gx Gm:Gh}{st s:St}{slc sl:Nat->Option Value}{ds ds':List (Nat×Nat)}{gs bn:List Nat}
def Td(ds:List (Nat×Nat))(m:RM):Prop:=ds=[]\/(rL ds=false/\zH [m]=true)\/vA [m]=true
theorem ZT:∀(ts:List LT),pR ts=true->∀t∈ts,zT t=true
 |[],_,t,ht=>by simp at ht
 |t0::ts,c,t,ht=>by
  simp only[pR,Bool.and_eq_true]at c;rcases List.mem_cons.1 ht with rfl |ht
  ·cases t with
   |sl o e el=>cases o with
    |true=>simpa[zT,LT.noFz]using c.1
    |false=>rfl
   |_=>rfl
  ·exact ZT ts c.2 t ht
theorem Yd{α:Type}{f:α->Bool}:∀{l:List α},CS f l=true->∀a∈l,f a=true
 |[],_,_,h=>absurd h (by simp)
 |b::l,h,a,c=>by
  simp only[CS,Bool.and_eq_true]at h;rcases List.mem_cons.1 c with rfl |c
  ·exact h.1
  ·exact Yd h.2 a c
theorem WV{Gm0:Gh}{names blocks done bdone:List Nat}(G:Can Gx Gm0 ds ds' names blocks)(Y:∀b,Gx.own b≠.out->b<w'.heap.size)(V:∀r p,∃a n c,Gx.H r p=.slice a n c){m:RM}{u:Value}{x:D}{y b1:List Nat}{d c:Nat}{C:St}{a:A}
  (h:Xy w' Gx ds' m u x y b1)(j:CW ds d c x m s=some (C,a))(F:dI w' Gm s sl)(H:Mg Gx Gm0 Gm done bdone)(Q:∀b∈bdone,Gx.own b=.box)(a1:(y++done).Nodup)(T:(b1++bdone).Nodup)(W:∀n∈y,n∈names)(a7:∀b∈b1,b∈blocks)
  (U:∀n∈done,n∈names)(a9:∀p,p∈ds->p.2<s.ctr)(hf:Td ds m):
  ∃f,Mg Gx Gm0 f (y++done) (b1++bdone)/\Le w' Gm s w' f C/\dI w' f C sl/\dN w' f C a u/\∀n,n≠d->f.B n=Gm.B n:=by
 cases m with
 |val agg lv=>
  obtain⟨rfl,vs,os,l,g,rfl⟩:=h;simp only[CW]at j;obtain⟨a',a5,P⟩:=bind_some j;simp[ok]at P;obtain⟨rfl,rfl⟩:=P;obtain⟨f,t,J,K,v,L⟩:=Tc (nb:=nm d (64*c)) (dep:=ds) G H Q F Y V g a1 W U (by
    rcases hf with h |h |h
    ·exact .inr (.inl h)
    ·exact .inl ⟨rfl,h.1⟩
    ·exact .inr (.inr (by simp only[vA,Bool.and_eq_true]at h;exact h.1))) a9 (by
    rcases hf with h |h |h
    ·exact .inl h
    ·exact .inr (by have g:=h.2;simp only[zH,Bool.and_eq_true]at g;exact Yd g.1)
    ·exact .inr (by simp only[vA,Bool.and_eq_true]at h;exact ZT _ h.1))
  exact⟨f,by simpa using t,J,K,MZ a5 l v,λn _=>L n⟩
 |ptr el=>
  rcases h with⟨l,rfl,rfl,rfl⟩ |⟨c3,ys,b,o,os,l,rfl,⟨b5,cs,e,us,b6,c2,b7,a4⟩,rfl,rfl⟩
  ·simp only[CW,l]at j;simp[ok]at j;obtain⟨rfl,rfl⟩:=j;exact⟨Gm,by simpa using H,Le.refl w' Gm s,F,rfl,λ_ _=>rfl⟩
  ·simp only[CW,l]at j;simp[ok]at j;obtain⟨rfl,rfl⟩:=j;have a2:ds=[]\/pR el=true:=by
    rcases hf with h |h |h
    ·exact .inl h
    ·exact .inr (by have g:=h.2;simp only[zH,Bool.and_eq_true]at g;exact g.1)
    ·exact .inr (by simp only[vA,Bool.and_eq_true]at h;exact h.1)
   obtain⟨f,t,J,K,v,L⟩:=Tc (nb:=nm d (64*c)) (dep:=[]) G H Q F Y V a4 a1 W U (by
     rcases a2 with h |h
     ·exact .inr (.inl h)
     ·exact .inr (.inr h)) (by simp) (a2.imp id (ZT el))
   have a6:b∉bdone:=by simp only[List.singleton_append,List.nodup_cons]at T;exact T.1
   have b0:f.own b=.out:=by rw[t.own b (λn p a0 a3=>by rw[b5]at a3;simp at a3) a6];exact G.ptr b (a7 b (by simp))
   have c0:=(dG.1 v).1;have c1:=a4.length;obtain⟨b2,b3,b4⟩:=Pc (Gx:=Gx) (d:=d) (o:=o) K b0 b6 (by omega) v b7;refine⟨_,⟨λb' l g=>?_⟩,J.trans b2,b3,b4,λn a0=>by simp[Gh.box,Gh.tag,a0,L]⟩;simp only[List.singleton_append,List.mem_cons,not_or]at g;have:((f.tag b .box).box d (b,o)).own b'=f.own b':=by simp[Gh.box,Gh.tag,g.1]
   rw[this];exact t.own b' l g.2
theorem WW{Gm0:Gh}{names blocks:List Nat}(K:Can Gx Gm0 ds ds' names blocks)(a2:∀b,Gx.own b≠.out->b<w'.heap.size)(a0:∀r p,∃a n c,Gx.H r p=.slice a n c){x:D}{d:Nat}:
  ∀(ms:List RM){us:List Value}{c:Nat}{j b1 done bdone:List Nat}{Gm:Gh}{s t:St}{l:List A},Io w' Gx ds' ms us x c j b1->IR ds d x c ms s=some (t,l)->dI w' Gm s sl->Mg Gx Gm0 Gm done bdone->(∀b∈bdone,Gx.own b=.box)->(j++done).Nodup->(b1++bdone).Nodup->
   (∀n∈j,n∈names)->(∀b∈b1,b∈blocks)->(∀n∈done,n∈names)->(∀p,p∈ds->p.2<s.ctr)->(∀m∈ms,Td ds m)->
    ∃g,Mg Gx Gm0 g (j++done) (b1++bdone)/\Le w' Gm s w' g t/\dI w' g t sl/\eT w' g t l us/\∀n,n≠d->g.B n=Gm.B n
 |[],us,c,j,b1,done,bdone,Gm,s,t,l,⟨v,y,G⟩,C,H,P,_,_,_,_,_,_,_,_=>by subst v;subst y;subst G;simp[IR,ok]at C;obtain⟨rfl,rfl⟩:=C;exact⟨Gm,by simpa using P,Le.refl w' Gm s,H,rfl,λ_ _=>rfl⟩
 |m::ms,us,c,j,b1,done,bdone,Gm,s,t,l,⟨u,d2,na,nb,F,Q,v,y,G,b0,b2⟩,C,H,P,U,a3,V,L,J,W,Y,hf=>by
  subst v;subst y;subst G;simp only[IR]at C;obtain⟨d0,a6,a7⟩:=bind_some C;obtain⟨d1,a9,T⟩:=bind_some a7;simp[ok]at T;obtain⟨rfl,rfl⟩:=T;obtain⟨s1,a1⟩:=d0;obtain⟨e1,e0⟩:=d1;have b7:(na++done).Nodup:=(List.Sublist.append (List.sublist_append_left na nb) (List.Sublist.refl done)).nodup a3;have b3:(F++bdone).Nodup:=(List.Sublist.append (List.sublist_append_left F Q) (List.Sublist.refl bdone)).nodup V;obtain⟨d3,c2,a4,c3,c4,c5⟩:=WV K a2 a0 b0 a6 H P U b7 b3 (λn e=>L n (by simp[e])) (λb f=>J b (by simp[f])) W Y (hf m (by simp));have c0:(nb++(na++done)).Nodup:=by refine List.Perm.nodup ?_ a3;rw[List.append_assoc];exact List.perm_append_comm_assoc _ _ _
  have b4:(Q++(F++bdone)).Nodup:=by refine List.Perm.nodup ?_ V;rw[List.append_assoc];exact List.perm_append_comm_assoc _ _ _
  have b5:∀b∈F++bdone,Gx.own b=.box:=λb f=>by
   rcases List.mem_append.1 f with h |h
   ·exact K.pbox b (J b (by simp[h]))
   ·exact U b h
  obtain⟨g,c6,a5,c7,c8,c9⟩:=WW K a2 a0 ms b2 a9 c3 c2 b5 c0 b4 (λn e=>L n (by simp[e])) (λb f=>J b (by simp[f])) (λn e=>by
   rcases List.mem_append.1 e with h |h
   ·exact L n (by simp[h])
   ·exact W n h) (λp c1=>Nat.lt_of_lt_of_le (Y p c1) a4.ctr) (λm b6=>hf m (by simp[b6]))
  refine⟨g,⟨λb v y=>c6.own b (λn p e=>v n p ?_) (λf=>y ?_)⟩,a4.trans a5,c7,⟨u,d2,rfl,dR a5 _ _ c4,c8⟩,λn e=>(c9 n e).trans (c5 n e)⟩
  ·simp only[List.mem_append]at e⊢;rcases e with h |h |h
   ·exact .inl (.inr h)
   ·exact .inl (.inl h)
   ·exact .inr h
  ·simp only[List.mem_append]at f⊢;rcases f with h |h |h
   ·exact .inl (.inr h)
   ·exact .inl (.inl h)
   ·exact .inr h
end
end Go.Eng

namespace Go.Eng
section
variable{P:Program}{E:fC}{ctx:sJ}{w w':World}{G Gc Gx Gm:Gh}{st s:St}{sl:Nat->Option Value}{ds ds':List (Nat×Nat)}{gs bn:List Nat}
theorem Ye(j:dI w G st sl){t:LT}{a:A}{v:Value}{r:Mz D}(h:IN st t a=some r)(f:dN w G st a v):∀d,d∈r.ds->d.2<st.ctr:=by
 unfold IN at h;split at h
 ·obtain⟨_,c⟩:=aU h;simp[ok]at c;subst c;simp
 ·simp[ok]at h;subst h;simp
 ·simp[ok]at h;subst h;simp
 ·simp[ok]at h;subst h;simp
 ·obtain⟨a',_,c⟩:=bind_some h;split at c
  ·obtain⟨_,e⟩:=aU c;simp[ok]at e;subst e;simp
  ·simp[aG]at c
 ·obtain⟨_,c⟩:=aU h;simp[ok]at c;subst c;exact f.1
 ·obtain⟨q,g,c⟩:=bind_some h;obtain⟨_,e⟩:=aU c;simp[ok]at e;subst e;intro d hd;simp at hd;subst hd;exact(MG j f g).1
 ·simp[aG]at h
theorem GP(e:dI w G st sl):∀{lv:List LT}{l:List A}{vs:List Value}{r:Mz (LD)},cL st lv l=some r->eT w G st l vs->∀d,d∈r.ds->d.2<st.ctr
 |[],[],vs,r,h,_,d,hd=>by simp[cL,ok]at h;subst h;simp at hd
 |t::ts,a::l,vs,r,h,hv,d,hd=>by
  simp only[cL]at h;obtain⟨p,f,g⟩:=bind_some h;obtain⟨q,j,c⟩:=bind_some g;simp[ok]at c;subst c;obtain⟨v,u,_,m,s⟩:=hv;simp only[List.mem_append]at hd;rcases hd with hd |hd
  ·exact Ye e f m d hd
  ·exact GP e j s d hd
 |[],_::_,_,_,h,_,_,_=>by simp[cL,aG]at h
 |_::_,[],_,_,h,_,_,_=>by simp[cL,aG]at h
theorem Ir(f:dI w G st sl){lv:List LT}{l:List A}{vs:List Value}{r:List (Nat×Nat)×LD}(h:E7 st lv l=some r)(hv:eT w G st l vs):∀d,d∈r.1->d.2<st.ctr:=by obtain⟨p,e,c⟩:=bind_some h;simp[ok]at c;subst c;exact GP f e hv
theorem Is{l:List A}{vs:List Value}(h:eT w G st l vs)(n:Nat):eT w G st (kH n l) (vs.take n):=by
 obtain⟨d,e⟩:=dG.1 h;refine dG.2 ⟨by rw[mP];simp[d],λj a v c hv=>?_⟩;rw[mP,List.getElem?_take]at c;rw[List.getElem?_take]at hv;split at c
 ·rename_i f;rw[if_pos f]at hv;exact e j a v c hv
 ·simp at c
theorem K7{l:List A}{vs:List Value}(h:eT w G st l vs)(n:Nat):eT w G st (oN n l) (vs.drop n):=by obtain⟨d,e⟩:=dG.1 h;refine dG.2 ⟨by rw[sM];simp[d],λj a v c hv=>?_⟩;rw[sM,List.getElem?_drop]at c;rw[List.getElem?_drop]at hv;exact e _ a v c hv
theorem Yf{a:A}{v:Value}(h:dN w G st a v):∃vs,eT w G st (fW a) vs:=by
 cases a with
 |agg xs=>obtain⟨vs,_,c⟩:=h;exact⟨vs,c⟩
 |_=>exact⟨[v],v,[],rfl,h,rfl⟩
theorem aDH(L:dI w G st sl){all:List A}{p:TypeId×PM}{a:A}{v:Value}{u:Arg}(h:FC E st all p a=some u)(a4:dN w G st a v)(a1:iS [p]=true):(∀d,d∈u.ds->d.2<st.ctr)/\(gJ [p]=true->u.os=[]):=by
 obtain⟨t,m⟩:=p;have W:∀{b Q l},pQ st b Q=some l->0<st.ctr/\∃vs,eT w G st l vs:=λ{b Q l}a5=>by obtain⟨x,a2,b4,a9⟩:=fU a5;subst a9;obtain⟨_,_,vs,_,_,b0,_⟩:=PS L a2 (vH a5 a2);exact⟨Nat.lt_of_le_of_lt (Nat.zero_le _) (L.boxes b x a2).1,vs,b0⟩
 cases m with
 |ro=>
  simp only[FC]at h;obtain⟨ti,T,F⟩:=bind_some h;obtain⟨q,H,c⟩:=bind_some F;simp[ok]at c;subst c;refine⟨?_,λ_=>rfl⟩;unfold aDm at H;split at H
  ·unfold aBd at H;obtain⟨a6,_,y⟩:=bind_some H;obtain⟨l,K,C⟩:=bind_some y;obtain⟨_,U⟩:=aU C;obtain⟨b1,a7,a3⟩:=bind_some U;simp[ok]at a3;subst a3;obtain⟨V,vs,J⟩:=W K;intro d hd;simp only[List.mem_cons]at hd;rcases hd with rfl |hd
   ·exact V
   ·exact Ir L a7 (Is J _) d hd
  ·obtain⟨_,y⟩:=aU H;obtain⟨b1,K,C⟩:=bind_some y;simp[ok]at C;subst C;obtain⟨vs,J⟩:=Yf a4;exact Ir L K J
 |rp=>
  simp only[FC,LU]at h;obtain⟨e,T,F⟩:=bind_some h;obtain⟨a6,H,c⟩:=bind_some F;unfold U0 at c;split at c
  ·obtain⟨_,y⟩:=aU c;simp[ok]at y;subst y;exact⟨a4.1,λ_=>rfl⟩
  ·obtain⟨l,y,K⟩:=bind_some c;obtain⟨q,C,U⟩:=bind_some K;simp[ok]at U;subst U;obtain⟨V,vs,J⟩:=W y;refine⟨λd hd=>?_,λ_=>rfl⟩;simp only[List.mem_cons]at hd;rcases hd with rfl |hd
   ·exact V
   ·exact Ir L C (Is (K7 J _) _) d hd
  ·rename_i r Q p k i;obtain⟨q,y,K⟩:=bind_some c;obtain⟨_,C⟩:=aU K;simp[ok]at C;subst C;refine⟨λd hd=>?_,λ_=>rfl⟩;simp at hd;subst hd;obtain⟨a0,v0,_,_,b2⟩:=IU y;rw[b2];exact(L.arrs r a0 v0.1).2.1
  ·simp[aG]at c
 |fnv f=>
  cases a<;>simp only[FC,aG]at h<;>(try cases h);rename_i g caps;cases caps with
  |cons _ _=>simp[FC,aG]at h
  |nil=>simp only[FC]at h;obtain⟨_,F⟩:=aU (s:= "") h;simp[ok]at F;subst F;exact⟨by simp,λ_=>rfl⟩
 |mv=>
  cases a<;>simp only[FC,aG]at h<;>(try cases h)
  ·exact⟨by simp,λP=>by simp[gJ]at P⟩
  ·rename_i r Q p;cases p with
   |cons _ _=>simp[FC,aG]at h
   |nil=>simp only[FC]at h;obtain⟨q,T,F⟩:=bind_some h;obtain⟨ti,a6,H,c,y⟩:=zY F;obtain⟨_,C⟩:=aU (s:= "") y;simp[ok]at C;subst C;exact⟨by simp,λP=>by simp[gJ]at P⟩
 |io el=>
  simp only[FC]at h;unfold LU at h;split at h
  ·rename_i P;simp at P
  ·rename_i b3 n Q Y;injection Y with Y;subst Y;obtain⟨l,T,F⟩:=bind_some h;obtain⟨q,H,c⟩:=bind_some F;simp[ok]at c;subst c;obtain⟨_,vs,J⟩:=W T;exact⟨GP L H J,λP=>by simp[gJ]at P⟩
  ·simp[aG]at h
 |sio lv=>simp[iS]at a1
 |sub j b5 k=>simp[iS]at a1
 |clo f ms=>simp[iS]at a1
theorem JN{p:TypeId×PM}{ps:List (TypeId×PM)}(h:iS (p::ps)=true):iS [p]=true/\iS ps=true:=by obtain⟨t,m⟩:=p;cases m<;>simp_all[iS]
theorem Fh{p:TypeId×PM}{ps:List (TypeId×PM)}(h:gJ (p::ps)=true):gJ [p]=true/\gJ ps=true:=by obtain⟨t,m⟩:=p;cases m<;>simp_all[gJ]
theorem It(e:dI w G st sl){all:List A}:∀(ps:List (TypeId×PM)){as:List A}{vs:List Value}{u:List Nat×List Nat×List (Nat×Nat)×LD},sK E st all ps as=some u->eT w G st as vs->iS ps=true->(∀d,d∈u.2.2.1->d.2<st.ctr)/\(gJ ps=true->u.1=[])
 |[],[],vs,u,h,_,_=>by simp[sK,ok]at h;subst h;exact⟨by simp,λ_=>rfl⟩
 |p::ps,a::as,vs,u,h,hv,y=>by
  simp only[sK]at h;obtain⟨P,m,r⟩:=bind_some h;obtain⟨Q,s,c⟩:=bind_some r;simp[ok]at c;subst c;obtain⟨v,T,_,C,F⟩:=hv;obtain⟨K,L⟩:=JN y;obtain⟨f,g⟩:=aDH e m C K;obtain⟨j,l⟩:=It e ps s F L;refine⟨λd hd=>?_,λt=>?_⟩
  ·simp only[List.mem_append]at hd;exact hd.elim (f d) (j d)
  ·obtain⟨H,J⟩:=Fh t;simp[g H,l J]
 |[],_::_,_,_,h,_,_=>by simp[sK,aG]at h
 |_::_,[],_,_,h,_,_=>by simp[sK,aG]at h
theorem Iu(H:dI w G st sl){all:List A}:∀(ps:List (TypeId×PM)){as:List A}{vs:List Value}{u:List Nat×List Nat×List (Nat×Nat)×LD}{xs:LD}{g b2:List Nat},sK E st all ps as=some u->eT w G st as vs->TA w' Gx ds' ps vs xs g b2->
  ∀n,n∈gZ ps as->∃x,look st.bx n=some x/\Gx.own (G.B n).1 =.box/\(G.B n).1 ∈b2/\∃cs e,w'.heap[(G.B n).1]?=some (.cells cs e (0,0))/\(G.B n).2 +x.lv.length<=cs.size
 |[],as,vs,u,xs,g,b2,_,_,_,n,c=>by cases as<;>simp[gZ]at c
 |p::ps,[],vs,u,xs,g,b2,_,_,_,n,c=>by simp[gZ]at c
 |p::ps,a::as,vs,u,xs,g,b2,h,hv,J,n,c=>by
  simp only[sK]at h;obtain⟨d1,f,a2⟩:=bind_some h;obtain⟨d2,C,F⟩:=bind_some a2;simp[ok]at F;subst F;obtain⟨v,d3,rfl,b6,L⟩:=hv;obtain⟨t,m⟩:=p;cases m with
  |io el=>
   obtain⟨c3,c4,e0,e2,b,o,os,c7,c5,e1,Q,T,b5,U,V,y⟩:=J;injection e1 with j r;subst j;subst r;subst Q;subst U;subst V;simp only[gZ,List.mem_append]at c;rcases c with c |c
   ·cases a<;>simp[sP]at c;rename_i n' c9 off;subst c;simp only[FC]at f;unfold LU at f;split at f
    ·rename_i b3;simp at b3
    ·rename_i c6 n' d0 s a6;injection s with s;subst s;injection a6 with a7 a9 b0;subst a7;subst a9;subst b0;obtain⟨l,a3,a4⟩:=bind_some f;obtain⟨q,a5,_⟩:=bind_some a4;obtain⟨x,P,b7,c0⟩:=fU a3;subst c0;have d:=b6.2 x P b7;rw[T]at d;injection d with d;injection d with d;injection d with b1 K;subst b1;rw[Nat.add_zero]at K;subst K;obtain⟨c1,cs,e,us,c2,c8,_⟩:=b5;have:=sO a5;exact⟨x,P,c1,by simp,cs,e,c2,by omega⟩
    ·simp[aG]at f
   ·obtain⟨x,W,Y,a0,a1⟩:=Iu H ps C L y n c;exact⟨x,W,Y,by simp[a0],a1⟩
  |_=>
   obtain⟨c3,c4,e1,y⟩:=J;injection e1 with j r;subst j;subst r;have b4:n∈gZ ps as:=by
    simp only[gZ,List.mem_append]at c;rcases c with c |c
    ·cases a<;>simp[sP]at c
    ·exact c
   exact Iu H ps C L y n b4
theorem X9{m:RM}{u:Value}{x:D}{e b1:List Nat}(h:Xy w' Gx ds' m u x e b1):∀b∈b1,Gx.own b=.box:=by
 cases m with
 |val agg lv=>obtain⟨rfl,_⟩:=h;simp
 |ptr el=>
  rcases h with⟨_,_,_,rfl⟩ |⟨f,ys,b,o,os,_,_,d,_,rfl⟩
  ·simp
  ·intro b' c;simp at c;subst c;exact d.1
theorem Yg:∀{ms:List RM}{us:List Value}{x:D}{c:Nat}{j b1:List Nat},Io w' Gx ds' ms us x c j b1->∀b∈b1,Gx.own b=.box
 |[],_,_,_,_,_,⟨_,_,h⟩,b,d=>by subst h;simp at d
 |m::ms,_,_,_,_,_,⟨u,s,na,nb,l,r,_,_,e,f,g⟩,b,d=>by subst e;simp only[List.mem_append]at d;exact d.elim (X9 f b) (Yg g b)
theorem aB6{rs:List RM}{v:Value}{x:D}{c b1:List Nat}(h:SZ w' Gx ds' rs v x c b1):∀b∈b1,Gx.own b=.box:=by
 unfold SZ at h;split at h
 ·obtain⟨_,_,rfl⟩:=h;simp
 ·exact X9 h
 ·obtain⟨us,_,h⟩:=h;exact Yg h
theorem ND:∀{l:List Nat},nodup l=true->l.Nodup
 |[],_=>List.nodup_nil
 |m::l,h=>by simp only[nodup,Bool.and_eq_true,Bool.not_eq_true']at h;refine List.nodup_cons.2 ⟨λc=>?_,ND h.2⟩;rw[JK.2 c]at h;exact absurd h.1 (by simp)
theorem NE{l:List Nat}:∀{m:List (Nat×Nat)},apart l m=true->∀n∈l,∀d∈m,d.1≠n
 |[],_,_,_,d,hd=>by simp at hd
 |(r,v)::m,h,n,c,d,hd=>by
  simp only[apart,Bool.and_eq_true,Bool.not_eq_true']at h;rcases List.mem_cons.1 hd with rfl |hd
  ·intro e;simp only at e;subst e;rw[JK.2 c]at h;simp at h
  ·exact NE h.2 n c d hd
theorem K8{s:CV}{ds:List (Nat×Nat)}(h:OZ s ds=true):(ds=[]\/uZ s.ps=true)/\∀m∈s.rs,Td ds m:=by
 cases ds with
 |nil=>exact⟨.inl rfl,λ_ _=>.inl rfl⟩
 |cons p l=>
  simp only[OZ,Bool.and_eq_true]at h;refine⟨.inr h.2,λm c=>?_⟩;have g:∀(rs:List RM),vA rs=true->∀m∈rs,vA [m]=true:=by
   intro rs;induction rs with
   |nil=>intro _ m c;simp at c
   |cons f rs e=>
    intro j m c;rcases List.mem_cons.1 c with rfl |c
    ·cases m<;>simp_all[vA]
    ·exact e (by cases f<;>simp_all[vA]) m c
  have r:∀(rs:List RM),zH rs=true->∀m∈rs,zH [m]=true:=by
   intro rs;induction rs with
   |nil=>intro _ m c;simp at c
   |cons f rs e=>
    intro j m c;rcases List.mem_cons.1 c with rfl |c
    ·cases m<;>simp_all[zH]
    ·exact e (by cases f<;>simp_all[zH]) m c
  cases d:rL (p::l)with
  |true=>rw[d]at h;exact .inr (.inr (g _ h.1 m c))
  |false=>rw[d]at h;exact .inr (.inl ⟨d,r _ h.1 m c⟩)
theorem Yh(vs:List Value):CO (λ_=>none) 0 vs=λi=>vs[i]?:=by
 funext t;rw[RL];by_cases h:t<vs.length
 ·rw[if_pos (by omega)];rfl
 ·rw[if_neg (by omega),List.getElem?_eq_none (by omega)]
def Iv(P:Program)(ctx:sJ)(m:Nat)(s:CV)(e:TypeId)(el:List LT)(f:Nat):Prop:=
 ∀data q x,ctx m [.l data,.l []]=some (q,[x])->s.rs=[]->∀{w:World}{G:Gh}{st:St}{sl:Nat->Option Value}{r:Nat}{a:xZ},dI w G st sl->look st.ar r=some a->a.stale=[]->a.e=e->a.el=el->a.data=data->
  Calls P s.fn ⟨[G.H r [],.func (.func f) #[] #[]]⟩ w (λc w'=>c=.returned (.tuple #[])/\w'.os=w.os/\w'.tape=w.tape/\w'.output=w.output/\w.heap.size<=w'.heap.size/\(∀b,b<w.heap.size->G.own b≠.arr r []->w'.heap[b]?=w.heap[b]?)/\yH w' G [] r e el [] (G.H r []) x.els)
theorem aGl{r:Nat}{e:TypeId}{el:List LT}{v:Value}{data:LD}(hf:sC el=true)(h:yH w G [] r e el [] v data){l:World}{f:Gh}(K:∀b,G.own b=.arr r []->f.own b=.arr r []/\l.heap[b]?=w.heap[b]?):yH l f [] r e el [] v data:=by
 obtain⟨a,n,c,L,P,Q,T,U,V⟩:=h;refine⟨a,n,c,L,P,Q,T,U,λad W=>?_⟩;obtain⟨y,C,cs,s,F,H,J⟩:=V ad W;obtain⟨a1,g⟩:=K ad.block C;refine⟨y,a1,cs,s,g.trans F,H,λi Y=>JA el 0 (λj t ht=>?_)⟩;obtain⟨a3,a2,d⟩:=BS (J i Y) j t ht;refine⟨a3,(vE g _).trans a2,?_⟩;have a0:=tQ hf j t ht;cases t with
 |int k=>exact d
 |bool=>exact d
 |str=>exact d
 |sl o m u=>exact absurd rfl (a0 o m u)
theorem K9{m:Nat}{s:CV}{e:TypeId}{el:List LT}{f d:Nat}(a2:Iv P ctx m s e el f)(a1:s.rs=[]){as:List A}{vs:List Value}{st':St}(K:dI w G st sl)(hv:eT w G st as vs)
  (h:((Fs st e el f as).bind λq=>(oM "sort: answer" (ctx m [.l q.2.data,.l []])).bind (Fq st d q.1 q.2))=some st'):
  Calls P s.fn ⟨vs⟩ w (λe w'=>∃v G',e=.returned v/\Fr w G w' G'/\Le w G st w' G' st'/\dI w' G' st' (yK sl d v)):=by
 obtain⟨q,j,V⟩:=bind_some h;obtain⟨b6,H,c⟩:=bind_some V;simp only[oM]at H;unfold Fs at j;split at j
 ·rename_i r u g;obtain⟨J,W⟩:=aU j;simp only[Bool.and_eq_true]at J;have:=Nat.eq_of_beq_eq_true J.1;subst this;obtain⟨a,Y,l⟩:=bind_some W;split at l
  ·rename_i L;obtain⟨t,F⟩:=aU l;simp[ok]at F;subst F;simp only[Bool.and_eq_true]at t;have e1:=Nat.eq_of_beq_eq_true t.1;have C:=iG _ _ t.2;have y:=eH Y;obtain⟨c0,c2,rfl,a3,c1,b4,rfl,a4,a5⟩:=hv;have:b4=[]:=a5;subst this;obtain⟨a6,_,_⟩:=a3.2 a y;obtain⟨us,a7,a9⟩:=a4;have:us=[]:=a9;subst this;subst a6;subst a7;unfold Fq at c;split at c
   ·rename_i b5 x;simp[ok]at c;subst c;refine Calls.mono (a2 a.data b5 x H a1 K y.1 L e1 C.symm rfl) λb7 w' a0=>?_;obtain⟨rfl,o1,o2,b0,b1,b2,b3⟩:=a0;obtain⟨Q,T,U⟩:=JE (data:=x.els) K y.1 L ⟨o1,o2,b0⟩ b1 b2 (by rw[e1,<-C];exact b3);exact⟨_,G,rfl,Q,T.trans (Le.put _ _ _ _ _),U.put ⟨[],rfl,rfl⟩⟩
   ·simp[aG]at c
  ·simp[aG]at l
 ·simp[aG]at j
theorem L1(g5:gY P E){m:Nat}{s:CV}(hf:iS s.ps=true->NA P E ctx m s)(h3:∀e el f,mF s.ps=some (e,el,f)->s.rs=[]/\Iv P ctx m s e el f){d:Nat}(k1:d<500\/600<=d){as:List A}{vs:List Value}{st':St}(F:dI w G st sl)(hv:eT w G st as vs)(h:QW E ctx st d m s as=some st'):
  Calls P s.fn ⟨vs⟩ w (λe w'=>∃v G',e=.returned v/\(gJ s.ps=true->HE w w')/\Fr w G w' G'/\Le w G st w' G' st'/\dI w' G' st' (yK sl d v)):=by
 unfold QW at h;cases C:mF s.ps with
 |some q=>
  obtain⟨e,el,f⟩:=q;rw[C]at h;obtain⟨V,c2⟩:=h3 e el f C;refine Calls.mono (K9 c2 V F hv h) λk0 w' c7=>?_;obtain⟨v,G',Q,c0,a7,c1⟩:=c7;refine⟨v,G',Q,λb0=>?_,c0,a7,c1⟩;unfold mF at C;split at C
  ·rename_i T;rw[T]at b0;simp[gJ]at b0
  ·simp at C
 |none=>
 rw[C]at h;simp only at h;obtain⟨u,V,c2⟩:=bind_some h;obtain⟨e4,g3⟩:=aU c2;obtain⟨r,c3,g4⟩:=bind_some g3;obtain⟨d3,e0,K⟩:=bind_some g4;simp only[Bool.and_eq_true]at e4;obtain⟨T,b3,a9,e7⟩:=e4;have b3:=ND b3;have a9:=NE a9;simp only[oM]at c3;obtain⟨os,gs,ds,xs⟩:=u;simp only at c3 e0 K b3 a9 e7;obtain⟨uV,g8,g7⟩:=hf T xs r c3;obtain⟨h0,Gc,f3,U,f4,h5⟩:=TB g5 F s.ps (stk:=Ip) (os0:=[]) (gs0:=[]) (bn0:=[]) V hv (ds:=ds) (λd hd=>hd) (by simpa using b3) a9 T (by simp) (by simp) (Ya (ds:=ds) F) (Xz G st (λn x hx=>(F.boxes n x hx).2.1) ds) g8;simp only[List.append_nil]at U f4;rw[Yh]at f3;obtain⟨e5,f0⟩:=It F s.ps V hv T;simp only at e5 f0;refine Calls.mono (g7 w Gc vs h0 f3) λe w' c7=>?_;obtain⟨v,Gx,rfl,J,L⟩:=c7;obtain⟨ds',d2,b1,b6,b2,o1,o2,f7,f8,f9⟩:=L.ex;have c5:=Iu (w':=w') (Gx:=Gx) (ds':=ds') F s.ps V hv o2;have c9:cJ w G Gc st ds gs (gZ s.ps as) w' Gx:=⟨U,J,⟨sl,F⟩,λn x hx c=>by obtain⟨i1,Q,c0,_⟩:=c5 n c;exact c0⟩;obtain⟨b4,h6⟩:=aB5 (ds':=ds') F U J L.live rfl (λn x hx c=>by obtain⟨i1,Q,_,_,c1⟩:=c5 n c;rw[hx]at Q;injection Q with Q;subst Q;exact c1);have c8:=aB6 o1;have c6:Can Gx (G.merge Gx w.heap.size gs ds') ds ds' (b6++d2) b1:=by refine⟨λn c b p y=>c9.free y (λd hd=>f9 n c d hd),λb y=>c9.ptr (c8 b y) (λn x hx c Y=>?_),c8,λY b y=>c9.read Y y,λn c d hd=>f9 n c d hd⟩;obtain⟨_,_,_,a7,_⟩:=c5 n Y;rw[c]at a7;exact sN f8 b a7 y
 obtain⟨g2,a6⟩:=K8 e7;obtain⟨e1,g0,i2⟩:=JM gs st;obtain⟨i8,g1,j0,_⟩:=PT s.ps as (kZ gs st);have h7:dI w' (G.merge Gx w.heap.size gs ds') (jY s.ps as (kZ gs st)) sl:=h6.withSlots λt i0 h4=>by rw[g1,g0];exact dR b4 _ _ (F.slots t i0 h4)
 have f1:(b6++[]).Nodup:=by simpa using(List.nodup_append.1 f7).1
 obtain⟨a5,b5,f6,d1,h9⟩:=DU c6 L.live L.hdr s.ps (done:=[]) o2 hv b4 e0 h7 (Mg.refl _ _) (λ_=>rfl) f1 (λn c=>by simp[c]) (by simp) g2 T;simp only[List.append_nil]at b5;have f2:(d2++b6).Nodup:=List.Perm.nodup List.perm_append_comm f7;have e3:(b1++[]).Nodup:=by simpa using(List.nodup_append.1 f8).2.1
 have e6:∀p,p∈ds->p.2<d3.ctr:=λp C=>Nat.lt_of_lt_of_le (e5 p C) (b4.trans f6).ctr;have b7:∀(j:Gh)(H:St)(a:A),Mg Gx (G.merge Gx w.heap.size gs ds') j (d2++b6) (b1++[])->Le w' a5 d3 w' j H->dI w' j H sl->dN w' j H a v->(∀n,n≠d->j.B n=a5.B n)->
   (gJ s.ps=true->HE w w')/\Fr w G w' j/\Le w G st w' j (H.put d a)/\dI w' j (H.put d a) (yK sl d v):=by
  intro j H a a0 a1 a2 a3 a4;refine⟨λb0=>⟨J.size,λb y=>?_⟩,⟨J.os,J.tape,J.output,J.size,λb y g=>?_,λn k2 f1=>?_⟩,((b4.trans f6).trans a1).trans (Le.put _ _ _ _ _),a2.put a3⟩
  ·have h1:=f0 b0;subst h1;have g9:gs=[]:=List.eq_nil_iff_forall_not_mem.2 λr h2=>by simpa using f4 r h2
   have g6:gZ s.ps as=[]:=List.eq_nil_iff_forall_not_mem.2 λn c=>by simpa using h5 n c
   refine(J.block b y (Go.Eng.unlent F U (λr p _=>by rw[g9];simp) (λn x _ _=>by rw[g6];simp))).1
  ·have e2:Gc.own b=G.own b:=by
    rcases g with g |g
    ·rw[g];exact U.out b g
    ·rw[g];exact U.fz b g
   obtain⟨t1,t2⟩:=J.block b y (by rw[e2];exact g);refine⟨t1,?_⟩;have hx:Gx.own b=G.own b:=t2.trans e2;rw[a0.own b (λn p _ C=>by rw[hx]at C;rcases g with g |g<;>rw[g]at C<;>simp at C) (λY=>by have:=c8 b (by simpa using Y);rw[hx]at this;rcases g with g |g<;>rw[g]at this<;>simp at this)];exact DT y (λr p C=>by rcases g with g |g<;>rw[g]at C<;>simp at C)
  ·rw[a4 n (by omega),h9 n]
 cases d0:s.rs with
 |nil=>rw[d0]at o1 K;obtain⟨rfl,rfl,rfl⟩:=o1;simp[ok]at K;subst K;exact⟨_,a5,rfl,b7 a5 d3 (.tup []) (by simpa using b5) (Le.refl _ _ _) d1 ⟨[],rfl,rfl⟩ (λ_ _=>rfl)⟩
 |cons f5 ms=>
  cases ms with
  |nil=>rw[d0]at o1 K a6;simp only[SZ]at o1;obtain⟨q,c4,W⟩:=bind_some K;simp[ok]at W;subst W;obtain⟨H,a⟩:=q;obtain⟨j,a0,a1,a2,a3,a4⟩:=WV c6 L.live L.hdr o1 c4 d1 b5 (by simp) f2 e3 (λn c=>by simp[c]) (λb y=>y) (λn c=>by simp[c]) e6 (a6 f5 (by simp));exact⟨v,j,rfl,b7 j H a a0 a1 a2 a3 a4⟩
  |cons h8 ms=>rw[d0]at o1 K a6;simp only[SZ]at o1;obtain⟨us,rfl,o1⟩:=o1;obtain⟨q,c4,W⟩:=bind_some K;simp[ok]at W;subst W;obtain⟨H,l⟩:=q;obtain⟨j,a0,a1,a2,a3,a4⟩:=WW c6 L.live L.hdr (f5::h8::ms) o1 c4 d1 b5 (by simp) f2 e3 (λn c=>by simp[c]) (λb y=>y) (λn c=>by simp[c]) e6 a6;exact⟨_,j,rfl,b7 j H (.tup l) a0 a1 a2 ⟨us,rfl,a3⟩ a4⟩
end
end Go.Eng

namespace Go.Eng
section
variable{P:Program}{E:fC}{ctx:sJ}{w w':World}{G Gc Gx Gm:Gh}{st:St}{sl:Nat->Option Value}{ds ds':List (Nat×Nat)}
theorem Iw:∀(ps:List (TypeId×PM))(as:List A)(st:St),gZ ps as=[]->jY ps as st=st
 |[],as,st,_=>by cases as<;>rfl
 |p::ps,[],st,_=>by obtain⟨t,m⟩:=p;cases m<;>rfl
 |p::ps,a::as,st,h=>by
  simp only[gZ,List.append_eq_nil_iff]at h;have c:jY (p::ps) (a::as) st=jY ps as st:=by obtain⟨t,m⟩:=p;cases m<;>cases a<;>first|rfl |(simp[sP]at h)
  rw[c];exact Iw ps as st h.2
theorem w7{t:LT}{v:Value}{x:D}{n:Option Nat}{ds2:List (Nat×Nat)}(h:X8 w' Gx ds' t v x n)(g:∀d,d∈ds'->d∈ds2)(j:∀m,n=some m->∃u,(m,u)∈ds2):vD w' (vG Gx ds2) t v x:=by
 have c:∀t,vD w' (vG Gx ds') t v x->vD w' (vG Gx ds2) t v x:=λt ht=>dE (λb f=>⟨zM g b f,rfl⟩) t v x ht;cases t with
 |int k=>exact c _ h.2
 |bool=>exact c _ h.2
 |str=>exact c _ h.2
 |sl o e el=>
  cases o with
  |false=>exact c _ h.2
  |true=>
   cases n with
   |none=>obtain⟨rfl,hx⟩:=h;exact⟨none,0,0,rfl,by rw[hx];rfl,Nat.le_refl _,Nat.zero_le _,λ_=>rfl,by simp⟩
   |some m=>obtain⟨u,l⟩:=j m rfl;have:=dE (λb f=>⟨zM (ds':=ds2) (by intro d hd;simp at hd;subst hd;exact l) b (U9 (v:=u) f),rfl⟩) _ _ _ (H4 (show yH w' Gx [] m e el [] v x.els from h));exact this
theorem Ix{ds2:List (Nat×Nat)}(f:∀d,d∈ds'->d∈ds2):∀{ts:List LT}{vs:List Value}{k:Nat}{x:D}{j:Nat}{ns:List (Option Nat)},RK w' Gx ds' ts vs k x j ns->(∀m,m∈eA ns->∃u,(m,u)∈ds2)->
  ∀(i:Nat)(t:LT)(u:Value),ts[i]?=some t->vs[i]?=some u->vD w' (vG Gx ds2) t u (lf k x (j+i))
 |[],_,_,_,_,_,_,_,i,t,u,h,_=>by simp at h
 |t0::ts,vs,k,x,j,ns,⟨v,C,n,y,e1,l,r,s⟩,g,i,t,u,ht,e=>by
  subst e1;subst l;cases i with
  |zero=>simp at ht e;subst ht;subst e;exact w7 r f (λm c=>g m (by subst c;simp[eA]))
  |succ i=>have:=Ix f s (λm c=>g m (by cases n<;>simp[eA,c])) i t u (by simpa using ht) (by simpa using e);rwa [show j+1+i=j+(i+1)by omega]at this
theorem aB7(a5:gY P E){m:Nat}{s:CV}(hf:NA P E ctx m s){as:List A}{vs:List Value}{agg:Bool}{lv:List LT}{gs:List Nat}{xs:LD}{r:uM}(c1:s.rs=[.val agg lv])(g:dI w G st sl)(hv:eT w G st as vs)
  (K:sK E st as s.ps as=some ([],gs,ds,xs))(W:iS s.ps=true)(l:rL ds=false\/sC lv=true)(h:YS ctx true m agg lv ds xs=some r):
  ∃a,r=.val a/\Calls P s.fn ⟨vs⟩ w (λe w'=>∃v G',e=.returned v/\HE w w'/\Fr w G w' G'/\Le w G st w' G' st/\dI w' G' st sl/\dN w' G' st a v):=by
 obtain⟨q,L,F⟩:=bind_some h;simp only[oM,cond_true]at L;split at F
 ·rename_i d2;obtain⟨a,a4,rfl⟩:=iW F;refine⟨a,rfl,?_⟩;obtain⟨uV,a9,a6⟩:=hf xs q L;obtain⟨b4,Gc,a0,C,a1,c5⟩:=TB a5 g s.ps (stk:=Ip) (os0:=[]) (gs0:=[]) (bn0:=[]) K hv (ds:=ds) (λd hd=>hd) (by simp) (by simp) W (by simp) (by simp) (Ya (ds:=ds) g) (Xz G st (λn x hx=>(g.boxes n x hx).2.1) ds) a9;simp only[List.append_nil]at C a1;rw[Yh]at a0;obtain⟨U,b5⟩:=It g s.ps K hv W;simp only at U b5;have b3:gs=[]:=List.eq_nil_iff_forall_not_mem.2 λr b7=>by simpa using a1 r b7
  have H:gZ s.ps as=[]:=List.eq_nil_iff_forall_not_mem.2 λn y=>by simpa using c5 n y
  subst b3;rw[H]at C;refine Calls.mono (a6 w Gc vs b4 a0) λe w' a7=>?_;obtain⟨v,Gx,rfl,c,T⟩:=a7;obtain⟨ds',c7,b1,d3,b2,o1,o2,e0,e1,e2⟩:=T.ex;rw[c1]at o1;obtain⟨_,us,os,c8,a3,c9⟩:=o1;have c0:cJ w G Gc st ds [] [] w' Gx:=⟨C,c,⟨sl,g⟩,λn x hx y=>by simp at y⟩;let ds2:List (Nat×Nat):=ds'++c7.map λn=>(n,0)
  obtain⟨J,a2⟩:=aB5 (ds':=ds2) (ps:=s.ps) (as:=as) g C c T.live H.symm (λn x hx y=>by simp at y);have c2:jY s.ps as (kZ [] st)=st:=Iw s.ps as st H;rw[c2]at J a2;have Y:∀b,b<w.heap.size->Gc.own b=.out\/Gc.own b=.fz:=λb f=>Go.Eng.unlent g C (λr p _=>by simp) (λn x _ _=>by simp);have c6:=a2.withSlots (sl':=sl) λt d0 c4=>dR J _ _ (g.slots t d0 c4);refine⟨v,G.merge Gx w.heap.size [] ds2,rfl,⟨c.size,λb f=>(c.block b f (Y b f)).1⟩,⟨c.os,c.tape,c.output,c.size,λb f d1=>⟨(c.block b f (Y b f)).1,DT f (λr p _=>by simp)⟩,λ_ _ _=>rfl⟩,J,c6,?_⟩;have b0:=Ix (ds2:=ds2) (λd hd=>by simp[ds2,hd]) a3 (λm b6=>⟨0,by simp[ds2,c9,b6]⟩);refine MZ a4 c8 (ZS U lv 0 us a3.length (λj t u V c3=>?_));have Q:=b0 j t u V c3;rcases l with l |l
  ·exact dE (λb f=>⟨c0.read l f,rfl⟩) _ _ _ Q
  ·exact Sc (tQ l j t V) Q
 ·simp[aG]at F
end
end Go.Eng

namespace Go.Eng
section
variable{ext:Nat->Value}{P:Program}{E:fC}{ctx:sJ}{w w':World}{G:Gh}{st:St}{sl:Nat->Option Value}{act:Act}{nt:Nat}
theorem L2{t:TypeId}{v u:Value}(h:(Instr.loadAt t v).run P w=.ok u w):(do loadVar t (<-asAddr v):Sem Value).run P w=.ok u w:=by
 cases v with
 |pointer a=>
  cases a with
  |none=>simp[Instr.loadAt,Instr.sureAddr]at h
  |some a=>simpa[Instr.loadAt,Instr.sureAddr,asAddr]using h
 |_=>simp[Instr.loadAt,Instr.sureAddr]at h
theorem GQ(j:gY P E)(c:iM ext nt w G st act):∀(l:List ResultVar){as:List A},jM E st l=some as->∃us,(l.mapM (m:=Sem) (λ
  |.tmp t=>pure (act.tmps.getD t undef)
  |.cell a t=>do loadVar t (<-asAddr (act.tmps.getD a undef)))).run P w=.ok us w/\eT w G st as us
 |[],as,h=>by simp[jM,ok]at h;subst h;exact⟨[],rfl,rfl⟩
 |.tmp t::l,as,h=>by simp only[jM]at h;obtain⟨q,g,d⟩:=bind_some h;simp[ok]at d;subst d;obtain⟨us,e,f⟩:=GQ j c l g;refine⟨act.tmps.getD t undef::us,?_,_,us,rfl,PD (c.slots t),f⟩;rw[List.mapM_cons];simp only[Sem.run_bind,Sem.run_pure,Result.andThen_ok,e]
 |.cell t ty::l,as,h=>by simp only[jM]at h;obtain⟨ti,g,d⟩:=bind_some h;obtain⟨a,s,v⟩:=bind_some d;obtain⟨q,y,r⟩:=bind_some v;simp[ok]at r;subst r;obtain⟨us,e,f⟩:=GQ j c l y;obtain⟨u,C,F⟩:=Hj (P:=P) (j.types _ _ g) c.rel (PD (c.slots t)) s;refine⟨u::us,?_,u,us,rfl,F,f⟩;have:=L2 (C w (HE.refl w));rw[List.mapM_cons];simp only[Sem.run_bind]at this⊢;rw[this];simp only[Result.andThen_ok,e,Sem.run_pure]
theorem RN(g:gY P E)(j:iM ext nt w G st act){f:Func}{as:List A}(h:jM E st f.results.toList=some as):∃us,(results f act.tmps).run P w=.ok (if us.length=1 then us.getD 0 undef else .tuple ⟨us⟩) w/\eT w G st as us:=by
 obtain⟨us,d,e⟩:=GQ g j _ h;refine⟨us,?_,e⟩;unfold results;rw[Array.mapM_eq_mapM_toList];rw[Sem.run_bind,Sem.run_map];erw [d];simp only[Result.andThen_ok,Sem.run_pure];by_cases c:us.length=1
 ·match us,c with
  |[u],_=>rfl
 ·have:¬(us.toArray.size=1):=by simpa using c
  rw[if_neg c];simp[c]
structure Yi(w:World)(G:Gh)(st:St)(bl:List Nat):Prop where
 ex:∀n∈bl,∃x,look st.bx n=some x
theorem WX(s:dI w G st sl){m:RM}{a:A}{v:Value}{r:Mz D}(h:F7 st m a=some r)(y:dN w G st a v){ds:List (Nat×Nat)}(C:∀d,d∈r.ds->d∈ds):
  ∃ns bl,Xy w G ds m v r.x ns (bl.map λn=>(G.B n).1)/\r.os.Perm (bl.map sA++ns)/\Yi w G st bl:=by
 unfold F7 at h;split at h
 ·rename_i lv l;obtain⟨p,f,c⟩:=bind_some h;simp[ok]at c;subst c;obtain⟨vs,rfl,Q⟩:=y;obtain⟨ns,g,j⟩:=WS s f Q C;exact⟨eA ns,[],⟨rfl,vs,ns,rfl,g,rfl⟩,by simp only[List.map_nil,List.nil_append];rw[j],⟨by simp⟩⟩
 ·rename_i lv a;obtain⟨p,f,c⟩:=bind_some h;simp[ok]at c;subst c;obtain⟨ns,g,j⟩:=WS (vs:=[v]) s f ⟨v,[],rfl,y,rfl⟩ C;exact⟨eA ns,[],⟨rfl,[v],ns,rfl,g,rfl⟩,by simp only[List.map_nil,List.nil_append];rw[j],⟨by simp⟩⟩
 ·simp[ok]at h;subst h;exact⟨[],[],.inl ⟨rfl,y,rfl,rfl⟩,by simp,⟨by simp⟩⟩
 ·rename_i el b u;obtain⟨l,f,c⟩:=bind_some h;obtain⟨p,F,H⟩:=bind_some c;simp[ok]at H;subst H;obtain⟨x,t,T,U⟩:=fU f;subst U;have hv:=y.2 x t T;obtain⟨cs,e,vs,K,V,L,P⟩:=PS s t (vH f t);obtain⟨ns,g,j⟩:=WS s F L C;have W:=sO F;refine⟨eA ns,[b],.inr ⟨zG p.x,[],(G.B b).1,(G.B b).2,ns,rfl,by rw[hv];rfl,⟨(s.boxes b x t).2.1,cs,e,vs,K,by omega,P,g⟩,rfl,rfl⟩,?_,⟨λn J=>by simp at J;subst J;exact⟨x,t⟩⟩⟩;simp only[List.map_cons,List.map_nil];rw[j];exact List.Perm.refl _
 ·simp[aG]at h
theorem Iy{α:Type}{a b c d e f:List α}(g:a.Perm (b++c))(h:d.Perm (e++f)):(a++d).Perm ((b++e)++(c++f)):=by refine(List.Perm.append g h).trans ?_;rw[List.append_assoc,List.append_assoc];refine List.Perm.append_left b ?_;rw[<-List.append_assoc,<-List.append_assoc];exact List.Perm.append_right f List.perm_append_comm
theorem WY(g:dI w G st sl){ds:List (Nat×Nat)}{X:D}:∀{ms:List RM}{l:List A}{us:List Value}{r:Mz (LD)}(c:Nat),nG st ms l=some r->eT w G st l us->(∀d,d∈r.ds->d∈ds)->(∀j e,r.x[j]?=some e->X.fld (c+j)=e)->
  ∃ns bl,Io w G ds ms us X c ns (bl.map λn=>(G.B n).1)/\r.os.Perm (bl.map sA++ns)/\Yi w G st bl
 |[],[],us,r,c,h,hv,_,_=>by simp[nG,ok]at h;subst h;exact⟨[],[],⟨hv,rfl,rfl⟩,by simp,⟨by simp⟩⟩
 |m::ms,a::l,us,r,c,h,hv,s,hx=>by
  simp only[nG]at h;obtain⟨p,H,J⟩:=bind_some h;obtain⟨q,K,f⟩:=bind_some J;simp[ok]at f;subst f;obtain⟨v,a0,rfl,P,Q⟩:=hv;obtain⟨t,b1,y,C,F⟩:=WX g H P (ds:=ds) (λd hd=>s d (by simp[hd]));obtain⟨u,b2,V,W,Y⟩:=WY g (c+1) K Q (λd hd=>s d (by simp[hd])) (λj e U=>by have:=hx (j+1) e (by simpa using U);rwa [show c+(j+1)=c+1+j by omega]at this);have T:X.fld c=p.x:=by have:=hx 0 p.x rfl;simpa using this
  refine⟨t++u,b1++b2,⟨v,a0,t,u,b1.map λn=>(G.B n).1,b2.map λn=>(G.B n).1,rfl,rfl,by simp,by rw[T];exact y,V⟩,?_,⟨λn L=>?_⟩⟩
  ·simp only[List.map_append];exact Iy C W
  ·rcases List.mem_append.1 L with h |h
   ·exact F.ex n h
   ·exact Y.ex n h
 |[],_::_,_,_,_,h,_,_,_=>by simp[nG,aG]at h
 |_::_,[],_,_,_,h,_,_,_=>by simp[nG,aG]at h
theorem NF(g:dI w G st sl){ds:List (Nat×Nat)}:∀{ps:List (TypeId×PM)}{vs:List Value}{r:Mz (LD)}(i:Nat),FN st i ps=some r->iS ps=true->vs.length=ps.length->(∀d,d∈r.ds->d∈ds)->
  (∀(k:Nat)(t:TypeId)(el:List LT)(v:Value),ps[k]?=some (t,PM.io el)->vs[k]?=some v->v=.pointer (some ⟨(G.B (500+(i+k))).1,(G.B (500+(i+k))).2,none⟩))->
   ∃ns bl,TA w G ds ps vs r.x ns (bl.map λn=>(G.B n).1)/\r.os.Perm (bl.map sA++ns)/\Yi w G st bl
 |[],vs,r,i,h,_,c,_,_=>by simp[FN,ok]at h;subst h;have:vs=[]:=List.eq_nil_of_length_eq_zero (by simpa using c);subst this;exact⟨[],[],⟨rfl,rfl,rfl,rfl⟩,by simp,⟨by simp⟩⟩
 |p::ps,[],r,i,h,_,c,_,_=>by simp at c
 |p::ps,v::vs,r,i,h,b3,c,C,F=>by
  obtain⟨Q,Y⟩:=JN b3;by_cases y:∃t el,p=(t,.io el)
  ·obtain⟨t,el,rfl⟩:=y;simp only[FN]at h;obtain⟨q,T,a7⟩:=bind_some h;obtain⟨b4,a9,U⟩:=bind_some a7;simp[ok]at U;subst U;unfold F8 at T;obtain⟨x,l,u⟩:=bind_some T;split at u;case h_2=>simp[aG]at u
   rename_i b1;obtain⟨a0,V,W⟩:=bind_some u;simp[ok]at W;subst W;simp only[oM]at l;obtain⟨cs,e,us,a1,b5,a2,a3⟩:=PS g l b1;obtain⟨ns,a4,a5⟩:=WS g V a2 (ds:=ds) (λd hd=>C d (by simp[hd]));have b6:=sO V;have hv:=F 0 t el v rfl rfl;simp only[Nat.add_zero]at hv;obtain⟨s,b2,K,L,P⟩:=NF g (i+1) a9 Y (by simpa using c) (λd hd=>C d (by simp[hd])) (λk t el v H hv=>by have:=F (k+1) t el v (by simpa using H) (by simpa using hv);rwa [show i+(k+1)=i+1+k by omega]at this);refine⟨eA ns++s,(500+i)::b2,⟨v,vs,zG a0.x,b4.x,_,_,ns,s,_,rfl,rfl,hv,⟨(g.boxes _ x l).2.1,cs,e,us,a1,by omega,a3,a4⟩,rfl,by simp,K⟩,?_,⟨λn J=>?_⟩⟩
   ·have b0:(Ce (500+i) 0 1++a0.os).Perm ([500+i].map sA++eA ns):=by rw[a5];exact List.Perm.refl _
    exact Iy b0 L
   ·rcases List.mem_cons.1 J with rfl |J
    ·exact⟨x,l⟩
    ·exact P.ex n J
  ·have a6:FN st (i+1) ps=some r:=by
    obtain⟨t,m⟩:=p;cases m with
    |io el=>exact absurd ⟨t,el,rfl⟩ y
    |sio lv=>simp[iS]at Q
    |sub j b7 k=>simp[iS]at Q
    |clo f ms=>simp[iS]at Q
    |_=>simpa[FN]using h
   obtain⟨s,b2,K,L,P⟩:=NF g (i+1) a6 Y (by simpa using c) C (λk t el v H hv=>by have:=F (k+1) t el v (by simpa using H) (by simpa using hv);rwa [show i+(k+1)=i+1+k by omega]at this);refine⟨s,b2,?_,L,P⟩;obtain⟨t,m⟩:=p;cases m with
   |io el=>exact absurd ⟨t,el,rfl⟩ y
   |_=>exact⟨v,vs,rfl,K⟩
theorem Te(f:dI w G st sl){bl:List Nat}(hg:Yi w G st bl)(h:bl.Nodup):(bl.map λn=>(G.B n).1).Nodup:=by
 induction bl with
 |nil=>exact List.nodup_nil
 |cons b bl m=>simp only[List.map_cons,List.nodup_cons]at h⊢;refine⟨λg=>?_,m ⟨λn j=>hg.ex n (by simp[j])⟩ h.2⟩;obtain⟨n,c,d⟩:=List.mem_map.1 g;obtain⟨x,hx⟩:=hg.ex n (by simp[c]);obtain⟨r,l⟩:=hg.ex b (by simp);exact f.apartB n b x r hx l (λe=>h.1 (e▸c)) d
theorem JO:∀(ps:List (TypeId×PM)){i:Nat}{xs:LD}{st uV:St},iS ps=true->eY E i ps xs st=some uV->(∀t,t<i\/i+ps.length<=t->uV.sl.get t=st.sl.get t)/\∀n,n<500+i->look uV.bx n=look st.bx n
 |[],i,xs,st,uV,_,h=>by
  cases xs with
  |nil=>simp[eY,ok]at h;subst h;exact⟨λ_ _=>rfl,λ_ _=>rfl⟩
  |cons _ _=>simp[eY,aG]at h
 |p::ps,i,xs,st,uV,C,h=>by
  obtain⟨r,F⟩:=JN C;have key:∀{xs:LD}{st1:St}{a:A},st1.sl=st.sl->(∀n,n<500+i->look st1.bx n=look st.bx n)->eY E (i+1) ps xs (st1.put i a)=some uV->
    (∀t,t<i\/i+(p::ps).length<=t->uV.sl.get t=st.sl.get t)/\∀n,n<500+i->look uV.bx n=look st.bx n:=λ{xs st1 a}v c y=>by
   obtain⟨g,l⟩:=JO ps F y;refine⟨λt ht=>?_,λn s=>?_⟩
   ·simp only[List.length_cons]at ht;rw[g t (by omega)];simp only[St.put,Tr.get_set];rw[if_neg (by omega),v]
   ·rw[l n (by omega)];exact c n s
  obtain⟨t,m⟩:=p;cases m with
  |ro=>
   cases xs with
   |nil=>simp[eY,aG]at h
   |cons x xs=>simp only[eY]at h;obtain⟨ti,_,c⟩:=bind_some h;obtain⟨a,_,d⟩:=bind_some c;exact key rfl (λ_ _=>rfl) d
  |rp=>
   cases xs with
   |nil=>simp[eY,aG]at h
   |cons x xs=>simp only[eY]at h;obtain⟨e,_,c⟩:=bind_some h;obtain⟨u,_,d⟩:=bind_some c;exact key rfl (λ_ _=>rfl) d
  |fnv f=>
   cases xs with
   |nil=>simp[eY,aG]at h
   |cons x xs=>simp only[eY]at h;exact key rfl (λ_ _=>rfl) h
  |mv=>
   cases xs with
   |nil=>simp[eY,aG]at h
   |cons x xs=>simp only[eY]at h;obtain⟨ti,_,c⟩:=bind_some h;obtain⟨u,_,d⟩:=bind_some c;exact key (st1:=st.newArr (500+i) ti.e (eZ true u.lv) x.els) rfl (λ_ _=>rfl) d
  |io el=>
   cases xs with
   |nil=>simp[eY,aG]at h
   |cons x xs=>simp only[eY]at h;obtain⟨g,l⟩:=qT [] (nm (500+i) 0) el.length x el 0 st;refine key (st1:=(dJ [] (nm (500+i) 0) el.length x 0 el st).1.newBox (500+i) (dJ [] (nm (500+i) 0) el.length x 0 el st).2) g (λn s=>?_) h;simp only[St.newBox,bR];rw[if_neg (by omega),l]
  |sio lv=>simp[iS]at r
  |sub j G k=>simp[iS]at r
  |clo f ms=>simp[iS]at r
theorem Yj:∀(ps:List (TypeId×PM)){i:Nat}{xs:LD}{st uV:St},iS ps=true->eY E i ps xs st=some uV->∀(k:Nat)(t:TypeId)(el:List LT),ps[k]?=some (t,.io el)->
  ∃c x,uV.sl.get (i+k)=.pb (500+(i+k)) c 0/\look uV.bx (500+(i+k))=some x/\x.uid=c
 |[],i,xs,st,uV,_,_,k,t,el,l=>by simp at l
 |p::ps,i,xs,st,uV,F,h,k,t,el,l=>by
  obtain⟨r,s⟩:=JN F;have hx:∃u st1,eY E (i+1) ps u st1=some uV:=by
   obtain⟨J,m⟩:=p;cases xs with
   |nil=>cases m<;>simp[eY,aG]at h
   |cons x xs=>
    cases m with
    |ro=>simp only[eY]at h;obtain⟨ti,_,d⟩:=bind_some h;obtain⟨a,_,g⟩:=bind_some d;exact⟨_,_,g⟩
    |rp=>simp only[eY]at h;obtain⟨e,_,d⟩:=bind_some h;obtain⟨G,_,g⟩:=bind_some d;exact⟨_,_,g⟩
    |fnv f=>simp only[eY]at h;exact⟨_,_,h⟩
    |mv=>simp only[eY]at h;obtain⟨ti,_,d⟩:=bind_some h;obtain⟨G,_,g⟩:=bind_some d;exact⟨_,_,g⟩
    |io el=>simp only[eY]at h;exact⟨_,_,h⟩
    |sio lv=>simp[iS]at r
    |sub j H k=>simp[iS]at r
    |clo f ms=>simp[iS]at r
  cases k with
  |zero=>
   simp at l;subst l;cases xs with
   |nil=>simp[eY,aG]at h
   |cons x xs=>
    simp only[eY]at h;obtain⟨v,y⟩:=JO ps s h;simp only[Nat.add_zero];rw[v i (by omega),y (500+i) (by omega)];refine⟨(dJ [] (nm (500+i) 0) el.length x 0 el st).1.ctr,{uid:=(dJ [] (nm (500+i) 0) el.length x 0 el st).1.ctr,lv:=(dJ [] (nm (500+i) 0) el.length x 0 el st).2 },?_,?_,rfl⟩
    ·simp[St.put,Tr.get_set]
    ·simp[St.put,St.newBox,bR]
  |succ k=>obtain⟨u,st1,C⟩:=hx;have:=Yj ps s C k t el (by simpa using l);rwa [show i+1+k=i+(k+1)by omega]at this
end
end Go.Eng

namespace Go.Eng
section
variable{P:Program}{E:fC}{ctx:sJ}
theorem Yk{vs:List Value}{n t:Nat}(c:vs.length<=n):((⟨vs⟩:Array Value)++Array.replicate (n-vs.length) undef).getD t undef=(vs[t]?).getD undef:=by
 rw[Array.getD_eq_getD_getElem?];by_cases h:t<vs.length
 ·rw[Array.getElem?_append_left (by simpa using h)];simp
 ·rw[Array.getElem?_append_right (by simpa using h),List.getElem?_eq_none (by omega)];simp only[Array.getElem?_replicate,Option.getD_none];split<;>rfl
theorem aB8{act:Act}{t:Nat}(h:act.tmps.size<=1000):tv (λ_=>undef) act t=act.tmps.getD t undef:=by
 unfold tv;split
 ·rfl
 ·rw[Array.getD_eq_getD_getElem?,Array.getElem?_eq_none (by omega)];rfl
theorem JP(c3:gY P E)(e5:jV P E ctx)(f8:P.follows .mixedOrders=true){f:Func}{c:Code}{s:CV}{h:fI}{k m:Nat}(hf:P.funcs[s.fn]?=some f)(f1:f.body=some c)
  (g0:lC E h f.ntmps c=true)(e3:f.ntmps<=500)(c7:s.ps.length<=f.ntmps)(h8:s.ps.length<=100)(g1:iS s.ps=true){uV:St}{r:D×LD}(c1:HD E ctx k f c s h uV=some r)
  (d3:∀t,s.ps.length<=t->uV.sl.get t=.undef)
  (d2:∀(kk:Nat)(t:TypeId)(el:List LT),s.ps[kk]?=some (t,PM.io el)->∃a1 x,uV.sl.get kk=.pb (500+kk) a1 0/\look uV.bx (500+kk)=some x/\x.uid=a1)
  (w:World)(G:Gh)(vs:List Value)(g6:vs.length=s.ps.length)(b4:dI w G uV (λi=>vs[i]?)):
  Calls P s.fn ⟨vs⟩ w (λe w'=>∃v G',e=.returned v/\Fr w G w' G'/\aDG w' G' s vs r v):=by
 unfold HD at c1;obtain⟨h3,e0,b0⟩:=bind_some c1;obtain⟨ex,st1⟩:=h3;have f4:(ex=.norm\/ex=.ret)/\∃as u v,jM E st1 f.results.toList=some as/\nG st1 s.rs as=some u/\FN st1 0 s.ps=some v/\nodup (u.os++v.os)=true/\apart (u.os++v.os) (u.ds++v.ds)=true/\r=((match u.x with|[x]=>x |xs=>.l xs),v.x):=by
  have key:∀{X:M (D×LD)},X=some r->X=((jM E st1 f.results.toList).bind λvs=>(nG st1 s.rs vs).bind λu=>(FN st1 0 s.ps).bind λv=>
    bif nodup (u.os++v.os)&&apart (u.os++v.os) (u.ds++v.ds)then ok ((match u.x with|[x]=>x |xs=>.l xs),v.x)else aG "result: shared")->
    ∃as u v,jM E st1 f.results.toList=some as/\nG st1 s.rs as=some u/\FN st1 0 s.ps=some v/\nodup (u.os++v.os)=true/\apart (u.os++v.os) (u.ds++v.ds)=true/\r=((match u.x with|[x]=>x |xs=>.l xs),v.x):=by
   intro X e7 f3;subst f3;obtain⟨as,a4,g⟩:=bind_some e7;obtain⟨u,a5,a6⟩:=bind_some g;obtain⟨v,a7,Q⟩:=bind_some a6;obtain⟨a9,c0⟩:=aU Q;simp only[Bool.and_eq_true]at a9;simp only[ok,Option.some.injEq]at c0;exact⟨as,u,v,a4,a5,a7,a9.1,a9.2,c0.symm⟩
  cases ex with
  |norm=>exact⟨.inl rfl,key b0 rfl⟩
  |ret=>exact⟨.inr rfl,key b0 rfl⟩
  |exit id=>simp[aG]at b0
 obtain⟨f5,as,u,v,a4,g,a5,a6,a7,Q⟩:=f4;have e6:iM (λ_=>undef) f.ntmps w G uV {tmps:=(⟨vs⟩:Array Value)++Array.replicate (f.ntmps-vs.length) undef,defers:=[]}:=by
  refine⟨b4.none,λt=>?_,?_,rfl⟩
  ·rw[aB8 (by simp;omega)];show dN w G uV (uV.sl.get t) (((⟨vs⟩:Array Value)++Array.replicate (f.ntmps-vs.length) undef).getD t undef);rw[Yk (by omega)];cases hv:vs[t]?with
   |some W=>exact b4.slots t W hv
   |none=>have:vs.length<=t:=List.getElem?_eq_none_iff.1 hv;rw[d3 t (by omega)];exact trivial
  ·show((⟨vs⟩:Array Value)++Array.replicate (f.ntmps-vs.length) undef).size=f.ntmps;simp;omega
 refine calls_of_wp hf f1 ?_;refine rN c3 e5 f8 e3 k c 0 g0 e6 e0 _ (λh7 a a' w' y=>?_) (λw' G' b7 c4 H=>?_)
 ·obtain⟨_,W,Gx,g4,_⟩:=y;simp at g4
 ·
  have main:b7.defers=[]/\∃W,(results f b7.tmps).run P w'=.ok W w'/\∃c9 Gx,Ending.returned W=.returned c9/\Fr w G w' Gx/\aDG w' Gx s vs r c9:=by
   refine⟨H.defers,?_⟩;obtain⟨us,g9,a0⟩:=RN (P:=P) c3 H a4;refine⟨_,g9,_,G',rfl,c4,?_⟩;obtain⟨h1,d1,o1,o2,h2⟩:=NF (ds:=u.ds++v.ds) H.rel 0 a5 g1 g6 (λd hd=>by simp[hd]) (λkk t el Y c6 hv=>by
    obtain⟨a1,x,e1,a2,a3⟩:=d2 kk t el c6;simp only[Nat.zero_add]at⊢;have:=b4.slots kk Y hv;rw[e1]at this;have g5:=this.2 x a2 a3;have h9:kk<100:=by have:=(List.getElem?_eq_some_iff.1 c6).1;omega
    rw[c4.B (500+kk) (by omega) (by omega)];exact g5)
   have f9:=ND a6;have f0:=NE a7;have b1:∀(J C:List Nat)(Y:Value),SZ w' G' (u.ds++v.ds) s.rs Y r.1 J (C.map λn=>(G'.B n).1)->u.os.Perm (C.map sA++J)->Yi w' G' st1 C->aDG w' G' s vs r Y:=by
    intro J C Y T U V;have c8:=Iy U o2;have K:=c8.nodup f9;obtain⟨b6,h0,i8⟩:=List.nodup_append.1 K;rw[<-List.map_append]at b6;have f2:(C++d1).Nodup:=by
     have f6:∀l:List Nat,(l.map sA).Nodup->l.Nodup:=by
      intro l;induction l with
      |nil=>intro _;exact List.nodup_nil
      |cons a l b5=>intro y;simp only[List.map_cons,List.nodup_cons]at y;exact List.nodup_cons.2 ⟨λf7=>y.1 (List.mem_map_of_mem f7),b5 y.2⟩
     exact f6 _ b6
    have c5:=Te H.rel ⟨λn K=>(List.mem_append.1 K).elim (V.ex n) (h2.ex n)⟩ f2;rw[List.map_append]at c5;refine⟨⟨u.ds++v.ds,J,_,h1,_,T,by rw[Q];exact o1,List.perm_append_comm.nodup h0,List.perm_append_comm.nodup c5,λn K d hd=>f0 n ?_ d hd⟩,H.rel.live,H.rel.hdr⟩;refine c8.mem_iff.2 ?_;simp only[List.mem_append]at K⊢;exact .inr K.symm
   cases L:s.rs with
   |nil=>
    rw[L]at g;cases as with
    |cons _ _=>simp[nG,aG]at g
    |nil=>simp[nG,ok]at g;have:us=[]:=a0;subst this;refine b1 [] [] _ ?_ (by rw[<-g];simp) ⟨by simp⟩;rw[L];exact⟨rfl,rfl,rfl⟩
   |cons i0 ms=>
    cases ms with
    |nil=>
     rw[L]at g;cases as with
     |nil=>simp[nG,aG]at g
     |cons a as=>
      cases as with
      |cons _ _=>simp only[nG]at g;obtain⟨p,_,F⟩:=bind_some g;simp[aG]at F
      |nil=>
       simp only[nG]at g;obtain⟨p,e2,F⟩:=bind_some g;simp[ok]at F;obtain⟨v0,h4,e1,a2,a3⟩:=a0;have:h4=[]:=a3;subst this;subst e1;obtain⟨J,C,T,U,V⟩:=WX (ds:=u.ds++v.ds) H.rel e2 a2 (λd hd=>by rw[<-F];simp[hd]);refine b1 J C _ ?_ (by rw[<-F];simpa using U) V;have b3:r.1=p.x:=by rw[Q,<-F]
       rw[L,b3];simpa[SZ]using T
    |cons b6 ms=>
     have c7:us.length=as.length:=(dG.1 a0).1;have b2:=g;rw[L]at b2;have g7:∀{ms:List RM}{l:List A}{r:Mz (LD)},nG st1 ms l=some r->r.x.length=ms.length/\l.length=ms.length:=by
      intro ms;induction ms with
      |nil=>intro l r y;cases l with
       |nil=>simp[nG,ok]at y;subst y;exact⟨rfl,rfl⟩
       |cons _ _=>simp[nG,aG]at y
      |cons m ms b5=>intro l r y;cases l with
       |nil=>simp[nG,aG]at y
       |cons a l=>simp only[nG]at y;obtain⟨p,_,F⟩:=bind_some y;obtain⟨q,e4,c2⟩:=bind_some F;simp[ok]at c2;subst c2;obtain⟨i1,i2⟩:=b5 e4;exact⟨by simp[i1],by simp[i2]⟩
     obtain⟨d0,h5⟩:=g7 b2;have g2:¬us.length=1:=by rw[c7,h5];simp
     rw[if_neg g2];have b3:r.1=.l u.x:=by
      rw[Q];cases g3:u.x with
      |nil=>rfl
      |cons h6 ys=>
       cases ys with
       |nil=>rw[g3]at d0;simp at d0
       |cons _ _=>rfl
     obtain⟨J,C,T,U,V⟩:=WY (ds:=u.ds++v.ds) (X:=.l u.x) H.rel 0 b2 a0 (λd hd=>by simp[hd]) (λj h6 g8=>by simp only[D.fld,D.els,Nat.zero_add,List.getD,g8];rfl);refine b1 J C _ ?_ U V;rw[L,b3];exact⟨us,rfl,T⟩
  rcases f5 with rfl |rfl
  ·exact main
  ·exact main
theorem L3(K:gY P E)(J:jV P E ctx)(V:P.follows .mixedOrders=true){f:Func}{c:Code}{s:CV}{h:fI}{k m:Nat}{g:sJ}(Q:∀xs,g m xs=Ck E ctx k f c s h xs)(hf:P.funcs[s.fn]?=some f)(L:f.body=some c)
  (W:lC E h f.ntmps c=true)(H:f.ntmps<=500)(U:s.ps.length<=f.ntmps)(C:s.ps.length<=100)(e:iS s.ps=true):NA P E g m s:=by
 intro xs r l;rw[Q]at l;obtain⟨uV,d,F⟩:=bind_some l;obtain⟨y,a1⟩:=JO s.ps e d;refine⟨uV,d,λw G vs a0 Y=>JP (m:=m) K J V hf L W H U C e F (λt ht=>?_) (λkk t el T=>?_) w G vs a0 Y⟩
 ·rw[y t (by omega)];simp only[Tr.get_nil]
 ·obtain⟨u,x,e1,j,v⟩:=Yj s.ps e d kk t el T;simp only[Nat.zero_add]at e1 j;exact⟨u,x,e1,j,v⟩
theorem L4(T:gY P E)(Q:jV P E ctx)(Y:P.follows .mixedOrders=true){f:Func}{c:Code}{s:CV}{h:fI}{k m:Nat}{a3:sJ}(c0:∀xs,a3 m xs=Wm E ctx k f c s h xs)(hf:P.funcs[s.fn]?=some f)(U:f.body=some c)
  (a0:lC E h f.ntmps c=true)(L:f.ntmps<=500)(W:s.ps.length<=f.ntmps)(J:s.ps.length<=100)(C:iS s.ps=true):NA P E a3 m s:=by
 intro xs r u;rw[c0]at u;unfold Wm at u;split at u;case h_2=>simp[aG]at u
 rename_i t0 a7;obtain⟨uV,a6,y⟩:=bind_some u;obtain⟨a4,c7⟩:=JO s.ps C a6;have H:∀(st:St)(kk:Nat)(t:TypeId)(el:List LT),s.ps[kk]?=some (t,PM.io el)->∃a2 x,st.sl.get kk=.pb (500+kk) a2 0/\look st.bx (500+kk)=some x/\x.uid=a2:=λst kk t el g=>by
  rw[a7]at g;cases kk with
  |zero=>simp at g
  |succ n=>simp at g
 have V:s.ps.length=1:=by rw[a7];rfl
 refine⟨uV,a6,λw G vs a1 F=>?_⟩;unfold Rs at y;split at y
 ·rename_i e el c2;obtain⟨c5,b3,b4⟩:=bind_some y;obtain⟨d1,K,b5⟩:=bind_some b4;obtain⟨c6,b6,j⟩:=bind_some b5;have c3:c5=(.l [],[]):=by
   unfold U7 at K;split at K
   ·rfl
   ·simp[aG]at K
  have c4:c6=(.l [],[])/\r=(.l [],[]):=by
   unfold U7 at j;split at j
   ·simp[ok]at j;exact⟨rfl,j.symm⟩
   ·simp[aG]at j
  obtain⟨rfl,rfl⟩:=c4;subst c3;obtain⟨v,rfl⟩:∃v,vs=[v]:=by rw[V]at a1;exact List.length_eq_one_iff.1 a1
  ·have hv:=F.slots 0 v rfl;rw[c2]at hv;obtain⟨a,n,b0,a5,b1,c8,c9,b2,d0⟩:=hv.2 rfl;have c1:n=0:=by simpa[D.els]using b1.symm
   subst c1;have a9:yK (λi=>([v]:List Value)[i]?) 0 v=λi=>([v]:List Value)[i]?:=by
    funext i;cases i with
    |zero=>rfl
    |succ i=>rfl
   have g:∀(x:A)t,s.ps.length<=t->(uV.put 0 x).sl.get t=.undef:=λx t ht=>by show(uV.sl.set 0 x).get t=_;rw[Tr.get_set,if_neg (by omega),a4 t (by omega)];simp only[Tr.get_nil]
   cases a with
   |none=>have b7:=b2 rfl;subst b7;have l:=F.put (d:=0) (a:=.nils) (v:=v) a5;rw[a9]at l;exact JP (m:=m) T Q Y hf U a0 L W J C b3 (g _) (H _) w G [v] V.symm l
   |some ad=>have l:=F.put (d:=0) (a:=.ez) (v:=v) ⟨ad,b0,a5⟩;rw[a9]at l;exact JP (m:=m) T Q Y hf U a0 L W J C b6 (g _) (H _) w G [v] V.symm l
 ·exact JP (m:=m) T Q Y hf U a0 L W J C y (λt ht=>by rw[a4 t (by omega)];simp only[Tr.get_nil]) (H _) w G vs a1 F
theorem aB9(j:gY P E)(u:∀m s,E.sg.look m=some s->∃f,P.funcs[s.fn]?=some f/\f.name≠ "runtime.NumGoroutine"/\f.body.isNone=false)(hf:∀m s,E.sg.look m=some s->iS s.ps=true->NA P E ctx m s)
  (F:∀m s e el f,E.sg.look m=some s->mF s.ps=some (e,el,f)->s.rs=[]/\Iv P ctx m s e el f)(v:∀q g,E.ic ctx q=some g->aBR P g):jV P E ctx:=
 ⟨u,λt c d hv h=>L1 j (hf _ _ c) (λe el f=>F _ _ e el f c) t d hv h,λc C d hv r l y h=>aB7 j (hf _ _ c l) C d hv r l y h,v⟩
def ZU:List A->A
 |[a]=>a
 |l=>.tup l
structure jG where
 fn:FuncId
 f:Func
 c:Code
 h:fI
 np:Nat
def TC(E:fC)(ctx:sJ)(k:Nat)(s:jG)(st:St):M (A×St):=
 (FM E s.h ctx k 0 s.c st).bind λr=>match r.1 with
  |.exit _=>aG "exit out of the body"
  |_=>(jM E r.2 s.f.results.toList).bind λvs=>ok (ZU vs,r.2)
def aDI(E:fC)(k:Nat)(T:BT jG):sJ->Nat->Option Ifn:=λctx q=>(T.look q).map λs=>{fn:=s.fn,np:=s.np,run:=TC E ctx k s}
def tJ(E:fC)(k:Nat)(T:BT jG):Nat->fC
 |0=>{E with ic:=λ_ _=>none}
 |n+1=>{E with ic:=aDI (tJ E k T n) k T}
structure aCa(P:Program)(E:fC)(s:jG):Prop where
 func:P.funcs[s.fn]?=some s.f
 name:s.f.name≠ "runtime.NumGoroutine"
 body:s.f.body=some s.c
 code:lC E s.h s.f.ntmps s.c=true
 tmps:s.f.ntmps<=500
 np:s.np<=s.f.ntmps
theorem L5{w:World}{G:Gh}{st:St}{as:List A}{us:List Value}(h:eT w G st as us):dN w G st (ZU as) (if us.length=1 then us.getD 0 undef else .tuple ⟨us⟩):=by
 match as,us,h with
 |[],us,h=>have h:us=[]:=h;subst h;exact⟨[],rfl,rfl⟩
 |[a],us,h=>obtain⟨v,vs,rfl,d,c⟩:=h;have c:vs=[]:=c;subst c;simpa[ZU]using d
 |a::a'::as,us,h=>have e:=h;obtain⟨v,vs,rfl,d,c⟩:=h;obtain⟨f,g,rfl,j,l⟩:=c;rw[if_neg (by simp)];exact⟨v::f::g,rfl,e⟩
theorem aFi{E:fC}{ctx:sJ}(r:gY P E)(C:jV P E ctx)(U:P.follows .mixedOrders=true){k:Nat}{s:jG}(c:aCa P E s):aBR P {fn:=s.fn,np:=s.np,run:=TC E ctx k s}:=by
 refine⟨⟨s.f,c.func,c.name,by rw[c.body];rfl⟩,?_⟩;intro w G st st' a vs ext j u W Y T Q;simp only at j u W;unfold TC at j;obtain⟨a3,y,g⟩:=bind_some j;obtain⟨ex,st1⟩:=a3;have J:(ex=.norm\/ex=.ret)/\∃as,jM E st1 s.f.results.toList=some as/\a=ZU as/\st'=st1:=by
  have key:((jM E st1 s.f.results.toList).bind λvs=>ok (ZU vs,st1))=some (a,st')->∃as,jM E st1 s.f.results.toList=some as/\a=ZU as/\st'=st1:=by intro h;obtain⟨as,e,f⟩:=bind_some h;simp only[ok,Option.some.injEq,Prod.mk.injEq]at f;exact⟨as,e,f.1.symm,f.2.symm⟩
  cases ex with
  |norm=>exact⟨.inl rfl,key g⟩
  |ret=>exact⟨.inr rfl,key g⟩
  |exit id=>simp[aG]at g
 obtain⟨K,as,e,rfl,rfl⟩:=J;have V:vs.length<=s.f.ntmps:=by rw[u];exact c.np
 have H:iM ext s.f.ntmps w G st {tmps:=(⟨vs⟩:Array Value)++Array.replicate (s.f.ntmps-vs.length) undef,defers:=[]}:=by
  refine⟨Y,λt=>?_,by simp;omega,rfl⟩;unfold tv;split
  ·rename_i ht;show dN w G st (st.sl.get t) (((⟨vs⟩:Array Value)++Array.replicate (s.f.ntmps-vs.length) undef).getD t undef);rw[Yk V];exact T t ht
  ·exact Q t (by omega)
 refine calls_of_wp c.func c.body ?_;refine rN r C U c.tmps k s.c 0 c.code H y _ (λa4 a a' w' L=>?_) (λw' G' m F d=>?_)
 ·obtain⟨_,l,Gx,a0,_⟩:=L;simp at a0
 ·have main:m.defers=[]/\∃l,(results s.f m.tmps).run P w'=.ok l w'/\∃v Gx,Ending.returned l=.returned v/\Fr w G w' Gx/\dI w' Gx st' (λ_=>none)/\dN w' Gx st' (ZU as) v/\∀t,1000<=t->dN w' Gx st' (st'.sl.get t) (ext t):=by
   refine⟨d.defers,?_⟩;obtain⟨us,a1,a2⟩:=RN (P:=P) r d e;exact⟨_,a1,_,G',rfl,F,d.rel,L5 a2,λt ht=>by have:=d.slots t;unfold tv at this;rwa [if_neg (by omega)]at this⟩
  rcases K with rfl |rfl
  ·exact main
  ·exact main
theorem aCb(E:fC)(k:Nat)(T:BT jG):∀n,QW (tJ E k T n)=QW E
 |0=>by kernel_rfl
 |n+1=>by kernel_rfl
theorem aCc(E:fC)(k:Nat)(T:BT jG):∀n,sK (tJ E k T n)=sK E
 |0=>by kernel_rfl
 |n+1=>by kernel_rfl
theorem DV(E:fC)(k:Nat)(T:BT jG):∀n,(tJ E k T n).sg=E.sg
 |0=>rfl
 |n+1=>rfl
theorem Iz(E:fC)(k:Nat)(T:BT jG):∀n,eY (tJ E k T n)=eY E
 |0=>by kernel_rfl
 |n+1=>by kernel_rfl
theorem aEO{E:fC}{ctx:sJ}{k:Nat}{T:BT jG}(r:P.follows .mixedOrders=true)(j:∀n,gY P (tJ E k T n))(d:jV P (tJ E k T 0) ctx)(l:∀n q s,T.look q=some s->aCa P (tJ E k T n) s):∀n,jV P (tJ E k T n) ctx
 |0=>d
 |n+1=>by
  have C:=aEO r j d l n;refine⟨λm s c=>d.fn m s (by rw[DV]at c⊢;exact c),λhd c f hv h=>?_,λc y f hv e v u h=>?_,λq g t=>?_⟩
  ·have:=d.call hd (by rw[DV]at c⊢;exact c) f hv (by rw[aCb]at h⊢;exact h);exact this
  ·exact d.gd (by rw[DV]at c⊢;exact c) y f hv (by rw[aCc]at e⊢;exact e) v u h
  simp only[tJ,aDI,Option.map_eq_some_iff]at t;obtain⟨s,e,rfl⟩:=t;exact aFi (j n) C r (l n q s e)
end
end Go.Eng

namespace Go.Eng
def Y0:LT->Value->Bool
 |.int k,.int c n=>nF k c&&aD n 0
 |.bool,.bool b=>!b
 |.str,.string s=>Nat.beq s.data.size 0
 |.sl ..,.slice none 0 0=>true
 |_,_=>false
def ZV:List LT->List Value->Bool
 |[],[]=>true
 |t::ts,v::vs=>Y0 t v&&ZV ts vs
 |_,_=>false
theorem Do{t:LT}{v:Value}(h:Y0 t v=true):v=fX t:=by
 unfold Y0 at h;split at h
 ·simp only[Bool.and_eq_true,bT]at h;rw[(fD _ _).1 h.1,h.2];rfl
 ·simp only[Bool.not_eq_true']at h;rw[h];rfl
 ·rename_i s;have:=Nat.eq_of_beq_eq_true h;cases s with
  |mk d=>simp only at this;rw[Array.eq_empty_of_size_eq_zero this];rfl
 ·rfl
 ·simp at h
theorem WZ:∀{ts:List LT}{vs:List Value},ZV ts vs=true->vs=ts.map fX
 |[],[],_=>rfl
 |t::ts,v::vs,h=>by simp only[ZV,Bool.and_eq_true]at h;rw[Do h.1,WZ h.2];rfl
 |[],_::_,h=>by simp[ZV]at h
 |_::_,[],h=>by simp[ZV]at h
def XA(P:Program):List (Nat×TypeId)->List Field->Bool
 |[],_=>true
 |(off,c)::l,fd::m=>Nat.beq fd.offset off&&(Nat.beq fd.type c&&((match P.info? c with|some j=>!Nat.beq j.size 0 |none=>false)&&XA P l m))
 |_::_,[]=>false
def Tf(P:Program):List Field->Bool
 |[]=>true
 |fd::m=>(match P.info? fd.type with|some _=>true |none=>false)&&Tf P m
def Y1:List (Nat×TypeId)->TypeId->Bool
 |[],_=>true
 |(_,c)::l,e=>Nat.beq c e&&Y1 l e
def aCd(P:Program)(ti:TI):TypeDesc->Bool
 |.struct fs=>XA P ti.fs fs.toList
 |.array n e=>Nat.beq ti.fs.length n&&Y1 ti.fs e
 |.slice e=>Nat.beq ti.e e&&Nat.beq ti.lv.length 1
 |.int k=>match ti.lv with|[.int k']=>nF k k' |_=>false
 |.bool=>match ti.lv with|[.bool]=>true |_=>false
 |.string=>match ti.lv with|[.str]=>true |_=>false
 |_=>true
theorem RO{P:Program}:∀{l:List (Nat×TypeId)}{m:List Field},XA P l m=true->∀(f off:Nat)(c:TypeId),l[f]?=some (off,c)->∃fd:Field,m[f]?=some fd/\fd.offset=off/\fd.type=c/\∃j,P.info? c=some j/\j.size≠0
 |[],_,_,f,off,c,h=>by simp at h
 |(o,t)::l,fd::m,h,f,off,c,hf=>by
  simp only[XA,Bool.and_eq_true]at h;cases f with
  |zero=>
   simp at hf;obtain⟨rfl,rfl⟩:=hf;refine⟨fd,rfl,Nat.eq_of_beq_eq_true h.1,Nat.eq_of_beq_eq_true h.2.1,?_⟩;have d:=h.2.2.1;split at d
   ·rename_i j g;refine⟨j,g,λe=>?_⟩;rw[e]at d;simp at d
   ·simp at d
  |succ f=>exact RO h.2.2.2 f off c (by simpa using hf)
 |_::_,[],h,_,_,_,_=>by simp[XA]at h
theorem XB{P:Program}:∀{m:List Field},Tf P m=true->∀(j:Nat)(fd:Field),m[j]?=some fd->∃i,P.info? fd.type=some i
 |[],_,j,fd,h=>by simp at h
 |fd'::m,h,j,fd,c=>by
  simp only[Tf,Bool.and_eq_true]at h;cases j with
  |zero=>
   simp at c;subst c;have d:=h.1;split at d
   ·rename_i i e;exact⟨i,e⟩
   ·simp at d
  |succ j=>exact XB h.2 j fd (by simpa using c)
theorem Dp:∀{l:List (Nat×TypeId)}{e:TypeId},Y1 l e=true->∀(i off:Nat)(c:TypeId),l[i]?=some (off,c)->c=e
 |[],_,_,i,off,c,h=>by simp at h
 |(o,t)::l,e,h,i,off,c,d=>by
  simp only[Y1,Bool.and_eq_true]at h;cases i with
  |zero=>simp at d;rw[<-d.2];exact Nat.eq_of_beq_eq_true h.1
  |succ i=>exact Dp h.2 i off c (by simpa using d)
theorem Ym{P:Program}{ti:TI}{d:TypeDesc}(h:aCd P ti d=true):G4 P ti d:=by
 unfold aCd at h;split at h
 ·rename_i fs;intro f off j hf;obtain⟨fd,c,g⟩:=RO h f off j hf;exact⟨fd,by simpa using c,g⟩
 ·simp only[Bool.and_eq_true]at h;exact⟨Nat.eq_of_beq_eq_true h.1,Dp h.2⟩
 ·simp only[Bool.and_eq_true]at h;exact⟨Nat.eq_of_beq_eq_true h.1,Nat.eq_of_beq_eq_true h.2⟩
 ·rename_i k;split at h
  ·rename_i t e;have:=(fD _ _).1 h;subst this;exact e
  ·simp at h
 ·split at h
  ·rename_i e;exact e
  ·simp at h
 ·split at h
  ·rename_i e;exact e
  ·simp at h
 ·rename_i c g l m r s;unfold G4;split
  ·exact(c _ rfl).elim
  ·exact(g _ _ rfl).elim
  ·exact(l _ rfl).elim
  ·exact(m _ rfl).elim
  ·exact(r rfl).elim
  ·exact(s rfl).elim
  ·trivial
def Y2(ti:TI)(d:TypeDesc):Bool:=
 match ti.agg,ti.lv with
 |false,[.int k]=>match d with|.int k'=>nF k k' |_=>false
 |false,[.bool]=>match d with|.bool=>true |_=>false
 |false,[.str]=>match d with|.string=>true |_=>false
 |_,_=>true
def slB(P:Program)(ti:TI):TypeDesc->Bool
 |.slice e=>Nat.beq e ti.e&&(match P.info? e with|some j=>Nat.beq j.size ti.ek |none=>false)
 |_=>false
def aFj(P:Program):TypeDesc->Bool
 |.struct fs=>Tf P fs.toList
 |_=>true
def aGm:TypeDesc->Bool
 |.array _ _=>true
 |_=>false
def Y3:TypeDesc->Bool
 |.struct _=>true
 |_=>false
def aCe(ti:TI)(z:Option Value):Bool:=
 match z with
 |some z=>ZV ti.lv z.cells.toList
 |none=>false
def tiB(P:Program)(t:TypeId)(ti:TI):Bool:=
 match P.underlying t,P.info? t with
 |some d,some i=>aCe ti i.zero&&(Nat.beq i.size ti.lv.length&&(Nat.beq i.bytes ti.bytes&&(FB (aDr d) ti.agg&&(aCd P ti d&&(Y2 ti d&&(uU (eZ false ti.lv) ti.lv&&
   (aFj P d&&((!ti.arr||aGm d)&&((!(ti.agg&&!ti.arr)||Y3 d)&&(!ti.sl||slB P ti d))))))))))
 |_,_=>false
theorem w8{P:Program}{t:TypeId}{ti:TI}(h:tiB P t ti=true):lN P t ti:=by
 unfold tiB at h;split at h
 ·rename_i d i hd U;simp only[Bool.and_eq_true]at h;obtain⟨m,G,H,Y,J,c,K,L,C,y,g⟩:=h;have v:∃z,i.zero=some z/\z.cells.toList=ti.lv.map fX:=by
   unfold aCe at m;split at m
   ·rename_i z v;exact⟨z,v,WZ m⟩
   ·simp at m
  obtain⟨z,W,z2⟩:=v;have Q:aDr d=ti.agg:=by cases f:aDr d<;>cases F:ti.agg<;>simp_all[FB]
  refine⟨⟨d,i,z,hd,U,Nat.eq_of_beq_eq_true G,Nat.eq_of_beq_eq_true H,W,z2,Q,Ym J⟩,λf k l=>?_,λf l=>?_,iG _ _ K,λfs r j fd u=>?_,λf l=>?_,λf=>?_,λf F=>?_,λV=>?_⟩
  ·simp only[Y2,f,l]at c;split at c
   ·rename_i a0;have:=(fD _ _).1 c;subst this;exact hd
   ·simp at c
  ·simp only[Y2,f,l]at c;split at c
   ·exact hd
   ·simp at c
  ·rw[hd]at r;injection r with r;subst r;exact XB L j fd (by simpa using u)
  ·simp only[Y2,f,l]at c;split at c
   ·exact hd
   ·simp at c
  ·simp only[f,Bool.not_true,Bool.false_or]at C;cases d<;>simp[aGm]at C;exact⟨_,_,hd⟩
  ·simp only[f,F,Bool.not_false,Bool.and_self,Bool.not_true,Bool.false_or]at y;cases d<;>simp[Y3]at y;exact⟨_,hd⟩
  ·simp only[V,Bool.not_true,Bool.false_or]at g;unfold slB at g;split at g
   ·rename_i e;simp only[Bool.and_eq_true]at g;have T:=Nat.eq_of_beq_eq_true g.1;subst T;have s:=g.2;split at s
    ·rename_i j u;exact⟨j,hd,u,Nat.eq_of_beq_eq_true s⟩
    ·simp at s
   ·simp at g
 ·simp at h
def BT.allB{α:Type}(f:Nat->α->Bool):BT α->Bool
 |.nil=>true
 |.node k v l r=>f k v&&(l.allB f&&r.allB f)
theorem BT.look_all{α:Type}{f:Nat->α->Bool}:∀{t:BT α}{n:Nat}{v:α},t.allB f=true->t.look n=some v->f n v=true
 |.nil,n,v,_,h=>by simp[BT.look]at h
 |.node k x l r,n,v,h,c=>by
  simp only[BT.allB,Bool.and_eq_true]at h;simp only[BT.look]at c;cases d:Nat.beq n k with
  |true=>rw[d]at c;simp at c;subst c;rw[Nat.eq_of_beq_eq_true d];exact h.1
  |false=>
   rw[d]at c;simp only[cond_false]at c;cases e:Nat.ble n k with
   |true=>rw[e]at c;exact BT.look_all h.2.1 c
   |false=>rw[e]at c;exact BT.look_all h.2.2 c
def ptB(P:Program)(t e:TypeId):Bool:=
 (match P.underlying t with|some (.pointer e')=>Nat.beq e' e |_=>false)&&(match P.info? t with|some i=>Nat.beq i.size 1&&(match i.zero with|some (.pointer none)=>true |_=>false) |none=>false)
def aDJ(P:Program):Nat->List Field->Bool
 |_,[]=>true
 |j,fd::l=>(!(fd.name== "_"))&&(Nat.beq fd.offset j&&((match P.underlying fd.type with|some (.int _)=>true |_=>false)&&aDJ P (j+1) l))
def eqB(P:Program)(t:TypeId):Bool:=
 match P.underlying t,P.info? t with
 |some (.struct fs),some i=>Nat.beq i.size fs.size&&(!P.stoodInHeld t&&(!P.eqGuardType P.depth t&&aDJ P 0 fs.toList))
 |_,_=>false
theorem Ja{P:Program}:∀{l:List Field}{n:Nat},aDJ P n l=true->∀(j:Nat)(fd:Field),l[j]?=some fd->fd.name≠ "_"/\fd.offset=n+j/\∃k,P.underlying fd.type=some (.int k)
 |[],_,_,j,fd,h=>by simp at h
 |f::l,n,h,j,fd,c=>by
  simp only[aDJ,Bool.and_eq_true,Bool.not_eq_true']at h;cases j with
  |zero=>
   simp at c;subst c;refine⟨λe=>?_,Nat.eq_of_beq_eq_true h.2.1,?_⟩
   ·have:=h.1;rw[e]at this;simp at this
   ·have d:=h.2.2.1;split at d
    ·rename_i k r;exact⟨k,r⟩
    ·simp at d
  |succ j=>obtain⟨g,s,m⟩:=Ja h.2.2.2 j fd (by simpa using c);exact⟨g,by omega,m⟩
theorem w9{P:Program}{t:TypeId}(h:eqB P t=true):aGd P t:=by
 unfold eqB at h;split at h
 ·rename_i fs i g l;simp only[Bool.and_eq_true,Bool.not_eq_true']at h;obtain⟨c,d,e,f⟩:=h;refine⟨fs,i,g,l,Nat.eq_of_beq_eq_true c,d,e,λj fd m=>?_⟩;obtain⟨r,u,s⟩:=Ja f j fd (by simpa using m);exact⟨r,by omega,s⟩
 ·simp at h
def aGn:LT->TypeDesc->Bool
 |.str,.string=>true
 |.int k,.int c=>nF k c
 |_,_=>false
def aFk(P:Program)(t:TypeId)(c:MI):Bool:=
 (match P.underlying t with|some (.map k e)=>Nat.beq k c.key&&Nat.beq e c.el |_=>false)&&((match P.underlying c.key with|some d=>aGn c.kk d |_=>false)&&
  (match P.info? c.el with|some i=>(match i.zero with|some z=>Y0 c.ek z |none=>false) |none=>false))
theorem L6{P:Program}{t:TypeId}{c:MI}(h:aFk P t c=true):∃d,P.underlying t=some (.map c.key c.el)/\FO c.kk=some d/\P.underlying c.key=some d/\∃i,P.info? c.el=some i/\i.zero=some (fX c.ek):=by
 simp only[aFk,Bool.and_eq_true]at h;obtain⟨f,g,j⟩:=h;have e1:P.underlying t=some (.map c.key c.el):=by
  split at f
  ·rename_i k e m;simp only[Bool.and_eq_true]at f;rw[m,Nat.eq_of_beq_eq_true f.1,Nat.eq_of_beq_eq_true f.2]
  ·simp at f
 have l:∃i,P.info? c.el=some i/\i.zero=some (fX c.ek):=by
  split at j
  ·rename_i i r;split at j
   ·rename_i z u;exact⟨i,r,by rw[u,Do j]⟩
   ·simp at j
  ·simp at j
 split at g
 ·rename_i d hd;refine⟨d,e1,?_,hd,l⟩;cases s:c.kk<;>rw[s]at g<;>cases d<;>simp[aGn]at g<;>simp[FO];exact(fD _ _).1 g
 ·simp at g
def aFl(P:Program)(E:fC):Bool:=E.mt.allB (aFk P)&&(E.tt.allB (tiB P)&&(E.pt.allB (ptB P)&&allB (eqB P) E.eqt))
theorem L7{P:Program}{E:fC}(h:aFl P E=true):gY P E:=by
 simp only[aFl,Bool.and_eq_true]at h;obtain⟨g,j,l,m⟩:=h;refine⟨λt v ht=>L6 (BT.look_all g ht),λt ti ht=>w8 (BT.look_all j ht),λt e ht=>?_,λt ht=>w9 (iY m t (JK.1 ht))⟩;have:=BT.look_all l ht;simp only[ptB,Bool.and_eq_true]at this;obtain⟨d,c⟩:=this;constructor
 ·split at d
  ·rename_i u r;rw[r,Nat.eq_of_beq_eq_true d]
  ·simp at d
 ·split at c
  ·rename_i i s;simp only[Bool.and_eq_true]at c;refine⟨i,s,Nat.eq_of_beq_eq_true c.1,?_⟩;have f:=c.2;split at f
   ·assumption
   ·simp at f
  ·simp at c
abbrev jR:=BT (Func×fI)
abbrev aDK:=Nat->Option (LD->Option (D×LD))
def Dq(E:fC):aDK:=λm=>bif Nat.beq m E.srt then some Cn else none
def qN(E:fC)(B:jR)(X:aDK)(k:Nat):Nat->sJ
 |0=>λm xs=>match X m with
  |some f=>f xs
  |none=>none
 |n+1=>λm xs=>match X m with
  |some f=>f xs
  |none=>match B.look m,E.sg.look m with
   |some b,some s=>match b.1.body with
    |some c=>bif b.2.fork then Wm E (qN E B X k n) k b.1 c s b.2 xs else Ck E (qN E B X k n) k b.1 c s b.2 xs
    |none=>none
   |_,_=>none
def fnB(E:fC)(m:Nat)(b:Func×fI):Bool:=
 match b.1.body,E.sg.look m with
 |some c,some s=>lC E b.2 b.1.ntmps c&&(Nat.ble b.1.ntmps 500&&(Nat.ble s.ps.length b.1.ntmps&&Nat.ble s.ps.length 100))
 |_,_=>true
def aGo(P:Program)(E:fC)(B:jR)(X:aDK):Prop:=
 (∀m s,E.sg.look m=some s->∃f,P.funcs[s.fn]?=some f/\f.name≠ "runtime.NumGoroutine"/\f.body.isNone=false)/\
 ∀m s b,X m=none->E.sg.look m=some s->B.look m=some b->P.funcs[s.fn]?=some b.1
theorem aFm{P:Program}{E:fC}{B:jR}{X:aDK}{k:Nat}(H:gY P E)(Q:P.follows .mixedOrders=true)(J:aGo P E B X)(U:B.allB (fnB E)=true)
  (W:∀ctx:sJ,(∀m s,E.sg.look m=some s->iS s.ps=true->NA P E ctx m s)->(∀m s e el f,E.sg.look m=some s->mF s.ps=some (e,el,f)->s.rs=[]/\Iv P ctx m s e el f)->jV P E ctx)
  (K:∀m s f,X m=some f->E.sg.look m=some s->iS s.ps=true->∀ctx:sJ,(∀xs,ctx m xs=f xs)->NA P E ctx m s)
  (V:∀m s e el f,E.sg.look m=some s->mF s.ps=some (e,el,f)->s.rs=[]/\∃F,X m=some F/\∀ctx:sJ,(∀xs,ctx m xs=F xs)->Iv P ctx m s e el f):∀n m s,E.sg.look m=some s->iS s.ps=true->NA P E (qN E B X k n) m s:=by
 intro n;induction n with
 |zero=>
  intro m s d l;cases hx:X m with
  |some f=>exact K m s f hx d l _ (λxs=>by simp only[qN,hx])
  |none=>intro xs r t;simp[qN,hx]at t
 |succ n a1=>
  intro m s d l;cases hx:X m with
  |some f=>exact K m s f hx d l _ (λxs=>by simp only[qN,hx])
  |none=>
   cases g:B.look m with
   |none=>intro xs r t;simp[qN,hx,g]at t
   |some b=>
    cases j:b.1.body with
    |none=>intro xs r t;simp[qN,hx,g,d,j]at t
    |some c=>
     have T:=BT.look_all U g;simp only[fnB,j,d,Bool.and_eq_true]at T;obtain⟨u,v,y,C⟩:=T;have G:jV P E (qN E B X k n):=W _ a1 λm' a2 e el f Y a0=>by obtain⟨u,F,v,y⟩:=V m' a2 e el f Y a0;exact⟨u,y _ λxs=>by cases n<;>simp only[qN,v]⟩
     cases L:b.2.fork with
     |true=>refine L4 (k:=k) (h:=b.2) H G Q (λxs=>?_) (J.2 m s b hx d g) j u (Nat.le_of_ble_eq_true v) (Nat.le_of_ble_eq_true y) (Nat.le_of_ble_eq_true C) l;simp only[qN,hx,g,d,j,L,cond_true]
     |false=>refine L3 (k:=k) (h:=b.2) H G Q (λxs=>?_) (J.2 m s b hx d g) j u (Nat.le_of_ble_eq_true v) (Nat.le_of_ble_eq_true y) (Nat.le_of_ble_eq_true C) l;simp only[qN,hx,g,d,j,L,cond_false]
end Go.Eng

namespace Go.Eng
noncomputable def Gh.top(w:World):Gh:={own:=λb=>if b<w.heap.size then .fz else .out,H:=λ_ _=>.slice none 0 0,B:=λ_=>(0,0)}
theorem dI.top{w:World}{st:St}{sl:Nat->Option Value}(c:st.bx=[])(d:st.ar=[])(e:∀t v,sl t=some v->dN w (Gh.top w) st (st.sl.get t) v):dI w (Gh.top w) st sl:=
 ⟨e,λb x h=>by rw[c]at h;simp[look]at h,λb b' x f h=>by rw[c]at h;simp[look]at h,λr a h=>by rw[d]at h;simp[look]at h,λb c=>by
  simp only[Gh.top]at c;split at c
  ·assumption
  ·exact absurd rfl c,λ_ _=>⟨Option.none,0,0,rfl⟩⟩
theorem Fr.below{w w':World}{G':Gh}(h:Fr w (Gh.top w) w' G'):Go.RowKit.Below w.heap.size w w':=
 ⟨h.os,h.tape,h.output,h.size,λk c=>(h.block k c (.inr (by simp[Gh.top,c]))).1⟩
def FG{α:Type}(Q:Nat->α->Prop):BT α->Prop
 |.nil=>True
 |.node k v l r=>Q k v/\FG Q l/\FG Q r
theorem FG.look{α:Type}{Q:Nat->α->Prop}:∀{t:BT α}{n:Nat}{v:α},FG Q t->t.look n=some v->Q n v
 |.nil,n,v,_,h=>by simp[BT.look]at h
 |.node k x l r,n,v,⟨e,f,g⟩,h=>by
  simp only[BT.look]at h;cases c:Nat.beq n k with
  |true=>rw[c]at h;simp at h;subst h;rw[Nat.eq_of_beq_eq_true c];exact e
  |false=>
   rw[c]at h;simp only[cond_false]at h;cases d:Nat.ble n k with
   |true=>rw[d]at h;exact FG.look f h
   |false=>rw[d]at h;exact FG.look g h
def sgB(E:fC)(m:Nat)(s:CV):Bool:=Nat.beq s.fn m&&(match mF s.ps with
 |none=>!(Nat.beq m E.srt)
 |some _=>Nat.beq m E.srt&&s.rs.isEmpty)
def TD(P:Program)(E:fC):Prop:=∀s e el f,E.sg.look E.srt=some s->mF s.ps=some (e,el,f)->∀ctx:sJ,(∀xs,ctx E.srt xs=Cn xs)->Iv P ctx E.srt s e el f
def aGp(P:Program)(m:Nat)(_:CV):Prop:=∃f,P.funcs[m]?=some f/\f.name≠ "runtime.NumGoroutine"/\f.body.isNone=false
def aGq(P:Program)(m:Nat)(b:Func×fI):Prop:=P.funcs[m]?=some b.1
theorem x0(E:fC)(k:Nat)(T:BT jG):∀n,lC (tJ E k T n)=lC E
 |0=>by kernel_rfl
 |n+1=>by kernel_rfl
theorem aFn(E:fC)(k:Nat)(T:BT jG):∀n,fnB (tJ E k T n)=fnB E
 |0=>by kernel_rfl
 |n+1=>by kernel_rfl
theorem L8{P:Program}{E:fC}(k:Nat)(T:BT jG)(c:gY P E):∀n,gY P (tJ E k T n)
 |0=>⟨c.maps,c.types,c.ptrs,c.eqs⟩
 |n+1=>⟨c.maps,c.types,c.ptrs,c.eqs⟩
theorem Y4{P:Program}{E:fC}{k:Nat}{T:BT jG}{ctx:sJ}{m:Nat}{s:CV}(n:Nat):NA P (tJ E k T n) ctx m s<->NA P E ctx m s:=by unfold NA;rw[Iz]
def L9(P:Program)(_:Nat)(s:jG):Prop:=P.funcs[s.fn]?=some s.f/\s.f.name≠ "runtime.NumGoroutine"/\s.f.body=some s.c
def aCf(E:fC)(_:Nat)(s:jG):Bool:=lC E s.h s.f.ntmps s.c&&(Nat.ble s.f.ntmps 500&&Nat.ble s.np s.f.ntmps)
theorem aCg{P:Program}{E:fC}{B:jR}{T:BT jG}{k:Nat}(C:gY P E)(G:P.follows .mixedOrders=true)(Q:B.allB (fnB E)=true)(a0:E.sg.allB (sgB E)=true)(a1:TD P E)(L:FG (aGp P) E.sg)(l:FG (aGq P) B)(U:T.allB (aCf E)=true)(V:FG (L9 P) T)(N:Nat):
  ∀n m s,E.sg.look m=some s->iS s.ps=true->NA P (tJ E k T N) (qN (tJ E k T N) B (Dq E) k n) m s:=by
 have r:∀m s,E.sg.look m=some s->s.fn=m/\((mF s.ps=none/\Nat.beq m E.srt=false)\/(∃q,mF s.ps=some q)/\m=E.srt/\s.rs=[]):=λm s h=>by
  have:=BT.look_all a0 h;simp only[sgB,Bool.and_eq_true]at this;refine⟨Nat.eq_of_beq_eq_true this.1,?_⟩;cases d:mF s.ps with
  |none=>rw[d]at this;left;exact⟨rfl,by simpa using this.2⟩
  |some q=>rw[d]at this;simp only[Bool.and_eq_true]at this;right;exact⟨⟨q,rfl⟩,Nat.eq_of_beq_eq_true this.2.1,by simpa using this.2.2⟩
 have F:∀m s,E.sg.look m=some s->∃f,P.funcs[s.fn]?=some f/\f.name≠ "runtime.NumGoroutine"/\f.body.isNone=false:=λm s h=>by rw[(r m s h).1];exact FG.look L h
 have Y:∀ctx:sJ,(∀m s,(tJ E k T N).sg.look m=some s->iS s.ps=true->NA P (tJ E k T N) ctx m s)->(∀m s e el f,(tJ E k T N).sg.look m=some s->mF s.ps=some (e,el,f)->s.rs=[]/\Iv P ctx m s e el f)->jV P (tJ E k T N) ctx:=by
  intro ctx hf H;rw[DV]at hf H;have K:jV P (tJ E k T 0) ctx:=by refine aB9 (L8 k T C 0) (by rw[DV];exact F) (λm s t j=>?_) (by rw[DV];exact H) (λq g u=>by simp[tJ]at u);rw[DV]at t;exact(Y4 0).2 ((Y4 N).1 (hf m s t j))
  refine aEO G (L8 k T C) K (λn q s u=>?_) N;have c:=BT.look_all U u;obtain⟨v,y,J⟩:=FG.look V u;simp only[aCf,Bool.and_eq_true]at c;exact⟨v,y,J,by rw[x0];exact c.1,Nat.le_of_ble_eq_true c.2.1,Nat.le_of_ble_eq_true c.2.2⟩
 intro n m s t j;refine aFm (L8 k T C N) G ⟨?_,λm s b _ h c=>?_⟩ (by rw[aFn];exact Q) Y (λm s f h l j=>?_) (λm s e el f h d=>?_) n m s (by rw[DV];exact t) j
 ·rw[DV];exact F
 ·rw[DV]at h;rw[(r m s h).1];exact FG.look l c
 ·rw[DV]at l;rcases(r m s l).2 with⟨_,g⟩ |⟨⟨q,g⟩,_,_⟩
  ·simp[Dq,g]at h
  ·have:iS s.ps=false:=by
    unfold mF at g;split at g
    ·rename_i e;rw[e];rfl
    ·cases g
   rw[this]at j;cases j
 ·rw[DV]at h;rcases(r m s h).2 with⟨g,_⟩ |⟨_,v,y⟩
  ·rw[g]at d;cases d
  ·subst v;refine⟨y,Cn,by simp[Dq],λctx W=>?_⟩;exact a1 s e el f h d ctx W
theorem x3{P:Program}{E:fC}{ctx:sJ}{m:Nat}{s:CV}(r:NA P E ctx m s)(G:s.rs=[.val false [.bool]]){xs:LD}{q:Bool}(F:ctx m xs=some (.b q,[])){w:World}{vs:List Value}(y:vs.length=s.ps.length)
  (H:∀uV,eY E 0 s.ps xs Ip=some uV->uV.bx=[]/\uV.ar=[]/\∀t v,vs[t]?=some v->dN w (Gh.top w) uV (uV.sl.get t) v):
  Calls P s.fn ⟨vs⟩ w (λe w'=>e=.returned (.bool q)/\Go.RowKit.Below w.heap.size w w'):=by
 obtain⟨uV,j,l⟩:=r xs _ F;obtain⟨f,g,h⟩:=H uV j;refine(l w (Gh.top w) vs y (dI.top f g h)).mono λe w' u=>?_;obtain⟨v,G',rfl,hf,C⟩:=u;refine⟨?_,hf.below⟩;obtain⟨ds,T,b1,U,b2,o1,_⟩:=C.ex;rw[G]at o1;obtain⟨_,us,os,c,J,_⟩:=o1;simp only[Bool.false_eq_true,if_false]at c;subst c;obtain⟨v0,W,n,V,e1,K,d,L⟩:=J;injection e1 with e1 Q;subst e1;have:v=.bool q:=d.2;rw[this]
end Go.Eng

namespace Go.Eng
mutual
inductive IX(σ τ:Type) where
 |ret (x:D) (bs:LD)
 |again (s:σ)
 |out (t:τ)
 |bad
 |ask (b:Bool) (t f:IX σ τ)
 |call (m:Nat) (xs:LD) (nb:Nat) (k:D->LD->IX σ τ)
 |loop (b:Nat) (s:σ) (ks:Tg σ τ)
inductive Tg(σ τ:Type) where
 |nil
 |cons (k:LD->IX σ τ) (ks:Tg σ τ)
end
abbrev X:=IX St (Ex×St)
abbrev Sh:=IX (LD) (Nat×LD)
def rK{α:Type}(x:M α)(k:α->X):X:=
 match x with
 |some a=>k a
 |none=>.bad
def hdD:LD->D
 |[]=>.i 0
 |x::_=>x
def Yn:LD->Bool
 |[]=>true
 |_::_=>false
def gD(l:LD)(i:Nat):D:=l.getD i (.i 0)
def Jb(l:LD):Nat->Nat->LD
 |_,0=>[]
 |i,n+1=>gD l i::Jb l (i+1) n
def Pd:List (TypeId×PM)->Nat
 |[]=>0
 |(_,.io _)::l=>Pd l+1
 |(_,.sio _)::l=>Pd l+1
 |(_,.clo _ _)::l=>Pd l+1
 |_::l=>Pd l
def NG(rs:List RM)(dep:List (Nat×Nat))(d:Nat)(x:D)(st:St):M St:=
 match rs with
 |[]=>ok (st.put d (.tup []))
 |[m]=>(CW dep d 0 x m st).bind λq=>ok (q.1.put d q.2)
 |ms=>(IR dep d x 0 ms st).bind λq=>ok (q.1.put d (.tup q.2))
def aCi(s:CV)(st:St)(d:Nat)(as:List A)(u:List Nat×List Nat×List (Nat×Nat)×LD)(r:D×LD):M St:=
 (kV s.ps as r.2 (jY s.ps as (kZ u.2.1 st))).bind λst=>NG s.rs u.2.2.1 d r.1 st
section
variable(E:fC)(h:fI)
def aDL(nn:Bool)(x:D)(k:D->X):X:=.ask (Yn x.els) (bif nn then .bad else k (.l [])) (k (.l [hdD x.els]))
def M0(nn:Bool)(x:D):Nat->List RM->(LD->X)->X
 |_,[],k=>k []
 |c,.ptr _::ms,k=>aDL nn (x.fld c) λd=>M0 nn x (c+1) ms λl=>k (d::l)
 |c,.val _ _::ms,k=>M0 nn x (c+1) ms λl=>k (x.fld c::l)
def aGr(nn:Bool)(rs:List RM)(x:D)(k:D->X):X:=
 match rs with
 |[]=>k x
 |[.ptr _]=>aDL nn x k
 |[.val _ _]=>k x
 |ms=>M0 nn x 0 ms λl=>k (.l l)
def Y5(st:St)(d n:Nat)(s:CV)(as:List A)(k:St->X):X:=
 match mF s.ps with
 |some (e,el,f)=>rK (Fs st e el f as) λq=>.call n [.l q.2.data,.l []] 1 λx bs=>rK (Fq st d q.1 q.2 (x,Jb bs 0 1)) k
 |none=>rK (sK E st as s.ps as) λu=>
  bif iS s.ps&&(nodup u.1&&(apart u.1 u.2.2.1&&OZ s u.2.2.1))then
   .call n u.2.2.2 (Pd s.ps) λx bs=>aGr (has h.nn d) s.rs x λc=>rK (aCi s st d as u (c,Jb bs 0 (Pd s.ps))) k
  else .bad
def Th(agg:Bool)(lv:List LT)(ds:List (Nat×Nat))(r:D×LD):M uM:=
 match r.2 with
 |[]=>rv (FJ agg lv.length (IK ds lv.length r.1 0 lv))
 |_::_=>aG "guarded call: gives back"
def Ti(R:Bool)(m:Nat)(agg:Bool)(lv:List LT)(ds:List (Nat×Nat))(xs:LD)(k:uM->X):X:=
 .ask R (.call m xs 0 λx _=>rK (Th agg lv ds (x,[])) k) (rK (Th agg lv ds (.i 0,[])) k)
def Tj(st:St)(R:Bool)(d m:Nat)(s:CV)(as:List A)(agg:Bool)(k:uM->X):List LT->X
 |[.bool]=>bif agg then .bad else .ask R (Y5 E h st d m s as λs=>k (.st s)) (k (.val (.bool false)))
 |_=>.bad
def ZW(st:St)(R:Bool)(d m:Nat)(as:List A)(s:CV)(k:uM->X):X:=
 match s.rs with
 |[.val agg lv]=>rK (sK E st as s.ps as) λu=>
  match u.1 with
  |[]=>bif iS s.ps&&(!rL u.2.2.1||sC lv)then Ti R m agg lv u.2.2.1 u.2.2.2 k else .bad
  |_::_=>Tj E h st R d m s as agg k lv
 |_=>.bad
def Tk(R gd:Bool)(st:St)(d:Nat)(c:Array Operand)(k:uM->X):A->X
 |.fn n caps=>rK (E.sg.look (LY h d n)) λs=>bif Nat.beq s.fn n then
   (bif gd then ZW E h st R d (LY h d n) (E8 st.sl c.toList++caps) s k else Y5 E h st d (LY h d n) s (E8 st.sl c.toList++caps) λs=>k (.st s))
   else .bad
 |_=>.bad
def noC:sJ:=λ_ _=>none
def Tl(st:St)(d:Nat)(data:LD):St:=
 match look st.ar d with
 |some b=>{st with ar:=qC st.ar d {b with data:=data++b.data}}
 |none=>st
def ZX(st:St)(d:Nat)(e:TypeId)(c:TI)(el:List LT)(data:LD)(ns:aDk)(k:St->X):X:=
 match ns with
 |.flat ys=>.ask (jP (data.length+ys.length) c.bytes) (bif Nat.beq el.length c.lv.length then k (st.newArr d e el (data++ys))else .bad) .bad
 |.cells n l=>.ask (jP (data.length+n) c.bytes) (bif Nat.beq el.length c.lv.length then rK (appElems d el.length n l (st.newArr d e el [])) λs=>k (Tl s d data)else .bad) .bad
def Tm(st:St)(d:Nat)(c:TI)(e:TypeId)(g:Option (List LT))(x f:A)(k:St->X):X:=
 match x with
 |.nils=>rK (LE st (aDl st g c.lv f) f) λns=>ZX st d e c (aDl st g c.lv f) [] ns λs=>k (s.view d)
 |.vw r u p=>rK (dC st r u p) λq=>rK (LE st q.2.2.1 f) λns=>rK (LF st d r p) λs1=>ZX s1 d q.2.1 c q.2.2.1 q.2.2.2 ns λs=>k (s.view d)
 |.px r u n=>rK (dC st r u []) λq=>.ask (Nat.ble n q.2.2.2.length) (rK (LE st q.2.2.1 f) λns=>rK (LF st d r []) λs1=>ZX s1 d q.2.1 c q.2.2.1 (q.2.2.2.take n) ns λs=>k (s.view d)) .bad
 |_=>.bad
def ZY(st:St)(d:Nat)(t:TypeId)(l:List Operand)(k:St->X):X:=
 match l with
 |[x,e]=>rK (sD E t) λti=>rK (sD E ti.e) λc=>bif ti.sl then Tm st d c ti.e (look h.el d) (eK st.sl x) (eK st.sl e) k else .bad
 |_=>.bad
def Tn(st:St)(r u:Nat)(p:List (Nat×Nat))(i j:Nat)(x:A)(k:St->X):X:=
 rK (jH st r u p) λa=>match a.stale with
  |[]=>rK (wrLeaf st r u p i j x) k
  |_::_=>bif !LC p.length a.stale then .bad else rK (mJ a.e a.el a.data p) λq=>
   match q.2.1[j]?,x with
   |some (.sl true _ _),.nils=>.ask (fill (p++[(i,j)]) a.stale) (k (setRow st r a p i j q.2.1.length (.l []) true)) .bad
   |some (.sl true e el),.vw c d []=>bif Nat.beq c r then .bad else rK (jH st c d []) λb=>
     bif Nat.beq b.e e&&uU el b.el then
      match b.stale with
      |[]=>.ask (fill (p++[(i,j)]) a.stale) (k (setRow (st.gone c) r a p i j q.2.1.length (.l b.data) true)) .bad
      |_::_=>.bad
     else .bad
   |_,_=>rK (wrLeaf st r u p i j x) k
def PU(r:Nat)(p:List (Nat×Nat))(i:Nat)(k:St->X):St->Nat->Nat->List A->X
 |st,_,_,[]=>k st
 |st,u,j,a::l=>Tn st r u p i j a λst=>PU r p i k st (iV st r p) (j+1) l
def M1(st:St)(p v:A)(k:St->X):X:=
 match p with
 |.pa r u p _ i off=>PU r p i k st u off (fW v)
 |p=>rK (YO st p v) k
def Jc(st:St)(n:Nat)(p v:A)(k:St->X):X:=
 bif jQ st (fW v)&&Nat.beq (fW v).length n then(bif jI st p then M1 st p v k else .bad)else .bad
def M2(st:St)(ti:Option TI)(x:A)(n:Int):Bool:=
 match x with
 |.fz _ _ _ xs=>aA n xs.length
 |.vw r u p=>match Vu st r u p with
  |some q=>aA n q.2.2.length
  |none=>false
 |.sx _ _ _ m _=>aA n m
 |_=>match ti with
  |some ti=>aA n ti.fs.length
  |none=>false
def Yo(op:BinOp)(c:A):Option Bool:=
 match op,c with
 |.quo,.int _ b=>some (!aD b 0)
 |.rem,.int _ b=>some (!aD b 0)
 |.shl,.int _ b=>some (cK 0 b)
 |.shr,.int _ b=>some (cK 0 b)
 |_,_=>none
def Pe(st:St):Op->Option Bool
 |.indexAddr t x i=>match eK st.sl i with
  |.int _ n=>some (M2 st (sD E t) (eK st.sl x) n)
  |_=>none
 |.index _ x i=>match eK st.sl x,eK st.sl i with
  |.str s,.int _ n=>some (aA n s.length)
  |_,_=>none
 |.binOp op _ _ c _=>Yo op (eK st.sl c)
 |_=>none
def To(R gd:Bool)(st:St)(d:Nat)(o:Op)(k:uM->X):X:=
 match Pe E st o with
 |none=>rK (rM E h noC R gd st d o) k
 |some c=>.ask (!R||c) (rK (rM E h noC false gd st d o) k) .bad
def Yp(d c:Option Int)(n:Nat):Bool:=kP (d.getD 0) (c.getD (n:Int)) (n:Int)
def Tp(R gd:Bool)(st:St)(d:Nat)(ti:TI)(l c:Option Int)(x:A)(k:uM->X):X:=
 match x with
 |.vw r u p=>bif ti.sl then
   (bif has h.pfx d then(match p,l,c with
     |[],none,some n=>rK (dC st r u []) λq=>.ask (!R||(cK 0 n&&cK n (q.2.2.2.length:Int))) (rK (rv (Qx false st ti.ek r u p l c)) k) .bad
     |[],some n,none=>rK (dC st r u []) λq=>.ask (!R||(cK 0 n&&cK n (q.2.2.2.length:Int))) (rK (rv (Qx false st ti.ek r u p l c)) k) .bad
     |_,_,_=>.bad)
    else bif has h.snap d then rK (dC st r u p) λq=>.ask (!R||Yp l c q.2.2.2.length) (rK (rv (T9 false st ti.ek r u p l c)) k) .bad
    else bif gd then .bad else rK (dC st r u p) λq=>.ask (Yp l c q.2.2.2.length) (bif Nat.beq ti.ek q.2.2.1.length then
     rK (LF st d r p) λs1=>k (.st ((s1.newArr d q.2.1 q.2.2.1 ((q.2.2.2.take (c.getD (q.2.2.2.length:Int)).toNat).drop (l.getD 0).toNat)).view d))else .bad) .bad)
   else .bad
 |.fz _ _ _ xs=>.ask (!R||Yp l c xs.length) (rK (rv (LR false ti x l c)) k) .bad
 |.str s=>.ask (!R||Yp l c s.length) (rK (rv (LR false ti x l c)) k) .bad
 |.nils=>rK (rv (LR R ti x l c)) k
 |_=>.bad
def M3(R gd:Bool)(st:St)(d:Nat)(t:TypeId)(x:A)(f e:Option A)(k:uM->X):X:=
 bif jI st x then rK (sD E t) λti=>rK (LS f) λl=>rK (LS e) λc=>Tp h R gd st d ti l c x k else .bad
def aFo(R gd:Bool)(st:St)(d:Nat)(o:Op)(op:BinOp)(t:TypeId)(x c:A)(k:uM->X):X:=
 match x,c with
 |.fz dep e el xs,.nils=>bif jI st x then .ask (Yn xs) .bad (rK (rv (F0 E R t op (.fz dep e el (hdD xs::xs.tail)) .nils)) k)else .bad
 |_,_=>To E h R gd st d o k
def aCj(gd:Bool)(st:St)(d:Nat)(t:TypeId)(a b:A)(k:uM->X):X:=
 bif gd then .bad else
 match a,b with
 |.int .i64 n,.int .i64 m=>rK (sD E t) λti=>rK (sD E ti.e) λc=>
  bif ti.sl&&uU (eZ false (LX h d c)) c.lv then
   .ask (cK 0 n&&(aD n m&&jP n.toNat c.bytes)) (k (.st ((st.newArr d ti.e (LX h d c) (List.replicate n.toNat (zG (fT c.lv)))).view d))) .bad
  else .bad
 |_,_=>.bad
def Tq(st:St)(d:Nat)(t e:TypeId)(l:List Operand)(k:St->X):X:=
 match l with
 |[x,g]=>match eK st.sl x,eK st.sl g with
  |.nils,.int .i64 n=>rK (sD E t) λti=>rK (sD E ti.e) λc=>rK (sD E e) λf=>
   bif ti.sl&&(aBh f&&(VA c.lv&&Nat.ble 1 c.lv.length))then
    .ask (aQ 0 n&&jP n.toNat c.bytes) (k ((st.newArr d ti.e c.lv (List.replicate n.toNat (zG (fT c.lv)))).view d)) .bad
   else .bad
  |_,_=>.bad
 |_=>.bad
def Y6(R gd:Bool)(st:St)(d:Nat)(o:Op)(k:uM->X):X:=
 match o with
 |.call c=>match c.callee with
  |.value f=>Tk E h R gd st d c.args k (eK st.sl f)
  |.builtin .append=>bif gd then .bad else(match c.argTypes.toList with
   |[t,e]=>bif Nat.beq t e then ZY E h st d t c.args.toList λs=>k (.st s)else Tq E st d t e c.args.toList λs=>k (.st s)
   |_=>.bad)
  |_=>rK (rM E h noC R gd st d o) k
 |.makeSlice t n m=>aCj E h gd st d t (eK st.sl n) (eK st.sl m) k
 |.store t p x=>bif gd then .bad else rK (Rn E t) λn=>Jc st n (eK st.sl p) (eK st.sl x) λs=>k (.st (s.put d .undef))
 |.slice t x j g none=>M3 E h R gd st d t (eK st.sl x) (j.map (eK st.sl)) (g.map (eK st.sl)) k
 |.binOp op t x l _=>aFo E h R gd st d o op t (eK st.sl x) (eK st.sl l) k
 |o=>To E h R gd st d o k
def JQ(i:Nat)(o:Oper)(s:RS)(R gd:Bool)(G:List (Nat×Bool))(k:RS->X):X:=
 match o.dst with
 |some d=>Y6 E h R gd s.st (HB h.nb+d) o.op λr=>rK (VD s i d (HB h.nb+d) R G r) k
 |none=>bif gd then .bad else Y6 E h R gd s.st (HB h.nb+4000) o.op λr=>rK (Ro s r) k
end
abbrev InX:=Nat->St->(A×St->X)->X
section
variable(E:fC)(h:fI)(Tb:BT jG)(it:InX)
def aCk(s:RS)(i d:Nat)(q:e8)(np:Nat)(as:List A)(k:RS->X):X:=
 bif aBn s.sg q&&(Nat.beq as.length np&&Nat.ble np 500)then
  it q.site (Hd s.st q as) λr=>k (s.note i d true [] ((DA r.2 q).put d r.1) r.1)
 else .bad
def Jd(i:Nat)(o:Oper)(s:RS)(d:Nat)(q:e8)(k:RS->X):X:=
 match o.op with
 |.call c=>match c.callee with
  |.value f=>match eK s.st.sl f with
   |.fn n caps=>rK (Tb.look q.site) λg=>bif Nat.beq g.fn n then aCk it s i d q g.np (E8 s.st.sl c.args.toList++caps) k else .bad
   |_=>.bad
  |_=>.bad
 |_=>.bad
def XC(i:Nat)(o:Oper)(s:RS)(R gd:Bool)(G:List (Nat×Bool))(k:RS->X):X:=
 match LH h o with
 |some q=>bif gd then .bad else Jd Tb it i o s q.1 q.2 λs=>bif CS (Ch E s) q.2.ck then k s else .bad
 |none=>match ckP h i o with
  |[]=>JQ E h i o s R gd G k
  |c::l=>bif gd then .bad else JQ E h i o s R gd G λs=>.ask (CS (Ch E s) (c::l)) (k s) .bad
def Y7(i:Nat)(o:Oper)(s:RS)(j:Nat)(c:Bool)(g:Bool×Bool×List (Nat×Bool))(k:RS->X):X:=
 bif Wa (Wc s o) ((j,c)::g.2.2)then XC E h Tb it i o s (g.1&&FB g.2.1 c) true ((j,c)::g.2.2) k else .bad
def Ts(i:Nat)(o:Oper)(s:RS)(k:RS->X):X:=
 match o.guard with
 |none=>bif Wa (Wc s o) []then XC E h Tb it i o s true false [] k else .bad
 |some p=>rK (look s.ge p.1) λg=>Y7 E h Tb it i o s p.1 p.2 g k
def XD(k:RS->X):List (Nat×Oper)->RS->X
 |[],s=>k s
 |p::l,s=>Ts E h Tb it p.1 p.2 s λs=>XD k l s
def aCl(ops:List (Nat×Oper))(st:St)(k:Ex×St->X):X:=
 XD E h Tb it (λs=>k (.norm,tM s.sg s.st)) ops {st:=st,ge:=[],sg:=[],by_:=[]}
def Y8(id:Nat)(ops:Array Oper)(st:St)(r:Ex×St)(k:Ex×St->X):List (List Nat)->X
 |[]=>k r
 |o::os=>aCl E h Tb it (LZ ops.toList o) st λq=>rK (Fc h id q) λq=>.ask (U6 r q) (Y8 id ops st r k os) .bad
def Y9(id:Nat)(ops:Array Oper)(st:St)(r:Ex×St)(k:Ex×St->X):X:=
 match Ci h id with
 |none=>k r
 |some q=>Y8 E h Tb it id ops st r k q.2
def Z0(st:St)(x c:X):A->X
 |.bool t=>.ask t x c
 |_=>.bad
def Pf(k:Ex×St->X):List (LD->Ex×St)->Tg St (Ex×St)
 |[]=>.nil
 |t::ts=>.cons (λds=>k (t ds)) (Pf k ts)
def Z1(k:Ex×St->X)(c:St->X)(r:Ex×St):X:=
 match r.1 with
 |.norm=>c r.2
 |_=>k r
def GR(lb:Nat)(T:Nat->List (LD->Ex×St)):Nat->Code->St->(Ex×St->X)->X
 |_,.skip,st,k=>k (.norm,st)
 |_,.region id ops _,st,k=>aCl E h Tb it (zI h id ops) st λr=>rK (Fc h id r) λr=>Y9 E h Tb it id ops st r k
 |b,.seq x d,st,k=>GR lb T b x st (Z1 k λs=>GR lb T b d s k)
 |b,.cond c x d,st,k=>Z0 st (GR lb T b x st k) (GR lb T b d st k) (eK st.sl c)
 |_,.block id x,st,k=>GR lb T id x st λr=>rK (Od id r) k
 |b,.loop _,st,k=>rK (FL (look h.heads b) st) λs=>.loop (lb+b) s (Pf k (T (lb+b)))
 |_,.exit id,st,k=>k (.exit id,st)
 |_,.ret,st,k=>k (.ret,st)
 |_,.label _,st,k=>k (.norm,st)
 |b,.scope x,st,k=>GR lb T b x st k
 |_,_,_,_=>.bad
def ZZ(lb:Nat)(T:Nat->List (LD->Ex×St))(b:Nat)(x:Code)(s:St):X:=
 GR E h Tb it lb T b x s λr=>match r.1 with
  |.norm=>rK (FL (look h.heads b) r.2) .again
  |_=>rK (Wj (look h.ends b) r) .out
def Nh(f:Func)(s:CV)(r:Ex×St):M (D×LD):=
 match r.1 with
 |.exit _=>aG "exit out of the body"
 |_=>(jM E r.2 f.results.toList).bind λvs=>(nG r.2 s.rs vs).bind λu=>(FN r.2 0 s.ps).bind λv=>
    bif nodup (u.os++v.os)&&apart (u.os++v.os) (u.ds++v.ds)then
     ok ((match u.x with|[x]=>x |xs=>.l xs),v.x)
    else aG "result: shared"
def Pg(T:Nat->List (LD->Ex×St))(f:Func)(c:Code)(s:CV)(ds:LD):X:=
 rK (eY E 0 s.ps ds {sl:=.nil,bx:=[],ar:=[],ctr:=1}) λst=>GR E h Tb it 0 T 0 c st λr=>rK (Nh E f s r) λq=>.ret q.1 q.2
end
def itN(E:fC)(Tb:BT jG)(T:Nat->List (LD->Ex×St)):Nat->InX
 |0=>λ_ _ _=>.bad
 |n+1=>λq st k=>
  match Tb.look q with
  |some s=>GR E s.h Tb (itN E Tb T n) (1000*(q+1)) T 0 s.c st λr=>
   match r.1 with
   |.exit _=>.bad
   |_=>rK (jM E r.2 s.f.results.toList) λvs=>k (ZU vs,r.2)
  |none=>.bad
def cM:Nat->Code->List (Nat×Code)
 |b,.seq x c=>cM b x++cM b c
 |b,.cond _ x c=>cM b x++cM b c
 |_,.block id x=>cM id x
 |b,.loop x=>(b,x)::cM b x
 |b,.scope x=>cM b x
 |_,_=>[]
mutual
def IX.map{c e d h:Type}(f:Nat->c->d)(b0:Nat)(g:e->h):IX c e->IX d h
 |.ret x bs=>.ret x bs
 |.again s=>.again (f b0 s)
 |.out t=>.out (g t)
 |.bad=>.bad
 |.ask b p q=>.ask b (p.map f b0 g) (q.map f b0 g)
 |.call m xs nb k=>.call m xs nb λx bs=>(k x bs).map f b0 g
 |.loop b s ks=>.loop b (f b s) (ks.map f b0 g)
def Tg.map{c e d h:Type}(f:Nat->c->d)(b0:Nat)(g:e->h):Tg c e->Tg d h
 |.nil=>.nil
 |.cons k ks=>.cons (λds=>(k ds).map f b0 g) (ks.map f b0 g)
end
abbrev aCm:=List (Nat×(LD->St))
abbrev x4:=List (Nat×List (LD->Ex×St))
structure Fn where
 np:Nat
 bs:List Nat
 main:LD->Sh
 lps:List (Nat×(LD->Sh))
def gI(l:LD)(i:Nat):Int:=(gD l i).toI
def gB(l:LD)(i:Nat):Bool:=(gD l i).toB
def gS(l:LD)(i:Nat):List UInt8:=(gD l i).toS
def gL(l:LD)(i:Nat):LD:=(gD l i).els
def gN(l:LD)(i:Nat):Nat:=(gD l i).toI.toNat
def iZ(s:List UInt8)(k:Int):Int:=((s.getD k.toNat 0).toNat:Int)
def aId(k:IntKind)(a b:Int):Int:=k.wrap (a*2^(min b.toNat k.bits))
def aIe(k:IntKind)(a b:Int):Int:=a.fdiv (2^(min b.toNat k.bits))
def aIf(k:IntKind)(n:Int):Int:=HA .xor k (bif k.signed then-1 else k.max) n
abbrev t0(l r:Tr):Tr:=.node .undef l r
abbrev t1(a:A):Tr:=.node a .nil .nil
abbrev t2(a:A)(l r:Tr):Tr:=.node a l r
def uV:St:={sl:=.nil,bx:=[],ar:=[],ctr:=0}
def Tt(S:aCm)(b:Nat)(ps:LD):St:=
 match look S b with
 |some g=>g ps
 |none=>uV
def n7(T:x4)(b:Nat):List (LD->Ex×St):=
 match look T b with
 |some l=>l
 |none=>[]
def Z2:List (Nat×Code)->Nat->Code
 |[],_=>.skip
 |(m,c)::l,b=>bif Nat.beq m b then c else Z2 l b
def tT(b:Nat)(c:Code):Code:=Z2 (cM 0 c) b
def cd(f:Func):Code:=match f.body with|some c=>c |none=>.skip
def Tu(t:BT CV)(n:Nat):CV:=match t.look n with|some s=>s |none=>{fn:=0,ps:=[],rs:=[]}
def noT(_:LD):Ex×St:=(.exit 0,{sl:=.nil,bx:=[],ar:=[],ctr:=0})
def Ph(T:x4)(b:Nat)(q:Nat×LD):Ex×St:=((n7 T b).getD q.1 noT) q.2
def Sh.up(S:aCm)(T:x4)(b0:Nat)(t:Sh):X:=t.map (Tt S) b0 (Ph T b0)
end Go.Eng

namespace Go.Eng
inductive Lf(σ τ:Type) where
 |ret (x:D) (bs:LD)
 |again (s:σ)
 |out (t:τ)
section
variable{σ τ:Type}(C:Nat->LD->D->LD->Prop)(L:Nat->σ->Nat->LD->Prop)
mutual
def Ev:IX σ τ->Lf σ τ->Prop
 |.ret x bs,lf=>lf=.ret x bs
 |.again s,lf=>lf=.again s
 |.out t,lf=>lf=.out t
 |.bad,_=>False
 |.ask b p q,lf=>(b=true/\Ev p lf)\/(b=false/\Ev q lf)
 |.call m xs nb k,lf=>∃x bs,C m xs x bs/\bs.length=nb/\Ev (k x bs) lf
 |.loop b s ks,lf=>∃i ds,L b s i ds/\My ks i ds lf
def My:Tg σ τ->Nat->LD->Lf σ τ->Prop
 |.nil,_,_,_=>False
 |.cons k _,0,ds,lf=>Ev (k ds) lf
 |.cons _ ks,i+1,ds,lf=>My ks i ds lf
end
end
section
variable{E:fC}{h:fI}{ctx:sJ}{L:Nat->St->Nat->LD->Prop}{lf:Lf St (Ex×St)}
abbrev cR(ctx:sJ):Nat->LD->D->LD->Prop:=λm xs x bs=>ctx m xs=some (x,bs)
theorem dO{α:Type}{x:M α}{k:α->X}(c:Ev (cR ctx) L (rK x k) lf):∃a,x=some a/\Ev (cR ctx) L (k a) lf:=by
 cases x with
 |none=>simp[rK,Ev]at c
 |some a=>exact⟨a,rfl,c⟩
theorem FV{c:Bool}{p:X}(d:Ev (cR ctx) L (.ask c p .bad) lf):c=true/\Ev (cR ctx) L p lf:=by
 simp only[Ev]at d;rcases d with d |⟨_,d⟩
 ·exact d
 ·exact d.elim
theorem uQ{c:Bool}{p:X}(d:Ev (cR ctx) L (bif c then p else .bad) lf):c=true/\Ev (cR ctx) L p lf:=by
 cases c with
 |true=>exact⟨rfl,d⟩
 |false=>simp[Ev]at d
theorem aG0(c:D)(l:LD)(i:Nat):gD (c::l) (i+1)=gD l i:=by simp[gD]
theorem Yq:∀(c l:LD),Jb (c++l) c.length l.length=l
 |c,[]=>rfl
 |c,d::l=>by
  simp only[List.length_cons,Jb];have f:gD (c++d::l) c.length=d:=by simp[gD]
  have e:=Yq (c++[d]) l;simp only[List.append_assoc,List.singleton_append,List.length_append,List.length_singleton]at e;rw[f,e]
theorem Aa{l:LD}{n:Nat}(c:l.length=n):Jb l 0 n=l:=by subst c;exact Yq [] l
def Pi(m:RM)(e x:D):Prop:=∀dep d c st,CW dep d c e m st=CW dep d c x m st
theorem aCo{nn:Bool}{x:D}{k:D->X}{el:List LT}(g:Ev (cR ctx) L (aDL nn x k) lf):∃h,Pi (.ptr el) h x/\Ev (cR ctx) L (k h) lf:=by
 simp only[aDL,Ev]at g;rcases g with⟨e,f⟩ |⟨e,f⟩
 ·cases nn with
  |true=>simp[Ev]at f
  |false=>
  refine⟨_,λdep d c st=>?_,f⟩;cases hx:x.els with
  |nil=>simp only[CW];rw[hx];rfl
  |cons z t=>rw[hx]at e;simp[Yn]at e
 ·refine⟨_,λdep d c st=>?_,f⟩;cases hx:x.els with
  |nil=>rw[hx]at e;simp[Yn]at e
  |cons z t=>simp only[CW];rw[hx];rfl
theorem Pi.refl(m:RM)(x:D):Pi m x x:=λ_ _ _ _=>rfl
theorem M4{nn:Bool}{x:D}:∀(ms:List RM)(c:Nat){k:LD->X},Ev (cR ctx) L (M0 nn x c ms k) lf->∃l,(∀j m,ms[j]?=some m->Pi m (l.getD j (.i 0)) (x.fld (c+j)))/\Ev (cR ctx) L (k l) lf
 |[],c,k,e=>⟨[],λj m d=>by simp at d,e⟩
 |.val a lv::ms,c,k,e=>by
  simp only[M0]at e;obtain⟨l,f,g⟩:=M4 ms (c+1) e;refine⟨_,λj m d=>?_,g⟩;cases j with
  |zero=>simp at d;subst d;exact Pi.refl _ _
  |succ j=>simp at d;have:=f j m d;simpa[Nat.add_assoc,Nat.add_comm 1 j]using this
 |.ptr el::ms,c,k,e=>by
  simp only[M0]at e;obtain⟨r,h,e⟩:=aCo (el:=el) e;obtain⟨l,f,g⟩:=M4 ms (c+1) e;refine⟨_,λj m d=>?_,g⟩;cases j with
  |zero=>simp at d;subst d;exact h
  |succ j=>simp at d;have:=f j m d;simpa[Nat.add_assoc,Nat.add_comm 1 j]using this
theorem Dr{dep:List (Nat×Nat)}{d:Nat}{z x:D}:∀(ms:List RM)(c:Nat)(st:St),(∀j m,ms[j]?=some m->Pi m (z.fld (c+j)) (x.fld (c+j)))->IR dep d z c ms st=IR dep d x c ms st
 |[],_,_,_=>rfl
 |m::ms,c,st,f=>by simp only[IR];have e:=f 0 m rfl dep d c st;simp only[Nat.add_zero]at e;rw[e];congr 1;funext r;rw[Dr ms (c+1) r.1 λj m' g=>by have:=f (j+1) m' g;simpa[Nat.add_assoc,Nat.add_comm 1 j]using this];try rfl
theorem aFq{nn:Bool}{rs:List RM}{x:D}{k:D->X}(c:Ev (cR ctx) L (aGr nn rs x k) lf):∃e,(∀dep d st,NG rs dep d e st=NG rs dep d x st)/\Ev (cR ctx) L (k e) lf:=by
 match rs,c with
 |[],c=>exact⟨x,λ_ _ _=>rfl,c⟩
 |[.ptr el],c=>obtain⟨e,f,g⟩:=aCo (el:=el) c;exact⟨e,λdep d st=>by simp only[NG];rw[f],g⟩
 |[.val a lv],c=>exact⟨x,λ_ _ _=>rfl,c⟩
 |m::m'::ms,c=>
  have c:Ev (cR ctx) L (M0 nn x 0 (m::m'::ms) λl=>k (.l l)) lf:=by cases m<;>exact c
  obtain⟨l,f,g⟩:=M4 _ _ c;refine⟨_,λdep d st=>?_,g⟩;simp only[NG];rw[Dr (z:=.l l) (x:=x) (m::m'::ms) 0 st λj q h=>by simpa[D.fld,D.els]using f j q h]
theorem Z3{st:St}{d n:Nat}{s:CV}{as:List A}{k:St->X}(c:Ev (cR ctx) L (Y5 E h st d n s as k) lf):∃g,QW E ctx st d n s as=some g/\Ev (cR ctx) L (k g) lf:=by
 unfold Y5 at c;unfold QW;cases y:mF s.ps with
 |some q=>obtain⟨e,el,f⟩:=q;rw[y]at c;simp only at c⊢;obtain⟨q,j,c⟩:=dO c;simp only[Ev]at c;obtain⟨x,bs,l,m,c⟩:=c;rw[Aa m]at c;obtain⟨g,r,c⟩:=dO c;exact⟨g,by simp[j,l,r,oM],c⟩
 |none=>rw[y]at c;simp only at c⊢;obtain⟨u,j,c⟩:=dO c;obtain⟨F,c⟩:=uQ c;simp only[Ev]at c;obtain⟨x,bs,l,m,c⟩:=c;rw[Aa m]at c;obtain⟨H,r,c⟩:=aFq c;obtain⟨g,t,c⟩:=dO c;refine⟨g,?_,c⟩;rw[j];simp only[Option.bind_some,F,cond_true,oM,l];simp only[aCi]at t;obtain⟨G,C,v⟩:=bind_some t;rw[C];simp only[Option.bind_some];rw[r]at v;exact v
theorem x5{R:Bool}{m:Nat}{agg:Bool}{lv:List LT}{ds:List (Nat×Nat)}{xs:LD}{k:uM->X}(c:Ev (cR ctx) L (Ti R m agg lv ds xs k) lf):∃r,YS ctx R m agg lv ds xs=some r/\Ev (cR ctx) L (k r) lf:=by
 simp only[Ti,Ev]at c;unfold YS;rcases c with⟨rfl,x,bs,e,f,c⟩ |⟨rfl,c⟩
 ·obtain⟨r,d,c⟩:=dO c;have:bs=[]:=List.length_eq_zero_iff.1 f;subst this;exact⟨r,by simpa[oM,e,Th]using d,c⟩
 ·obtain⟨r,d,c⟩:=dO c;exact⟨r,by simpa[oM,Th]using d,c⟩
theorem x6{st:St}{R:Bool}{d m:Nat}{s:CV}{as:List A}{agg:Bool}{k:uM->X}{l:List LT}(c:Ev (cR ctx) L (Tj E h st R d m s as agg k l) lf):∃r,YT E ctx st R d m s as agg l=some r/\Ev (cR ctx) L (k r) lf:=by
 unfold Tj at c;split at c
 ·cases agg with
  |true=>simp[Ev]at c
  |false=>
   simp only[cond_false,Ev]at c;rcases c with⟨rfl,c⟩ |⟨rfl,c⟩
   ·obtain⟨f,e,c⟩:=Z3 c;exact⟨_,by simp[YT,e,rs,ok],c⟩
   ·exact⟨_,rfl,c⟩
 ·simp[Ev]at c
theorem Yr{st:St}{R:Bool}{d m:Nat}{as:List A}{s:CV}{k:uM->X}(c:Ev (cR ctx) L (ZW E h st R d m as s k) lf):∃r,HC E ctx st R d m as s=some r/\Ev (cR ctx) L (k r) lf:=by
 unfold ZW at c;split at c
 ·rename_i agg lv j;obtain⟨u,g,c⟩:=dO c;split at c
  ·rename_i f;obtain⟨l,c⟩:=uQ c;obtain⟨r,e,c⟩:=x5 c;refine⟨r,?_,c⟩;unfold HC;simp only[j,g,Option.bind_some,f,l,cond_true];exact e
  ·rename_i v t f;obtain⟨r,e,c⟩:=x6 c;refine⟨r,?_,c⟩;unfold HC;simp only[j,g,Option.bind_some,f];exact e
 ·simp[Ev]at c
theorem x7{R gd:Bool}{st:St}{d:Nat}{e:Array Operand}{k:uM->X}{a:A}(c:Ev (cR ctx) L (Tk E h R gd st d e k a) lf):∃r,SD E h ctx R gd st d e a=some r/\Ev (cR ctx) L (k r) lf:=by
 unfold Tk at c;split at c
 ·rename_i n caps;obtain⟨s,f,c⟩:=dO c;obtain⟨g,c⟩:=uQ c;unfold SD;simp only[f,oM,Option.bind_some,g,cond_true];cases gd with
  |true=>simp only[cond_true]at c⊢;exact Yr c
  |false=>simp only[cond_false]at c⊢;obtain⟨l,j,c⟩:=Z3 c;exact⟨_,by simp[j,rs,ok],c⟩
 ·simp[Ev]at c
end
end Go.Eng

namespace Go.Eng
theorem x8{α:Type}{c:Bool}{x:M α}{s:String}{d:α}(h:(bif c then aG s else x)=some d):c=false/\x=some d:=by
 cases c with
 |true=>simp[aG]at h
 |false=>exact⟨rfl,h⟩
structure lR(d:Nat)(data0:LD)(s t:St):Prop where
 ex:∃a l,s.ar=(d,a)::l/\look l d=none/\a.stale=[]/\t={s with ar:=(d,{a with data:=data0++a.data})::l}
theorem Je{α:Type}{d:Nat}:∀{l:List (Nat×α)},look l d=none->nZ l d=l
 |[],_=>rfl
 |(m,a)::l,h=>by
  simp only[look]at h;cases c:Nat.beq m d with
  |true=>rw[c]at h;simp at h
  |false=>rw[c]at h;simp only[nZ,c,cond_false];rw[Je (by simpa using h)]
theorem DW{α:Type}{d q:Nat}:∀{l:List (Nat×α)},look l d=none->look (nZ l q) d=none
 |[],_=>rfl
 |(m,a)::l,h=>by
  simp only[look]at h;cases c:Nat.beq m d with
  |true=>rw[c]at h;simp at h
  |false=>
   rw[c]at h;simp only[nZ];cases e:Nat.beq m q with
   |true=>exact DW (by simpa using h)
   |false=>simp only[cond_false,look,c];exact DW (by simpa using h)
theorem DX{α:Type}(d:Nat):∀(l:List (Nat×α)),look (nZ l d) d=none
 |[]=>rfl
 |(m,a)::l=>by
  simp only[nZ];cases c:Nat.beq m d with
  |true=>exact DX d l
  |false=>simp only[cond_false,look,c];exact DX d l
theorem FW{α:Type}(d:Nat)(a:α)(l:List (Nat×α)):look ((d,a)::l) d=some a:=by simp[look,qD]
theorem Z4{α:Type}{d q:Nat}(a:α)(l:List (Nat×α))(h:q≠d):look ((d,a)::l) q=look l q:=by simp[look,qK (Ne.symm h)]
theorem XE{α:Type}{d:Nat}(a b:α){l:List (Nat×α)}(h:look l d=none):qC ((d,a)::l) d b=(d,b)::l:=by simp[qC,nZ,qD,Je h]
theorem M5(data0 l:LD)(i:Nat)(z:D):(data0++l).getD (data0.length+i) z=l.getD i z:=by simp[List.getD_eq_getElem?_getD,List.getElem?_append_right]
theorem x9(data0 l:LD)(i:Nat)(z:D):(data0++l).set (data0.length+i) z=data0++l.set i z:=by rw[List.set_append_right _ _ (by omega)];simp
theorem lR.new{d:Nat}{data0:LD}{s:St}{e:TypeId}{el:List LT}{data:LD}:lR d data0 (s.newArr d e el data) (s.newArr d e el (data0++data)):=
 ⟨⟨_,nZ s.ar d,rfl,DX d _,rfl,rfl⟩⟩
theorem lR.newBoth{d:Nat}{data0:LD}{s t:St}(h:lR d data0 s t){e:TypeId}{el:List LT}{data:LD}:lR d data0 (s.newArr d e el data) (t.newArr d e el (data0++data)):=by
 obtain⟨a,l,f,c,g,rfl⟩:=h.ex;refine⟨⟨{e:=e,el:=el,data:=data,uid:=s.ctr,hv:=YN s.ctr,dv:=s.ctr},l,?_,c,?_,?_⟩⟩
 ·simp only[St.newArr];rw[f,XE _ _ c]
 ·rfl
 ·simp only[St.newArr];rw[XE _ _ c]
theorem lR.arrOf_other{d:Nat}{data0:LD}{s t:St}(h:lR d data0 s t){q u:Nat}(f:Nat.beq q d=false)(p:List (Nat×Nat)):jH t q u p=jH s q u p:=by
 obtain⟨a,l,g,j,m,rfl⟩:=h.ex;have c:q≠d:=by intro e;subst e;rw[qD]at f;simp at f
 simp only[jH];rw[g,Z4 _ _ c,Z4 _ _ c]
theorem lR.gone{d:Nat}{data0:LD}{s t:St}(h:lR d data0 s t){q:Nat}(c:Nat.beq q d=false):lR d data0 (s.gone q) (t.gone q):=by
 obtain⟨a,l,f,g,m,rfl⟩:=h.ex;have e:Nat.beq d q=false:=by
  cases j:Nat.beq d q with
  |false=>rfl
  |true=>rw[Nat.eq_of_beq_eq_true j,qD]at c;simp at c
 refine⟨⟨a,nZ l q,?_,DW g,m,?_⟩⟩
 ·simp only[St.gone];rw[f];simp[nZ,e]
 ·simp only[St.gone];simp[nZ,e]
theorem lR.setRow{d:Nat}{data0:LD}{s t:St}(h:lR d data0 s t){a:xZ}(c:look s.ar d=some a)(i j k:Nat)(x:D)(hdr:Bool):
  lR d data0 (setRow s d a [] i j k x hdr) (setRow t d {a with data:=data0++a.data} [] (data0.length+i) j k x hdr):=by
 obtain⟨a',l,f,e,g,rfl⟩:=h.ex;rw[f,FW]at c;injection c with c;subst c;refine⟨⟨{a' with data:=oV a'.el a'.data [] (λdata=>data.set i (rZ k (data.getD i (.i 0)) j x)),stale:=bif hdr then[]else a'.stale,dv:=s.ctr,hv:=bif hdr then yA s.ctr 0 a'.hv else a'.hv},l,?_,e,?_,?_⟩⟩
 ·simp only[Go.Eng.setRow];rw[f,XE _ _ e];rfl
 ·simp only[g];cases hdr<;>rfl
 ·simp only[Go.Eng.setRow];rw[XE _ _ e];simp only[oV,M5,x9,List.length_nil]
theorem lR.gone_look{d:Nat}{s:St}{q:Nat}{a:xZ}(f:look s.ar d=some a)(c:Nat.beq q d=false):look (s.gone q).ar d=some a:=by
 simp only[St.gone];rw[nH,if_neg]
 ·exact f
 ·intro e;subst e;rw[qD]at c;simp at c
theorem lR.wrLeaf{d u i j:Nat}{data0:LD}{s t:St}(h:lR d data0 s t){x:A}{y:St}(c:wrLeaf s d u [] i j x=some y):∃C,wrLeaf t d u [] (data0.length+i) j x=some C/\lR d data0 y C:=by
 obtain⟨a,l,F,T,m,G⟩:=h.ex;have e:look s.ar d=some a:=by rw[F,FW]
 have L:look t.ar d=some {a with data:=data0++a.data}:=by subst G;simp only[FW]
 unfold Go.Eng.wrLeaf at c⊢;simp only[jH,e,L,jL]at c⊢;cases v:(Nat.ble (List.length ([]:List (Nat×Nat))) 4&&Nat.beq a.uid u)with
 |false=>rw[v]at c;simp[aG]at c
 |true=>
 rw[v]at c;simp only[cond_true,ok,Option.bind_some]at c⊢;obtain⟨P,c⟩:=(show(LC 0 a.stale=true)/\_ from by
  cases K:LC 0 a.stale with
  |false=>simp only[List.length_nil,K,Bool.not_false,cond_true,aG]at c;simp at c
  |true=>exact⟨rfl,c⟩)
 simp only[List.length_nil,P,Bool.not_true,cond_false,mJ,oM,Option.bind_some]at c⊢;generalize a.el[j]?=ol at c⊢;split at c
 ·obtain⟨g,c⟩:=aU c;simp only[Option.some.injEq]at c;subst c;exact⟨_,by simp only[g,cond_true],h.setRow e _ _ _ _ _⟩
 ·simp only[Option.some.injEq]at c;subst c;exact⟨_,rfl,h.setRow e _ _ _ _ _⟩
 ·simp only[Option.some.injEq]at c;subst c;exact⟨_,rfl,h.setRow e _ _ _ _ _⟩
 ·obtain⟨g,c⟩:=aU c;simp only[Option.some.injEq]at c;subst c;exact⟨_,by simp only[g,cond_true],h.setRow e _ _ _ _ _⟩
 ·simp only[Option.some.injEq]at c;subst c;exact⟨_,rfl,h.setRow e _ _ _ _ _⟩
 ·rw[m]at c⊢;simp only[Cc,fill,Bool.not_true,Bool.false_or,cond_true,ok,Option.some.injEq]at c⊢;subst c;exact⟨_,rfl,h.setRow e _ _ _ _ _⟩
 ·obtain⟨f,c⟩:=x8 c;obtain⟨b,H,c⟩:=bind_some c;obtain⟨Q,c⟩:=aU c;rw[m]at c⊢;have r:=λu=>h.arrOf_other (u:=u) f [];simp only[jH,jL,ok,List.length_nil]at r;split at c
  ·rename_i J;simp only[Cc,fill,Bool.not_true,Bool.false_or,cond_true,ok,Option.some.injEq]at c;subst c;refine⟨_,?_,(h.gone f).setRow (lR.gone_look e f) _ _ _ _ _⟩;simp only[f,cond_false];rw[r,H];simp only[Option.bind_some,Q,cond_true,J,Cc,fill,Bool.not_true,Bool.false_or,ok];rw[m]
  ·simp[aG]at c
 ·simp[aG]at c
theorem lR.wrLeaves{d i:Nat}{data0:LD}:∀(l:List A){j u:Nat}{s t e:St},lR d data0 s t->wrLeaves s d u [] i j l=some e->∃f,wrLeaves t d u [] (data0.length+i) j l=some f/\lR d data0 e f
 |[],j,u,s,t,e,h,c=>by simp only[Go.Eng.wrLeaves,ok,Option.some.injEq]at c;subst c;exact⟨t,rfl,h⟩
 |x::l,j,u,s,t,e,h,c=>by
  simp only[Go.Eng.wrLeaves]at c⊢;obtain⟨s1,r,v⟩:=bind_some c;obtain⟨t1,y,g⟩:=h.wrLeaf r;have G:iV t1 d []=iV s1 d []:=by obtain⟨a,l,m,H,_,rfl⟩:=g.ex;simp only[iV];rw[m,FW,FW];rfl
  obtain⟨f,C,F⟩:=lR.wrLeaves l g v;exact⟨f,by rw[y];simp only[Option.bind_some];rw[G];exact C,F⟩
theorem lR.appElems{d k:Nat}{data0:LD}:∀(n:Nat)(l:List A){s t f:St},lR d data0 s t->appElems d k n l s=some f->∃g,appElems d k n l t=some g/\lR d data0 f g
 |0,l,s,t,f,h,c=>by simp only[Go.Eng.appElems,ok,Option.some.injEq]at c;subst c;exact⟨t,rfl,h⟩
 |n+1,l,s,t,f,h,c=>by
  obtain⟨a,P,m,L,r,j⟩:=h.ex;have J:look s.ar d=some a:=by rw[m,FW]
  have K:look t.ar d=some {a with data:=data0++a.data}:=by subst j;simp only[FW]
  have H:t.ctr=s.ctr:=by subst j;rfl
  simp only[Go.Eng.appElems,J,K,oM,Option.bind_some,r]at c⊢;obtain⟨s1,u,v⟩:=bind_some c;obtain⟨t1,y,C⟩:=lR.wrLeaves _ (h.newBoth (e:=a.e) (el:=a.el) (data:=a.data++[zG (fT a.el)])) u;obtain⟨g,F,G⟩:=lR.appElems n _ C v;refine⟨g,?_,G⟩;rw[List.append_assoc,List.length_append,H,y];exact F
theorem lR.patch{d:Nat}{data0:LD}{s t:St}(h:lR d data0 s t):t=Tl s d data0:=by obtain⟨a,l,c,e,g,f⟩:=h.ex;subst f;simp only[Tl];rw[c,FW];simp only;rw[XE _ _ e]
theorem Jf{d k n:Nat}{l:List A}{e:TypeId}{el:List LT}{data:LD}{st s:St}(h:appElems d k n l (st.newArr d e el [])=some s):appElems d k n l (st.newArr d e el data)=some (Tl s d data):=by obtain⟨t,c,f⟩:=lR.appElems n l (lR.new (data0:=data) (data:=[]) (d:=d) (s:=st) (e:=e) (el:=el)) h;rw[List.append_nil]at c;rw[c,f.patch]
section
variable{E:fC}{h:fI}{ctx:sJ}{L:Nat->St->Nat->LD->Prop}{lf:Lf St (Ex×St)}
theorem Jg{st:St}{d:Nat}{e:TypeId}{h:TI}{el:List LT}{data:LD}{ns:aDk}{k:St->X}(c:Ev (cR ctx) L (ZX st d e h el data ns k) lf):∃s,yB st d e h el data ns=some s/\Ev (cR ctx) L (k s) lf:=by
 cases ns with
 |flat ys=>simp only[ZX]at c;obtain⟨f,c⟩:=FV c;obtain⟨g,c⟩:=uQ c;exact⟨_,by simp[yB,f,g,ok],c⟩
 |cells n l=>simp only[ZX]at c;obtain⟨f,c⟩:=FV c;obtain⟨g,c⟩:=uQ c;obtain⟨s,j,c⟩:=dO c;exact⟨_,by simp[yB,f,g,Jf j],c⟩
theorem z6{st:St}{d:Nat}{m:TI}{e:TypeId}{l:Option (List LT)}{x r:A}{k:St->X}(c:Ev (cR ctx) L (Tm st d m e l x r k) lf):∃s,IM st d m e l x r=some s/\Ev (cR ctx) L (k s) lf:=by
 unfold Tm at c;split at c
 ·obtain⟨ns,f,c⟩:=dO c;obtain⟨s,g,c⟩:=Jg c;exact⟨_,by simp[IM,f,g,ok],c⟩
 ·obtain⟨q,h,c⟩:=dO c;obtain⟨ns,f,c⟩:=dO c;obtain⟨s1,g,c⟩:=dO c;obtain⟨s,j,c⟩:=Jg c;exact⟨_,by simp[IM,h,f,g,j,ok],c⟩
 ·obtain⟨q,h,c⟩:=dO c;obtain⟨t,c⟩:=FV c;obtain⟨ns,f,c⟩:=dO c;obtain⟨s1,g,c⟩:=dO c;obtain⟨s,j,c⟩:=Jg c;exact⟨_,by simp only[IM,h,Option.bind_some,t,cond_true,f,g,j];rfl,c⟩
 ·simp[Ev]at c
theorem Ys{st:St}{d:Nat}{t:TypeId}{l:List Operand}{k:St->X}(c:Ev (cR ctx) L (ZY E h st d t l k) lf):∃s,UZ E h st d t l=some s/\Ev (cR ctx) L (k s) lf:=by
 unfold ZY at c;split at c
 ·obtain⟨ti,e,c⟩:=dO c;obtain⟨m,f,c⟩:=dO c;obtain⟨g,c⟩:=uQ c;obtain⟨s,j,c⟩:=z6 c;exact⟨s,by simp[UZ,e9,e,f,g,j],c⟩
 ·simp[Ev]at c
theorem z7{st:St}{r u:Nat}{p:List (Nat×Nat)}{i j:Nat}{x:A}{k:St->X}(c:Ev (cR ctx) L (Tn st r u p i j x k) lf):∃s,wrLeaf st r u p i j x=some s/\Ev (cR ctx) L (k s) lf:=by
 unfold Tn at c;obtain⟨a,h,c⟩:=dO c;split at c
 ·exact dO c
 ·rename_i F t C;cases d:LC p.length a.stale with
  |false=>rw[d]at c;simp[Ev]at c
  |true=>
   rw[d]at c;simp only[Bool.not_true,cond_false]at c;obtain⟨q,l,c⟩:=dO c;split at c
   ·rename_i f _ _;obtain⟨e,c⟩:=FV c;refine⟨_,?_,c⟩;unfold wrLeaf;simp only[h,Option.bind_some,d,Bool.not_true,cond_false,l,oM,f,e,Cc,Bool.false_or,cond_true,ok]
   ·rename_i f _ _;cases g:Nat.beq _ r with
    |true=>rw[g]at c;simp[Ev]at c
    |false=>
     rw[g]at c;simp only[cond_false]at c;obtain⟨b,m,c⟩:=dO c;obtain⟨v,c⟩:=uQ c;split at c
     ·rename_i y;obtain⟨e,c⟩:=FV c;refine⟨_,?_,c⟩;unfold wrLeaf;simp only[h,Option.bind_some,d,Bool.not_true,cond_false,l,oM,f,g,m,v,y,e,Cc,Bool.false_or,cond_true,ok]
     ·simp[Ev]at c
   ·exact dO c
theorem Ds{r:Nat}{p:List (Nat×Nat)}{i:Nat}{k:St->X}:∀(l:List A){st:St}{u j:Nat},Ev (cR ctx) L (PU r p i k st u j l) lf->∃s,wrLeaves st r u p i j l=some s/\Ev (cR ctx) L (k s) lf
 |[],st,u,j,c=>⟨st,rfl,c⟩
 |a::l,st,u,j,c=>by simp only[PU]at c;obtain⟨s1,d,c⟩:=z7 c;obtain⟨s,e,c⟩:=Ds l c;exact⟨s,by simp only[wrLeaves,d,Option.bind_some];exact e,c⟩
theorem aCp{st:St}{p v:A}{k:St->X}(c:Ev (cR ctx) L (M1 st p v k) lf):∃s,YO st p v=some s/\Ev (cR ctx) L (k s) lf:=by
 unfold M1 at c;split at c
 ·exact Ds _ c
 ·exact dO c
theorem M6{st:St}{n:Nat}{p v:A}{k:St->X}(c:Ev (cR ctx) L (Jc st n p v k) lf):∃s,VB st n p v=some s/\Ev (cR ctx) L (k s) lf:=by unfold Jc at c;obtain⟨d,c⟩:=uQ c;obtain⟨e,c⟩:=uQ c;obtain⟨s,f,c⟩:=aCp c;exact⟨s,by simp only[VB,d,cond_true,mE,e];exact f,c⟩
end
end Go.Eng

namespace Go.Eng
section
variable{E:fC}{h:fI}{ctx:sJ}{L:Nat->St->Nat->LD->Prop}{lf:Lf St (Ex×St)}
theorem Yt(R gd:Bool)(st:St)(d:Nat)(o:Op)(e:∀c f,o=.call c->c.callee≠.value f):rM E h noC R gd st d o=rM E h ctx R gd st d o:=by
 cases o;case call c=>
  simp only[rM];unfold CY;split
  ·rename_i f hf;exact absurd hf (e c f rfl)
  ·rfl
  ·rfl
 case slice t x lo hi mx=>cases mx<;>rfl
 case makeMap t q=>cases q<;>rfl
 all_goals rfl
theorem yP{α:Type}{R c:Bool}{x d:α}(e:(!R||c)=true)(hx:Cc false c x=some d):Cc R c x=some d:=by simp only[Cc,Bool.not_false,Bool.true_or,cond_true]at hx;simp only[Cc,e,cond_true,hx]
theorem Ni{R:Bool}{k:Int}{x:A}{ti:TI}{d:A}(h:(!R||aA k ti.fs.length)=true)(hx:CX E false k x ti=some d):CX E R k x ti=some d:=by
 unfold CX at hx⊢;split at hx
 ·rename_i o j l m;obtain⟨r,e,f⟩:=bind_some hx;obtain⟨c,g⟩:=aU f;rw[e];simp only[Bool.not_false,Bool.true_or,Bool.and_true]at c;simp only[Option.bind_some,c,h,Bool.and_true,cond_true];exact g
 ·simp[aG]at hx
theorem Fi{R:Bool}{st:St}{k:Int}{x:A}{ti:TI}{g:A}(d:(!R||M2 st (some ti) x k)=true)(hx:vC E false st k x ti=some g):vC E R st k x ti=some g:=by
 unfold vC at hx⊢;split at hx
 ·obtain⟨c,e⟩:=aU hx;simp only[M2]at d;simp only[c,cond_true];exact yP d e
 ·obtain⟨q,c,e⟩:=bind_some hx;obtain⟨f,h⟩:=aU e;simp only[M2,c]at d;rw[c];simp only[Option.bind_some,f,cond_true];exact yP d h
 ·obtain⟨c,e⟩:=aU hx;simp only[M2]at d;simp only[c,cond_true];exact yP d e
 ·rename_i c e f;have:M2 st (some ti) x k=aA k ti.fs.length:=by
   unfold M2;split
   ·exact(c _ _ _ _ rfl).elim
   ·exact(e _ _ _ rfl).elim
   ·exact(f _ _ _ _ _ rfl).elim
   ·rfl
  rw[this]at d;exact Ni d hx
theorem Jh{α:Type}{st:St}{x:A}{f:A->M α}{c:α}(hx:mE st x f=some c):jI st x=true/\f x=some c:=aU hx
theorem aDM{R:Bool}{op:BinOp}{k h:IntKind}{a b:Int}{c:Bool}{j:A}(d:Yo op (.int h b)=some c)(e:(!R||c)=true)(hx:Rc false op k h a b=some j):Rc R op k h a b=some j:=by
 cases op;case quo=>
  simp only[Yo,Option.some.injEq]at d;subst d;simp only[Rc,Ny]at hx⊢;obtain⟨f,g⟩:=aU hx;simp only[f,cond_true];exact yP e g
 case rem=>
  simp only[Yo,Option.some.injEq]at d;subst d;simp only[Rc,Ny]at hx⊢;obtain⟨f,g⟩:=aU hx;simp only[f,cond_true];exact yP e g
 case shl=>
  simp only[Yo,Option.some.injEq]at d;subst d;simp only[Rc]at hx⊢;exact yP e hx
 case shr=>
  simp only[Yo,Option.some.injEq]at d;subst d;simp only[Rc]at hx⊢;exact yP e hx
 all_goals simp[Yo]at d
theorem aDN{R:Bool}{t:TypeId}{op:BinOp}{x d:A}{c:Bool}{z:A}(f:Yo op d=some c)(e:(!R||c)=true)(hx:F0 E false t op x d=some z):F0 E R t op x d=some z:=by
 unfold F0 at hx⊢;split at hx
 ·exact aDM f e hx
 ·exact hx
theorem aDO{R gd:Bool}{st:St}{d:Nat}{o:Op}{c:Bool}{r:uM}(e:Pe E st o=some c)(u:(!R||c)=true)(hx:rM E h noC false gd st d o=some r):rM E h ctx R gd st d o=some r:=by
 cases o;case indexAddr t x i=>
  simp only[Pe]at e;simp only[rM]at hx⊢;unfold rv at hx⊢;obtain⟨a,j,l⟩:=bind_some hx;obtain⟨C,m⟩:=Jh j;split at e
  ·rename_i k n v;simp only[Option.some.injEq]at e;subst e;simp only[v,zU]at m;obtain⟨ti,g,f⟩:=bind_some m;rw[g]at u;have:=Fi u f;simp only[mE,C,cond_true,v,zU,g,Option.bind_some,this];exact l
  ·simp at e
 case index t x i=>
  simp only[Pe]at e;simp only[rM]at hx⊢;unfold rv at hx⊢;obtain⟨a,j,l⟩:=bind_some hx;obtain⟨ti,g,f⟩:=bind_some j;split at e
  ·rename_i s k n H v;simp only[Option.some.injEq]at e;subst e;rw[H,v]at f⊢;simp only[UX]at f;obtain⟨F,G⟩:=aU f;have:=yP u G;rw[g];simp only[Option.bind_some,UX,F,cond_true,this];exact l
  ·simp at e
 case binOp op t x y cc=>
  simp only[Pe]at e;simp only[rM]at hx⊢;unfold rv at hx⊢;obtain⟨a,j,l⟩:=bind_some hx;obtain⟨C,m⟩:=Jh j;obtain⟨g,f⟩:=Jh m;have:=aDN (R:=R) e u f;simp only[mE,C,g,cond_true,this];exact l
 all_goals simp[Pe]at e
theorem Yu{R gd:Bool}{st:St}{d:Nat}{o:Op}{k:uM->X}(m:∀c f,o=.call c->c.callee≠.value f)(e:Ev (cR ctx) L (To E h R gd st d o k) lf):∃r,rM E h ctx R gd st d o=some r/\Ev (cR ctx) L (k r) lf:=by
 unfold To at e;split at e
 ·obtain⟨r,g,e⟩:=dO e;rw[Yt (ctx:=ctx) R gd st d o m]at g;exact⟨r,g,e⟩
 ·rename_i c l;obtain⟨j,e⟩:=FV e;obtain⟨r,g,e⟩:=dO e;exact⟨r,aDO l j g,e⟩
theorem z8{R gd:Bool}{st:St}{d:Nat}{ti:TI}{l y:Option Int}{x:A}{k:uM->X}(c:Ev (cR ctx) L (Tp h R gd st d ti l y x k) lf):∃r,zV h R gd st d ti l y x=some r/\Ev (cR ctx) L (k r) lf:=by
 unfold Tp at c;split at c
 ·rename_i r u p;obtain⟨G,c⟩:=uQ c;simp only[zV,G,cond_true];cases C:has h.pfx d with
  |true=>
   rw[C]at c;simp only[cond_true]at c⊢;split at c
   ·obtain⟨q,v,c⟩:=dO c;obtain⟨g,c⟩:=FV c;obtain⟨m,e,c⟩:=dO c;refine⟨m,?_,c⟩;unfold rv at e⊢;obtain⟨a,f,s⟩:=bind_some e;have:∀n,Qx R st ti.ek r u [] none (some n)=Qx R st ti.ek r u [] none (some n):=λ_=>rfl;simp only[Qx,v,Option.bind_some]at f⊢;obtain⟨t,j⟩:=aU f;simp only[t,cond_true];rw[yP g j];exact s
   ·obtain⟨q,v,c⟩:=dO c;obtain⟨g,c⟩:=FV c;obtain⟨m,e,c⟩:=dO c;refine⟨m,?_,c⟩;unfold rv at e⊢;obtain⟨a,f,s⟩:=bind_some e;simp only[Qx,v,Option.bind_some]at f⊢;obtain⟨t,j⟩:=aU f;simp only[t,cond_true];rw[yP g j];exact s
   ·simp[Ev]at c
  |false=>
   rw[C]at c;simp only[cond_false]at c⊢;cases F:has h.snap d with
   |true=>rw[F]at c;simp only[cond_true]at c⊢;obtain⟨q,v,c⟩:=dO c;obtain⟨g,c⟩:=FV c;simp only[Yp]at g;obtain⟨m,e,c⟩:=dO c;refine⟨m,?_,c⟩;unfold rv at e⊢;obtain⟨a,f,s⟩:=bind_some e;simp only[T9,v,Option.bind_some]at f⊢;obtain⟨t,j⟩:=aU f;simp only[t,cond_true];unfold Gu at j⊢;rw[yP g j];exact s
   |false=>
    rw[F]at c;simp only[cond_false]at c⊢;cases gd with
    |true=>simp[Ev]at c
    |false=>simp only[cond_false]at c⊢;obtain⟨q,v,c⟩:=dO c;obtain⟨g,c⟩:=FV c;obtain⟨e,c⟩:=uQ c;obtain⟨s1,f,c⟩:=dO c;refine⟨_,?_,c⟩;simp only[Yp]at g;simp only[rs,aE4,v,Option.bind_some,g,e,Bool.and_true,cond_true,f];rfl
 ·obtain⟨g,c⟩:=FV c;simp only[Yp]at g;obtain⟨m,e,c⟩:=dO c;refine⟨m,?_,c⟩;unfold rv at e;obtain⟨a,f,s⟩:=bind_some e;simp only[zV,rv];simp only[LR]at f⊢;obtain⟨t,j⟩:=aU f;simp only[t,cond_true];unfold Gu at j⊢;rw[yP g j];exact s
 ·obtain⟨g,c⟩:=FV c;simp only[Yp]at g;obtain⟨m,e,c⟩:=dO c;refine⟨m,?_,c⟩;unfold rv at e;obtain⟨a,f,s⟩:=bind_some e;simp only[zV,rv];simp only[LR]at f⊢;obtain⟨t,j⟩:=aU f;simp only[t,cond_true];rw[yP g j];exact s
 ·obtain⟨m,e,c⟩:=dO c;exact⟨m,by simp only[zV];exact e,c⟩
 ·simp[Ev]at c
theorem aCq{R gd:Bool}{st:St}{d:Nat}{t:TypeId}{x:A}{f e:Option A}{k:uM->X}(c:Ev (cR ctx) L (M3 E h R gd st d t x f e k) lf):∃r,UY E h R gd st d t x f e=some r/\Ev (cR ctx) L (k r) lf:=by unfold M3 at c;obtain⟨g,c⟩:=uQ c;obtain⟨ti,j,c⟩:=dO c;obtain⟨l,m,c⟩:=dO c;obtain⟨v,s,c⟩:=dO c;obtain⟨r,u,c⟩:=z8 c;exact⟨r,by simp only[UY,mE,g,cond_true,j,m,s,Option.bind_some,u],c⟩
theorem aFr{R gd:Bool}{st:St}{d:Nat}{op:BinOp}{t:TypeId}{x j:Operand}{l:TypeId}{k:uM->X}(g:Ev (cR ctx) L (aFo E h R gd st d (.binOp op t x j l) op t (eK st.sl x) (eK st.sl j) k) lf):∃r,rM E h ctx R gd st d (.binOp op t x j l)=some r/\Ev (cR ctx) L (k r) lf:=by
 unfold aFo at g;split at g
 ·rename_i dep e el xs hx y;obtain⟨m,g⟩:=uQ g;simp only[Ev]at g;rcases g with⟨_,g⟩ |⟨u,g⟩
  ·exact g.elim
  ·obtain⟨r,s,g⟩:=dO g;refine⟨r,?_,g⟩;cases xs with
   |nil=>simp[Yn]at u
   |cons z C=>simp only[hdD,List.tail_cons]at s;simp only[rM,mE];rw[hx]at m;rw[hx,y,m];simp only[cond_true,jI];exact s
 ·exact Yu (λc f v=>by simp at v) g
theorem aDP{gd:Bool}{st:St}{d:Nat}{t:TypeId}{a b:A}{k:uM->X}(c:Ev (cR ctx) L (aCj E h gd st d t a b k) lf):∃r,tL gd (Ri E h st d t a b)=some r/\Ev (cR ctx) L (k r) lf:=by
 unfold aCj at c;cases gd with
 |true=>simp[Ev]at c
 |false=>
  simp only[cond_false]at c;split at c
  ·obtain⟨ti,g,c⟩:=dO c;obtain⟨l,j,c⟩:=dO c;obtain⟨f,c⟩:=uQ c;obtain⟨e,c⟩:=FV c;refine⟨_,?_,c⟩;simp only[Bool.and_eq_true]at f e;simp only[tL,cond_false,Ri,e9,g,j,Option.bind_some,Rh,f.1,f.2,e.1,e.2.1,e.2.2,Bool.and_self,cond_true];rfl
  ·simp[Ev]at c
theorem aAa{st:St}{d:Nat}{t g:TypeId}{l:List Operand}{k:St->X}(c:Ev (cR ctx) L (Tq E st d t g l k) lf):∃s,PB E st d t g l=some s/\Ev (cR ctx) L (k s) lf:=by
 unfold Tq at c;split at c
 ·rename_i x y;split at c
  ·rename_i n e1 h;obtain⟨ti,j,c⟩:=dO c;obtain⟨u,m,c⟩:=dO c;obtain⟨v,r,c⟩:=dO c;obtain⟨e,c⟩:=uQ c;obtain⟨f,c⟩:=FV c;refine⟨_,?_,c⟩;simp only[Bool.and_eq_true]at e f;simp only[PB,e9,j,m,r,Option.bind_some,e1,h,Rm,Rl,e.1,e.2.1,e.2.2.1,e.2.2.2,f.1,f.2,Bool.and_self,cond_true];rfl
  ·simp[Ev]at c
 ·simp[Ev]at c
theorem Z5{R gd:Bool}{st:St}{d:Nat}{o:Op}{k:uM->X}(e:Ev (cR ctx) L (Y6 E h R gd st d o k) lf):∃r,rM E h ctx R gd st d o=some r/\Ev (cR ctx) L (k r) lf:=by
 unfold Y6 at e;split at e
 ·rename_i c;split at e
  ·rename_i f hf;obtain⟨r,g,e⟩:=x7 e;refine⟨r,?_,e⟩;simp only[rM,CY];rw[hf];exact g
  ·rename_i hf;cases gd with
   |true=>simp[Ev]at e
   |false=>
    simp only[cond_false]at e;split at e
    ·rename_i t y u;cases g:Nat.beq t y with
     |true=>rw[g]at e;simp only[cond_true]at e;obtain⟨s,j,e⟩:=Ys e;refine⟨_,?_,e⟩;simp only[rM,CY];rw[hf];simp only[jE,cond_false,u,g,cond_true,j,rs];rfl
     |false=>rw[g]at e;simp only[cond_false]at e;obtain⟨s,j,e⟩:=aAa e;refine⟨_,?_,e⟩;simp only[rM,CY];rw[hf];simp only[jE,cond_false,u,g,j,rs];rfl
    ·simp[Ev]at e
  ·rename_i hf _;obtain⟨r,g,e⟩:=dO e;rw[Yt (ctx:=ctx) R gd st d _ (λc' f l v=>by injection l with l;subst l;exact hf f v)]at g;exact⟨r,g,e⟩
 ·rename_i t n m;obtain⟨r,g,e⟩:=aDP e;exact⟨r,by simp only[rM];exact g,e⟩
 ·rename_i t p x;cases gd with
  |true=>simp[Ev]at e
  |false=>simp only[cond_false]at e;obtain⟨n,g,e⟩:=dO e;obtain⟨s,j,e⟩:=M6 e;exact⟨_,by simp only[rM,tL,cond_false,g,Option.bind_some,j,rs];rfl,e⟩
 ·obtain⟨r,g,e⟩:=aCq e;exact⟨r,by simp only[rM];exact g,e⟩
 ·exact aFr e
 ·rename_i g j C F G;exact Yu (λc f l=>(g c l).elim) e
theorem XF{i:Nat}{o:Oper}{s:RS}{R gd:Bool}{G:List (Nat×Bool)}{k:RS->X}(c:Ev (cR ctx) L (JQ E h i o s R gd G k) lf):∃e,CM E h ctx i o s R gd G=some e/\Ev (cR ctx) L (k e) lf:=by
 unfold JQ at c;unfold CM;split at c
 ·rename_i d hd;obtain⟨r,f,c⟩:=Z5 c;obtain⟨e,g,c⟩:=dO c;exact⟨e,by simp only[hd,f,Option.bind_some,g],c⟩
 ·rename_i hd;cases gd with
  |true=>simp[Ev]at c
  |false=>simp only[cond_false]at c;obtain⟨r,f,c⟩:=Z5 c;obtain⟨e,g,c⟩:=dO c;exact⟨e,by simp only[hd,cond_false,f,Option.bind_some,g],c⟩
variable{Tb:BT jG}{it:InX}
def oY(E:fC)(ctx:sJ)(L:Nat->St->Nat->LD->Prop)(Tb:BT jG)(it:InX):Prop:=
 ∀q s st kk lf,Tb.look q=some s->Ev (λm xs x bs=>ctx m xs=some (x,bs)) L (it q st kk) lf->∃g r,E.ic ctx q=some g/\g.fn=s.fn/\g.np=s.np/\g.run st=some r/\Ev (λm xs x bs=>ctx m xs=some (x,bs)) L (kk r) lf
theorem M7(t:oY E ctx L Tb it){i:Nat}{o:Oper}{s:RS}{d:Nat}{q:e8}{k:RS->X}(e:Ev (cR ctx) L (Jd Tb it i o s d q k) lf):∃h,VE E ctx i o s d q=some h/\Ev (cR ctx) L (k h) lf:=by
 unfold Jd at e;unfold VE;split at e
 ·rename_i c v;split at e
  ·rename_i f hf;split at e
   ·rename_i n caps u;obtain⟨H,j,e⟩:=dO e;obtain⟨l,e⟩:=uQ e;unfold aCk at e;obtain⟨m,e⟩:=uQ e;obtain⟨g,r,y,C,F,G,e⟩:=t _ _ _ _ _ j e;refine⟨_,?_,e⟩;rw[v];simp only[hf,u,oM,y,Option.bind_some,C,l,cond_true,aBo,F,m,G];rfl
   ·simp[Ev]at e
  ·simp[Ev]at e
 ·simp[Ev]at e
theorem Ji(r:oY E ctx L Tb it){i:Nat}{o:Oper}{s:RS}{R gd:Bool}{G:List (Nat×Bool)}{k:RS->X}(d:Ev (cR ctx) L (XC E h Tb it i o s R gd G k) lf):∃e,BR E h ctx i o s R gd G=some e/\Ev (cR ctx) L (k e) lf:=by
 unfold XC at d;unfold BR;cases m:LH h o with
 |none=>
  rw[m]at d;simp only at d⊢;cases j:ckP h i o with
  |nil=>rw[j]at d;exact XF d
  |cons c l=>
   rw[j]at d;simp only at d⊢;cases gd with
   |true=>simp[Ev]at d
   |false=>
    simp only[cond_false]at d⊢;obtain⟨e,f,d⟩:=XF d;simp only[Ev]at d;rcases d with⟨g,d⟩ |⟨_,d⟩
    ·exact⟨e,by simp only[f,Option.bind_some,ckS,g,cond_true,ok],d⟩
    ·exact d.elim
 |some q=>
  rw[m]at d;simp only at d⊢;cases gd with
  |true=>simp[Ev]at d
  |false=>simp only[cond_false]at d⊢;obtain⟨e,f,d⟩:=M7 r d;obtain⟨g,d⟩:=uQ d;exact⟨e,by simp only[f,Option.bind_some,ckS,g,cond_true,ok],d⟩
theorem aAb(j:oY E ctx L Tb it){i:Nat}{o:Oper}{s:RS}{k:RS->X}(c:Ev (cR ctx) L (Ts E h Tb it i o s k) lf):∃d,SE E h ctx i o s=some d/\Ev (cR ctx) L (k d) lf:=by
 unfold Ts at c;unfold SE;split at c
 ·rename_i hg;obtain⟨e,c⟩:=uQ c;obtain⟨d,f,c⟩:=Ji j c;exact⟨d,by simp only[hg,e,cond_true,f],c⟩
 ·rename_i p hg;obtain⟨g,e,c⟩:=dO c;unfold Y7 at c;obtain⟨f,c⟩:=uQ c;obtain⟨d,l,c⟩:=Ji j c;exact⟨d,by simp only[hg,e,oM,Option.bind_some,Rp,f,cond_true,l],c⟩
theorem Jj(d:oY E ctx L Tb it){k:RS->X}:∀(l:List (Nat×Oper)){s:RS},Ev (cR ctx) L (XD E h Tb it k l s) lf->∃e,IS E h ctx l s=some e/\Ev (cR ctx) L (k e) lf
 |[],s,c=>⟨s,rfl,c⟩
 |p::l,s,c=>by simp only[XD]at c;obtain⟨s1,f,c⟩:=aAb d c;obtain⟨j,g,c⟩:=Jj d l c;exact⟨j,by simp only[IS,f,Option.bind_some,g],c⟩
theorem M8(e:oY E ctx L Tb it){ops:List (Nat×Oper)}{st:St}{k:Ex×St->X}(c:Ev (cR ctx) L (aCl E h Tb it ops st k) lf):∃r,YX E h ctx ops st=some r/\Ev (cR ctx) L (k r) lf:=by unfold aCl at c;obtain⟨s,d,c⟩:=Jj e ops c;exact⟨_,by simp only[YX,d,Option.bind_some];rfl,c⟩
theorem Z6(d:oY E ctx L Tb it){id:Nat}{ops:Array Oper}{st:St}{r:Ex×St}{k:Ex×St->X}:∀(os:List (List Nat)),Ev (cR ctx) L (Y8 E h Tb it id ops st r k os) lf->∃q,Cj E h ctx id ops st r os=some q/\Ev (cR ctx) L (k q) lf
 |[],c=>⟨r,rfl,c⟩
 |o::os,c=>by
  simp only[Y8]at c;obtain⟨q,e,c⟩:=M8 d c;obtain⟨m,f,c⟩:=dO c;simp only[Ev]at c;rcases c with⟨g,c⟩ |⟨_,c⟩
  ·obtain⟨l,j,c⟩:=Z6 d os c;exact⟨l,by simp only[Cj,e,Option.bind_some,f,g,cond_true,j],c⟩
  ·exact c.elim
theorem Z7(e:oY E ctx L Tb it){id:Nat}{ops:Array Oper}{st:St}{r:Ex×St}{k:Ex×St->X}(c:Ev (cR ctx) L (Y9 E h Tb it id ops st r k) lf):
  ∃q,(match Ci h id with
   |none=>ok r
   |some q=>Cj E h ctx id ops st r q.2)=some q/\Ev (cR ctx) L (k q) lf:=by
 unfold Y9 at c;cases d:Ci h id with
 |none=>rw[d]at c;exact⟨r,rfl,c⟩
 |some q=>rw[d]at c;exact Z6 e q.2 c
def sQ(Q:Nat->Code->Prop):Nat->Code->Prop
 |b,.seq x c=>sQ Q b x/\sQ Q b c
 |b,.cond _ x c=>sQ Q b x/\sQ Q b c
 |_,.block id x=>sQ Q id x
 |b,.loop x=>Q b x
 |b,.scope x=>sQ Q b x
 |_,_=>True
variable{T:Nat->List (LD->Ex×St)}{k:Nat}
def XG(E:fC)(h:fI)(ctx:sJ)(k:Nat)(L:Nat->St->Nat->LD->Prop)(lb:Nat)(T:Nat->List (LD->Ex×St))(b:Nat)(x:Code):Prop:=
 ∀st s i ds t,FL (look h.heads b) st=some s->L (lb+b) s i ds->(T (lb+b))[i]?=some t->FM E h ctx k b (.loop x) st=some (t ds)
theorem Z8{kk:Ex×St->X}{ds:LD}:∀(ts:List (LD->Ex×St))(i:Nat),My (λm xs x bs=>ctx m xs=some (x,bs)) L (Pf kk ts) i ds lf->∃t,ts[i]?=some t/\Ev (cR ctx) L (kk (t ds)) lf
 |[],i,c=>by simp[Pf,My]at c
 |t::ts,0,c=>⟨t,rfl,by simpa[Pf,My]using c⟩
 |t::ts,i+1,c=>by simp only[Pf,My]at c;exact Z8 ts i c
theorem JR(g:oY E ctx L Tb it){lb:Nat}:∀(c:Code){b:Nat}{st:St}{kk:Ex×St->X},sQ (XG E h ctx k L lb T) b c->Ev (cR ctx) L (GR E h Tb it lb T b c st kk) lf->∃r,FM E h ctx k b c st=some r/\Ev (cR ctx) L (kk r) lf
 |.skip,b,st,kk,_,d=>⟨_,rfl,d⟩
 |.region id ops C,b,st,kk,_,d=>by simp only[GR]at d;obtain⟨r,j,d⟩:=M8 g d;obtain⟨v,l,d⟩:=dO d;obtain⟨y,m,d⟩:=Z7 g d;exact⟨y,by simp only[FM,Wl,j,Option.bind_some,l];exact m,d⟩
 |.seq x u,b,st,kk,f,d=>by
  simp only[GR]at d;obtain⟨r,j,d⟩:=JR g x f.1 d;simp only[FM,j,Option.bind_some];unfold Z1 at d;unfold Oc;obtain⟨e,s⟩:=r;cases e with
  |norm=>exact JR g u f.2 d
  |ret=>exact⟨_,rfl,d⟩
  |exit id=>exact⟨_,rfl,d⟩
 |.cond c x u,b,st,kk,f,d=>by
  simp only[GR]at d;simp only[FM];unfold Z0 at d;unfold U5;cases hv:eK st.sl c with
  |bool t=>
   rw[hv]at d;simp only[Ev]at d;rcases d with⟨rfl,d⟩ |⟨rfl,d⟩
   ·simp only[cond_true];exact JR g x f.1 d
   ·simp only[cond_false];exact JR g u f.2 d
  |_=>rw[hv]at d;simp[Ev]at d
 |.block id x,b,st,kk,f,d=>by simp only[GR]at d;obtain⟨r,j,d⟩:=JR g x (b:=id) f d;obtain⟨v,l,d⟩:=dO d;exact⟨v,by simp only[FM,j,Option.bind_some,l],d⟩
 |.loop x,b,st,kk,f,d=>by simp only[GR]at d;obtain⟨s,j,d⟩:=dO d;simp only[Ev]at d;obtain⟨i,ds,l,d⟩:=d;obtain⟨t,m,d⟩:=Z8 _ _ d;exact⟨_,f st s i ds t j l m,d⟩
 |.exit id,b,st,kk,_,d=>⟨_,rfl,d⟩
 |.ret,b,st,kk,_,d=>⟨_,rfl,d⟩
 |.rangeFunc ..,_,_,_,_,d=>by simp[GR,Ev]at d
 |.scope x,b,st,kk,f,d=>by simp only[GR]at d;simp only[FM];exact JR g x (b:=b) f d
 |.label _,b,st,kk,_,d=>⟨_,rfl,d⟩
 |.goto _,_,_,_,_,d=>by simp[GR,Ev]at d
 |.refuse _,_,_,_,_,d=>by simp[GR,Ev]at d
theorem aCr(l:oY E ctx L Tb it){lb b:Nat}{x:Code}{s:St}(m:sQ (XG E h ctx k L lb T) b x)(c:Ev (cR ctx) L (ZZ E h Tb it lb T b x s) lf):
  (∃s1 f,FM E h ctx k b x s=some (.norm,s1)/\FL (look h.heads b) s1=some f/\lf=.again f)\/
  (∃r t,FM E h ctx k b x s=some r/\(∀g,DC g r=some r)/\Wj (look h.ends b) r=some t/\lf=.out t):=by
 unfold ZZ at c;obtain⟨r,j,c⟩:=JR l x m c;obtain⟨e,s1⟩:=r;cases e with
 |norm=>obtain⟨f,d,c⟩:=dO c;exact .inl ⟨s1,f,j,d,c⟩
 |ret=>obtain⟨t,d,c⟩:=dO c;exact .inr ⟨_,t,j,λ_=>rfl,d,c⟩
 |exit id=>obtain⟨t,d,c⟩:=dO c;exact .inr ⟨_,t,j,λ_=>rfl,d,c⟩
theorem Z9(m:oY E ctx L Tb it){f:Func}{c:Code}{s:CV}{ds:LD}(t:sQ (XG E h ctx k L 0 T) 0 c)(d:Ev (cR ctx) L (Pg E h Tb it T f c s ds) lf):∃r:D×LD,Ck E ctx k f c s h ds=some r/\lf=.ret r.1 r.2:=by unfold Pg at d;obtain⟨st,g,d⟩:=dO d;obtain⟨r,j,d⟩:=JR m c t d;obtain⟨q,l,d⟩:=dO d;refine⟨q,?_,d⟩;unfold Ck;rw[g];simp only[Option.bind_some];unfold HD;rw[j];simp only[Option.bind_some];obtain⟨e,u⟩:=r;cases e<;>exact l
end
end Go.Eng

namespace Go.Eng
def iQ(E:fC)(B:jR)(Tb:BT jG)(m:Nat)(xs:LD)(x:D)(bs:LD):Prop:=∃N,∀k n L,N<=k->N<=n->N<=L->qN (tJ E k Tb L) B (Dq E) k n m xs=some (x,bs)
structure FD where
 f:Func
 h:fI
 c:Code
 s:CV
 F:Fn
 S:aCm
 T:x4
def Fn.lp(F:Fn)(b:Nat)(p:LD):Sh:=
 match look F.lps b with
 |some g=>g p
 |none=>.bad
def a8(E:fC)(h:fI)(ctx:sJ)(k b:Nat)(x:Code)(q:Nat)(s:St):M (Ex×St):=
 ((FM E h ctx k b x s).bind (DC (MB (FM E h ctx k b x) (FL (Go.Eng.look h.heads b)) q))).bind (Wj (Go.Eng.look h.ends b))
structure LAt where
 h:fI
 c:Code
 b:Nat
 lb:Nat
def kW(d:FD)(Tb:BT jG)(n:Nat):LAt:=
 bif Nat.ble 1000 n then
  match Tb.look (n/1000-1)with
  |some s=>⟨s.h,s.c,n%1000,n/1000*1000⟩
  |none=>⟨d.h,d.c,n,0⟩
 else⟨d.h,d.c,n,0⟩
def QS(E:fC)(B:jR)(Tb:BT jG)(d:FD)(b:Nat)(ps:LD)(i:Nat)(ds:LD):Prop:=
 ∃N,∀k n q L L0,N<=k->N<=n->N<=q->N<=L->N<=L0->a8 (tJ E k Tb L) (kW d Tb b).h (qN (tJ E k Tb L0) B (Dq E) k n) k (kW d Tb b).b (tT (kW d Tb b).b (kW d Tb b).c) q (Tt d.S b ps)=some (Ph d.T b (i,ds))
abbrev XH:Nat:=4
def NH(c:Code):Prop:=∃bs:List Nat,cM 0 c=bs.map (λb=>(b,tT b c))/\CS (λb=>Nat.ble (b+1) 1000) bs=true
def siteLoopB(Tb:BT jG)(n:Nat):Bool:=
 match Tb.look (n/1000-1)with
 |some s=>has ((cM 0 s.c).map λq=>q.1) (n%1000)
 |none=>false
structure BY(E:fC)(B:jR)(Tb:BT jG)(m:Nat)(d:FD):Prop where
 look:B.look m=some (d.f,d.h)
 sig:E.sg.look m=some d.s
 body:d.f.body=some d.c
 loops:cM 0 d.c=d.F.bs.map λb=>(b,tT b d.c)
 small:CS (λb=>Nat.ble (b+1) 1000) d.F.bs=true
 sub:CS (λq=>Nat.ble 1000 q.1||has d.F.bs q.1) d.F.lps=true
 sites:∀q s,Tb.look q=some s->NH s.c
 inSite:CS (λq=>Nat.ble (q.1+1) 1000||siteLoopB Tb q.1) d.F.lps=true
 ns:Nat.beq m E.srt=false
 main:∀x,Pg E d.h Tb (itN E Tb (n7 d.T) XH) (n7 d.T) d.f d.c d.s (Jb x 0 d.F.np)=(d.F.main x).up d.S d.T 0
 round:∀b g,Go.Eng.look d.F.lps b=some g->∀p,ZZ E (kW d Tb b).h Tb (itN E Tb (n7 d.T) XH) (kW d Tb b).lb (n7 d.T) (kW d Tb b).b (tT (kW d Tb b).b (kW d Tb b).c) (Tt d.S b p)=(g p).up d.S d.T b
theorem aCs{α:Type}{Q:Nat->α->Prop}:∀b g,look ([]:List (Nat×α)) b=some g->Q b g:=λb g h=>by simp[look]at h
theorem M9{α:Type}{Q:Nat->α->Prop}{b0:Nat}{d:α}{l:List (Nat×α)}(e:Q b0 d)(f:∀b g,look l b=some g->Q b g):∀b g,look ((b0,d)::l) b=some g->Q b g:=λb g h=>by
 simp only[look]at h;cases c:Nat.beq b0 b with
 |true=>rw[c]at h;simp only[cond_true,Option.some.injEq]at h;rw[<-Nat.eq_of_beq_eq_true c,<-h];exact e
 |false=>rw[c]at h;exact f b g h
section
variable{E:fC}{B:jR}{Tb:BT jG}{d:FD}
def Lf.up(S:aCm)(T:x4)(b0:Nat):Lf (LD) (Nat×LD)->Lf St (Ex×St)
 |.ret x bs=>.ret x bs
 |.again ps=>.again (Tt S b0 ps)
 |.out t=>.out (Ph T b0 t)
def LK(E:fC)(B:jR)(Tb:BT jG)(d:FD)(N k n L0:Nat)(b:Nat)(s:St)(i:Nat)(ds:LD):Prop:=
 ∀L st,N<=L->FL (look (kW d Tb b).h.heads (kW d Tb b).b) st=some s->FM (tJ E k Tb L) (kW d Tb b).h (qN (tJ E k Tb L0) B (Dq E) k n) k (kW d Tb b).b (.loop (tT (kW d Tb b).b (kW d Tb b).c)) st=some (Ph d.T b (i,ds))
theorem QS.LK{b:Nat}{ps:LD}{i:Nat}{ds:LD}(h:QS E B Tb d b ps i ds):∃N,∀M k n L0,N<=M->N<=k->N<=n->N<=L0->LK E B Tb d M k n L0 b (Tt d.S b ps) i ds:=by obtain⟨N,e⟩:=h;refine⟨N+1,λM k n L0 l m r j L st g f=>?_⟩;obtain⟨c,rfl⟩:∃c,k=c+1:=⟨k-1,by omega⟩;have:=e (c+1) n c L L0 (by omega) (by omega) (by omega) (by omega) (by omega);unfold a8 at this;simp only[FM,MB];rw[f];simp only[Option.bind_some];exact this
abbrev rO(E:fC)(B:jR)(Tb:BT jG)(d:FD)(t:Sh)(lf:Lf (LD) (Nat×LD)):Prop:=Ev (iQ E B Tb) (QS E B Tb d) t lf
abbrev EvK(E:fC)(B:jR)(Tb:BT jG)(d:FD)(M k n L:Nat)(t:X)(lf:Lf St (Ex×St)):Prop:=Ev (λm xs x bs=>qN (tJ E k Tb L) B (Dq E) k n m xs=some (x,bs)) (LK E B Tb d M k n L) t lf
mutual
theorem trans(b0:Nat):∀(t:Sh){lf:Lf (LD) (Nat×LD)},rO E B Tb d t lf->∃N,∀M k n L,N<=M->N<=k->N<=n->N<=L->EvK E B Tb d M k n L (t.up d.S d.T b0) (lf.up d.S d.T b0)
 |.ret x bs,lf,c=>by simp only[rO,Ev]at c;subst c;exact⟨0,λM k n L _ _ _ _=>by simp only[Sh.up,IX.map,Lf.up,EvK,Ev]⟩
 |.again s,lf,c=>by simp only[rO,Ev]at c;subst c;exact⟨0,λM k n L _ _ _ _=>by simp only[Sh.up,IX.map,Lf.up,EvK,Ev]⟩
 |.out t,lf,c=>by simp only[rO,Ev]at c;subst c;exact⟨0,λM k n L _ _ _ _=>by simp only[Sh.up,IX.map,Lf.up,EvK,Ev]⟩
 |.bad,lf,c=>by simp[rO,Ev]at c
 |.ask b p q,lf,c=>by
  simp only[rO,Ev]at c;rcases c with⟨e,c⟩ |⟨e,c⟩
  ·obtain⟨N,f⟩:=trans b0 p c;exact⟨N,λM k n L h j l g=>by simp only[Sh.up,IX.map,EvK,Ev];exact .inl ⟨e,f M k n L h j l g⟩⟩
  ·obtain⟨N,f⟩:=trans b0 q c;exact⟨N,λM k n L h j l g=>by simp only[Sh.up,IX.map,EvK,Ev];exact .inr ⟨e,f M k n L h j l g⟩⟩
 |.call m xs nb kk,lf,c=>by simp only[rO,Ev]at c;obtain⟨x,bs,⟨r,e⟩,u,c⟩:=c;obtain⟨N,f⟩:=trans b0 (kk x bs) c;exact⟨max N r,λM k n L h j l g=>by simp only[Sh.up,IX.map,EvK,Ev];exact⟨x,bs,e k n L (by omega) (by omega) (by omega),u,f M k n L (by omega) (by omega) (by omega) (by omega)⟩⟩
 |.loop b s ks,lf,c=>by simp only[rO,Ev]at c;obtain⟨i,ds,e,c⟩:=c;obtain⟨r,e⟩:=e.LK;obtain⟨N,f⟩:=aCt b0 ks c;exact⟨max N r,λM k n L h j l g=>by simp only[Sh.up,IX.map,EvK,Ev];exact⟨i,ds,e M k n L (by omega) (by omega) (by omega) (by omega),f M k n L (by omega) (by omega) (by omega) (by omega)⟩⟩
theorem aCt(b0:Nat):∀(ks:Tg (LD) (Nat×LD)){i:Nat}{ds:LD}{lf:Lf (LD) (Nat×LD)},My (iQ E B Tb) (QS E B Tb d) ks i ds lf->∃N,∀M k n L,N<=M->N<=k->N<=n->N<=L->My (λm xs x bs=>qN (tJ E k Tb L) B (Dq E) k n m xs=some (x,bs)) (LK E B Tb d M k n L) (ks.map (Tt d.S) b0 (Ph d.T b0)) i ds (lf.up d.S d.T b0)
 |.nil,i,ds,lf,c=>by simp[My]at c
 |.cons kk ks,0,ds,lf,c=>by simp only[My]at c;obtain⟨N,g⟩:=trans b0 (kk ds) c;exact⟨N,λM k n L f h j e=>by simp only[Tg.map,My];exact g M k n L f h j e⟩
 |.cons kk ks,i+1,ds,lf,c=>by simp only[My]at c;obtain⟨N,g⟩:=aCt b0 ks c;exact⟨N,λM k n L f h j e=>by simp only[Tg.map,My];exact g M k n L f h j e⟩
end
theorem lI{Q:Nat->Code->Prop}:∀(c:Code)(b:Nat),(∀q∈cM b c,Q q.1 q.2)->sQ Q b c
 |.seq x e,b,h=>⟨lI x b λq d=>h q (by simp[cM,d]),lI e b λq d=>h q (by simp[cM,d])⟩
 |.cond c x e,b,h=>⟨lI x b λq d=>h q (by simp[cM,d]),lI e b λq d=>h q (by simp[cM,d])⟩
 |.block id x,b,h=>lI x id h
 |.loop x,b,h=>h (b,x) (by simp[cM])
 |.skip,_,_=>trivial
 |.region ..,_,_=>trivial
 |.exit _,_,_=>trivial
 |.ret,_,_=>trivial
 |.rangeFunc ..,_,_=>trivial
 |.scope x,b,h=>lI x b h
 |.label _,_,_=>trivial
 |.goto _,_,_=>trivial
 |.refuse _,_,_=>trivial
theorem qU:∀(c:Code)(b:Nat)(q:Nat×Code),q∈cM b c->∀e∈cM q.1 q.2,e∈cM b c
 |.seq x g,b,q,d,e,f=>by
  simp only[cM,List.mem_append]at d⊢;rcases d with d |d
  ·exact .inl (qU x b q d e f)
  ·exact .inr (qU g b q d e f)
 |.cond c x g,b,q,d,e,f=>by
  simp only[cM,List.mem_append]at d⊢;rcases d with d |d
  ·exact .inl (qU x b q d e f)
  ·exact .inr (qU g b q d e f)
 |.block id x,b,q,d,e,f=>qU x id q d e f
 |.loop x,b,q,d,e,f=>by
  simp only[cM,List.mem_cons]at d⊢;rcases d with rfl |d
  ·exact .inr f
  ·exact .inr (qU x b q d e f)
 |.skip,_,_,d,_,_=>by simp[cM]at d
 |.region ..,_,_,d,_,_=>by simp[cM]at d
 |.exit _,_,_,d,_,_=>by simp[cM]at d
 |.ret,_,_,d,_,_=>by simp[cM]at d
 |.rangeFunc ..,_,_,d,_,_=>by simp[cM]at d
 |.scope x,b,q,d,e,f=>qU x b q d e f
 |.label _,_,_,d,_,_=>by simp[cM]at d
 |.goto _,_,_,d,_,_=>by simp[cM]at d
 |.refuse _,_,_,d,_,_=>by simp[cM]at d
theorem aDQ(E:fC)(k:Nat)(T:BT jG):∀n,GR (tJ E k T n)=GR E
 |0=>by kernel_rfl
 |n+1=>by kernel_rfl
theorem aAc(E:fC)(k:Nat)(T:BT jG):∀n,ZZ (tJ E k T n)=ZZ E
 |0=>by kernel_rfl
 |n+1=>by kernel_rfl
theorem Yv(E:fC)(k:Nat)(T:BT jG):∀n,Pg (tJ E k T n)=Pg E
 |0=>by kernel_rfl
 |n+1=>by kernel_rfl
theorem Jk(E:fC)(k:Nat)(T:BT jG):∀n,jM (tJ E k T n)=jM E
 |0=>by kernel_rfl
 |n+1=>by kernel_rfl
theorem Tv{n:Nat}(h:n<1000):kW d Tb n=⟨d.h,d.c,n,0⟩:=by
 unfold kW;cases c:Nat.ble 1000 n with
 |true=>have:=Nat.le_of_ble_eq_true c;omega
 |false=>rfl
theorem Tw{q b:Nat}{s:jG}(e:Tb.look q=some s)(f:b<1000):kW d Tb (1000*(q+1)+b)=⟨s.h,s.c,b,1000*(q+1)⟩:=by
 unfold kW;rw[Nat.ble_eq_true_of_le (show 1000<=1000*(q+1)+b by omega)];simp only[cond_true];have e1:(1000*(q+1)+b)/1000=q+1:=by omega
 have c:(1000*(q+1)+b)%1000=b:=by omega
 rw[e1,c,Nat.add_sub_cancel,e];simp only[LAt.mk.injEq,true_and];omega
theorem Fz{h:fI}{c:Code}{lb M k n L0 L:Nat}(m:M<=L)(f:∀b,b<1000->kW d Tb (lb+b)=⟨h,c,b,lb⟩){bs:List Nat}(u:cM 0 c=bs.map λb=>(b,tT b c))(v:CS (λb=>Nat.ble (b+1) 1000) bs=true){q:Nat×Code}(e:q∈cM 0 c):
  XG (tJ E k Tb L) h (qN (tJ E k Tb L0) B (Dq E) k n) k (LK E B Tb d M k n L0) lb (n7 d.T) q.1 q.2:=by
 rw[u]at e;simp only[List.mem_map]at e;obtain⟨b,r,rfl⟩:=e;have y:=Nat.le_of_ble_eq_true (JG v b r);intro st s i ds t g j l;have:=j L st m (by rw[f b (by omega)];exact g);rw[f b (by omega)]at this;simp only[Ph]at this;simp only;rw[this];simp[List.getD_eq_getElem?_getD,l]
theorem XI(j:∀q s,Tb.look q=some s->NH s.c){M k n L0:Nat}:∀(D L:Nat),M+D<=L->oY (tJ E k Tb L) (qN (tJ E k Tb L0) B (Dq E) k n) (LK E B Tb d M k n L0) Tb (itN E Tb (n7 d.T) D)
 |0,L,_=>λq s st kk lf _ c=>by simp[itN,Ev]at c
 |D+1,L,H=>by
  obtain⟨e,rfl⟩:∃e,L=e+1:=⟨L-1,by omega⟩;have G:=XI j (M:=M) (k:=k) (n:=n) (L0:=L0) D e (by omega);intro q s st kk lf h c;simp only[itN,h]at c;obtain⟨bs,v,y⟩:=j q s h;rw[<-aDQ E k Tb e]at c;obtain⟨r,t,c⟩:=JR G (k:=k) s.c (lI _ _ λJ F=>Fz (L:=e) (by omega) (λb u=>Tw h u) v y F) c;obtain⟨ex,st1⟩:=r;have C:∃as,jM E st1 s.f.results.toList=some as/\(ex=.norm\/ex=.ret)/\Ev (λm xs x bs=>qN (tJ E k Tb L0) B (Dq E) k n m xs=some (x,bs)) (LK E B Tb d M k n L0) (kk (ZU as,st1)) lf:=by
   cases ex with
   |norm=>obtain⟨as,f,g⟩:=dO c;exact⟨as,f,.inl rfl,g⟩
   |ret=>obtain⟨as,f,g⟩:=dO c;exact⟨as,f,.inr rfl,g⟩
   |exit id=>simp[Ev]at c
  obtain⟨as,f,g,l⟩:=C;refine⟨{fn:=s.fn,np:=s.np,run:=TC (tJ E k Tb e) (qN (tJ E k Tb L0) B (Dq E) k n) k s},(ZU as,st1),by simp[tJ,aDI,h],rfl,rfl,?_,l⟩;simp only[TC];rw[t];simp only[Option.bind_some];rw[Jk,f];rcases g with rfl |rfl<;>rfl
theorem bA{m:Nat}(c:BY E B Tb m d)(hf:d.h.fork=false){xs:LD}{x:D}{bs:LD}(hx:Jb xs 0 d.F.np=xs)(t:rO E B Tb d (d.F.main xs) (.ret x bs)):iQ E B Tb m xs x bs:=by obtain⟨N,l⟩:=trans 0 _ t;refine⟨N+XH+1,λk n L y C v=>?_⟩;obtain⟨n',rfl⟩:∃n',n=n'+1:=⟨n-1,by omega⟩;have f:=l N k n' L (by omega) (by omega) (by omega) (by omega);rw[<-c.main,hx,<-Yv E k Tb L]at f;obtain⟨r,h,e⟩:=Z9 (XI c.sites XH L (by omega)) (k:=k) (lI _ _ λq u=>Fz (L:=L) (by omega) (λb s=>by rw[Nat.zero_add];exact Tv s) c.loops c.small u) f;simp only[Lf.up]at e;injection e with e j;have g:=c.sig;rw[<-DV E k Tb L]at g;simp only[qN,Dq,c.ns,cond_false,c.look,g,c.body,hf,cond_false,h,e,j]
theorem aDR{m:Nat}(c:BY E B Tb m d)(hf:d.h.fork=true){t:TypeId}(J:d.s.ps=[(t,.ro)]){l:LD}{x:D}{bs:LD}(hx:d.F.np=1)
  (u:∀st,eY E 0 d.s.ps [.l l] {sl:=.nil,bx:=[],ar:=[],ctr:=1}=some st->∀g,Rs g st (st.sl.get 0)=g st)(H:rO E B Tb d (d.F.main [.l l]) (.ret x bs)):iQ E B Tb m [.l l] x bs:=by
 obtain⟨N,F⟩:=trans 0 _ H;refine⟨N+XH+1,λk n L Q T P=>?_⟩;obtain⟨n',rfl⟩:∃n',n=n'+1:=⟨n-1,by omega⟩;have h:=F N k n' L (by omega) (by omega) (by omega) (by omega);rw[<-c.main,hx,<-Yv E k Tb L]at h;have e:Jb [D.l l] 0 1=[.l l]:=rfl;rw[e]at h;obtain⟨r,v,f⟩:=Z9 (XI c.sites XH L (by omega)) (k:=k) (lI _ _ λq K=>Fz (L:=L) (by omega) (λb G=>by rw[Nat.zero_add];exact Tv G) c.loops c.small K) h;simp only[Lf.up]at f;injection f with f y;have s:=c.sig;rw[<-DV E k Tb L]at s;simp only[qN,Dq,c.ns,cond_false,c.look,s,c.body,hf,cond_true];have C:Wm (tJ E k Tb L) (qN (tJ E k Tb L) B (Dq E) k n') k d.f d.c d.s d.h [.l l]=Ck (tJ E k Tb L) (qN (tJ E k Tb L) B (Dq E) k n') k d.f d.c d.s d.h [.l l]:=by
  unfold Wm Ck;rw[J]at u⊢;simp only;cases j:eY (tJ E k Tb L) 0 [(t,PM.ro)] [D.l l] {sl:=.nil,bx:=[],ar:=[],ctr:=1}with
  |none=>rfl
  |some st=>rw[Iz]at j;simp only[Option.bind_some];exact u st j _
 rw[C,v,f,y]
theorem aDS{F:Fn}{b:Nat}{g:LD->Sh}(h:look F.lps b=some g):(b,g)∈F.lps:=by
 have:∀l:List (Nat×(LD->Sh)),look l b=some g->(b,g)∈l:=by
  intro l;induction l with
  |nil=>intro h;simp[look]at h
  |cons p l e=>
   intro h;simp only[look]at h;cases c:Nat.beq p.1 b with
   |true=>
    rw[c]at h;simp only[cond_true,Option.some.injEq]at h;have d:=Nat.eq_of_beq_eq_true c;have:p=(b,g):=by rw[<-d,<-h]
    rw[this];exact List.mem_cons_self
   |false=>rw[c]at h;exact List.mem_cons_of_mem _ (e h)
 exact this _ h
theorem BY.at{m:Nat}(h:BY E B Tb m d){n:Nat}(r:1000<=n){g:LD->Sh}(hg:(n,g)∈d.F.lps):∃(s:jG)(bs:List Nat),Tb.look (n/1000-1)=some s/\cM 0 s.c=bs.map (λb=>(b,tT b s.c))/\n%1000∈bs:=by
 have c:=JG h.inSite _ hg;simp only[Bool.or_eq_true]at c;rcases c with c |c
 ·have:=Nat.le_of_ble_eq_true c;omega
 ·unfold siteLoopB at c;split at c
  ·rename_i s j;obtain⟨bs,f,l⟩:=h.sites _ s j;refine⟨s,bs,j,f,?_⟩;rw[f]at c;have e:(bs.map (λb=>(b,tT b s.c))).map (λq=>q.1)=bs:=by
    rw[List.map_map];exact List.map_id'' (λ_=>rfl) _
   rw[e]at c;exact JK.1 c
  ·simp at c
theorem aCu{m:Nat}(c:BY E B Tb m d){b:Nat}{ps:LD}{lf:Lf (LD) (Nat×LD)}(F:rO E B Tb d (d.F.lp b ps) lf):∃N,∀k n L L0,N<=k->N<=n->N<=L->N<=L0->
  (∃s1 H,FM (tJ E k Tb L) (kW d Tb b).h (qN (tJ E k Tb L0) B (Dq E) k n) k (kW d Tb b).b (tT (kW d Tb b).b (kW d Tb b).c) (Tt d.S b ps)=some (.norm,s1)/\FL (look (kW d Tb b).h.heads (kW d Tb b).b) s1=some H/\lf.up d.S d.T b=.again H)\/
  (∃r t,FM (tJ E k Tb L) (kW d Tb b).h (qN (tJ E k Tb L0) B (Dq E) k n) k (kW d Tb b).b (tT (kW d Tb b).b (kW d Tb b).c) (Tt d.S b ps)=some r/\(∀g,DC g r=some r)/\Wj (look (kW d Tb b).h.ends (kW d Tb b).b) r=some t/\lf.up d.S d.T b=.out t):=by
 obtain⟨N,U⟩:=trans b _ F;refine⟨N+XH,λk n L L0 a9 b0 a6 a7=>?_⟩;have y:=U N k n L0 (by omega) (by omega) (by omega) (by omega);cases f:look d.F.lps b with
 |none=>simp only[Fn.lp,f,rO,Ev]at F
 |some g=>
  have hg:=aDS f;have Y:d.F.lp b ps=g ps:=by simp only[Fn.lp,f]
  rw[Y,<-c.round _ _ f,<-aAc E k Tb L]at y;have a0:∃bs:List Nat,cM 0 (kW d Tb b).c=bs.map (λb'=>(b',tT b' (kW d Tb b).c))/\CS (λb'=>Nat.ble (b'+1) 1000) bs=true/\(kW d Tb b).b∈bs/\(∀b',b'<1000->kW d Tb ((kW d Tb b).lb+b')=⟨(kW d Tb b).h,(kW d Tb b).c,b',(kW d Tb b).lb⟩):=by
   by_cases V:b<1000
   ·rw[Tv V];refine⟨d.F.bs,c.loops,c.small,?_,λb' u=>by simp only[Nat.zero_add];exact Tv u⟩;have:=JG c.sub _ hg;simp only[Bool.or_eq_true]at this;rcases this with h |h
    ·have:=Nat.le_of_ble_eq_true h;omega
    ·exact JK.1 h
   ·obtain⟨s,bs,j,K,P⟩:=c.at (show 1000<=b by omega) hg;obtain⟨J,v,Q⟩:=c.sites _ s j;have e:b=1000*(b/1000-1+1)+b%1000:=by omega
    have W:kW d Tb b=⟨s.h,s.c,b%1000,1000*(b/1000-1+1)⟩:=by have:=Tw (d:=d) j (show b%1000<1000 by omega);rw[<-e]at this;exact this
    rw[W];refine⟨J,v,Q,?_,λb' u=>Tw j u⟩;have C:(b%1000,tT (b%1000) s.c)∈cM 0 s.c:=by rw[K];exact List.mem_map.2 ⟨_,P,rfl⟩
    rw[v]at C;obtain⟨a5,T,l⟩:=List.mem_map.1 C;injection l with l _;rw[<-l];exact T
  obtain⟨bs,G,a2,a3,a4⟩:=a0;refine aCr (XI c.sites XH L (by omega)) (k:=k) (lb:=(kW d Tb b).lb) (lI _ _ λq a1=>Fz (L:=L) (by omega) a4 G a2 (qU _ _ ((kW d Tb b).b,tT (kW d Tb b).b (kW d Tb b).c) ?_ q a1)) y;rw[G];exact List.mem_map.2 ⟨_,a3,rfl⟩
theorem yQ{m:Nat}(s:BY E B Tb m d){b:Nat}{ps:LD}{i:Nat}{ds:LD}(u:rO E B Tb d (d.F.lp b ps) (.out (i,ds))):QS E B Tb d b ps i ds:=by
 obtain⟨N,l⟩:=aCu s u;refine⟨N,λk n q L L0 v y _ h j=>?_⟩;rcases l k n L L0 v y h j with⟨s1,C,_,_,e⟩ |⟨r,t,f,g,e,c⟩
 ·simp[Lf.up]at e
 ·simp only[Lf.up]at c;injection c with c;subst c;simp only[a8,f,Option.bind_some,g,e]
theorem sR{m:Nat}(v:BY E B Tb m d){b:Nat}{ps ps':LD}{i:Nat}{ds:LD}(y:rO E B Tb d (d.F.lp b ps) (.again ps'))(f:QS E B Tb d b ps' i ds):QS E B Tb d b ps i ds:=by
 obtain⟨N,s⟩:=aCu v y;obtain⟨g,u⟩:=f;refine⟨max N g+1,λk n q L L0 G f H C F=>?_⟩;obtain⟨e,rfl⟩:∃e,q=e+1:=⟨q-1,by omega⟩;rcases s k n L L0 (by omega) (by omega) (by omega) (by omega)with⟨s1,J,h,j,c⟩ |⟨r,t,_,_,_,l⟩
 ·simp only[Lf.up]at c;injection c with c;subst c;have:=u k n e L L0 (by omega) (by omega) (by omega) (by omega) (by omega);unfold a8 at this⊢;rw[h];simp only[Option.bind_some,DC,MB];rw[j];simp only[Option.bind_some];exact this
 ·simp[Lf.up]at l
theorem cI{m:Nat}(c:BY E B Tb m d){b:Nat}(f:Nat->LD)(n:Nat){i:Nat}{ds:LD}(e:∀j,j<n->rO E B Tb d (d.F.lp b (f j)) (.again (f (j+1))))(g:rO E B Tb d (d.F.lp b (f n)) (.out (i,ds))):QS E B Tb d b (f 0) i ds:=by
 have:∀j,j<=n->QS E B Tb d b (f (n-j)) i ds:=by
  intro j;induction j with
  |zero=>intro _;exact yQ c g
  |succ j h=>intro l;have:=e (n-(j+1)) (by omega);rw[show n-(j+1)+1=n-j by omega]at this;exact sR c this (h (by omega))
 have:=this n (Nat.le_refl n);rwa [Nat.sub_self]at this
end
end Go.Eng

namespace Go.Eng
abbrev Yw:=Lf (LD) (Nat×LD)
abbrev Cl:=Nat->LD->Option (D×LD)
abbrev Lo:=Nat->LD->Option (Nat×LD)
def Yx(nb:Nat)(k:D->LD->Option Yw):Option (D×LD)->Option Yw
 |some r=>bif Nat.beq r.2.length nb then k r.1 r.2 else none
 |none=>none
def b8(k:Nat->LD->Option Yw):Option (Nat×LD)->Option Yw
 |some o=>k o.1 o.2
 |none=>none
def aCv(k:LD->Option Yw)(ks:Nat->LD->Option Yw)(i:Nat)(ds:LD):Option Yw:=
 bif Nat.beq i 0 then k ds else ks (i-1) ds
noncomputable def b9(cl:Cl)(lp:Lo)(t:Sh):Option Yw:=
 IX.rec (motive_1:=λ_=>Option Yw) (motive_2:=λ_=>Nat->LD->Option Yw)
  (λx bs=>some (.ret x bs)) (λs=>some (.again s)) (λt=>some (.out t)) none
  (λb _ _ p q=>bif b then p else q)
  (λm xs nb _ k=>Yx nb k (cl m xs))
  (λb s _ ks=>b8 ks (lp b s))
  (λ_ _=>none)
  (λ_ _ k ks=>aCv k ks) t
noncomputable def goL(cl:Cl)(lp:Lo)(t:Tg (LD) (Nat×LD)):Nat->LD->Option Yw:=
 Tg.rec (motive_1:=λ_=>Option Yw) (motive_2:=λ_=>Nat->LD->Option Yw)
  (λx bs=>some (.ret x bs)) (λs=>some (.again s)) (λt=>some (.out t)) none
  (λb _ _ p q=>bif b then p else q)
  (λm xs nb _ k=>Yx nb k (cl m xs))
  (λb s _ ks=>b8 ks (lp b s))
  (λ_ _=>none)
  (λ_ _ k ks=>aCv k ks) t
def Jl(k:LD->Option (Nat×LD)):Option Yw->Option (Nat×LD)
 |some (.again ps)=>k ps
 |some (.out t)=>some t
 |some (.ret _ _)=>none
 |none=>none
noncomputable def RP(cl:Cl)(F:Fn)(g:Nat):Lo:=
 Nat.rec (λ_ _=>none) (λ_ c b ps=>Jl (c b) (b9 cl c (F.lp b ps))) g
def Fj:Option Yw->Option (D×LD)
 |some (.ret x bs)=>some (x,bs)
 |_=>none
def fnG(k:Fn->Option (D×LD)):Option Fn->Option (D×LD)
 |some F=>k F
 |none=>none
def Yy(r:Option (D×LD)):Option (D×LD)->Option (D×LD)
 |some x=>some x
 |none=>r
noncomputable def aCw(P:BT Fn)(X:Cl)(g n:Nat):Cl:=
 Nat.rec (λ_ _=>none) (λ_ c m xs=>Yy (fnG (λF=>bif Nat.beq xs.length F.np then Fj (b9 c (RP c F g) (F.main xs))else none) (P.look m)) (X m xs)) n
section
variable{E:fC}{B:jR}{Tb:BT jG}{d:FD}{cl:Cl}{lp:Lo}
mutual
theorem Jm(e:∀m xs r,cl m xs=some r->iQ E B Tb m xs r.1 r.2)(f:∀b ps o,lp b ps=some o->QS E B Tb d b ps o.1 o.2):∀(t:Sh){lf:Yw},b9 cl lp t=some lf->rO E B Tb d t lf
 |.ret x bs,lf,h=>by have h:some (Lf.ret x bs)=some lf:=h;injection h with h;subst h;simp only[rO,Ev]
 |.again s,lf,h=>by have h:some (Lf.again s)=some lf:=h;injection h with h;subst h;simp only[rO,Ev]
 |.out t,lf,h=>by have h:some (Lf.out t)=some lf:=h;injection h with h;subst h;simp only[rO,Ev]
 |.bad,lf,h=>by have h:none=some lf:=h;simp at h
 |.ask b p q,lf,h=>by
  have h:(bif b then b9 cl lp p else b9 cl lp q)=some lf:=h;simp only[rO,Ev];cases b with
  |true=>exact .inl ⟨rfl,Jm e f p h⟩
  |false=>exact .inr ⟨rfl,Jm e f q h⟩
 |.call m xs nb k,lf,h=>by
  have h:Yx nb (λx bs=>b9 cl lp (k x bs)) (cl m xs)=some lf:=h;simp only[rO,Ev];cases c:cl m xs with
  |none=>rw[c]at h;simp[Yx]at h
  |some r=>
   rw[c]at h;simp only[Yx]at h;cases g:Nat.beq r.2.length nb with
   |false=>rw[g]at h;simp at h
   |true=>rw[g]at h;exact⟨r.1,r.2,e m xs r c,Nat.eq_of_beq_eq_true g,Jm e f (k r.1 r.2) h⟩
 |.loop b s ks,lf,h=>by
  have h:b8 (goL cl lp ks) (lp b s)=some lf:=h;simp only[rO,Ev];cases c:lp b s with
  |none=>rw[c]at h;simp[b8]at h
  |some o=>rw[c]at h;exact⟨o.1,o.2,f b s o c,aES e f ks h⟩
theorem aES(c:∀m xs r,cl m xs=some r->iQ E B Tb m xs r.1 r.2)(e:∀b ps o,lp b ps=some o->QS E B Tb d b ps o.1 o.2):∀(t:Tg (LD) (Nat×LD)){i:Nat}{ds:LD}{lf:Yw},goL cl lp t i ds=some lf->My (iQ E B Tb) (QS E B Tb d) t i ds lf
 |.nil,i,ds,lf,h=>by have h:none=some lf:=h;simp at h
 |.cons k ks,i,ds,lf,h=>by
  have h:aCv (λds=>b9 cl lp (k ds)) (goL cl lp ks) i ds=some lf:=h;cases i with
  |zero=>simp only[My];exact Jm c e (k ds) h
  |succ i=>simp only[My];exact aES c e ks h
end
theorem Tx{m:Nat}(c:BY E B Tb m d)(e:∀m xs r,cl m xs=some r->iQ E B Tb m xs r.1 r.2):∀(g:Nat)(b:Nat)(ps:LD)(o:Nat×LD),RP cl d.F g b ps=some o->QS E B Tb d b ps o.1 o.2
 |0,b,ps,o,h=>by have h:none=some o:=h;simp at h
 |g+1,b,ps,o,h=>by
  have h:Jl (RP cl d.F g b) (b9 cl (RP cl d.F g) (d.F.lp b ps))=some o:=h;have j:=Tx c e g;cases hg:b9 cl (RP cl d.F g) (d.F.lp b ps)with
  |none=>rw[hg]at h;simp[Jl]at h
  |some lf=>
   rw[hg]at h;have f:=Jm e (λb ps o l=>j b ps o l) _ hg;cases lf with
   |ret x bs=>simp[Jl]at h
   |again ps'=>exact sR c f (j b ps' o h)
   |out t=>simp only[Jl,Option.some.injEq]at h;subst h;exact yQ c f
def Ty(E:fC)(B:jR)(Tb:BT jG)(P:BT Fn):Prop:=∀m F,P.look m=some F->∃d,d.F=F/\BY E B Tb m d/\d.h.fork=false
theorem d4{xs:LD}{n:Nat}(h:Nat.beq xs.length n=true):Jb xs 0 n=xs:=Aa (Nat.eq_of_beq_eq_true h)
theorem aFs{P:BT Fn}{X:Cl}(f:Ty E B Tb P)(j:∀m xs r,X m xs=some r->iQ E B Tb m xs r.1 r.2)(g:Nat):∀(n:Nat)(m:Nat)(xs:LD)(r:D×LD),aCw P X g n m xs=some r->iQ E B Tb m xs r.1 r.2
 |0,m,xs,r,h=>by have h:none=some r:=h;simp at h
 |n+1,m,xs,r,h=>by
  have h:Yy (fnG (λF=>bif Nat.beq xs.length F.np then Fj (b9 (aCw P X g n) (RP (aCw P X g n) F g) (F.main xs))else none) (P.look m)) (X m xs)=some r:=h;have u:=aFs f j g n;cases hx:X m xs with
  |some y=>rw[hx]at h;simp only[Yy,Option.some.injEq]at h;subst h;exact j m xs y hx
  |none=>
   rw[hx]at h;simp only[Yy]at h;cases c:P.look m with
   |none=>rw[c]at h;simp[fnG]at h
   |some F=>
    rw[c]at h;simp only[fnG]at h;obtain⟨d,rfl,l,hf⟩:=f m F c;cases e:Nat.beq xs.length d.F.np with
    |false=>rw[e]at h;simp at h
    |true=>
     rw[e]at h;simp only[cond_true]at h;cases hg:b9 (aCw P X g n) (RP (aCw P X g n) d.F g) (d.F.main xs)with
     |none=>rw[hg]at h;simp[Fj]at h
     |some lf=>
      rw[hg]at h;cases lf with
      |again s=>simp[Fj]at h
      |out t=>simp[Fj]at h
      |ret x bs=>simp only[Fj,Option.some.injEq]at h;subst h;exact bA l hf (d4 e) (Jm u (λb ps o v=>Tx l u g b ps o v) _ hg)
def Yz(E:fC)(B:jR)(Tb:BT jG):BT Fn->Prop
 |.nil=>True
 |.node m F l r=>(∃d,d.F=F/\BY E B Tb m d/\d.h.fork=false)/\Yz E B Tb l/\Yz E B Tb r
theorem TE:∀{P:BT Fn},Yz E B Tb P->Ty E B Tb P
 |.nil,_,m,F,h=>by simp[BT.look]at h
 |.node k F l r,⟨f,g,j⟩,m,d,h=>by
  simp only[BT.look]at h;cases c:Nat.beq m k with
  |true=>rw[c]at h;simp only[cond_true,Option.some.injEq]at h;subst h;rw[Nat.eq_of_beq_eq_true c];exact f
  |false=>
   rw[c]at h;simp only[cond_false]at h;cases e:Nat.ble m k with
   |true=>rw[e]at h;exact TE g m d h
   |false=>rw[e]at h;exact TE j m d h
end
end Go.Eng

namespace Go.Eng
@[simp] theorem aDT(a b:Int):cK a b=decide (a<=b):=by rw[Bool.eq_iff_iff];simp only[fM,decide_eq_true_eq]
@[simp] theorem aG1(a b:Int):aQ a b=decide (a<b):=by rw[Bool.eq_iff_iff];simp only[aQ,aDT,Bool.not_eq_true',decide_eq_false_iff_not,decide_eq_true_eq];omega
@[simp] theorem aG2(a b:Int):aD a b=decide (a=b):=by rw[ZC,Bool.eq_iff_iff];simp
@[simp] theorem aFt(k:Int)(n:Nat):aA k n=decide (0<=k/\k<n):=by simp[aA]
theorem vM{n:Int}(c:-9223372036854775808<=n)(d:n<=9223372036854775807):bE .i64 n=n:=by simp[bE,UU,UV,c,d]
@[simp] theorem rP(x:D)(l:LD):gD (x::l) 0=x:=rfl
@[simp] theorem sS(x:D)(l:LD)(n:Nat):gD (x::l) (n+1)=gD l n:=by simp[gD]
@[simp] theorem aIh(l:LD)(n:Nat):gI l n=(gD l n).toI:=rfl
@[simp] theorem aIi(l:LD)(n:Nat):gB l n=(gD l n).toB:=rfl
@[simp] theorem aIj(l:LD)(n:Nat):gS l n=(gD l n).toS:=rfl
@[simp] theorem aIk(l:LD)(n:Nat):gL l n=(gD l n).els:=rfl
@[simp] theorem aIl(l:LD)(n:Nat):gN l n=(gD l n).toI.toNat:=rfl
@[simp] theorem kX(n:Int):(D.i n).toI=n:=rfl
@[simp] theorem lJ(b:Bool):(D.b b).toB=b:=rfl
@[simp] theorem aH0(s:List UInt8):(D.s s).toS=s:=rfl
@[simp] theorem lS(l:LD):(D.l l).els=l:=rfl
@[simp] theorem kK(l:LD)(n:Nat):(D.l l).fld n=gD l n:=rfl
section
variable{σ τ:Type}{C:Nat->LD->D->LD->Prop}{L:Nat->σ->Nat->LD->Prop}{lf:Lf σ τ}{p q:IX σ τ}
theorem aC{b:Bool}(c:b=true)(h:Ev C L p lf):Ev C L (.ask b p q) lf:=by simp only[Ev];exact .inl ⟨c,h⟩
theorem aJ{b:Bool}(c:b=false)(h:Ev C L q lf):Ev C L (.ask b p q) lf:=by simp only[Ev];exact .inr ⟨c,h⟩
theorem aDU{b:Bool}(d:b=true->Ev C L p lf)(c:b=false->Ev C L q lf):Ev C L (.ask b p q) lf:=by
 cases b with
 |true=>exact aC rfl (d rfl)
 |false=>exact aJ rfl (c rfl)
theorem bK{m nb:Nat}{xs:LD}{k:D->LD->IX σ τ}{x:D}{bs:LD}(c:C m xs x bs)(d:bs.length=nb)(e:Ev C L (k x bs) lf):Ev C L (.call m xs nb k) lf:=by simp only[Ev];exact⟨x,bs,c,d,e⟩
theorem aP{b:Nat}{s:σ}{ks:Tg σ τ}{i:Nat}{ds:LD}(c:L b s i ds)(d:My C L ks i ds lf):Ev C L (.loop b s ks) lf:=by simp only[Ev];exact⟨i,ds,c,d⟩
theorem bG{k:LD->IX σ τ}{ks:Tg σ τ}{ds:LD}(h:Ev C L (k ds) lf):My C L (.cons k ks) 0 ds lf:=by simpa only[My]using h
theorem eO{k:LD->IX σ τ}{ks:Tg σ τ}{i:Nat}{ds:LD}(h:My C L ks i ds lf):My C L (.cons k ks) (i+1) ds lf:=by simpa only[My]using h
theorem bI{x c:D}{bs cs:LD}(d:c=x)(e:cs=bs):Ev C L (.ret x bs:IX σ τ) (.ret c cs):=by subst d;subst e;simp only[Ev]
theorem aO{s t:σ}(h:t=s):Ev C L (.again s:IX σ τ) (.again t):=by subst h;simp only[Ev]
theorem bH{s t:τ}(h:t=s):Ev C L (.out s:IX σ τ) (.out t):=by subst h;simp only[Ev]
end
section
variable{E:fC}{B:jR}{Tb:BT jG}{d:FD}
def eD:Nat->(Nat->Bool)->Bool
 |0,_=>false
 |n+1,P=>eD n P||P n
theorem bQ{n:Nat}{P:Nat->Bool}:eD n P=false<->∀j,j<n->P j=false:=by
 induction n with
 |zero=>simp[eD]
 |succ n g=>
  simp only[eD,Bool.or_eq_false_iff,g];constructor
  ·rintro⟨c,d⟩ j f;by_cases e:j=n
   ·rw[e];exact d
   ·exact c j (by omega)
  ·intro h;exact⟨λj f=>h j (by omega),h n (by omega)⟩
theorem yR{n:Nat}{P:Nat->Bool}(h:eD n P=true):∃j,j<n/\P j=true/\∀i,i<j->P i=false:=by
 induction n with
 |zero=>simp[eD]at h
 |succ n f=>
  cases c:eD n P with
  |true=>obtain⟨j,g,d⟩:=f c;exact⟨j,by omega,d⟩
  |false=>simp only[eD,c,Bool.false_or]at h;exact⟨n,by omega,h,λi e=>bQ.1 c i e⟩
theorem aDV{m:Nat}(e:BY E B Tb m d){b:Nat}(f:Nat->LD)(n:Nat)(P:Nat->Bool){i0 i1:Nat}{d0 d1:LD}
  (g:∀j,j<n->P j=false->rO E B Tb d (d.F.lp b (f j)) (.again (f (j+1))))(u:∀j,j<n->P j=true->rO E B Tb d (d.F.lp b (f j)) (.out (i0,d0)))(t:rO E B Tb d (d.F.lp b (f n)) (.out (i1,d1))):
  QS E B Tb d b (f 0) (bif eD n P then i0 else i1) (bif eD n P then d0 else d1):=by
 cases h:eD n P with
 |true=>obtain⟨j,l,r,s⟩:=yR h;exact cI e f j (λk c=>g k (by omega) (s k c)) (u j l r)
 |false=>exact cI e f n (λk c=>g k c (bQ.1 h k c)) t
end
end Go.Eng

namespace Go.Eng
theorem Tz{P:Program}{E:fC}{B:jR}{Tb:BT jG}{m:Nat}{s:CV}(l:∀k N n,NA P (tJ E k Tb N) (qN (tJ E k Tb N) B (Dq E) k n) m s)(r:s.rs=[.val false [.bool]]){xs:LD}{q:Bool}(f:iQ E B Tb m xs (.b q) [])
  {w:World}{vs:List Value}(j:vs.length=s.ps.length)
  (u:∃uV,eY E 0 s.ps xs Ip=some uV/\uV.bx=[]/\uV.ar=[]/\∀t v,vs[t]?=some v->dN w (Gh.top w) uV (uV.sl.get t) v):
  Calls P s.fn ⟨vs⟩ w (λe w'=>e=.returned (.bool q)/\Go.RowKit.Below w.heap.size w w'):=by
 obtain⟨N,g⟩:=f;obtain⟨uV,c,d⟩:=u;refine x3 (l N N N) r (g N N N (Nat.le_refl _) (Nat.le_refl _) (Nat.le_refl _)) j λst h=>?_;rw[Iz,c]at h;injection h with h;subst h;exact d
end Go.Eng

namespace Go.Eng
def Ga(nb:Nat)(k:D->LD->Option (D×LD)):Option (D×LD)->Option (D×LD)
 |some r=>bif Nat.beq r.2.length nb then k r.1 r.2 else none
 |none=>none
noncomputable def goR(cl:Cl)(t:X):Option (D×LD):=
 IX.rec (motive_1:=λ_=>Option (D×LD)) (motive_2:=λ_=>Unit)
  (λx bs=>some (x,bs)) (λ_=>none) (λ_=>none) none
  (λb _ _ p q=>bif b then p else q)
  (λm xs nb _ k=>Ga nb k (cl m xs))
  (λ_ _ _ _=>none)
  () (λ_ _ _ _=>()) t
section
variable{E:fC}{B:jR}{Tb:BT jG}{cl:Cl}{L:Nat->St->Nat->LD->Prop}
theorem d5(e:∀m xs r,cl m xs=some r->iQ E B Tb m xs r.1 r.2):∀(t:X){x:D}{bs:LD},goR cl t=some (x,bs)->∃N,∀k n M,N<=k->N<=n->N<=M->∀L,Ev (λm xs x bs=>qN (tJ E k Tb M) B (Dq E) k n m xs=some (x,bs)) L t (.ret x bs)
 |.ret v cs,x,bs,h=>by have h:some (v,cs)=some (x,bs):=h;simp only[Option.some.injEq,Prod.mk.injEq]at h;obtain⟨rfl,rfl⟩:=h;exact⟨0,λk n M _ _ _ L=>by simp only[Ev]⟩
 |.again s,x,bs,h=>by have h:none=some (x,bs):=h;simp at h
 |.out t,x,bs,h=>by have h:none=some (x,bs):=h;simp at h
 |.bad,x,bs,h=>by have h:none=some (x,bs):=h;simp at h
 |.ask b p q,x,bs,h=>by
  have h:(bif b then goR cl p else goR cl q)=some (x,bs):=h;cases b with
  |true=>obtain⟨N,d⟩:=d5 e p h;exact⟨N,λk n M c f g L=>by simp only[Ev];exact .inl ⟨trivial,d k n M c f g L⟩⟩
  |false=>obtain⟨N,d⟩:=d5 e q h;exact⟨N,λk n M c f g L=>by simp only[Ev];exact .inr ⟨trivial,d k n M c f g L⟩⟩
 |.call m xs nb kk,x,bs,h=>by
  have h:Ga nb (λx bs=>goR cl (kk x bs)) (cl m xs)=some (x,bs):=h;cases l:cl m xs with
  |none=>rw[l]at h;simp[Ga]at h
  |some r=>
   rw[l]at h;simp only[Ga]at h;cases j:Nat.beq r.2.length nb with
   |false=>rw[j]at h;simp at h
   |true=>rw[j]at h;obtain⟨N,d⟩:=d5 e (kk r.1 r.2) h;obtain⟨u,c⟩:=e m xs r l;exact⟨max N u,λk n M y C F L=>by simp only[Ev];exact⟨r.1,r.2,c k n M (by omega) (by omega) (by omega),Nat.eq_of_beq_eq_true j,d k n M (by omega) (by omega) (by omega) L⟩⟩
 |.loop b s ks,x,bs,h=>by have h:none=some (x,bs):=h;simp at h
end
end Go.Eng

namespace Go.Eng
def Za(body:St->(Ex×St->X)->X)(hd:St->M St)(c:Ex×St->M (Ex×St))(k:Ex×St->X):Nat->St->X
 |0,_=>.bad
 |n+1,st=>rK (hd st) λs=>body s λr=>match r.1 with
  |.norm=>Za body hd c k n r.2
  |_=>rK (c r) k
section
variable(E:fC)(h:fI)(Tb:BT jG)(it:InX)(F:Nat)
def GS:Nat->Code->St->(Ex×St->X)->X
 |_,.skip,st,k=>k (.norm,st)
 |_,.region id ops _,st,k=>aCl E h Tb it (zI h id ops) st λr=>rK (Fc h id r) λr=>Y9 E h Tb it id ops st r k
 |b,.seq x d,st,k=>GS b x st (Z1 k λs=>GS b d s k)
 |b,.cond c x d,st,k=>Z0 st (GS b x st k) (GS b d st k) (eK st.sl c)
 |_,.block id x,st,k=>GS id x st λr=>rK (Od id r) k
 |b,.loop x,st,k=>Za (λs kk=>GS b x s kk) (FL (look h.heads b)) (Wj (look h.ends b)) k F st
 |_,.exit id,st,k=>k (.exit id,st)
 |_,.ret,st,k=>k (.ret,st)
 |_,.label _,st,k=>k (.norm,st)
 |b,.scope x,st,k=>GS b x st k
 |_,_,_,_=>.bad
def Pj(f:Func)(c:Code)(s:CV)(ds:LD):X:=
 rK (eY E 0 s.ps ds {sl:=.nil,bx:=[],ar:=[],ctr:=1}) λst=>GS E h Tb it F 0 c st λr=>rK (Nh E f s r) λq=>.ret q.1 q.2
end
def itU(E:fC)(Tb:BT jG)(F:Nat):Nat->InX
 |0=>λ_ _ _=>.bad
 |n+1=>λq st k=>
  match Tb.look q with
  |some s=>GS E s.h Tb (itU E Tb F n) F 0 s.c st λr=>
   match r.1 with
   |.exit _=>.bad
   |_=>rK (jM E r.2 s.f.results.toList) λvs=>k (ZU vs,r.2)
  |none=>.bad
section
variable{E:fC}{h:fI}{ctx:sJ}{L:Nat->St->Nat->LD->Prop}{lf:Lf St (Ex×St)}{Tb:BT jG}{it:InX}
theorem d6{f:St->M (Ex×St)}{body:St->(Ex×St->X)->X}{hd:St->M St}{g:Ex×St->M (Ex×St)}{k:Ex×St->X}
  (hf:∀st kk,Ev (cR ctx) L (body st kk) lf->∃r,f st=some r/\Ev (cR ctx) L (kk r) lf):∀(n j:Nat)(st:St),n<=j->Ev (cR ctx) L (Za body hd g k n st) lf->∃r,(MB f hd j st).bind g=some r/\Ev (cR ctx) L (k r) lf
 |0,_,_,_,c=>by simp[Za,Ev]at c
 |n+1,j,st,u,c=>by
  obtain⟨j,rfl⟩:∃m,j=m+1:=⟨j-1,by omega⟩;simp only[Za]at c;obtain⟨s,h,c⟩:=dO c;obtain⟨r,l,c⟩:=hf _ _ c;obtain⟨e,t⟩:=r;simp only[MB,h,Option.bind_some,l];cases e with
  |norm=>simp only at c;simp only[DC];exact d6 hf n j t (by omega) c
  |ret=>simp only at c;obtain⟨r,d,c⟩:=dO c;exact⟨r,by simp only[DC,ok,Option.bind_some,d],c⟩
  |exit id=>simp only at c;obtain⟨r,d,c⟩:=dO c;exact⟨r,by simp only[DC,ok,Option.bind_some,d],c⟩
theorem JS(g:oY E ctx L Tb it){F k:Nat}(j:F<=k):∀(c:Code){b:Nat}{st:St}{kk:Ex×St->X},Ev (cR ctx) L (GS E h Tb it F b c st kk) lf->∃r,FM E h ctx k b c st=some r/\Ev (cR ctx) L (kk r) lf
 |.skip,b,st,kk,d=>⟨_,rfl,d⟩
 |.region id ops G,b,st,kk,d=>by simp only[GS]at d;obtain⟨r,l,d⟩:=M8 g d;obtain⟨v,m,d⟩:=dO d;obtain⟨C,y,d⟩:=Z7 g d;exact⟨C,by simp only[FM,Wl,l,Option.bind_some,m];exact y,d⟩
 |.seq x u,b,st,kk,d=>by
  simp only[GS]at d;obtain⟨r,l,d⟩:=JS g j x d;simp only[FM,l,Option.bind_some];unfold Z1 at d;unfold Oc;obtain⟨e,s⟩:=r;cases e with
  |norm=>exact JS g j u d
  |ret=>exact⟨_,rfl,d⟩
  |exit id=>exact⟨_,rfl,d⟩
 |.cond c x u,b,st,kk,d=>by
  simp only[GS]at d;simp only[FM];unfold Z0 at d;unfold U5;cases hv:eK st.sl c with
  |bool t=>
   rw[hv]at d;simp only[Ev]at d;rcases d with⟨rfl,d⟩ |⟨rfl,d⟩
   ·simp only[cond_true];exact JS g j x d
   ·simp only[cond_false];exact JS g j u d
  |_=>rw[hv]at d;simp[Ev]at d
 |.block id x,b,st,kk,d=>by simp only[GS]at d;obtain⟨r,l,d⟩:=JS g j x (b:=id) d;obtain⟨v,m,d⟩:=dO d;exact⟨v,by simp only[FM,l,Option.bind_some,m],d⟩
 |.loop x,b,st,kk,d=>by simp only[GS]at d;simp only[FM];exact d6 (f:=FM E h ctx k b x) (λst kk d=>JS g j x d) F k st j d
 |.exit id,b,st,kk,d=>⟨_,rfl,d⟩
 |.ret,b,st,kk,d=>⟨_,rfl,d⟩
 |.rangeFunc ..,_,_,_,d=>by simp[GS,Ev]at d
 |.scope x,b,st,kk,d=>by simp only[GS]at d;simp only[FM];exact JS g j x (b:=b) d
 |.label _,b,st,kk,d=>⟨_,rfl,d⟩
 |.goto _,_,_,_,d=>by simp[GS,Ev]at d
 |.refuse _,_,_,_,d=>by simp[GS,Ev]at d
theorem aDW(m:oY E ctx L Tb it){F k:Nat}(t:F<=k){f:Func}{c:Code}{s:CV}{ds:LD}(d:Ev (cR ctx) L (Pj E h Tb it F f c s ds) lf):∃r:D×LD,Ck E ctx k f c s h ds=some r/\lf=.ret r.1 r.2:=by unfold Pj at d;obtain⟨st,g,d⟩:=dO d;obtain⟨r,j,d⟩:=JS m t c d;obtain⟨q,l,d⟩:=dO d;refine⟨q,?_,d⟩;unfold Ck;rw[g];simp only[Option.bind_some];unfold HD;rw[j];simp only[Option.bind_some];obtain⟨e,u⟩:=r;cases e<;>exact l
end
section
variable{E:fC}{B:jR}{Tb:BT jG}{cl:Cl}{L:Nat->St->Nat->LD->Prop}
theorem aDX(E:fC)(k:Nat)(T:BT jG):∀n,GS (tJ E k T n)=GS E
 |0=>by kernel_rfl
 |n+1=>by kernel_rfl
theorem aCx(E:fC)(k:Nat)(T:BT jG):∀n,Pj (tJ E k T n)=Pj E
 |0=>by kernel_rfl
 |n+1=>by kernel_rfl
theorem Pk{ctx:sJ}{F k:Nat}(g:F<=k):∀(D M:Nat),D<=M->oY (tJ E k Tb M) ctx L Tb (itU E Tb F D)
 |0,M,_=>λq s st kk lf _ c=>by simp[itU,Ev]at c
 |D+1,M,u=>by
  obtain⟨d,rfl⟩:∃d,M=d+1:=⟨M-1,by omega⟩;have t:oY (tJ E k Tb d) ctx L Tb (itU E Tb F D):=Pk g D d (by omega);intro q s st kk lf h c;simp only[itU,h]at c;rw[<-aDX E k Tb d]at c;obtain⟨r,l,c⟩:=JS t g s.c c;obtain⟨ex,st1⟩:=r;have m:∃as,jM E st1 s.f.results.toList=some as/\(ex=.norm\/ex=.ret)/\Ev (cR ctx) L (kk (ZU as,st1)) lf:=by
   cases ex with
   |norm=>obtain⟨as,e,f⟩:=dO c;exact⟨as,e,.inl rfl,f⟩
   |ret=>obtain⟨as,e,f⟩:=dO c;exact⟨as,e,.inr rfl,f⟩
   |exit id=>simp[Ev]at c
  obtain⟨as,e,f,j⟩:=m;refine⟨{fn:=s.fn,np:=s.np,run:=TC (tJ E k Tb d) ctx k s},(ZU as,st1),by simp[tJ,aDI,h],rfl,rfl,?_,j⟩;simp only[TC];rw[l];simp only[Option.bind_some];rw[Jk,e];rcases f with rfl |rfl<;>rfl
theorem aAd{m:Nat}{f:Func}{g:fI}{c:Code}{s:CV}(F:Nat)(u:B.look m=some (f,g))(j:E.sg.look m=some s)(v:f.body=some c)(y:g.fork=false)(ns:Nat.beq m E.srt=false)
  (C:∀m xs r,cl m xs=some r->iQ E B Tb m xs r.1 r.2){xs:LD}{x:D}{bs:LD}
  (h:goR cl (Pj E g Tb (itU E Tb F XH) F f c s xs)=some (x,bs)):iQ E B Tb m xs x bs:=by
 obtain⟨N,G⟩:=d5 C _ h;refine⟨N+F+XH+1,λk n M J K H=>?_⟩;obtain⟨n',rfl⟩:∃n',n=n'+1:=⟨n-1,by omega⟩;have e:=G k n' M (by omega) (by omega) (by omega) (λ_ _ _ _=>False);rw[<-aCx E k Tb M]at e;obtain⟨r,l,d⟩:=aDW (Pk (Tb:=Tb) (F:=F) (by omega) XH M (by omega)) (k:=k) (by omega) e;injection d with d t;rw[<-DV E k Tb M]at j;simp only[qN,Dq,ns,u,j,v,y,cond_false,l,d,t]
noncomputable def aDY(E:fC)(B:jR)(Tb:BT jG)(F:Nat)(ms:List Nat)(cl:Cl):Cl:=λm xs=>
 bif has ms m&&!(Nat.beq m E.srt)then
  match B.look m,E.sg.look m with
  |some q,some s=>match q.1.body with
   |some c=>bif q.2.fork then none else goR cl (Pj E q.2 Tb (itU E Tb F XH) F q.1 c s xs)
   |none=>none
  |_,_=>none
 else none
theorem aDZ{F:Nat}{ms:List Nat}(e:∀m xs r,cl m xs=some r->iQ E B Tb m xs r.1 r.2):∀m xs r,aDY E B Tb F ms cl m xs=some r->iQ E B Tb m xs r.1 r.2:=λm xs r h=>by
 unfold aDY at h;cases d:has ms m&&!(Nat.beq m E.srt)with
 |false=>rw[d]at h;simp at h
 |true=>
  rw[d]at h;simp only[cond_true]at h;simp only[Bool.and_eq_true,Bool.not_eq_true']at d;split at h
  ·rename_i q s g j;split at h
   ·rename_i c f;cases hf:q.2.fork with
    |true=>rw[hf]at h;simp at h
    |false=>rw[hf]at h;exact aAd F g j f hf d.2 e h
   ·simp at h
  ·simp at h
noncomputable def N0(P:BT Fn)(X:Cl)(E:fC)(B:jR)(Tb:BT jG)(F:Nat)(ms:List Nat)(g n:Nat):Cl:=
 Nat.rec (λ_ _=>none) (λ_ c m xs=>
  bif has ms m then aDY E B Tb F ms c m xs else
   Yy (fnG (λF=>bif Nat.beq xs.length F.np then Fj (b9 c (RP c F g) (F.main xs))else none) (P.look m)) (X m xs)) n
theorem aCy{P:BT Fn}{X:Cl}{F:Nat}{ms:List Nat}(l:Ty E B Tb P)(u:∀m xs r,X m xs=some r->iQ E B Tb m xs r.1 r.2)(g:Nat):∀(n:Nat)(m:Nat)(xs:LD)(r:D×LD),N0 P X E B Tb F ms g n m xs=some r->iQ E B Tb m xs r.1 r.2
 |0,m,xs,r,h=>by have h:none=some r:=h;simp at h
 |n+1,m,xs,r,h=>by
  have h:(bif has ms m then aDY E B Tb F ms (N0 P X E B Tb F ms g n) m xs else Yy (fnG (λc=>bif Nat.beq xs.length c.np then Fj (b9 (N0 P X E B Tb F ms g n) (RP (N0 P X E B Tb F ms g n) c g) (c.main xs))else none) (P.look m)) (X m xs))=some r:=h;have j:=aCy (F:=F) (ms:=ms) l u g n;cases y:has ms m with
  |true=>rw[y]at h;exact aDZ j m xs r h
  |false=>
  rw[y]at h;simp only[cond_false]at h;cases hx:X m xs with
  |some G=>rw[hx]at h;simp only[Yy,Option.some.injEq]at h;subst h;exact u m xs G hx
  |none=>
   rw[hx]at h;simp only[Yy]at h;cases e:P.look m with
   |none=>rw[e]at h;simp[fnG]at h
   |some c=>
    rw[e]at h;simp only[fnG]at h;obtain⟨d,rfl,v,hf⟩:=l m c e;cases f:Nat.beq xs.length d.F.np with
    |false=>rw[f]at h;simp at h
    |true=>
     rw[f]at h;simp only[cond_true]at h;cases hg:b9 (N0 P X E B Tb F ms g n) (RP (N0 P X E B Tb F ms g n) d.F g) (d.F.main xs)with
     |none=>rw[hg]at h;simp[Fj]at h
     |some lf=>
      rw[hg]at h;cases lf with
      |again s=>simp[Fj]at h
      |out t=>simp[Fj]at h
      |ret x bs=>simp only[Fj,Option.some.injEq]at h;subst h;exact bA v hf (d4 f) (Jm j (λb ps o C=>Tx v j g b ps o C) _ hg)
end
end Go.Eng
