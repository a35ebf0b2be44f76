/- Part 3 of the proof: functions and calls are sound; functions as trees of questions. -/
import Derived.Test.YtglojhiigapkbabGreatEngB
import Derived.Scope
import Derived.Laws.Sem
import Derived.KernelRfl
import Derived.Below
set_option linter.unusedSimpArgs false
set_option linter.unusedVariables false
namespace Go.Eng
def Gh.moved(G:Gh)(q r:Nat):Gh:=
 {own:=λb=>match G.own b with
   |.arr r' p=>if r'=q then .arr r p else if r'=r then .out else .arr r' p
   |t=>t
  H:=λm=>if m=r then G.H q else G.H m
  B:=G.B}
section
variable{ext:Nat->Value}{w:World}{G:Gh}{st:St}{act:Act}{nt:Nat}
theorem QC{q r:Nat}(b:Nat)(h:∀r p,G.own b≠.arr r p):(G.moved q r).own b=G.own b:=by
 cases c:G.own b with
 |arr d s=>exact absurd c (h d s)
 |_=>simp[Gh.moved,c]
theorem aD0{q r:Nat}{b:Nat}{p:cQ}(h:G.own b=.arr q p):(G.moved q r).own b=.arr r p:=by simp[Gh.moved,h]
theorem Ye{q r m:Nat}{b:Nat}{p:cQ}(h:G.own b=.arr m p)(c:m≠q)(d:m≠r):(G.moved q r).own b=.arr m p:=by simp[Gh.moved,h,c,d]
theorem x0{q r:Nat}{b:Nat}(h:(G.moved q r).own b≠.out):G.own b≠.out:=λe=>h (by simp[Gh.moved,e])
theorem aCc(q r:Nat):Fr w G w (G.moved q r):=
 ⟨rfl,rfl,rfl,Nat.le_refl _,λb _ c=>⟨rfl,QC b (by rcases c with c |c<;>rw[c]<;>simp)⟩,λ_ _ _=>rfl⟩
theorem zC{q r:Nat}(e:q≠r)(m:Nat):∀l:List (Nat×yN),look (Wr q r l) m=if m=r then look l q else if m=q then none else look l m
 |[]=>by simp[Wr,look]
 |(k,a)::l=>by
  simp only[Wr];by_cases g:k=r
  ·subst g;simp only[qE,cond_true];rw[zC e m l];by_cases c:m=k
   ·subst c;simp[fJ,Ne.symm e]
   ·simp[fJ,c,Ne.symm c]
  ·simp only[qL g,cond_false];by_cases f:k=q
   ·subst f;simp only[qE,cond_true,fJ];rw[zC e m l];by_cases c:m=r
    ·subst c;simp
    ·simp only[Ne.symm c,if_false,c];by_cases d:m=k
     ·subst d;simp
     ·simp[d,Ne.symm d]
   ·simp only[qL f,cond_false,fJ];rw[zC e m l];by_cases c:k=m
    ·subst c;simp[g,f]
    ·simp only[c,if_false];by_cases d:m=r
     ·subst d;simp[f]
     ·simp[d]
theorem Al(q r b:Nat):∀l:List (Nat×Bx),look (q8 q r l) b=(look l b).map λx=>{x with lv:=mapR (VV q r) x.lv}
 |[]=>rfl
 |(m,x)::l=>by
  simp only[q8,fJ];by_cases h:m=b
  ·simp[h]
  ·simp[h,Al q r b l]
theorem Tk{ks:List Nat}{q r:Nat}(y:q≠r):∀(a:A)(v:Value),mU a=true->dO w G st a v->dO w (G.moved q r) (St.rename ks st q r) (VV q r a) v:=by
 intro a v Q h;have C:St.rename ks st q r={st with sl:=Ws (VV q r) st.sl ks .nil,bx:=q8 q r st.bx,ar:=Wr q r st.ar}:=by simp[St.rename,qL y]
 have K:∀{m u p a'},lP (St.rename ks st q r) m u p a'->m≠q->m≠r->lP st m u p a':=λ{m u p a'}hv d c=>by rw[C]at hv;have:=hv.1;simp only[zC y,if_neg d,if_neg c]at this;exact⟨this,hv.2⟩
 have L:∀{u p a'},lP (St.rename ks st q r) r u p a'->lP st q u p a':=λ{u p a'}hv=>by rw[C]at hv;have:=hv.1;simp only[zC y,if_true]at this;exact⟨this,hv.2⟩
 have a0:∀{u p a'},¬lP (St.rename ks st q r) q u p a':=λ{u p a'}hv=>by rw[C]at hv;have:=hv.1;simp[zC y,y]at this
 have j:(St.rename ks st q r).ctr=st.ctr:=by rw[C]
 have J:∀p,(G.moved q r).H r p=G.H q p:=λp=>by simp[Gh.moved]
 have H:∀m p,m≠r->(G.moved q r).H m p=G.H m p:=λm p Y=>by simp[Gh.moved,Y]
 have T:∀b t,look (St.rename ks st q r).bx b=some t->∃x,look st.bx b=some x/\x.uid=t.uid:=λb t hx=>by
  rw[C]at hx;simp only[Al]at hx;cases W:look st.bx b with
  |none=>simp[W]at hx
  |some x=>simp[W]at hx;subst hx;exact⟨x,rfl,rfl⟩
 have V:∀b,vU G [] b->vU (G.moved q r) [] b/\w.heap[b]?=w.heap[b]?:=λb P=>by rw[PR]at P⊢;exact⟨by rw[QC b (by rw[P];simp),P],rfl⟩
 cases a with
 |vw m u p=>
  simp only[VV];by_cases d:m=q
  ·subst d;simp only[qE,cond_true];refine⟨by rw[j];exact h.1,λa' g=>?_⟩;obtain⟨l,s,U⟩:=h.2 a' (L g);exact⟨by rw[J];exact l,s,U⟩
  ·simp only[qL d,cond_false];by_cases c:m=r
   ·subst c;simp only[qE,cond_true];exact trivial
   ·simp only[qL c,cond_false];refine⟨by rw[j];exact h.1,λa' g=>?_⟩;obtain⟨l,s,U⟩:=h.2 a' (K g d c);exact⟨by rw[H m _ c];exact l,s,U⟩
 |px m u n=>
  simp only[VV];by_cases d:m=q
  ·subst d;simp only[qE,cond_true];exact⟨by rw[j];exact h.1,λa' g=>by rw[J];exact h.2 a' (L g)⟩
  ·simp only[qL d,cond_false];by_cases c:m=r
   ·subst c;simp only[qE,cond_true];exact trivial
   ·simp only[qL c,cond_false];exact⟨by rw[j];exact h.1,λa' g=>by rw[H m _ c];exact h.2 a' (K g d c)⟩
 |sx m u k n a1=>
  simp only[VV];by_cases d:m=q
  ·subst d;simp only[qE,cond_true];exact⟨by rw[j];exact h.1,λa' g=>by rw[J];exact h.2 a' (L g)⟩
  ·simp only[qL d,cond_false];by_cases c:m=r
   ·subst c;simp only[qE,cond_true];exact trivial
   ·simp only[qL c,cond_false];exact⟨by rw[j];exact h.1,λa' g=>by rw[H m _ c];exact h.2 a' (K g d c)⟩
 |pa m u p k i off=>
  simp only[VV];by_cases d:m=q
  ·subst d;simp only[qE,cond_true];exact⟨by rw[j];exact h.1,λa' g=>by rw[J];exact h.2 a' (L g)⟩
  ·simp only[qL d,cond_false];by_cases c:m=r
   ·subst c;simp only[qE,cond_true];exact trivial
   ·simp only[qL c,cond_false];exact⟨by rw[j];exact h.1,λa' g=>by rw[H m _ c];exact h.2 a' (K g d c)⟩
 |fz dep e el xs=>
  cases dep with
  |nil=>exact⟨by simp,λ_=>dA V _ _ _ (h.2 rfl)⟩
  |cons _ _=>exact trivial
 |pz dep el x off=>
  cases dep with
  |nil=>refine⟨by simp,λ_=>?_⟩;obtain⟨b,o,l,s⟩:=h.2 rfl;exact⟨b,o,l,sQ V _ _ _ _ _ _ s⟩
  |cons _ _=>exact trivial
 |sb b u k n=>refine⟨by rw[j];exact h.1,λt hx F=>?_⟩;obtain⟨x,l,s⟩:=T b t hx;exact h.2 x l (s.trans F)
 |pb b u off=>refine⟨by rw[j];exact h.1,λt hx F=>?_⟩;obtain⟨x,l,s⟩:=T b t hx;exact h.2 x l (s.trans F)
 |mp b u=>refine⟨by rw[j];exact h.1,λt hx F=>?_⟩;obtain⟨x,l,s⟩:=T b t hx;exact h.2 x l (s.trans F)
 |agg xs=>simp[mU]at Q
 |tup xs=>simp[mU]at Q
 |fn f xs=>simp[mU]at Q
 |_=>exact h
theorem iQ.ren(h:iQ ext nt w G st act){ks:List Nat}{q r:Nat}(l:q≠r)(L:mQ ks st):iQ ext nt w (G.moved q r) (St.rename ks st q r) act/\mQ ks (St.rename ks st q r)/\(St.rename ks st q r).ctr=st.ctr:=by
 have u:St.rename ks st q r={st with sl:=Ws (VV q r) st.sl ks .nil,bx:=q8 q r st.bx,ar:=Wr q r st.ar}:=by simp[St.rename,qL l]
 have hg:∀t,(St.rename ks st q r).sl.get t=if t∈ks then(st.sl.get t).mapR (VV q r)else .undef:=λt=>by rw[u];show(Ws (VV q r) st.sl ks .nil).get t=_;rw[Yc];simp[Tr.get_nil]
 have K:∀b,G.own b=.fz->(G.moved q r).own b=.fz/\w.heap[b]?=w.heap[b]?:=λb d=>⟨by rw[QC b (by rw[d];simp),d],rfl⟩;refine⟨⟨?_,λt=>?_,h.size,h.defers⟩,λt ht=>by rw[hg,if_neg ht],by rw[u]⟩
 ·refine h.rel.remap (f:=VV q r) (Tk l) (λb P hx=>?_) (λb d=>⟨by rw[QC b (by rw[d];simp),d],rfl⟩) (λm a' g=>?_) (λb d=>h.rel.live b (x0 d)) (λm p=>?_)
  ·rw[u]at hx⊢;simp only[Al]at hx;cases y:look st.bx b with
   |none=>simp[y]at hx
   |some x=>simp[y]at hx;subst hx;exact⟨x,rfl,⟨rfl,rfl⟩,(h.rel.boxes b x y).1,rfl⟩
  ·rw[u]at g⊢;simp only[zC l]at g;by_cases e1:m=r
   ·subst e1;rw[if_pos rfl]at g;obtain⟨C,F,H,J⟩:=h.rel.arrs q a' g;refine⟨C,F,H,?_⟩;have j:(G.moved q m).H m []=G.H q []:=by simp[Gh.moved]
    rw[j];exact WG K (λs _=>.inr ⟨by simp[Gh.moved],λb d=>⟨aD0 d,rfl⟩⟩) (λ_ _ h=>h) J
   ·rw[if_neg e1]at g;by_cases v:m=q
    ·simp[v]at g
    ·rw[if_neg v]at g;obtain⟨C,F,H,J⟩:=h.rel.arrs m a' g;refine⟨C,F,H,?_⟩;have j:∀p,(G.moved q r).H m p=G.H m p:=λp=>by simp[Gh.moved,e1]
     rw[j];exact HT K j (λb p d=>⟨Ye d v e1,rfl⟩) J
  ·by_cases e1:m=r
   ·obtain⟨a,n,c,e⟩:=h.rel.hdr q p;exact⟨a,n,c,by simp[Gh.moved,e1,e]⟩
   ·obtain⟨a,n,c,e⟩:=h.rel.hdr m p;exact⟨a,n,c,by simp[Gh.moved,e1,e]⟩
 ·rw[hg];split
  ·exact XC (Tk l) _ _ (h.slots t)
  ·exact trivial
def Gh.nilAt(G:Gh)(r:Nat):Gh:={G with H:=λm p=>if m=r/\p=[]then .slice none 0 0 else G.H m p}
theorem JX{r:Nat}:∀{dep:List (Nat×Nat)},Hw r dep=false->∀d∈dep,d.1≠r
 |[],_,_,h=>absurd h (by simp)
 |(m,v)::l,h,d,hd=>by
  simp only[Hw]at h;by_cases e:m=r
  ·subst e;simp[qE]at h
  ·simp only[qL e,cond_false]at h;rcases List.mem_cons.1 hd with rfl |hd
   ·exact e
   ·exact JX h d hd
theorem NI{r:Nat}{a0:yN}:∀{dep:List (Nat×Nat)},(∀d∈dep,d.1≠r)->depOk {st with ar:=qD st.ar r a0} dep=depOk st dep
 |[],_=>rfl
 |(m,v)::l,h=>by have c:=h (m,v) (by simp);simp only at c;simp only[depOk,bQ,if_neg c];rw[NI (λd hd=>h d (by simp[hd]))]
theorem Y5{r:Nat}{a0:yN}:∀(a:A)(v:Value),mU a=true->DS r a=false->dO w G st a v->dO w (G.nilAt r) {st with ar:=qD st.ar r a0} a v:=by
 intro a v t g h;have l:∀{m u p a'},lP {st with ar:=qD st.ar r a0} m u p a'->m≠r->lP st m u p a':=λ{m u p a'}hv y=>by have:=hv.1;simp only[bQ,if_neg y]at this;exact⟨this,hv.2⟩
 have j:∀m p,m≠r->(G.nilAt r).H m p=G.H m p:=λm p c=>by simp[Gh.nilAt,c]
 cases a with
 |vw m u p=>
  have c:m≠r:=λe=>by subst e;simp[DS,qE]at g
  refine⟨h.1,λa' d=>?_⟩;obtain⟨C,F,H⟩:=h.2 a' (l d c);exact⟨by rw[j m _ c];exact C,F,H⟩
 |px m u n=>
  have c:m≠r:=λe=>by subst e;simp[DS,qE]at g
  exact⟨h.1,λa' d=>by rw[j m _ c];exact h.2 a' (l d c)⟩
 |sx m u k n J=>
  have c:m≠r:=λe=>by subst e;simp[DS,qE]at g
  exact⟨h.1,λa' d=>by rw[j m _ c];exact h.2 a' (l d c)⟩
 |pa m u p k i off=>
  have c:m≠r:=λe=>by subst e;simp[DS,qE]at g
  exact⟨h.1,λa' d=>by rw[j m _ c];exact h.2 a' (l d c)⟩
 |fz dep e el xs=>have hd:=JX (r:=r) (dep:=dep) g;exact⟨h.1,λs=>h.2 (by rw[<-NI (st:=st) (a0:=a0) hd];exact s)⟩
 |pz dep el x off=>have hd:=JX (r:=r) (dep:=dep) g;exact⟨h.1,λs=>h.2 (by rw[<-NI (st:=st) (a0:=a0) hd];exact s)⟩
 |agg xs=>simp[mU]at t
 |tup xs=>simp[mU]at t
 |fn f xs=>simp[mU]at t
 |_=>exact h
theorem Ja{f:A->Bool}{t:Tr}:∀{ks:List Nat},RE f t ks=false->∀k∈ks,(t.get k).any f=false
 |[],_,_,h=>absurd h (by simp)
 |k::ks,h,d,c=>by
  simp only[RE,Bool.or_eq_false_iff]at h;rcases List.mem_cons.1 c with rfl |c
  ·exact h.1
  ·exact Ja h.2 d c
theorem Ed{f:A->Bool}{b:Nat}{x:Bx}:∀{l:List (Nat×Bx)},MM f l=false->look l b=some x->VS f x.lv=false
 |[],_,h=>by simp[look]at h
 |(m,d)::l,h,c=>by
  simp only[MM,Bool.or_eq_false_iff]at h;rw[fJ]at c;split at c
  ·injection c with c;subst c;exact h.1
  ·exact Ed h.2 c
theorem Yf{f:A->Bool}:∀{l:List A}{j:Nat},VS f l=false->(l.getD j .undef).any f=false
 |[],j,_=>by simp[A.any]
 |a::l,0,h=>by simp only[VS,Bool.or_eq_false_iff]at h;exact h.1
 |a::l,j+1,h=>by simp only[VS,Bool.or_eq_false_iff]at h;rw[List.getD_cons_succ];exact Yf h.2
theorem iQ.new(h:iQ ext nt w G st act){ks:List Nat}{r:Nat}{e:TypeId}{el:List LT}(P:mQ ks st)(l:0<st.ctr)(s:(RE (DS r) st.sl ks||MM (DS r) st.bx)=false):
  iQ ext nt w (G.nilAt r) {st with ar:=qD st.ar r {e:=e,el:=el,data:=[],uid:=0,hv:=ZI 0,dv:=0}} act:=by
 simp only[Bool.or_eq_false_iff]at s;have y:∀m p,m≠r->(G.nilAt r).H m p=G.H m p:=λm p L=>by simp[Gh.nilAt,L]
 refine⟨⟨λ_ _ h=>by simp at h,λb x hx=>?_,h.rel.apartB,λm a d=>?_,h.rel.live,λm p=>?_⟩,λt=>?_,h.size,h.defers⟩
 ·obtain⟨H,J,K⟩:=h.rel.boxes b x hx;exact⟨H,J,K.step rfl rfl rfl λj Y v W=>Gz (f:=DS r) Y5 _ _ (Yf (Ed s.2 hx)) W⟩
 ·simp only[bQ]at d;by_cases e1:m=r
  ·subst e1;rw[if_pos rfl]at d;injection d with d;subst d;refine⟨l,l,⟨rfl,λu C=>by simp[ZI]at C;subst C;exact l⟩,?_⟩;have:(G.nilAt m).H m []=.slice none 0 0:=by simp[Gh.nilAt]
   rw[this];exact⟨none,0,0,rfl,rfl,Nat.le_refl _,Nat.zero_le _,λ_=>rfl,by simp⟩
  ·rw[if_neg e1]at d;obtain⟨Q,T,U,V⟩:=h.rel.arrs m a d;refine⟨Q,T,U,?_⟩;rw[y m _ e1];exact HT (G:=G) (G':=G.nilAt r) (λb g=>⟨g,rfl⟩) (λp=>y m p e1) (λb p g=>⟨g,rfl⟩) V
 ·by_cases e1:m=r/\p=[]
  ·exact⟨none,0,0,by simp[Gh.nilAt,e1]⟩
  ·obtain⟨a,n,c,F⟩:=h.rel.hdr m p;exact⟨a,n,c,by simp only[Gh.nilAt,if_neg e1];exact F⟩
 ·show dO w (G.nilAt r) _ (st.sl.get t) _;by_cases ht:t∈ks
  ·exact Gz (f:=DS r) Y5 _ _ (Ja s.1 t ht) (h.slots t)
  ·rw[P t ht];exact trivial
def SB:List LT->List LT->cQ->Bool
 |_,_,[]=>false
 |el,c,(_,j)::s=>match el[j]?,c[j]?with
  |some (.sl true _ x),some (.sl true _ d)=>SB x d s
  |some (.sl true _ _),some (.sl false _ _)=>true
  |_,_=>false
def Tl:LT->LT->cQ->Bool
 |.sl true _ el,.sl true _ c,s=>SB el c s
 |.sl true _ _,.sl false _ _,_=>true
 |_,_,_=>false
def Gh.frz(G:Gh)(q:Nat)(el c:List LT):Gh:=
 {own:=λb=>match G.own b with
   |.arr r p=>if r=q/\SB el c p=true then .fz else .arr r p
   |t=>t
  H:=G.H
  B:=G.B}
theorem aCd{q:Nat}{el c:List LT}{b:Nat}(h:G.own b=.fz):(G.frz q el c).own b=.fz:=by simp[Gh.frz,h]
theorem Ha{q r:Nat}{el c:List LT}{b:Nat}{p:cQ}(h:G.own b=.arr r p):(G.frz q el c).own b=if r=q/\SB el c p=true then .fz else .arr r p:=by simp[Gh.frz,h]
theorem aD1{q:Nat}{el c:List LT}{b:Nat}(h:G.own b=.box):(G.frz q el c).own b=.box:=by simp[Gh.frz,h]
theorem Y6{q:Nat}{el c:List LT}{b:Nat}(h:G.own b=.out):(G.frz q el c).own b=.out:=by simp[Gh.frz,h]
mutual
theorem Yg{G':Gh}{q:Nat}(g:∀b,G.own b=.fz->G'.own b=.fz):∀(t:LT)(p:cQ)(v:Value)(x:D),(∀s b,G.own b=.arr q (p++s)->G'.own b=.fz)->Xa w G [] q t p v x->yQ w (λb=>G'.own b=.fz) t v x
 |.sl true e el,p,v,x,f,h=>by
  rcases vT.1 h with h |⟨U,a,n,c,u,y,C,F,H,J⟩
  ·simp at h
  ·refine⟨a,n,c,u,y,C,F,H,λad K V=>?_⟩;obtain⟨l,m,cs,P,Q,T,r⟩:=J ad K;exact⟨l,λi L=>Jb g el p i _ _ _ _ 0 (f [] _ (by simpa using m)) (λj s b d=>f ((i,j)::s) b d) (r i L)⟩
 |.sl false e el,p,v,x,f,h=>dA (λb d=>⟨g b d,rfl⟩) _ v x h
 |.int k,p,v,x,f,h=>dA (λb d=>⟨g b d,rfl⟩) _ v x h
 |.bool,p,v,x,f,h=>dA (λb d=>⟨g b d,rfl⟩) _ v x h
 |.str,p,v,x,f,h=>dA (λb d=>⟨g b d,rfl⟩) _ v x h
theorem Jb{G':Gh}{q:Nat}(d:∀b,G.own b=.fz->G'.own b=.fz):∀(ts:List LT)(p:cQ)(i b o k:Nat)(x:D)(j:Nat),G'.own b=.fz->(∀j s b,G.own b=.arr q (p++(i,j)::s)->G'.own b=.fz)->V7 w G [] q ts p i b o k x j->s7 w (λb=>G'.own b=.fz) ts b o k x j
 |[],_,_,_,_,_,_,_,_,_,_=>trivial
 |t::ts,p,i,b,o,k,x,j,c,e,⟨⟨v,f,g⟩,h⟩=>⟨c,⟨v,f,Yg d t _ v _ (λs b c=>e j s b (by simpa using c)) g⟩,Jb d ts p i b o k x (j+1) c e h⟩
end
theorem Yh(t c:LT)(s:cQ):(match some t,some c with
  |some (.sl true _ x),some (.sl true _ d)=>SB x d s
  |some (.sl true _ _),some (.sl false _ _)=>true
  |_,_=>false)=Tl t c s:=by
 cases t with
 |sl o1 e1 f=>cases c with
  |sl o2 e g=>cases o1<;>cases o2<;>rfl
  |_=>cases o1<;>rfl
 |_=>rfl
theorem Am:∀{el c:List LT},LS el c=true->c.length=el.length
 |[],[],_=>rfl
 |[],_::_,h=>by simp[LS]at h
 |_::_,[],h=>by simp[LS]at h
 |t::ts,d::e,h=>by simp only[LS,Bool.and_eq_true]at h;simp[Am h.2]
mutual
theorem aD2{G':Gh}{q:Nat}(j:∀b,G.own b=.fz->G'.own b=.fz)(y:∀p,G'.H q p=G.H q p):∀(t d:LT)(p:cQ)(v:Value)(x:D),Hx t d=true->(∀s b,G.own b=.arr q (p++s)->G'.own b=if Tl t d s=true then .fz else .arr q (p++s))->Xa w G [] q t p v x->Xa w G' [] q d p v x
 |.sl true e el,d,p,v,x,hf,g,h=>by
  cases d with
  |sl o' a4 u=>
   cases o' with
   |true=>
    simp only[Hx,Bool.and_eq_true]at hf;have r:=Nat.eq_of_beq_eq_true hf.1;subst r;rcases vT.1 h with h |⟨l,a,n,c,P,Q,T,U,V,W⟩
    ·simp at h
    ·refine vT.2 (.inr ⟨by rw[y];exact l,a,n,c,P,Q,T,U,V,λad Y=>?_⟩);obtain⟨F,H,cs,C,J,K,L⟩:=W ad Y;have f:=g [] ad.block (by simpa using H);simp only[Tl,SB,Bool.false_eq_true,if_false,List.append_nil]at f;rw[Am hf.2];exact⟨F,f,cs,C,J,K,λi a1=>Tm j y el u p i _ _ _ _ 0 hf.2 (λm t d a2 a3 s b f=>by
      have:=g ((i,m)::s) b (by simpa using f);have e1:Tl (.sl true e el) (.sl true e u) ((i,m)::s)=Tl t d s:=by simp only[Tl,SB,a2,a3];exact Yh t d s
      rw[e1]at this;simpa using this) (L i a1)⟩
   |false=>simp only[Hx,Bool.and_eq_true]at hf;have r:=Nat.eq_of_beq_eq_true hf.1;subst r;have a0:=iK _ _ hf.2;subst a0;have l:=Yg (G':=G') j (.sl true e el) p v x (λs b f=>by have:=g s b f;simpa[Tl]using this) h;exact(DT false (.sl true e el) v x).2 l
  |int k=>simp[Hx]at hf
  |bool=>simp[Hx]at hf
  |str=>simp[Hx]at hf
 |.sl false e el,d,p,v,x,hf,g,h=>by have:=LT.beq_eq _ _ (show(LT.sl false e el).beq d=true from by simpa[Hx]using hf);subst this;exact dA (λb f=>⟨j b f,rfl⟩) _ v x h
 |.int k,d,p,v,x,hf,g,h=>by have:=LT.beq_eq _ _ (show(LT.int k).beq d=true from by simpa[Hx]using hf);subst this;exact dA (λb f=>⟨j b f,rfl⟩) _ v x h
 |.bool,d,p,v,x,hf,g,h=>by have:=LT.beq_eq _ _ (show LT.bool.beq d=true from by simpa[Hx]using hf);subst this;exact dA (λb f=>⟨j b f,rfl⟩) _ v x h
 |.str,d,p,v,x,hf,g,h=>by have:=LT.beq_eq _ _ (show LT.str.beq d=true from by simpa[Hx]using hf);subst this;exact dA (λb f=>⟨j b f,rfl⟩) _ v x h
theorem Tm{G':Gh}{q:Nat}(g:∀b,G.own b=.fz->G'.own b=.fz)(f:∀p,G'.H q p=G.H q p):∀(ts d:List LT)(p:cQ)(i b o k:Nat)(x:D)(j:Nat),LS ts d=true->
  (∀(m:Nat)(t c:LT),ts[m]?=some t->d[m]?=some c->∀s b,G.own b=.arr q (p++(i,j+m)::s)->G'.own b=if Tl t c s=true then .fz else .arr q (p++(i,j+m)::s))->V7 w G [] q ts p i b o k x j->V7 w G' [] q d p i b o k x j
 |[],[],_,_,_,_,_,_,_,_,_,_=>trivial
 |[],_::_,_,_,_,_,_,_,_,hf,_,_=>by simp[LS]at hf
 |_::_,[],_,_,_,_,_,_,_,hf,_,_=>by simp[LS]at hf
 |t::ts,c::d,p,i,b,o,k,x,j,hf,h,⟨⟨v,l,r⟩,u⟩=>by
  simp only[LS,Bool.and_eq_true]at hf;refine⟨⟨v,l,aD2 g f t c _ v _ hf.1 (λs b e=>?_) r⟩,Tm g f ts d p i b o k x (j+1) hf.2 (λm t1 F y C s b e=>?_) u⟩
  ·have:=h 0 t c rfl rfl s b (by simpa using e);simpa using this
  ·have:=h (m+1) t1 F (by simpa using y) (by simpa using C) s b (by rw[show j+(m+1)=j+1+m by omega];exact e);rw[show j+(m+1)=j+1+m by omega]at this;exact this
end
theorem NJ:∀(l:List A),VS (λ_=>false) l=false
 |[]=>rfl
 |x::xs=>by have c:x.any (λ_=>false)=false:=any_none1 x;simp only[VS,c,NJ xs,Bool.or_self]
where any_none1:∀a:A,a.any (λ_=>false)=false
 |.agg xs=>NJ xs
 |.tup xs=>NJ xs
 |.fn _ xs=>NJ xs
 |.int _ _=>rfl
 |.bool _=>rfl
 |.undef=>rfl
 |.str _=>rfl
 |.nils=>rfl
 |.fz ..=>rfl
 |.vw ..=>rfl
 |.px ..=>rfl
 |.sx ..=>rfl
 |.sb ..=>rfl
 |.pa ..=>rfl
 |.pb ..=>rfl
 |.mp ..=>rfl
 |.ez=>rfl
 |.pz ..=>rfl
 |.nilp=>rfl
theorem iQ.frz(h:iQ ext nt w G st act){ks:List Nat}(c1:mQ ks st){q:Nat}{a:yN}{r:List LT}(a0:look st.ar q=some a)(a9:a.stale=[])(hf:LS a.el r=true):
  Fr w G w (G.frz q a.el r)/\iQ ext nt w (G.frz q a.el r) {st with ar:=qD st.ar q {a with el:=r,hv:=ZI st.ctr},ctr:=st.ctr+1} act/\
   mQ ks {st with ar:=qD st.ar q {a with el:=r,hv:=ZI st.ctr},ctr:=st.ctr+1}/\∀(x:A)(v:Value),mU x=true->dO w G st x v->dO w (G.frz q a.el r) {st with ar:=qD st.ar q {a with el:=r,hv:=ZI st.ctr},ctr:=st.ctr+1} x v:=by
 let st':St:={st with ar:=qD st.ar q {a with el:=r,hv:=ZI st.ctr},ctr:=st.ctr+1}
 have a2:∀b,G.own b=.fz->(G.frz q a.el r).own b=.fz:=λb g=>aCd g;have a3:=Am hf;have a6:∀dep:List (Nat×Nat),depOk st' dep=depOk st dep:=by
  intro dep;induction dep with
  |nil=>rfl
  |cons d l b0=>
   obtain⟨m,v⟩:=d;simp only[depOk,st',bQ]at b0⊢;rw[b0];by_cases e1:m=q
   ·subst e1;rw[if_pos rfl,a0]
   ·rw[if_neg e1]
 have T:∀{m u p a'},lP st' m u p a'->u<st.ctr->(m≠q/\lP st m u p a')\/(m=q/\p=[]/\lP st q u [] a/\a'={a with el:=r,hv:=ZI st.ctr}):=λ{m u p a'}hv P=>by
  obtain⟨C,Q,L⟩:=hv;simp only[st',bQ]at C;by_cases e1:m=q
  ·subst e1;rw[if_pos rfl]at C;injection C with C;subst C;cases p with
   |nil=>exact .inr ⟨rfl,rfl,⟨a0,Nat.zero_le _,L⟩,rfl⟩
   |cons x p=>
    exfalso;simp only[jP,ZI]at L;simp only[List.length_cons]at Q;have:p.length=0\/p.length=1\/p.length=2\/p.length=3:=by omega
    rcases this with e |e |e |e<;>rw[e]at L<;>simp at L<;>omega
  ·rw[if_neg e1]at C;exact .inl ⟨e1,C,Q,L⟩
 have a4:∀(x:A)(v:Value),mU x=true->dO w G st x v->dO w (G.frz q a.el r) st' x v:=by
  intro x v a1 h;have a7:∀dep b,vU G dep b->vU (G.frz q a.el r) dep b:=λdep b g=>by
   rcases g with g |⟨d,hd,p,g⟩
   ·exact .inl (a2 b g)
   ·rw[vU,Ha g];split
    ·exact .inl rfl
    ·exact .inr ⟨d,hd,p,rfl⟩
  cases x with
  |vw m u p=>
   refine⟨Nat.lt_succ_of_lt h.1,λa' H=>?_⟩;rcases T H h.1 with⟨_,k⟩ |⟨rfl,rfl,k,rfl⟩
   ·exact h.2 a' k
   ·exact⟨(h.2 a k).1,⟨_,rfl⟩,trivial⟩
  |px m u n=>
   refine⟨Nat.lt_succ_of_lt h.1,λa' H=>?_⟩;rcases T H h.1 with⟨_,k⟩ |⟨rfl,_,k,rfl⟩
   ·exact h.2 a' k
   ·exact h.2 a k
  |sx m u kk n d0=>
   refine⟨Nat.lt_succ_of_lt h.1,λa' H=>?_⟩;rcases T H h.1 with⟨_,k⟩ |⟨rfl,_,k,rfl⟩
   ·exact h.2 a' k
   ·obtain⟨y,F⟩:=h.2 a k;exact⟨by simp only;rw[a3];exact y,F⟩
  |pa m u p k i off=>
   refine⟨Nat.lt_succ_of_lt h.1,λa' H=>?_⟩;rcases T H h.1 with⟨_,k⟩ |⟨rfl,rfl,k,rfl⟩
   ·exact h.2 a' k
   ·obtain⟨t,y,F,J,K⟩:=h.2 a k;simp only[WB,Option.some.injEq]at y;subst y;exact⟨_,rfl,trivial,by simp only at J⊢;rw[a3];exact J,K⟩
  |fz dep e el xs=>exact⟨λd hd=>Nat.lt_succ_of_lt (h.1 d hd),λY=>dA (λb g=>⟨a7 dep b g,rfl⟩) _ _ _ (h.2 (by rw[<-a6];exact Y))⟩
  |pz dep el x off=>refine⟨λd hd=>Nat.lt_succ_of_lt (h.1 d hd),λY=>?_⟩;obtain⟨b,o,y,F⟩:=h.2 (by rw[<-a6];exact Y);exact⟨b,o,y,sQ (λb g=>⟨a7 dep b g,rfl⟩) _ _ _ _ _ _ F⟩
  |sb b u k n=>exact⟨Nat.lt_succ_of_lt h.1,h.2⟩
  |pb b u off=>exact⟨Nat.lt_succ_of_lt h.1,h.2⟩
  |mp b u=>exact⟨Nat.lt_succ_of_lt h.1,h.2⟩
  |agg xs=>simp[mU]at a1
  |tup xs=>simp[mU]at a1
  |fn f xs=>simp[mU]at a1
  |_=>exact h
 have a5:∀(x:A)(v:Value),dO w G st x v->dO w (G.frz q a.el r) st' x v:=λx v h=>Gz (f:=λ_=>false) (λx v C _ Q=>a4 x v C Q) x v (NJ.any_none1 x) h;refine⟨⟨rfl,rfl,rfl,Nat.le_refl _,λb _ g=>⟨rfl,by rcases g with g |g<;>rw[g]<;>first|exact Y6 g |exact aCd g⟩,λ_ _ _=>rfl⟩,⟨⟨λ_ _ h=>by simp at h,λb x hx=>?_,h.rel.apartB,λm x hx=>?_,λb g=>h.rel.live b (λe=>g (Y6 e)),h.rel.hdr⟩,λt=>a5 _ _ (h.slots t),h.size,h.defers⟩,c1,a4⟩
 ·obtain⟨U,V,W⟩:=h.rel.boxes b x hx;exact⟨Nat.lt_succ_of_lt U,aD1 V,W.step rfl rfl rfl λj c9 v c2=>a5 _ _ c2⟩
 ·simp only[bQ]at hx;by_cases e1:m=q
  ·subst e1;rw[if_pos rfl]at hx;injection hx with hx;subst hx;obtain⟨y,F,J,K⟩:=h.rel.arrs m a a0;refine⟨Nat.lt_succ_of_lt y,Nat.lt_succ_of_lt F,⟨rfl,λu P=>by simp[ZI]at P;subst P;exact Nat.lt_succ_self _⟩,?_⟩;rw[a9]at K;simp only[a9];obtain⟨ad,n,c,c3,c4,c5,c6,c7,c8⟩:=K;refine⟨ad,n,c,c3,c4,c5,c6,c7,λx hx=>?_⟩;obtain⟨U,V,cs,b2,W,b4,b5⟩:=c8 x hx;rw[a3];refine⟨U,?_,cs,b2,W,b4,λi b6=>Tm a2 (λ_=>rfl) a.el r [] i _ _ _ _ 0 hf (λk t b1 b7 c0 s b g=>?_) (b5 i b6)⟩
   ·rw[Ha V];simp[SB]
   ·rw[Ha g];have b3:SB a.el r ([]++(i,0+k)::s)=Tl t b1 s:=by
     simp only[List.nil_append,SB,Nat.zero_add,b7,c0];exact Yh t b1 s
    rw[b3];simp
  ·rw[if_neg e1]at hx;obtain⟨y,F,J,K⟩:=h.rel.arrs m x hx;refine⟨Nat.lt_succ_of_lt y,Nat.lt_succ_of_lt F,⟨J.1,λu P=>Nat.lt_succ_of_lt (J.2 u P)⟩,?_⟩;exact HT (G:=G) (G':=G.frz q a.el r) (λb g=>⟨a2 b g,rfl⟩) (λp=>rfl) (λb p g=>⟨by rw[Ha g,if_neg (λh=>e1 h.1)],rfl⟩) K
def Gh.fzAll(G:Gh)(q:Nat):Gh:=
 {own:=λb=>match G.own b with
   |.arr r p=>if r=q then .fz else .arr r p
   |t=>t
  H:=G.H
  B:=G.B}
theorem QD{q r:Nat}{b:Nat}{p:cQ}(h:G.own b=.arr r p):(G.fzAll q).own b=if r=q then .fz else .arr r p:=by simp[Gh.fzAll,h]
theorem Jc{q:Nat}{b:Nat}(h:∀r p,G.own b≠.arr r p):(G.fzAll q).own b=G.own b:=by
 unfold Gh.fzAll;cases e:G.own b with
 |arr r p=>exact absurd e (h r p)
 |_=>simp[e]
theorem iQ.fzA(h:iQ ext nt w G st act){ks:List Nat}(Y:mQ ks st){q:Nat}{a:yN}(T:look st.ar q=some a)(a0:a.stale=[]):
  Fr w G w (G.fzAll q)/\iQ ext nt w (G.fzAll q) {st with ar:=oH st.ar q} act/\mQ ks {st with ar:=oH st.ar q}/\
   dO w (G.fzAll q) {st with ar:=oH st.ar q} (.fz [] a.e (fC false a.el) a.data) (G.H q []):=by
 let st':St:={st with ar:=oH st.ar q}
 have g:∀b,G.own b=.fz->(G.fzAll q).own b=.fz:=λb d=>by rw[Jc (by rw[d];simp)];exact d
 have U:∀b,G.own b=.box->(G.fzAll q).own b=.box:=λb d=>by rw[Jc (by rw[d];simp)];exact d
 have J:∀b,G.own b=.out->(G.fzAll q).own b=.out:=λb d=>by rw[Jc (by rw[d];simp)];exact d
 have Q:Le w G st w (G.fzAll q) st':=by
  refine⟨Nat.le_refl _,λr u p a' _ hv=>?_,λb b2 _ hx=>⟨b2,hx,rfl,rfl⟩,λr a' _ hx=>?_,λb d=>⟨g b d,rfl⟩⟩
  ·obtain⟨f,L,P⟩:=hv;simp only[st',nM]at f;split at f
   ·simp at f
   ·exact⟨a',⟨f,L,P⟩,rfl,rfl,rfl,λh=>h⟩
  ·simp only[st',nM]at hx;split at hx
   ·simp at hx
   ·rename_i W;exact⟨a',hx,rfl,λb p d=>⟨⟨p,by rw[QD d,if_neg W]⟩,rfl⟩⟩
 have F:∀(x:A)(v:Value),dO w G st x v->dO w (G.fzAll q) st' x v:=λx v hx=>dS Q x v hx;refine⟨⟨rfl,rfl,rfl,Nat.le_refl _,λb _ d=>⟨rfl,by rcases d with d |d<;>rw[d]<;>first|exact J b d |exact g b d⟩,λ_ _ _=>rfl⟩,
  ⟨⟨λ_ _ h=>by simp at h,λb x hx=>?_,h.rel.apartB,λm x hx=>?_,λb d=>h.rel.live b (λe=>d (J b e)),h.rel.hdr⟩,λt=>F _ _ (h.slots t),h.size,h.defers⟩,Y,?_⟩
 ·obtain⟨y,C,H⟩:=h.rel.boxes b x hx;exact⟨y,U _ C,H.step rfl rfl rfl λj b5 v a4=>F _ _ a4⟩
 ·simp only[nM]at hx;split at hx
  ·simp at hx
  ·rename_i e1;obtain⟨a1,a2,a3,l⟩:=h.rel.arrs m x hx;refine⟨a1,a2,a3,?_⟩;exact HT (G:=G) (G':=G.fzAll q) (λb d=>⟨g b d,rfl⟩) (λp=>rfl) (λb p d=>⟨by rw[QD d,if_neg e1],rfl⟩) l
 ·obtain⟨_,_,_,l⟩:=h.rel.arrs q a T;rw[a0]at l;obtain⟨ad,n,c,a5,a6,a7,a9,b0,b1⟩:=l;refine⟨by simp,λ_=>⟨ad,n,c,a5,a6,a7,a9,b0,λx hx b6=>?_⟩⟩;obtain⟨y,C,cs,b3,H,b4,K⟩:=b1 x hx;refine⟨y,λi V=>?_⟩;rw[kD,yU];refine sQ (ok1:=λb=>(G.fzAll q).own b=.fz) (λb d=>⟨.inl d,rfl⟩) _ _ _ _ _ _ (Jb (G':=G.fzAll q) (q:=q) g a.el [] i _ _ _ _ 0 (by rw[QD C,if_pos rfl]) (λj s b d=>by rw[QD d,if_pos rfl]) (K i V))
theorem Ee(h:iQ ext nt w G st act){ks:List Nat}(g:mQ ks st)(f:0<st.ctr){r:Nat}{c:Conv}{a a':A}{v:Value}(j:dO w G st a v){st':St}(d:Wt ks r c a st=some (st',a')):
  ∃G',Fr w G w G'/\(∀b,G'.B b=G.B b)/\iQ ext nt w G' st' act/\mQ ks st'/\0<st'.ctr/\dO w G' st' a' v:=by
 unfold Wt at d;split at d
 ·rename_i e el;cases F:(RE (DS r) st.sl ks||MM (DS r) st.bx)with
  |true=>simp[F,aG]at d
  |false=>simp[F,ok]at d;obtain⟨rfl,rfl⟩:=d;refine⟨G.nilAt r,⟨rfl,rfl,rfl,Nat.le_refl _,λ_ _ _=>⟨rfl,rfl⟩,λ_ _ _=>rfl⟩,λ_=>rfl,h.new g f F,g,f,f,λa' L=>⟨?_,⟨_,rfl⟩,trivial⟩⟩;have hv:v=.slice none 0 0:=j;rw[hv];simp[Gh.nilAt]
 ·rename_i e el q;simp[ok]at d;obtain⟨rfl,rfl⟩:=d;by_cases H:q=r
  ·subst H;have:St.rename ks st q q=st:=by simp[St.rename,qE]
   rw[this];exact⟨G,Fr.refl w G,λ_=>rfl,h,g,f,j⟩
  ·obtain⟨u,y,C⟩:=h.ren H g;refine⟨G.moved q r,aCc q r,λ_=>rfl,u,y,by rw[C];exact f,?_⟩;have:=Tk (ks:=ks) H (.vw q 0 []) v rfl j;simpa[VV,qE]using this
 ·rename_i e el;simp[ok]at d;obtain⟨rfl,rfl⟩:=d;have hv:v=.slice none 0 0:=j;exact⟨G,Fr.refl w G,λ_=>rfl,h,g,f,by simp,λ_=>⟨none,0,0,hv,rfl,Nat.le_refl _,Nat.zero_le _,λ_=>rfl,by simp⟩⟩
 ·simp[ok]at d;obtain⟨rfl,rfl⟩:=d;exact⟨G,Fr.refl w G,λ_=>rfl,h,g,f,j⟩
 ·simp[ok]at d;obtain⟨rfl,rfl⟩:=d;exact⟨G,Fr.refl w G,λ_=>rfl,h,g,f,j⟩
 ·rename_i e el q;obtain⟨x,s,l⟩:=bind_some d;simp only[oR]at s;split at l
  ·rename_i J;obtain⟨m,t⟩:=aW l;simp only[ok,Option.some.injEq,Prod.mk.injEq]at t;obtain⟨rfl,rfl⟩:=t;simp only[Bool.and_eq_true]at m;obtain⟨u,y,C,K⟩:=h.frz g s J m.2.2;exact⟨_,u,λ_=>rfl,y,C,Nat.succ_pos _,K _ _ rfl j⟩
  ·simp[aG]at l
 ·simp[ok]at d;obtain⟨rfl,rfl⟩:=d;have hv:v=.slice none 0 0:=j;exact⟨G,Fr.refl w G,λ_=>rfl,h,g,f,by simp,λ_=>⟨none,0,0,hv,rfl,Nat.le_refl _,Nat.zero_le _,λ_=>rfl,by simp⟩⟩
 ·simp[ok]at d;obtain⟨rfl,rfl⟩:=d;exact⟨G,Fr.refl w G,λ_=>rfl,h,g,f,j⟩
 ·rename_i e el q;obtain⟨x,s,l⟩:=bind_some d;simp only[oR]at s;split at l
  ·rename_i J;obtain⟨m,t⟩:=aW l;simp only[ok,Option.some.injEq,Prod.mk.injEq]at t;obtain⟨rfl,rfl⟩:=t;simp only[Bool.and_eq_true]at m;obtain⟨u,y,C,K⟩:=h.fzA g s J;refine⟨_,u,λ_=>rfl,y,C,f,?_⟩;rw[(j.2 x ⟨s,Nat.zero_le _,Nat.eq_of_beq_eq_true m.1⟩).1,iK _ _ m.2.2,<-Nat.eq_of_beq_eq_true m.2.1];exact K
  ·simp[aG]at l
 ·simp[aG]at d
theorem iQ.put(h:iQ ext nt w G st act){t:Nat}{a:A}(c:dO w G st a (tv ext act t)):iQ ext nt w G (st.put t a) act:=by
 refine⟨h.rel.slotsTo _,λd=>?_,h.size,h.defers⟩;refine qA.2 ?_;simp only[St.put,Tr.get_set];split
 ·rename_i e;subst e;exact c
 ·exact h.slots d
theorem JY{n:Nat}:∀{l:List Nat},has l n=true<->n∈l
 |[]=>by simp[has]
 |m::l=>by
  by_cases h:m=n
  ·subst h;simp[has,qE]
  ·simp[has,qL h,JY (l:=l),Ne.symm h]
theorem mQ.put{ks:List Nat}(f:mQ ks st){t:Nat}(ht:t∈ks)(a:A):mQ ks (st.put t a):=λd c=>by have:d≠t:=λe=>c (e▸ht);simp[St.put,Tr.get_set,this,f d c]
theorem Ef{ks:List Nat}{nb:Nat}:∀(l:List (Nat×Conv)){G:Gh}{st st':St},iQ ext nt w G st act->mQ ks st->0<st.ctr->Wu ks nb l st=some st'->∃G',Fr w G w G'/\iQ ext nt w G' st' act/\mQ ks st'/\0<st'.ctr
 |[],G,st,st',h,f,e,d=>by simp[Wu,ok]at d;subst d;exact⟨G,Fr.refl w G,h,f,e⟩
 |(t,c)::l,G,st,st',h,f,e,d=>by simp only[Wu]at d;obtain⟨j,m⟩:=aW d;obtain⟨q,r,s⟩:=bind_some m;obtain⟨K,u,_,v,y,C,F⟩:=Ee h f e (h.slots t) r;obtain⟨g,H,J⟩:=Ef l (v.put F) (y.put (JY.1 j) _) C s;exact⟨g,u.trans H,J⟩
theorem iQ.setLeaf(h:iQ ext nt w G st act){b j:Nat}{x:Bx}{a:A}(hx:look st.bx b=some x)(W:x.mp=none)(u:∀cs e,w.heap[(G.B b).1]?=some (.cells cs e (0,0))->∀v,cs[(G.B b).2 +j]?=some v->dO w G st a v):
  iQ ext nt w G {st with bx:=qD st.bx b {uid:=x.uid,lv:=x.lv.set j a}} act:=by
 have s:=Le.bxPut (w:=w) (G:=G) hx (x.lv.set j a);refine⟨?_,λt=>dS s _ _ (h.slots t),h.size,h.defers⟩;obtain⟨P,Q,V⟩:=h.rel.boxes b x hx;obtain⟨cs,e,F,T,U⟩:=V.cells W;refine h.rel.step s (λ_ _ h=>by simp at h) (λb' f c=>?_) (λb1 b2 a1 a2 e1 C Y=>?_) (λr a u=>.inl ⟨u,λ_=>rfl,λb p h=>⟨h,rfl⟩⟩) h.rel.live h.rel.hdr
 ·simp only[bQ]at c;by_cases g:b'=b
  ·rw[if_pos g]at c;injection c with c;subst c;subst g;refine .inr ⟨P,Q,lG.of_cells rfl ⟨cs,e,F,by simpa using T,λd y=>?_⟩⟩;simp only[List.length_set]at y;obtain⟨v,m,K⟩:=U d y;refine⟨v,m,dS s _ _ ?_⟩;by_cases H:d=j
   ·subst H;have:(x.lv.set d a).getD d .undef=a:=by simp[List.getD,y]
    rw[this];exact u cs e F v m
   ·have:(x.lv.set j a).getD d .undef=x.lv.getD d .undef:=by simp[List.getD,List.getElem?_set,Ne.symm H]
    rw[this];exact K
  ·rw[if_neg g]at c;exact .inl ⟨c,rfl,rfl,(h.rel.boxes b' f c).2.1⟩
 ·simp only[bQ]at e1 C;have J:∀b' f,(if b'=b then some ({uid:=x.uid,lv:=x.lv.set j a}:Bx)else look st.bx b')=some f->∃L,look st.bx b'=some L/\L.lv.length=f.lv.length:=λb' f l=>by
   split at l
   ·rename_i g;injection l with l;subst l;subst g;exact⟨x,hx,by simp⟩
   ·exact⟨f,l,rfl⟩
  obtain⟨y1,a0,a3⟩:=J b1 a1 e1;obtain⟨y2,m,K⟩:=J b2 a2 C;exact h.rel.apartB b1 b2 y1 y2 a0 m Y
theorem JZ{ks:List Nat}:∀(l:List (Nat×Nat×Conv)){G:Gh}{st st':St},iQ ext nt w G st act->mQ ks st->0<st.ctr->ZR ks l st=some st'->∃G',Fr w G w G'/\iQ ext nt w G' st' act/\mQ ks st'/\0<st'.ctr
 |[],G,st,st',h,s,r,f=>by simp[ZR,ok]at f;subst f;exact⟨G,Fr.refl w G,h,s,r⟩
 |(b,j,c)::l,G,st,st',h,s,r,f=>by
  simp only[ZR]at f;cases hx:look st.bx b with
  |none=>simp only[hx]at f;exact JZ l h s r f
  |some x=>
   simp only[hx]at f;obtain⟨q,g,L⟩:=bind_some f;obtain⟨a4,t,P⟩:=bind_some L;simp only[oR]at t;obtain⟨a9,b0,d⟩:=h.rel.boxes b x hx;by_cases y:j<x.lv.length
   ·have Q:x.mp=none:=d.noMap y;obtain⟨cs,e,u,b1,K⟩:=d.cells Q;obtain⟨v,a0,a1⟩:=K j y;obtain⟨a5,U,C,F,V,W,Y⟩:=Ee h s r a1 g;have T:=F.setLeaf (j:=j) (a:=q.2) t ((F.rel.boxes b a4 t).2.2.noMap' (by rw[C];exact u)) (λa6 a7 d b2 m=>by
     rw[C]at d m;rw[u]at d;injection d with d;injection d with d;subst d;rw[a0]at m;injection m with m;subst m;exact Y)
    obtain⟨H,a2,a3⟩:=JZ l T V W P;exact⟨H,U.trans a2,a3⟩
   ·have:x.lv.getD j .undef=.undef:=by
     simp only[List.getD];rw[List.getElem?_eq_none (by omega)];rfl
    rw[this]at g;unfold Wt at g;split at g<;>first|(rename_i J;simp at J;done) |(simp[aG]at g;done) |(simp_all;done)
theorem NK(h:iQ ext nt w G st act){a:Option Ann}{st':St}(c:HP a st=some st'):∃G',Fr w G w G'/\iQ ext nt w G' st' act:=by
 cases a with
 |none=>simp[HP,ok]at c;subst c;exact⟨G,Fr.refl w G,h⟩
 |some a=>
  obtain⟨m,r⟩:=h.keep a.keep;have e:=m.gc a.keep;have s:mQ a.keep ((st.keep a.keep).gc a.keep):=r;have t:0<((st.keep a.keep).gc a.keep).ctr:=Nat.lt_succ_self 0;simp only[HP]at c;split at c
  ·simp[ok]at c;subst c;exact⟨G,Fr.refl w G,e⟩
  ·obtain⟨s1,g,j⟩:=bind_some c;obtain⟨P,l,d⟩:=bind_some j;simp[ok]at d;subst d;obtain⟨J,u,v,y,C⟩:=Ef _ e s t g;obtain⟨f,F,H,K,L⟩:=JZ _ v y C l;exact⟨f,u.trans F,H.gc _⟩
end
def K9:Ex->Exit
 |.norm=>.normal
 |.ret=>.ret
 |.exit id=>.exit id
def lI(E:fM)(h:fR)(nt:Nat):Code->Bool
 |.skip=>true
 |.region id ops d=>aCb E h nt id ops d
 |.seq x c=>lI E h nt x&&lI E h nt c
 |.cond _ x c=>lI E h nt x&&lI E h nt c
 |.block _ x=>lI E h nt x
 |.loop x=>lI E h nt x
 |.exit _=>true
 |.ret=>true
 |.label _=>true
 |.scope x=>lI E h nt x
 |_=>false
section
variable{ext:Nat->Value}{P:Program}{nt:Nat}
theorem aCe{p:Nat->Prop}(h:∃n,p n):∃n,p n/\∀m,p m->n<=m:=by
 obtain⟨n,f⟩:=h;induction n using Nat.strongRecOn with
 |_ n j=>
  by_cases c:∃m,m<n/\p m
  ·obtain⟨m,d,e⟩:=c;exact j m d e
  ·exact⟨n,f,λm g=>by
    rcases Nat.lt_or_ge m n with h |h
    ·exact absurd ⟨m,h,g⟩ c
    ·exact h⟩
theorem L1{x:Code}{f:St->M (Ex×St)}{hd:St->M St}{Q:Exit->Act->World->Prop}{w0:World}{m:Gh}{ex:Ex}{st1:St}
  (hf:∀{w:World}{G:Gh}{st:St}{act:Act}{e:Ex}{st':St},iQ ext nt w G st act->f st=some (e,st')->∀Q:Exit->Act->World->Prop,(∀c a a' w,Q (.panic c) a w->Q (.panic c) a' w)->(∀w' G' d,Fr w G w' G'->iQ ext nt w' G' st' d->Q (K9 e) d w')->x.wp P Q act w)
  (a0:∀{w:World}{G:Gh}{st st':St}{act:Act},iQ ext nt w G st act->hd st=some st'->∃G',Fr w G w G'/\iQ ext nt w G' st' act)
  (W:∀c a a' w,Q (.panic c) a w->Q (.panic c) a' w)(H:∀w' G' d,Fr w0 m w' G'->iQ ext nt w' G' st1 d->Q (K9 ex) d w')
  {k:Nat}{st:St}{act:Act}(h:iQ ext nt w0 m st act)(a1:VW f hd k st=some (ex,st1)):(Code.loop x).wp P Q act w0:=by
 classical
 let t:Nat->Act->World->Prop:=λn a w=>∃G st,Fr w0 m w G/\iQ ext nt w G st a/\VW f hd n st=some (ex,st1)
 let I:Act->World->Prop:=λa w=>∃n,t n a w
 let l:Act->World->Nat:=λa w=>if g:I a w then Classical.choose (aCe g)else 0
 have a2:∀n a w,t n a w->l a w<=n:=λn a w u=>by have g:I a w:=⟨n,u⟩;simp only[l,dif_pos g];exact(Classical.choose_spec (aCe g)).2 n u
 refine wp_loop I l ⟨k,m,st,Fr.refl w0 m,h,a1⟩ λa w g=>?_;have u:t (l a w) a w:=by simp only[l,dif_pos g];exact(Classical.choose_spec (aCe g)).1
 obtain⟨G,a5,v,L,s⟩:=u;cases K:l a w with
 |zero=>rw[K]at s;simp[VW,aG]at s
 |succ n=>
  rw[K]at s;simp only[VW]at s;obtain⟨st3,T,U⟩:=bind_some s;obtain⟨r,V,j⟩:=bind_some U;obtain⟨e,st4⟩:=r;obtain⟨a4,F,a3⟩:=a0 L T;refine hf a3 V _ (λc a a' w Y=>W c a a' w Y) (λw' G' d y C=>?_);cases e with
  |norm=>simp only[MN]at j;have J:t n d w':=⟨G',st4,(v.trans F).trans y,C,j⟩;exact⟨⟨n,J⟩,Nat.lt_succ_of_le (a2 n d w' J)⟩
  |ret=>simp[MN,ok]at j;obtain⟨rfl,rfl⟩:=j;exact H w' G' d ((v.trans F).trans y) C
  |exit id=>simp[MN,ok]at j;obtain⟨rfl,rfl⟩:=j;exact H w' G' d ((v.trans F).trans y) C
theorem rM{E:fM}{y:fR}{ctx:tU}(H:gY P E)(F:jY P E ctx)(J:P.follows .mixedOrders=true)(C:nt<=500)(k:Nat):∀(c:Code)(b:Nat),lI E y nt c=true->
  ∀{w:World}{G:Gh}{st:St}{act:Act}{ex:Ex}{st':St},iQ ext nt w G st act->MB E y ctx k b c st=some (ex,st')->
   ∀Q:Exit->Act->World->Prop,(∀c a a' w,Q (.panic c) a w->Q (.panic c) a' w)->(∀w' G' l,Fr w G w' G'->iQ ext nt w' G' st' l->Q (K9 ex) l w')->c.wp P Q act w
 |.skip,b,_,w,G,st,act,ex,st',j,h,Q,u,d=>by simp[MB,ok]at h;obtain⟨rfl,rfl⟩:=h;exact wp_skip (d w G act (Fr.refl w G) j)
 |.region id ops b3,b,g,w,G,st,act,ex,st',j,h,Q,u,d=>by
  simp only[MB]at h;refine K8 H F J C g j (λa3 K=>?_) h u (λw' G' l Y v s=>?_)
  ·unfold Hz at K;split at K
   ·simp only[ok,Option.some.injEq,Prod.mk.injEq]at K;obtain⟨rfl,rfl⟩:=K;exact⟨rfl,_,Fr.refl _ _,a3⟩
   ·unfold G6 at K;obtain⟨b1,W,U⟩:=bind_some K;simp only[ok,Option.some.injEq,Prod.mk.injEq]at U;obtain⟨rfl,rfl⟩:=U;obtain⟨L,a0,a1⟩:=NK a3 W;exact⟨rfl,L,a0,a1⟩
  ·have:=d w' G' l v s;rw[Y]at this;exact this
 |.seq x a2,b,g,w,G,st,act,ex,st',j,h,Q,u,d=>by
  simp only[lI,Bool.and_eq_true]at g;simp only[MB]at h;obtain⟨r,T,m⟩:=bind_some h;obtain⟨e1,st1⟩:=r;refine wp_seq (rM H F J C k x b g.1 j T _ (λc a a' w y=>u c a a' w y) (λw' G' l v s=>?_));cases e1 with
  |norm=>simp only[Wv]at m;exact rM H F J C k a2 b g.2 s m Q u (λb2 L a5 a6 b0=>d b2 L a5 (v.trans a6) b0)
  |ret=>simp[Wv,ok]at m;obtain⟨rfl,rfl⟩:=m;exact d w' G' l v s
  |exit id=>simp[Wv,ok]at m;obtain⟨rfl,rfl⟩:=m;exact d w' G' l v s
 |.cond c x a2,b,g,w,G,st,act,ex,st',j,h,Q,u,d=>by
  simp only[lI,Bool.and_eq_true]at g;simp only[MB]at h;have hv:=s8 (w:=w) (G:=G) (st:=st) (act:=act) j.slots c;unfold aBB at h;split at h
  ·rename_i t Y;rw[Y]at hv;refine wp_cond (t:=t) hv ?_;cases t with
   |true=>exact rM H F J C k x b g.1 j (by simpa using h) Q u d
   |false=>exact rM H F J C k a2 b g.2 j (by simpa using h) Q u d
  ·simp[aG]at h
 |.block id x,b,g,w,G,st,act,ex,st',j,h,Q,u,d=>by
  simp only[lI]at g;simp only[MB]at h;obtain⟨r,T,m⟩:=bind_some h;obtain⟨e1,st1⟩:=r;refine wp_block (rM H F J C k x id g j T _ (λc a a' w y=>u c a a' w y) (λw' G' l v s=>?_));cases e1 with
  |norm=>simp[Ww,ok]at m;obtain⟨rfl,rfl⟩:=m;exact d w' G' l v s
  |ret=>simp[Ww,ok]at m;obtain⟨rfl,rfl⟩:=m;exact d w' G' l v s
  |exit i=>
   simp only[Ww]at m;show if i=id then Q .normal l w' else Q (.exit i) l w'
   by_cases e:i=id
   ·subst e;simp[qE,ok]at m;obtain⟨rfl,rfl⟩:=m;rw[if_pos rfl];exact d w' G' l v s
   ·simp[qL e,ok]at m;obtain⟨rfl,rfl⟩:=m;rw[if_neg e];exact d w' G' l v s
 |.loop x,b,g,w,G,st,act,ex,st',j,h,Q,u,d=>by
  simp only[lI]at g;simp only[MB]at h;obtain⟨r,T,m⟩:=bind_some h;obtain⟨e1,st1⟩:=r;obtain⟨b1,W,U⟩:=bind_some m;simp[ok]at U;obtain⟨rfl,rfl⟩:=U;exact L1 (f:=MB E y ctx k b x) (hd:=HP (look y.heads b)) (λs V a4 a9 a7=>rM H F J C k x b g s V a4 a9 a7) (λs V=>NK s V) u
   (λw' G' l v s=>by obtain⟨L,a0,a1⟩:=NK s W;exact d w' L l (v.trans a0) a1) j T
 |.exit id,b,_,w,G,st,act,ex,st',j,h,Q,u,d=>by simp[MB,ok]at h;obtain⟨rfl,rfl⟩:=h;exact wp_exit (d w G act (Fr.refl w G) j)
 |.ret,b,_,w,G,st,act,ex,st',j,h,Q,u,d=>by simp[MB,ok]at h;obtain⟨rfl,rfl⟩:=h;exact wp_ret (d w G act (Fr.refl w G) j)
 |.rangeFunc ..,_,g,_,_,_,_,_,_,_,_,_,_,_=>by simp[lI]at g
 |.scope x,b,g,w,G,st,act,ex,st',j,h,Q,u,d=>by simp only[lI]at g;simp only[MB]at h;refine wp_scope_straight (rM H F J C k x b g j h _ (λc a a' w y=>u c a a' w y) (λw' G' l v s=>?_));have:=d w' G' l v s;cases ex<;>exact this
 |.label _,b,_,w,G,st,act,ex,st',j,h,Q,u,d=>by simp[MB,ok]at h;obtain⟨rfl,rfl⟩:=h;exact wp_label (d w G act (Fr.refl w G) j)
 |.goto _,_,g,_,_,_,_,_,_,_,_,_,_,_=>by simp[lI]at g
 |.refuse _,_,g,_,_,_,_,_,_,_,_,_,_,_=>by simp[lI]at g
end
def Y7(w:World)(G:Gh)(ds:List (Nat×Nat)):LT->Value->D->Option Nat->Prop
 |.sl true e el,v,x,some m=>yV w G [] m e el [] v x.els
 |.sl true _ _,v,x,none=>v=.slice none 0 0/\x.els=[]
 |.sl false e el,v,x,n=>n=none/\yQ w (vU G ds) (.sl false e el) v x
 |.int k,v,x,n=>n=none/\yQ w (vU G ds) (.int k) v x
 |.bool,v,x,n=>n=none/\yQ w (vU G ds) .bool v x
 |.str,v,x,n=>n=none/\yQ w (vU G ds) .str v x
def SC(w:World)(G:Gh)(ds:List (Nat×Nat)):List LT->List Value->Nat->D->Nat->List (Option Nat)->Prop
 |[],vs,_,_,_,ns=>vs=[]/\ns=[]
 |t::ts,vs,k,x,j,ns=>∃v d n c,vs=v::d/\ns=n::c/\Y7 w G ds t v (lf k x j) n/\SC w G ds ts d k x (j+1) c
def eE:List (Option Nat)->List Nat
 |[]=>[]
 |none::l=>eE l
 |some m::l=>m::eE l
theorem SC.length{w:World}{G:Gh}{ds:List (Nat×Nat)}:∀{ts:List LT}{vs:List Value}{k:Nat}{x:D}{j:Nat}{ns:List (Option Nat)},SC w G ds ts vs k x j ns->vs.length=ts.length
 |[],_,_,_,_,_,⟨h,_⟩=>by rw[h];rfl
 |_::_,_,_,_,_,_,⟨v,f,n,e,c,_,_,d⟩=>by rw[c];simp[d.length]
section
variable{w:World}{G:Gh}{st:St}{sl:Nat->Option Value}
theorem zX{ds ds':List (Nat×Nat)}(h:∀d,d∈ds->d∈ds')(b:Nat)(c:vU G ds b):vU G ds' b:=by
 rcases c with c |⟨d,hd,p,e⟩
 ·exact .inl c
 ·exact .inr ⟨d,h d hd,p,e⟩
theorem aHv{ds:List (Nat×Nat)}{t:LT}{v:Value}{x:D}(ht:sA t=false)(h:yQ w (vU G ds) t v x):Y7 w G ds t v x none:=by
 cases t with
 |sl o e el=>cases o with
  |true=>simp[sA]at ht
  |false=>exact⟨rfl,h⟩
 |int k=>exact⟨rfl,h⟩
 |bool=>exact⟨rfl,h⟩
 |str=>exact⟨rfl,h⟩
theorem Ns(y:dI w G st sl){t:LT}{a:A}{v:Value}{r:Nm D}(h:JD st t a=some r)(l:dO w G st a v){ds:List (Nat×Nat)}(F:∀d,d∈r.ds->d∈ds):
  ∃n,Y7 w G ds t v r.x n/\r.os=eE [n]:=by
 unfold JD at h;split at h
 ·rename_i k L n;obtain⟨f,c⟩:=aW h;simp[ok]at c;subst c;have:=(fF k L).1 f;subst this;exact⟨none,⟨rfl,l⟩,rfl⟩
 ·simp[ok]at h;subst h;exact⟨none,⟨rfl,l⟩,rfl⟩
 ·simp[ok]at h;subst h;exact⟨none,⟨rfl,l⟩,rfl⟩
 ·rename_i o e el;simp[ok]at h;subst h;have hv:v=.slice none 0 0:=l;cases o with
  |true=>exact⟨none,⟨hv,rfl⟩,rfl⟩
  |false=>exact⟨none,⟨rfl,by rw[hv];exact Ii⟩,rfl⟩
 ·rename_i e el r' u;obtain⟨a',f,c⟩:=bind_some h;split at c
  ·rename_i K;obtain⟨g,j⟩:=aW c;simp[ok]at j;subst j;simp only[Bool.and_eq_true]at g;have e1:=Nat.eq_of_beq_eq_true g.1;have m:=iK _ _ g.2;subst e1;subst m;have C:=eM f;obtain⟨J,_,_⟩:=l.2 a' C;have H:=(y.arrs r' a' C.1).2.2.2;rw[K]at H;exact⟨some r',by rw[J];exact H,rfl⟩
  ·simp[aG]at c
 ·rename_i e el dep Q T xs;obtain⟨f,c⟩:=aW h;simp[ok]at c;subst c;simp only[Bool.and_eq_true]at f;obtain⟨f,g,j⟩:=f;have:=iK _ _ j;subst this;exact⟨none,⟨rfl,dA (λb s=>⟨zX F b s,rfl⟩) _ _ _ (l.2 f)⟩,rfl⟩
 ·rename_i e el r' u p;obtain⟨q,f,c⟩:=bind_some h;obtain⟨g,j⟩:=aW c;simp[ok]at j;subst j;simp only[Bool.and_eq_true]at g;have m:=iK _ _ g.2;obtain⟨J,P⟩:=MT y l f;subst m;exact⟨none,⟨rfl,dA (λb s=>⟨zX F b s,rfl⟩) _ _ _ P⟩,rfl⟩
 ·simp[aG]at h
theorem Jd(l m:List (Option Nat)):eE (l++m)=eE l++eE m:=by
 induction l with
 |nil=>rfl
 |cons a l c=>cases a<;>simp[eE,c]
theorem LU(g:dI w G st sl){ds:List (Nat×Nat)}{k:Nat}{x:D}:∀{lv:List LT}{l:List A}{vs:List Value}{r:Nm (LD)}(j:Nat),cN st lv l=some r->eZ w G st l vs->(∀d,d∈r.ds->d∈ds)->
  (∀c e,r.x[c]?=some e->lf k x (j+c)=e)->∃ns,SC w G ds lv vs k x j ns/\r.os=eE ns/\r.x.length=lv.length
 |[],[],vs,r,j,h,hv,_,_=>by simp[cN,ok]at h;subst h;exact⟨[],⟨hv,rfl⟩,rfl,rfl⟩
 |t::ts,a::l,vs,r,j,h,hv,m,hx=>by simp only[cN]at h;obtain⟨p,C,F⟩:=bind_some h;obtain⟨q,H,f⟩:=bind_some F;simp[ok]at f;subst f;obtain⟨v,U,rfl,J,K⟩:=hv;obtain⟨n,u,y⟩:=Ns g C J (ds:=ds) (λd hd=>m d (by simp[hd]));obtain⟨ns,P,Q,T⟩:=LU g (j+1) H K (λd hd=>m d (by simp[hd])) (λc e L=>by have:=hx (c+1) e (by simpa using L);rw[<-this];congr 1;omega);have s:=hx 0 p.x rfl;refine⟨n::ns,⟨v,U,n,ns,rfl,rfl,by rw[Nat.add_zero]at s;rw[s];exact u,P⟩,?_,by simp[T]⟩;have:n::ns=[n]++ns:=rfl;simp only;rw[this,Jd,y,Q]
 |[],_::_,_,_,_,h,_,_,_=>by simp[cN,aG]at h
 |_::_,[],_,_,_,h,_,_,_=>by simp[cN,aG]at h
theorem zD{st:St}:∀{lv:List LT}{l:List A}{r:Nm (LD)},cN st lv l=some r->r.x.length=lv.length
 |[],[],r,h=>by simp[cN,ok]at h;subst h;rfl
 |t::ts,a::l,r,h=>by simp only[cN]at h;obtain⟨p,f,d⟩:=bind_some h;obtain⟨q,e,c⟩:=bind_some d;simp[ok]at c;subst c;simp[zD e]
 |[],_::_,_,h=>by simp[cN,aG]at h
 |_::_,[],_,h=>by simp[cN,aG]at h
theorem XG(g:dI w G st sl){ds:List (Nat×Nat)}{lv:List LT}{l:List A}{vs:List Value}{r:Nm (LD)}(h:cN st lv l=some r)(hv:eZ w G st l vs)(j:∀d,d∈r.ds->d∈ds):
  ∃ns,SC w G ds lv vs lv.length (zS r.x) 0 ns/\r.os=eE ns:=by
 have m:=zD h;obtain⟨ns,e,f,_⟩:=LU (k:=lv.length) (x:=zS r.x) g 0 h hv j (λs u c=>by have t:=(List.getElem?_eq_some_iff.1 c).1;rw[Nat.zero_add,JL m s (by omega)];simp[List.getD,c]);exact⟨ns,e,f⟩
end
def Gh.noFz(G:Gh):Gh:={G with own:=λb=>match G.own b with|.fz=>.out |t=>t}
theorem Je{G:Gh}{b r:Nat}{p:cQ}:G.noFz.own b=.arr r p<->G.own b=.arr r p:=by simp only[Gh.noFz];cases G.own b<;>simp
mutual
theorem aCf{w:World}{G:Gh}{S:List cQ}{r:Nat}:∀(t:LT)(p:cQ)(v:Value)(x:D),t.noFz=true->Xa w G S r t p v x->Xa w G.noFz S r t p v x
 |.sl true e el,p,v,x,d,h=>by
  simp only[LT.noFz,Bool.true_and]at d;rcases h with h |⟨u,a,n,c,y,C,F,H,J,K⟩
  ·exact .inl h
  ·refine .inr ⟨u,a,n,c,y,C,F,H,J,λad L=>?_⟩;obtain⟨g,j,cs,f,l,m,s⟩:=K ad L;exact⟨g,Je.2 j,cs,f,l,m,λi P=>Jf el p i _ _ _ _ _ d (s i P)⟩
 |.sl false e el,p,v,x,d,h=>by simp[LT.noFz]at d
 |.int k,_,v,x,_,h=>h
 |.bool,_,v,x,_,h=>h
 |.str,_,v,x,_,h=>h
theorem Jf{w:World}{G:Gh}{S:List cQ}{r:Nat}:∀(ts:List LT)(p:cQ)(i b o k:Nat)(x:D)(j:Nat),pS ts=true->V7 w G S r ts p i b o k x j->V7 w G.noFz S r ts p i b o k x j
 |[],_,_,_,_,_,_,_,_,_=>trivial
 |t::ts,p,i,b,o,k,x,j,c,⟨⟨v,d,e⟩,f⟩=>by simp only[pS,Bool.and_eq_true]at c;exact⟨⟨v,d,aCf t _ v _ c.1 e⟩,Jf ts p i b o k x (j+1) c.2 f⟩
end
theorem aCg{w:World}{G:Gh}{S:List cQ}{r:Nat}{e:TypeId}{el:List LT}{p:cQ}{v:Value}{data:LD}(K:pS el=true)(h:yV w G S r e el p v data):yV w G.noFz S r e el p v data:=by obtain⟨a,n,c,s,t,u,y,C,F⟩:=h;refine⟨a,n,c,s,t,u,y,C,λad H=>?_⟩;obtain⟨f,g,cs,d,j,l,m⟩:=F ad H;exact⟨f,Je.2 g,cs,d,j,l,λi J=>Jf el p i _ _ _ _ _ K (m i J)⟩
def Gh.adopt(Gm Gx:Gh)(c d:Nat)(v:Value):Gh:=
 {own:=λb=>match Gx.own b with
   |.arr r p=>if r=c then .arr d p else Gm.own b
   |_=>Gm.own b
  H:=λm p=>if m=d then(match p with|[]=>v |_::_=>Gx.H c p)else Gm.H m p
  B:=Gm.B}
theorem QE{Gm Gx:Gh}{c d:Nat}{v:Value}{b:Nat}(h:∀p,Gx.own b≠.arr c p):(Gm.adopt Gx c d v).own b=Gm.own b:=by
 simp only[Gh.adopt];cases f:Gx.own b with
 |arr r p=>have:r≠c:=λe=>h p (by rw[f,e]);simp[this]
 |_=>rfl
theorem Jg{Gm Gx:Gh}{c d:Nat}{v:Value}{b:Nat}{p:cQ}(h:Gx.own b=.arr c p):(Gm.adopt Gx c d v).own b=.arr d p:=by simp[Gh.adopt,h]
theorem Eg{w:World}{Gm Gx:Gh}{st:St}{sl:Nat->Option Value}(u:dI w Gm st sl){g d:Nat}{e:TypeId}{el:List LT}{v:Value}{data:LD}(F:yV w Gx [] g e el [] v data)
  (a3:∀b p,Gx.own b=.arr g p->Gm.own b=.out)(m:(∀b,Gx.own b=.fz->Gm.own b=.fz)\/pS el=true)(a6:∀b,Gx.own b≠.out->b<w.heap.size)(a4:∀r p,∃a n c,Gx.H r p=.slice a n c):
  Le w Gm st w (Gm.adopt Gx g d v) (st.newArr d e el data)/\dI w (Gm.adopt Gx g d v) (st.newArr d e el data) sl/\dO w (Gm.adopt Gx g d v) (st.newArr d e el data) (.vw d st.ctr []) v:=by
 have hv:∃a n c,v=.slice a n c:=by obtain⟨a,n,c,h,_⟩:=F;exact⟨a,n,c,h⟩
 have t:∀b T,Gm.own b=T->T≠.out->(Gm.adopt Gx g d v).own b=T:=λb T f a7=>by rw[QE (λp C=>a7 (by rw[<-f];exact a3 b p C)),f]
 have L:(Gm.adopt Gx g d v).H d []=v:=by simp[Gh.adopt]
 have b1:yV w (Gm.adopt Gx g d v) [] d e el [] v data:=by
  have key:∀l:Gh,(∀b p,l.own b=.arr g p->Gx.own b=.arr g p)->(∀p,l.H g p=Gx.H g p)->(∀b,l.own b=.fz->(Gm.adopt Gx g d v).own b=.fz)->yV w l [] g e el [] v data->yV w (Gm.adopt Gx g d v) [] d e el [] v data:=λl K a0 a1 a2=>by obtain⟨a,n,c,H,J,b3,b4,b5,b6⟩:=a2;refine⟨a,n,c,H,J,b3,b4,b5,λad y=>?_⟩;obtain⟨Q,U,cs,P,V,W,Y⟩:=b6 ad y;refine⟨Q,Jg (K _ _ U),cs,P,V,W,λi a5=>?_⟩;refine MP (λb f=>⟨a1 b f,rfl⟩) el [] [] i i _ _ _ _ _ (λ_=>rfl) (λj q _=>.inr ⟨?_,λb f=>⟨Jg (K _ _ f),rfl⟩⟩) (λj q b0=>by simp at b0) (Y i a5);simp only[List.nil_append];simp[Gh.adopt,a0]
  rcases m with m |m
  ·exact key Gx (λ_ _ h=>h) (λ_=>rfl) (λb f=>t b .fz (m b f) (by simp)) F
  ·exact key Gx.noFz (λb p h=>Je.1 h) (λ_=>rfl) (λb f=>by simp only[Gh.noFz]at f;cases a9:Gx.own b<;>simp[a9]at f) (aCg m F)
 obtain⟨H,J⟩:=iP u (stg:=st) (d:=d) (e:=e) (el:=el) (data:=data) (w':=w) (G':=Gm.adopt Gx g d v) ⟨rfl,rfl,Nat.le_refl _⟩
  (λr s a y=>.inl ⟨y,λp=>by simp[Gh.adopt,s],λb p f=>⟨t b _ f (by simp),rfl⟩⟩) (λb f=>⟨t b _ f (by simp),rfl⟩) (λ_=>rfl) (λb f=>⟨t b _ f (by simp),rfl⟩)
  (by rw[L];exact b1) (λb f=>by
   by_cases h:∃p,Gx.own b=.arr g p
   ·obtain⟨p,h⟩:=h;exact a6 b (by rw[h];simp)
   ·rw[QE (λp C=>h ⟨p,C⟩)]at f;exact u.live b f) (λr p=>by
   by_cases s:r=d
   ·cases p with
    |nil=>obtain⟨a,n,c,e⟩:=hv;exact⟨a,n,c,by simp[Gh.adopt,s,e]⟩
    |cons x q=>obtain⟨a,n,c,e⟩:=a4 g (x::q);exact⟨a,n,c,by simp[Gh.adopt,s,e]⟩
   ·obtain⟨a,n,c,e⟩:=u.hdr r p;exact⟨a,n,c,by simp[Gh.adopt,s,e]⟩)
 refine⟨H,J,?_⟩;have:=jO (w:=w) (G:=Gm.adopt Gx g d v) (stg:=st) (d:=d) (e:=e) (el:=el) (data:=data);rw[L]at this;have b2:jA (st.newArr d e el data) d []=st.ctr:=by simp[jA,St.newArr,bQ,jP]
 rw[b2]at this;exact this
theorem XH{w:World}{G:Gh}{st:St}{sl:Nat->Option Value}(g:dI w G st sl){d:Nat}{e:TypeId}{el:List LT}:
  Le w G st w (G.nilAt d) (st.newArr d e el [])/\dI w (G.nilAt d) (st.newArr d e el []) sl/\dO w (G.nilAt d) (st.newArr d e el []) (.vw d st.ctr []) (.slice none 0 0):=by
 have h:(G.nilAt d).H d []=.slice none 0 0:=by simp[Gh.nilAt]
 obtain⟨t,u⟩:=iP g (stg:=st) (d:=d) (e:=e) (el:=el) (data:=[]) (w':=w) (G':=G.nilAt d) ⟨rfl,rfl,Nat.le_refl _⟩
  (λr m a l=>.inl ⟨l,λp=>by simp[Gh.nilAt,m],λb p f=>⟨f,rfl⟩⟩) (λb f=>⟨f,rfl⟩) (λ_=>rfl) (λb f=>⟨f,rfl⟩)
  (by rw[h];exact⟨none,0,0,rfl,rfl,Nat.le_refl _,Nat.zero_le _,λ_=>rfl,by simp⟩) g.live (λr p=>by
   by_cases e1:r=d/\p=[]
   ·exact⟨none,0,0,by simp[Gh.nilAt,e1]⟩
   ·obtain⟨a,n,c,j⟩:=g.hdr r p;exact⟨a,n,c,by simp only[Gh.nilAt,if_neg e1];exact j⟩)
 refine⟨t,u,?_⟩;have:=jO (w:=w) (G:=G.nilAt d) (stg:=st) (d:=d) (e:=e) (el:=el) (data:=[]);rw[h]at this;have s:jA (st.newArr d e el []) d []=st.ctr:=by simp[jA,St.newArr,bQ,jP]
 rw[s]at this;exact this
structure aGQ(Gx Gm Gm':Gh)(ns:List Nat):Prop where
 own:∀b,(∀n p,n∈ns->Gx.own b≠.arr n p)->Gm'.own b=Gm.own b
 arr:∀b n p,n∈ns->Gx.own b=.arr n p->∃r q,Gm'.own b=.arr r q
 B:∀b,Gm'.B b=Gm.B b
theorem qS(dep:List (Nat×Nat))(nb k:Nat)(x:D):∀(ts:List LT)(j:Nat)(st:St),(dJ dep nb k x j ts st).1.sl =st.sl/\(dJ dep nb k x j ts st).1.bx =st.bx
 |[],j,st=>⟨rfl,rfl⟩
 |.sl true e el::ts,j,st=>by simp only[dJ];exact qS dep nb k x ts (j+1) (st.newArr (nb+j) e el (lf k x j).els)
 |.sl false e el::ts,j,st=>by simp only[dJ];exact qS dep nb k x ts (j+1) st
 |.int c::ts,j,st=>by simp only[dJ];exact qS dep nb k x ts (j+1) st
 |.bool::ts,j,st=>by simp only[dJ];exact qS dep nb k x ts (j+1) st
 |.str::ts,j,st=>by simp only[dJ];exact qS dep nb k x ts (j+1) st
theorem Yi{dep:List (Nat×Nat)}{nb k:Nat}{x:D}{j:Nat}{t:LT}{ts:List LT}{st:St}(ht:sA t=false):
  dJ dep nb k x j (t::ts) st=((dJ dep nb k x (j+1) ts st).1,DL dep t (lf k x j)::(dJ dep nb k x (j+1) ts st).2):=by
 cases t with
 |sl o e el=>cases o with
  |true=>simp[sA]at ht
  |false=>rfl
 |_=>rfl
theorem EI{w:World}{Gx:Gh}{ds dep:List (Nat×Nat)}{nb k:Nat}{x:D}(W:∀b,Gx.own b≠.out->b<w.heap.size)(U:∀r p,∃a n c,Gx.H r p=.slice a n c):
  ∀{ts:List LT}{vs:List Value}{j:Nat}{ns:List (Option Nat)}{Gm:Gh}{st:St}{sl:Nat->Option Value},SC w Gx ds ts vs k x j ns->dI w Gm st sl->(eE ns).Nodup->(∀n∈eE ns,∀d∈ds,d.1≠n)->
   (∀n∈eE ns,∀b p,Gx.own b=.arr n p->Gm.own b=.out)->((∀b,vU Gx ds b->vU Gm dep b)\/pS ts=true)->(∀d,d∈dep->d.2<st.ctr)->((∀b,Gx.own b=.fz->Gm.own b=.fz)\/∀t∈ts,AF t=true)->
   ∃Gm',aGQ Gx Gm Gm' (eE ns)/\Le w Gm st w Gm' (dJ dep nb k x j ts st).1 /\dI w Gm' (dJ dep nb k x j ts st).1 sl/\eZ w Gm' (dJ dep nb k x j ts st).1 (dJ dep nb k x j ts st).2 vs
 |[],vs,j,ns,Gm,st,sl,⟨a1,a2⟩,H,_,_,_,_,_,_=>by subst a1;subst a2;exact⟨Gm,⟨λ_ _=>rfl,λb n p l=>by simp[eE]at l,λ_=>rfl⟩,Le.refl w Gm st,H,rfl⟩
 |t::ts,vs,j,ns,Gm,st,sl,⟨v,b0,n,a0,a1,a2,G,a3⟩,H,F,y,C,g,J,T=>by
  subst a1;subst a2;by_cases ht:sA t=true
  ·obtain⟨e,el,rfl⟩:∃e el,t=.sl true e el:=by
    cases t with
    |sl o e el=>cases o with
     |true=>exact⟨e,el,rfl⟩
     |false=>simp[sA]at ht
    |_=>simp[sA]at ht
   have b3:(∀b,Gx.own b=.fz->Gm.own b=.fz)\/pS el=true:=by
    rcases T with h |h
    ·exact .inl h
    ·exact .inr (by have:=h (.sl true e el) (by simp);simpa[AF]using this)
   cases n with
   |some m=>
    simp only[eE]at F y C⊢;obtain⟨a6,a7,a9⟩:=Eg (d:=nb+j) H G (C m (by simp)) b3 W U;have V:∀b,(∀p,Gx.own b≠.arr m p)->(Gm.adopt Gx m (nb+j) v).own b=Gm.own b:=λb f=>QE f;obtain⟨Gm',s,u,L,P⟩:=EI W U (dep:=dep) (nb:=nb) (ns:=a0) (j:=j+1) a3 a7 (List.nodup_cons.1 F).2 (λn l=>y n (by simp[l]))
     (λn l b p f=>by rw[V b (λp' Y=>by rw[f]at Y;injection Y with Y;exact(List.nodup_cons.1 F).1 (Y▸l))];exact C n (by simp[l]) b p f)
     (by
      rcases g with g |g
      ·left;intro b f;have b6:∀p,Gx.own b≠.arr m p:=λp K=>by
        rcases f with f |⟨d,hd,p',f⟩
        ·rw[K]at f;simp at f
        ·rw[K]at f;injection f with f;exact y m (by simp) d hd f.symm
       have:=g b f;unfold vU at this⊢;rw[V b b6];exact this
      ·exact .inr (by simp only[pS,Bool.and_eq_true]at g;exact g.2))
     (λd hd=>Nat.lt_succ_of_lt (J d hd))
     (by
      rcases T with h |h
      ·left;intro b f;rw[V b (λp K=>by rw[f]at K;simp at K)];exact h b f
      ·exact .inr λt ht=>h t (by simp[ht]))
    refine⟨Gm',⟨λb f=>?_,λb n p l f=>?_,λb=>s.B b⟩,?_,?_,?_⟩
    ·rw[s.own b (λn p l=>f n p (by simp[l])),V b (λp=>f m p (by simp))]
    ·by_cases a5:n∈eE a0
     ·exact s.arr b n p a5 f
     ·have:n=m:=by
       rcases List.mem_cons.1 l with h |h
       ·exact h
       ·exact absurd h a5
      subst this;refine⟨nb+j,p,?_⟩;rw[s.own b (λn' p' b5 Q=>by rw[f]at Q;injection Q with Q;exact a5 (Q▸b5))];exact Jg f
    ·exact a6.trans u
    ·exact L
    ·exact⟨v,b0,rfl,dS u _ _ a9,P⟩
   |none=>
    simp only[eE]at F y C⊢;obtain⟨hv,b7⟩:=G;subst hv;obtain⟨a6,a7,a9⟩:=XH (d:=nb+j) (e:=e) (el:=el) H;obtain⟨Gm',s,u,L,P⟩:=EI W U (dep:=dep) (nb:=nb) (ns:=a0) (j:=j+1) a3 a7 F y C (g.imp id λh=>by simp only[pS,Bool.and_eq_true]at h;exact h.2) (λd hd=>Nat.lt_succ_of_lt (J d hd))
     (T.imp id λh t ht=>h t (by simp[ht]))
    have a4:(dJ dep nb k x j (.sl true e el::ts) st)=((dJ dep nb k x (j+1) ts (st.newArr (nb+j) e el [])).1,.vw (nb+j) st.ctr []::(dJ dep nb k x (j+1) ts (st.newArr (nb+j) e el [])).2):=by simp only[dJ,b7]
    rw[a4];exact⟨Gm',⟨s.own,s.arr,s.B⟩,a6.trans u,L,_,b0,rfl,dS u _ _ a9,P⟩
  ·have b2:sA t=false:=by simpa using ht
   have b4:n=none/\yQ w (vU Gx ds) t v (lf k x j):=by
    cases t with
    |sl o e el=>cases o with
     |true=>simp[sA]at ht
     |false=>exact G
    |int k=>exact G
    |bool=>exact G
    |str=>exact G
   obtain⟨rfl,b1⟩:=b4;simp only[eE]at F y C⊢;obtain⟨Gm',s,u,L,P⟩:=EI W U (dep:=dep) (nb:=nb) (ns:=a0) (j:=j+1) a3 H F y C (g.imp id λh=>by simp only[pS,Bool.and_eq_true]at h;exact h.2) J (T.imp id λh t ht=>h t (by simp[ht]));rw[Yi b2];refine⟨Gm',s,u,L,v,b0,rfl,?_,P⟩;have hd:dO w Gm st (DL dep t (lf k x j)) v:=by
    rcases g with g |g
    ·exact MQ J (dA (λb f=>⟨g b f,rfl⟩) _ _ _ b1)
    ·simp only[pS,Bool.and_eq_true]at g;exact MQ J (So (λo e el a4=>by
      subst a4;have:=g.1;cases o with
      |true=>simp[sA]at b2
      |false=>simp[LT.noFz]at this) b1)
   exact dS u _ _ hd
structure F2(G:Gh)(st:St)(ds:List (Nat×Nat))(gs bn:List Nat)(Gk:Gh):Prop where
 fz:∀b,G.own b=.fz->Gk.own b=.fz
 dep:∀b d p,d∈ds->G.own b=.arr d.1 p->Gk.own b=.fz
 rp:∀n x u,look st.bx n=some x->(rZ n,u)∈ds->Gk.own (G.B n).1 =.fz
 free:∀b r p,G.own b=.arr r p->(∀d∈ds,d.1≠r)->r∉gs->Gk.own b=.out
 box:∀b,G.own b=.box->(∀n x,look st.bx n=some x->(G.B n).1 =b->(∀u,(rZ n,u)∉ds)/\n∉bn)->Gk.own b=.out
 out:∀b,G.own b=.out->Gk.own b=.out
def okI(G:Gh)(st:St)(ds:List (Nat×Nat))(b:Nat):Prop:=vU G ds b\/∃n x u,look st.bx n=some x/\(rZ n,u)∈ds/\b=(G.B n).1
theorem F2.okI{G Gk:Gh}{st:St}{ds:List (Nat×Nat)}{gs bn:List Nat}(h:F2 G st ds gs bn Gk){b:Nat}(c:okI G st ds b):vU Gk [] b:=by
 rw[PR];rcases c with(c |⟨d,hd,p,c⟩) |⟨n,x,u,e,f,rfl⟩
 ·exact h.fz b c
 ·exact h.dep b d p hd c
 ·exact h.rp n x u e f
section
variable{P:Program}{w:World}{G:Gh}{st:St}{slc:Nat->Option Value}{E:fM}{ds:List (Nat×Nat)}
theorem L2(a4:gY P E)(V:dI w G st slc){t:TypeId}{ti:TI}(ht:E.tt.look t=some ti){a:A}{v:Value}(g:dO w G st a v){p:List (Nat×Nat)×D}(h:aDJ E st ti a=some p)(Y:∀d,d∈p.1->d∈ds):
  ∃vs,(if ti.agg then v=.agg ⟨vs⟩else vs=[v])/\vs.length=ti.lv.length/\∀(j:Nat)(t:LT)(u:Value),ti.lv[j]?=some t->vs[j]?=some u->yQ w (okI G st ds) t u (lf ti.lv.length p.2 j):=by
 have b7:=a4.types _ _ ht;have b4:∀(a:A),dO w G st a v->FS (Rm a) ti.agg=true->∀q,F4 st ti.lv (fY a)=some q->q.1=p.1->zS q.2=p.2->
   ∃vs,(if ti.agg then v=.agg ⟨vs⟩else vs=[v])/\vs.length=ti.lv.length/\∀(j:Nat)(t:LT)(u:Value),ti.lv[j]?=some t->vs[j]?=some u->yQ w (okI G st ds) t u (lf ti.lv.length p.2 j):=by
  intro a g e7 q d1 e1 a9;have c1:Rm a=ti.agg:=by cases s:Rm a<;>cases J:ti.agg<;>simp_all[FS]
  obtain⟨vs,a1,U⟩:∃vs,(if ti.agg then v=.agg ⟨vs⟩else vs=[v])/\eZ w G st (fY a) vs:=by
   rw[<-c1];cases a with
   |agg xs=>obtain⟨vs,d3,e0⟩:=g;exact⟨vs,d3,e0⟩
   |_=>exact⟨[v],rfl,v,[],rfl,g,rfl⟩
  obtain⟨b0,F,H,T⟩:=JM V d1 (λj t f=>DY b7.lvF j t f) U;refine⟨vs,a1,H,λj t u f C=>?_⟩;have c7:j<ti.lv.length:=(List.getElem?_eq_some_iff.1 f).1;rw[<-a9,JL F j c7];exact dA (λb W=>⟨.inl (zX (by rw[e1];exact Y) b W),rfl⟩) _ _ _ (T j t u f C)
 unfold aDJ at h;split at h
 ·rename_i b u k n;unfold aBo at h;obtain⟨m,s,J⟩:=bind_some h;obtain⟨l,K,y⟩:=bind_some J;obtain⟨a2,b5⟩:=aW y;obtain⟨q,b6,a3⟩:=bind_some b5;simp[ok]at a3;subst a3;simp only[Bool.and_eq_true,Bool.not_eq_true']at a2;obtain⟨a1,U,b1,b2,b3⟩:=a2;have c8:=Nat.eq_of_beq_eq_true U;have a5:=iK _ _ b2;have e9:=Nat.le_of_ble_eq_true b3;simp only[oR]at s;have c0:=a4.types _ _ s;obtain⟨x,L,e3,e4⟩:=fX K;subst e4;obtain⟨hv,d0⟩:=g.2 x L e3;obtain⟨_,_,c3⟩:=V.boxes b x L;obtain⟨cs,e,e2,f1,a6⟩:=c3.cells (vV K L);have c2:∃vs:List Value,eZ w G st (kL (k*n) x.lv) vs/\∀j v,vs[j]?=some v->w.cell? ⟨(G.B b).1,(G.B b).2 +j,none⟩=some v:=by
   refine⟨(List.range (kL (k*n) x.lv).length).map λj=>(cs[(G.B b).2 +j]?).getD undef,dG.2 ⟨by simp,λj a v g r=>?_⟩,λj v r=>?_⟩
   ·have f:=(List.getElem?_eq_some_iff.1 g).1;rw[List.getElem?_map,List.getElem?_range f]at r;rw[mW,List.getElem?_take]at g;split at g
    ·have a0:j<x.lv.length:=(List.getElem?_eq_some_iff.1 g).1;obtain⟨v0,Q,a7⟩:=a6 j a0;simp[Q]at r;subst r;simpa[List.getD,g]using a7
    ·simp at g
   ·have f:j<(kL (k*n) x.lv).length:=by have:=(List.getElem?_eq_some_iff.1 r).1;simpa using this
    rw[List.getElem?_map,List.getElem?_range f]at r;have a0:j<x.lv.length:=by rw[mW]at f;simp at f;omega
    obtain⟨v0,Q,a7⟩:=a6 j a0;simp[Q]at r;subst r;simp[World.cell?,e2,Q]
  obtain⟨vs,e5,e6⟩:=c2;have d2:∀(j:Nat)(t:LT),(Fu m.lv n)[j]?=some t->t.setOwn false=t:=λj t ht=>by
   have f:j<n*m.lv.length:=by have:=(List.getElem?_eq_some_iff.1 ht).1;rwa [AI]at this
   have c9:0<m.lv.length:=Nat.pos_of_ne_zero (λh=>by rw[h]at f;simp at f);have e:=Nat.div_add_mod j m.lv.length;have c5:j/m.lv.length<n:=Nat.div_lt_of_lt_mul (by rw[Nat.mul_comm];exact f);have:=WH m.lv n (j/m.lv.length) (j%m.lv.length) c5 (Nat.mod_lt _ c9);rw[Nat.mul_comm,e,ht]at this;exact DY c0.lvF _ t this.symm
  obtain⟨b0,F,H,T⟩:=JM V b6 d2 e5;rw[AI]at F H;refine⟨[v],by rw[b1];rfl,by rw[a5];rfl,λj t u f C=>?_⟩;have c6:j=0:=by have:=(List.getElem?_eq_some_iff.1 C).1;simp at this;omega
  subst c6;rw[a5]at f⊢;simp at f C;subst f;subst C;have c4:∀d,d∈q.1->d∈ds:=λd hd=>Y d (by simp[hd]);have:=V9 (w:=w) (okb:=okI G st ds) (e:=ti.e) (el:=m.lv) (b:=(G.B b).1) (o:=(G.B b).2) (n:=n) (c:=n) (vs:=vs) (xs:=q.2) (.inr ⟨b,x,0,L,Y _ (by simp),rfl⟩) (Nat.le_refl _) d0 (by rw[H]) (by rw[F])
   e6 (λj t v f hv=>dA (λb W=>⟨.inl (zX c4 b W),rfl⟩) _ _ _ (T j t v f hv)) false
  rw[hv];rw[c8];simpa[lf]using this
 ·rename_i a' f0;obtain⟨s,J⟩:=aW h;obtain⟨q,K,y⟩:=bind_some J;simp[ok]at y;exact b4 a g s q K (by rw[<-y]) (by rw[<-y])
theorem Yj(f9:gY P E)(V:dI w G st slc){f:TI}(c9:fC false f.lv=f.lv){a:A}{v:Value}(s:dO w G st a v){u:Arg}(h:U9 st f a=some u)(L:∀d,d∈u.ds->d∈ds):
  u.os=[]/\u.gs=[]/\∃b o,v=.pointer (some ⟨b,o,none⟩)/\s7 w (okI G st ds) f.lv b o f.lv.length u.x 0:=by
 unfold U9 at h;split at h
 ·rename_i dep el x;obtain⟨m,C⟩:=aW h;simp[ok]at C;subst C;simp only[Bool.and_eq_true]at m;have a1:=iK _ _ m.2;obtain⟨b,o,e5,e6⟩:=s.2 m.1;refine⟨rfl,rfl,b,o,e5,?_⟩;rw[a1,yU,kD];exact sQ (λb H=>⟨.inl (zX L b H),rfl⟩) _ _ _ _ _ _ e6
 ·rename_i b a9 off;obtain⟨l,m,C⟩:=bind_some h;obtain⟨q,K,F⟩:=bind_some C;simp[ok]at F;subst F;obtain⟨x,T,e9,f0⟩:=fX m;subst f0;have hv:=s.2 x T e9;obtain⟨_,_,d1⟩:=V.boxes b x T;obtain⟨cs,e,e7,g0,a6⟩:=d1.cells (vV m T);have Y:(kL f.lv.length (oS off x.lv)).length=f.lv.length:=by
   obtain⟨g3,e1,_⟩:=bind_some K;have:=zD e1;have c6:∀{lv:List LT}{l:List A}{r:Nm (LD)},cN st lv l=some r->l.length=lv.length:=by
    intro lv;induction lv with
    |nil=>intro l r J;cases l with
     |nil=>rfl
     |cons _ _=>simp[cN,aG]at J
    |cons t ts e4=>intro l r J;cases l with
     |nil=>simp[cN,aG]at J
     |cons a l=>simp only[cN]at J;obtain⟨g1,_,d2⟩:=bind_some J;obtain⟨g2,d3,_⟩:=bind_some d2;simp[e4 d3]
   exact c6 e1
  have a4:∀j,j<f.lv.length->off+j<x.lv.length/\(kL f.lv.length (oS off x.lv))[j]?=x.lv[off+j]?:=λj g=>by rw[kN,if_pos g];rw[mW,sR]at Y;simp at Y;exact⟨by omega,rfl⟩
  have d0:∃vs:List Value,eZ w G st (kL f.lv.length (oS off x.lv)) vs/\∀j v,vs[j]?=some v->w.cell? ⟨(G.B b).1,(G.B b).2 +off+j,none⟩=some v:=by
   refine⟨(List.range f.lv.length).map λj=>(cs[(G.B b).2 +(off+j)]?).getD undef,dG.2 ⟨by simp[Y],λj a v s y=>?_⟩,λj v y=>?_⟩
   ·have g:j<f.lv.length:=by have:=(List.getElem?_eq_some_iff.1 s).1;omega
    obtain⟨W,e1⟩:=a4 j g;rw[e1]at s;obtain⟨v0,U,a7⟩:=a6 (off+j) W;rw[List.getElem?_map,List.getElem?_range g]at y;simp[U]at y;subst y;simpa[List.getD,s]using a7
   ·have g:j<f.lv.length:=by have:=(List.getElem?_eq_some_iff.1 y).1;simpa using this
    obtain⟨W,e1⟩:=a4 j g;obtain⟨v0,U,a7⟩:=a6 (off+j) W;rw[List.getElem?_map,List.getElem?_range g]at y;simp[U]at y;subst y;simp[World.cell?,e7,Nat.add_assoc,U]
  obtain⟨vs,a2,b0⟩:=d0;obtain⟨f6,b5,f7,b6⟩:=JM V K (λj t g=>DY c9 j t g) a2;refine⟨rfl,rfl,_,_,hv,Sj (.inr ⟨b,x,0,T,L _ (by simp),rfl⟩) f.lv 0 (λj t g=>?_)⟩;have e0:j<f.lv.length:=(List.getElem?_eq_some_iff.1 g).1;have a5:vs[j]?=some vs[j]:=by simp[show j<vs.length by omega]
  rw[Nat.zero_add,JL b5 j e0];exact⟨_,b0 j _ a5,dA (λb H=>⟨.inl (zX (λd hd=>L d (by simp[hd])) b H),rfl⟩) _ _ _ (b6 j t _ g a5)⟩
 ·rename_i r a9 p k i;obtain⟨q,m,C⟩:=bind_some h;obtain⟨K,F⟩:=aW C;simp[ok]at F;subst F;have a1:=iK _ _ K;obtain⟨a0,v0,_,a2,b0⟩:=JJ m;obtain⟨t,b7,f8,c2,b,o,n,c,c3,c4,c5⟩:=s.2 a0 v0;have e3:dO w G st (.vw r a9 p) (G.H r p):=⟨s.1,λa' a3=>by
   have:=EH a3 v0.1;obtain⟨f1,c0,c1,_⟩:=s.2 a' a3;exact⟨rfl,⟨f1,c0⟩,c1⟩⟩
  obtain⟨_,c8⟩:=MT V e3 m;obtain⟨a,n',c',e1,f2,f3,f4,f5,b4⟩:=c8;rw[c3]at e1;injection e1 with b1 b2 b3;subst b1;subst b2;subst b3;obtain⟨_,c7⟩:=b4 _ rfl (by omega);have Q:=HR a2;rw[b7]at Q;have e2:k=q.2.2.1.length:=by rw[c2];injection Q with Q;rw[Q]
  refine⟨rfl,rfl,b,o+i*k+0,c5,?_⟩;have:=c7 i c4;rw[kD]at this;rw[a1,kD,Nat.add_zero,e2];exact sQ (λb H=>⟨.inl (zX L b H),rfl⟩) _ _ _ _ _ _ this
 ·simp[aG]at h
end
section
variable{P:Program}{w:World}{G Gk:Gh}{st stk:St}{slc sl:Nat->Option Value}{E:fM}{ds:List (Nat×Nat)}{os0:List Nat}
theorem An{dep:List (Nat×Nat)}(f:∀d,d∈dep->d.2<stk.ctr){k:Nat}{x:D}:∀(ts:List LT)(c:Nat)(vs:List Value),vs.length=ts.length->(∀(j:Nat)(t:LT)(u:Value),ts[j]?=some t->vs[j]?=some u->yQ w (vU Gk dep) t u (lf k x (c+j)))->
  eZ w Gk stk (JA dep k x c ts) vs
 |[],_,vs,e,_=>by have:vs=[]:=List.eq_nil_of_length_eq_zero e;exact this
 |t::ts,c,[],e,_=>by simp at e
 |t::ts,c,v::vs,e,h=>by refine⟨v,vs,rfl,MQ f (by have:=h 0 t v rfl rfl;simpa using this),An f ts (c+1) vs (by simpa using e) (λj t u g l=>?_)⟩;have:=h (j+1) t u (by simpa using g) (by simpa using l);rwa [show c+(j+1)=c+1+j by omega]at this
theorem NL{agg:Bool}{n:Nat}{l:List A}{a:A}{v:Value}{vs:List Value}(h:FX agg n l=some a)(hv:if agg then v=.agg ⟨vs⟩else vs=[v])(d:eZ w Gk stk l vs):dO w Gk stk a v:=by
 obtain⟨_,c⟩:=JI h;cases agg with
 |true=>simp only[if_true]at c hv;subst c;subst hv;exact⟨vs,rfl,d⟩
 |false=>simp only[Bool.false_eq_true,if_false]at c hv;subst c;subst hv;obtain⟨m,r,e,f,j⟩:=d;injection e with e1 g;subst e1;exact f
theorem F2.change{gs0 bn0 t s:List Nat}{Gk':Gh}(j:dI w G st slc)(l:F2 G st ds gs0 bn0 Gk)(H:∀n,n∈gs0->n∈t)(J:∀n,n∈bn0->n∈s)(h:∀b,Gk'.own b=Gk.own b\/(∃r p,G.own b=.arr r p/\r∈t/\∀d∈ds,d.1≠r)\/(∃n x,look st.bx n=some x/\b=(G.B n).1 /\n∈s/\∀u,(rZ n,u)∉ds)):F2 G st ds t s Gk':=by
 refine⟨λb c=>?_,λb d p hd c=>?_,λn x u hx m=>?_,λb r p c hd F=>?_,λb c y=>?_,λb c=>?_⟩
 ·rcases h b with h |⟨r,p,h,_⟩ |⟨n,x,g,f,_⟩
  ·rw[h];exact l.fz b c
  ·rw[c]at h;simp at h
  ·have:=(j.boxes n x g).2.1;rw[<-f,c]at this;simp at this
 ·rcases h b with h |⟨r,q,h,_,f⟩ |⟨n,x,g,f,_⟩
  ·rw[h];exact l.dep b d p hd c
  ·rw[c]at h;injection h with h;exact absurd h (f d hd)
  ·have:=(j.boxes n x g).2.1;rw[<-f,c]at this;simp at this
 ·rcases h (G.B n).1 with h |⟨r,q,h,_,f⟩ |⟨n',K,g,f,_,v⟩
  ·rw[h];exact l.rp n x u hx m
  ·have:=(j.boxes n x hx).2.1;rw[h]at this;simp at this
  ·by_cases e:n=n'
   ·subst e;exact absurd m (v u)
   ·exact absurd f (j.apartB n n' x K hx g e)
 ·rcases h b with h |⟨r',q,h,g,f⟩ |⟨n,x,g,f,_⟩
  ·rw[h];exact l.free b r p c hd (λm=>F (H r m))
  ·rw[c]at h;injection h with h;exact absurd (h▸g) F
  ·have:=(j.boxes n x g).2.1;rw[<-f,c]at this;simp at this
 ·rcases h b with h |⟨r',q,h,g,f⟩ |⟨n,x,g,f,v,_⟩
  ·rw[h];exact l.box b c (λn x hx C=>⟨(y n x hx C).1,λm=>(y n x hx C).2 (J _ m)⟩)
  ·rw[c]at h;simp at h
  ·exact absurd v (y n x g f.symm).2
 ·rcases h b with h |⟨r',q,h,g,f⟩ |⟨n,x,g,f,_⟩
  ·rw[h];exact l.out b c
  ·rw[c]at h;simp at h
  ·have:=(j.boxes n x g).2.1;rw[<-f,c]at this;simp at this
theorem sS{l m:List Nat}(h:(l++m).Nodup):∀n∈l,n∉m:=λn d c=>(List.nodup_append.1 h).2.2 n d n c rfl
theorem sT{st:St}:∀{lv:List LT}{l:List A}{r:Nm (LD)},cN st lv l=some r->l.length=lv.length
 |[],[],_,_=>rfl
 |t::ts,a::l,r,h=>by simp only[cN]at h;obtain⟨p,_,c⟩:=bind_some h;obtain⟨q,d,_⟩:=bind_some c;simp[sT d]
 |[],_::_,_,h=>by simp[cN,aG]at h
 |_::_,[],_,h=>by simp[cN,aG]at h
theorem QF(m:dI w G st slc){n:Nat}{x:Bx}(hx:look st.bx n=some x)(s:x.mp=none):∃cs e vs,w.heap[(G.B n).1]?=some (.cells cs e (0,0))/\(G.B n).2 +x.lv.length<=cs.size/\eZ w G st x.lv vs/\∀j v,vs[j]?=some v->cs[(G.B n).2 +j]?=some v:=by
 obtain⟨_,_,r⟩:=m.boxes n x hx;obtain⟨cs,e,t,u,h⟩:=r.cells s;refine⟨cs,e,(List.range x.lv.length).map λj=>(cs[(G.B n).2 +j]?).getD undef,t,u,dG.2 ⟨by simp,λj a v g c=>?_⟩,λj v c=>?_⟩
 ·have d:=(List.getElem?_eq_some_iff.1 g).1;obtain⟨v0,f,l⟩:=h j d;rw[List.getElem?_map,List.getElem?_range d]at c;simp[f]at c;subst c;simpa[List.getD,g]using l
 ·have d:j<x.lv.length:=by have:=(List.getElem?_eq_some_iff.1 c).1;simpa using this
  obtain⟨v0,f,l⟩:=h j d;rw[List.getElem?_map,List.getElem?_range d]at c;simp[f]at c;subst c;exact f
theorem Pp{Gx:Gh}(f:dI w Gk stk sl){d b o:Nat}{l:List A}{cs:Array Value}{e:TypeId}{vs:List Value}(s:Gk.own b=.out)(m:w.heap[b]?=some (.cells cs e (0,0)))(J:o+l.length<=cs.size)(r:eZ w Gk stk l vs)
  (F:∀j v,vs[j]?=some v->cs[o+j]?=some v):Le w Gk stk w ((Gk.tag b .box).box d (b,o)) (stk.newBox d l)/\dI w ((Gk.tag b .box).box d (b,o)) (stk.newBox d l) sl/\dO w ((Gk.tag b .box).box d (b,o)) (stk.newBox d l) (.pb d stk.ctr 0) (.pointer (some ⟨b,o,none⟩)):=by
 have g:∀b',Gk.own b'≠.out->(Gk.tag b .box).own b'=Gk.own b'/\w.heap[b']?=w.heap[b']?:=λb' c=>by have:b'≠b:=λe=>c (by rw[e];exact s);exact⟨by simp[Gh.tag,this],rfl⟩
 have y:∀b',(Gk.tag b .box).own b'≠.out->b'<w.heap.size:=λb' c=>by
  simp only[Gh.tag]at c;split at c
  ·rename_i e1;rw[e1];exact(Array.getElem?_eq_some_iff.1 m).1
  ·exact f.live b' c
 have h:=Le.world (st:=stk) g (λ_ _=>rfl) (λ_=>rfl);have C:=f.world g (λ_ _=>rfl) (λ_=>rfl) y;have L:=(dG.1 r).1;refine⟨h.trans (Le.newBox _ _ _ _ _ _),C.newBox (cs:=cs) (e:=e) (by simp[Gh.tag]) m J (λj G=>?_) (λb' K hx P=>?_),?_⟩
 ·have H:j<vs.length:=by omega
  have t:vs[j]?=some vs[j]:=by simp[H]
  exact⟨vs[j],F j _ t,dS h _ _ ((dG.1 r).2 j _ _ (by simp[List.getD,G]) t)⟩
 ·intro e1;have:=(f.boxes b' K hx).2.1;have u:(Gk.B b').1 =b:=e1;rw[u,s]at this;simp at this
 ·exact⟨Nat.lt_succ_self _,λx hx Q=>by simp[Gh.box]⟩
def sU:TypeId×PM->A->List Nat
 |(_,.io _),.pb n _ _=>[n]
 |_,_=>[]
def gZ:List (TypeId×PM)->List A->List Nat
 |p::ps,a::as=>sU p a++gZ ps as
 |_,_=>[]
theorem x3(b5:gY P E)(F:dI w G st slc){all:List A}{p:TypeId×PM}{a:A}{v:Value}{u:Arg}{i:Nat}{ps:List (TypeId×PM)}{xs:LD}{vL:St}(h:FT E st all p a=some u)(V:dO w G st a v)(b6:∀d,d∈u.ds->d∈ds)
  (a6:(u.os++os0).Nodup)(W:∀n∈u.os,∀d∈ds,d.1≠n)(c1:iY [p]=true){gs0 bn0:List Nat}(c8:∀r,r∈gs0->r∈os0)(e4:∀n,n∈bn0->rZ n∈os0)(Y:dI w Gk stk sl)(H:F2 G st ds gs0 bn0 Gk)(K:fE E i (p::ps) (u.x::xs) stk=some vL):
  ∃Gk' c3 a',fE E (i+1) ps xs (c3.put i a')=some vL/\dI w Gk' c3 sl/\dO w Gk' c3 a' v/\F2 G st ds (u.gs++gs0) (sU p a++bn0) Gk'/\(∀r,r∈u.gs->r∈u.os)/\∀n,n∈sU p a->rZ n∈u.os:=by
 obtain⟨t,m⟩:=p;cases m with
 |ro=>simp only[FT]at h;obtain⟨ti,C,J⟩:=bind_some h;obtain⟨q,L,Q⟩:=bind_some J;simp[ok]at Q;subst Q;simp only[oR]at C;obtain⟨vs,a4,T,a9⟩:=L2 b5 F C V L (ds:=ds) b6;simp only[fE,oR,C,Option.bind_some]at K;obtain⟨a',b4,a5⟩:=bind_some K;have e5:=An (w:=w) (Gk:=Gk) (stk:=stk) (dep:=[]) (by simp) (k:=ti.lv.length) (x:=q.2) ti.lv 0 vs T (λj t u e7 c2=>by rw[Nat.zero_add];exact dA (λb y=>⟨H.okI y,rfl⟩) _ _ _ (a9 j t u e7 c2));exact⟨Gk,stk,a',a5,Y,NL b4 a4 e5,by simpa[sU]using H,by simp,by simp[sU]⟩
 |rp=>simp only[FT,MF]at h;obtain⟨e,C,J⟩:=bind_some h;obtain⟨b2,L,Q⟩:=bind_some J;simp only[oR]at C L;obtain⟨a4,c5,b,o,T,a9⟩:=Yj b5 F (b5.types _ _ L).lvF V Q (ds:=ds) b6;simp only[fE,oR,C,Option.bind_some,L]at K;refine⟨Gk,stk,.pz [] b2.lv u.x 0,K,Y,⟨by simp,λ_=>⟨b,o,T,?_⟩⟩,by rw[c5];simpa[sU]using H,by rw[c5];simp,by simp[sU]⟩;exact sQ (λb y=>⟨H.okI y,rfl⟩) _ _ _ _ _ _ a9
 |fnv f=>
  cases a<;>simp only[FT,aG]at h<;>(try cases h);rename_i g caps;cases caps with
  |cons _ _=>simp[FT,aG]at h
  |nil=>simp only[FT]at h;obtain⟨C,J⟩:=aW (s:= "") h;simp[ok]at J;subst J;have:=Nat.eq_of_beq_eq_true C;subst this;simp only[fE]at K;obtain⟨vs,e1,b3⟩:=V;exact⟨Gk,stk,.fn f [],K,Y,⟨vs,e1,b3⟩,by simpa[sU]using H,by simp,by simp[sU]⟩
 |mv=>
  cases a<;>simp only[FT,aG]at h<;>(try cases h)
  ·simp only[fE]at K;obtain⟨ti,C,J⟩:=bind_some K;obtain⟨b2,L,Q⟩:=bind_some J;obtain⟨d2,a1,a2⟩:=XH (d:=500+i) (e:=ti.e) (el:=fC true b2.lv) Y;have hv:v=.slice none 0 0:=V;subst hv;exact⟨_,_,_,Q,a1,a2,by simpa[sU]using H.change (Gk':=Gk.nilAt (500+i)) F (λn U=>U) (λn U=>U) (λb=>.inl rfl),by simp,by simp[sU]⟩
  ·rename_i r f8 p;cases p with
   |cons _ _=>simp[FT,aG]at h
   |nil=>
    simp only[FT]at h;obtain⟨q,C,J⟩:=bind_some h;obtain⟨ti,b2,L,Q,b4⟩:=AK J;obtain⟨a5,c6⟩:=aW (s:= "") b4;simp[ok]at c6;subst c6;simp only[Bool.and_eq_true]at a5;have e1:=Nat.eq_of_beq_eq_true a5.1;have b3:=iK _ _ a5.2;obtain⟨a',a4,T,a9,g2,g3,g4,g5,f3⟩:=mX F V C;simp only[fE,oR,L,Option.bind_some,Q]at K;have d1:∀d∈ds,d.1≠r:=W r (by simp);have f2:r∉gs0:=λc=>sS a6 r (by simp) (c8 r c);obtain⟨d2,a1,a2⟩:=Eg (d:=500+i) Y f3 (λb p y=>H.free b r p y d1 f2) (.inl H.fz) F.live F.hdr;rw[e1,b3]at a1 a2;refine⟨_,_,_,K,a1,a2,H.change F (λn U=>by simp[U]) (λn U=>by simp[U]) (λb=>?_),by simp,by simp[sU]⟩;by_cases y:∃p,G.own b=.arr r p
    ·obtain⟨p,y⟩:=y;exact .inr (.inl ⟨r,p,y,by simp,d1⟩)
    ·exact .inl (QE (λp a0=>y ⟨p,a0⟩))
 |io el=>
  simp only[FT]at h;unfold MF at h;split at h
  ·rename_i e6;simp at e6
  ·rename_i g1 n f8 b7;injection b7 with b7;subst b7;obtain⟨l,C,J⟩:=bind_some h;obtain⟨q,L,Q⟩:=bind_some J;simp[ok]at Q;subst Q;obtain⟨x,a3,f5,f6⟩:=fX C;subst f6;have hv:=V.2 x a3 f5;obtain⟨cs,e,vs,e2,g0,c4,e3⟩:=QF F a3 (vV C a3);have g8:=sT L;obtain⟨ns,a4,T⟩:=XG F L c4 (ds:=ds) b6;simp only at a6 W;have c0:rZ n∈Da n 0 1++q.os:=by simp[Da,rZ]
   have b1:∀m∈eE ns,m∈Da n 0 1++q.os:=λm c=>by rw[T];simp[c]
   have c9:∀u,(rZ n,u)∉ds:=λu c2=>W _ c0 _ c2 rfl;have e9:n∉bn0:=λc=>sS a6 _ c0 (e4 n c);have c7:=(F.boxes n x a3).2.1;simp only[fE]at K;obtain⟨a7,d3,h1,f7,e0⟩:=EI (nb:=nm (500+i) 0) (dep:=[]) F.live F.hdr a4 Y (by
     have:=(List.nodup_append.1 (List.nodup_append.1 a6).1).2.1;rw[T]at this;exact this) (λm c=>W m (b1 m c)) (λm c b p y=>H.free b m p y (W m (b1 m c)) (λhg=>sS a6 m (b1 m c) (c8 m hg)))
    (.inl λb y=>H.okI (.inl y)) (by simp) (.inl H.fz)
   have f1:a7.own (G.B n).1 =.out:=by
    rw[d3.own _ (λm p _ a0=>by rw[c7]at a0;simp at a0)];exact H.box _ c7 (λn' f9 f4 f0=>by
     by_cases e1:n'=n
     ·subst e1;exact⟨c9,e9⟩
     ·exact absurd f0 (F.apartB n' n f9 x f4 a3 e1))
   have g7:=(dG.1 e0).1;have g6:=(dG.1 c4).1;obtain⟨d2,a1,a2⟩:=Pp (Gx:=G) (d:=500+i) (o:=(G.B n).2) f7 f1 e2 (by omega) e0 e3;refine⟨_,_,_,K,a1,by rw[hv];exact a2,H.change F (λm c=>by simp[c]) (λm c=>by simp[c]) (λb=>?_),λr d0=>by simp at d0⊢;exact .inr d0,λm c=>by simp[sU]at c;subst c;exact c0⟩;by_cases y:b=(G.B n).1
   ·exact .inr (.inr ⟨n,x,a3,y,by simp[sU],c9⟩)
   ·have e1:((a7.tag (G.B n).1 .box).box (500+i) ((G.B n).1,(G.B n).2)).own b=a7.own b:=by simp[Gh.box,Gh.tag,y]
    by_cases b0:∃m p,m∈eE ns/\G.own b=.arr m p
    ·obtain⟨m,p,c,b0⟩:=b0;exact .inr (.inl ⟨m,p,b0,by rw[T];simp[c],W m (b1 m c)⟩)
    ·exact .inl (by
      show((a7.tag (G.B n).1 .box).box (500+i) ((G.B n).1,(G.B n).2)).own b=_;rw[e1];exact d3.own b (λm p c a0=>b0 ⟨m,p,c,a0⟩))
  ·simp[aG]at h
 |sio lv=>simp[iY]at c1
 |sub j g9 k=>simp[iY]at c1
 |clo f h0=>simp[iY]at c1
end
def aFb(w:World)(G:Gh)(ds:List (Nat×Nat))(el:List LT)(b o:Nat)(c:D)(os:List (Option Nat)):Prop:=
 G.own b=.box/\∃cs e vs,w.heap[b]?=some (.cells cs e (0,0))/\o+el.length<=cs.size/\(∀(j:Nat)(v:Value),vs[j]?=some v->cs[o+j]?=some v)/\SC w G ds el vs el.length c 0 os
def Yk(w:World)(G:Gh)(ds:List (Nat×Nat)):RM->Value->D->List Nat->List Nat->Prop
 |.val agg lv,u,x,ns,bs=>bs=[]/\∃vs os,(if agg then u=.agg ⟨vs⟩else vs=[u])/\SC w G ds lv vs lv.length x 0 os/\ns=eE os
 |.ptr el,u,x,ns,bs=>(x.els=[]/\u=.pointer none/\ns=[]/\bs=[])\/
   ∃c ys b o os,x.els=c::ys/\u=.pointer (some ⟨b,o,none⟩)/\aFb w G ds el b o c os/\ns=eE os/\bs=[b]
def Jh(w:World)(G:Gh)(ds:List (Nat×Nat)):List RM->List Value->D->Nat->List Nat->List Nat->Prop
 |[],us,_,_,ns,bs=>us=[]/\ns=[]/\bs=[]
 |m::g,us,x,c,ns,bs=>∃u f d e b1 b2,us=u::f/\ns=d++e/\bs=b1++b2/\Yk w G ds m u (x.fld c) d b1/\Jh w G ds g f x (c+1) e b2
def TO(w:World)(G:Gh)(ds:List (Nat×Nat)):List RM->Value->D->List Nat->List Nat->Prop
 |[],v,_,ns,bs=>v=.tuple #[]/\ns=[]/\bs=[]
 |[m],v,x,ns,bs=>Yk w G ds m v x ns bs
 |ms,v,x,ns,bs=>∃us,v=.tuple ⟨us⟩/\Jh w G ds ms us x 0 ns bs
def TP(w:World)(G:Gh)(ds:List (Nat×Nat)):List (TypeId×PM)->List Value->LD->List Nat->List Nat->Prop
 |[],vs,xs,ns,bs=>vs=[]/\xs=[]/\ns=[]/\bs=[]
 |(_,.io el)::ps,vs,xs,ns,bs=>∃v c x e b o os d b2,vs=v::c/\xs=x::e/\v=.pointer (some ⟨b,o,none⟩)/\aFb w G ds el b o x os/\ns=eE os++d/\bs=b::b2/\TP w G ds ps c e d b2
 |_::ps,vs,xs,ns,bs=>∃v c,vs=v::c/\TP w G ds ps c xs ns bs
structure aD3(w:World)(G:Gh)(s:FY)(vs:List Value)(r:D×LD)(v:Value):Prop where
 ex:∃ds n1 b1 n2 b2,TO w G ds s.rs v r.1 n1 b1/\TP w G ds s.ps vs r.2 n2 b2/\(n2++n1).Nodup/\(b2++b1).Nodup/\∀n∈n2++n1,∀d∈ds,d.1≠n
 live:∀b,G.own b≠.out->b<w.heap.size
 hdr:∀r p,∃a n c,G.H r p=.slice a n c
def Ji:St:={sl:=.nil,bx:=[],ar:=[],ctr:=1}
def NM(P:Program)(E:fM)(ctx:tU)(m:Nat)(s:FY):Prop:=
 ∀xs r,ctx m xs=some r->∃vL,fE E 0 s.ps xs Ji=some vL/\
  ∀w G vs,vs.length=s.ps.length->dI w G vL (λi=>vs[i]?)->Calls P s.fn ⟨vs⟩ w (λe w'=>∃v G',e=.returned v/\Fr w G w' G'/\aD3 w' G' s vs r v)
section
variable{P:Program}{w:World}{G Gk:Gh}{st stk:St}{slc sl:Nat->Option Value}{E:fM}{ds:List (Nat×Nat)}{os0:List Nat}
theorem F2.sub{gs0 bn0 g f:List Nat}(c:F2 G st ds gs0 bn0 Gk)(h:∀n,n∈gs0->n∈g)(m:∀n,n∈bn0->n∈f):F2 G st ds g f Gk:=
 ⟨c.fz,c.dep,c.rp,λb r p d hd s=>c.free b r p d hd (λe=>s (h r e)),λb d j=>c.box b d (λn x hx l=>⟨(j n x hx l).1,λe=>(j n x hx l).2 (m _ e)⟩),c.out⟩
def DH(sl:Nat->Option Value):Nat->List Value->Nat->Option Value
 |_,[]=>sl
 |i,v::vs=>DH (yY sl i v) (i+1) vs
theorem SD:∀(vs:List Value)(sl:Nat->Option Value)(i t:Nat),DH sl i vs t=if i<=t/\t<i+vs.length then vs[t-i]?else sl t
 |[],sl,i,t=>by rw[DH,if_neg (by simp)]
 |v::vs,sl,i,t=>by
  rw[DH,SD vs];simp only[List.length_cons,yY];by_cases c:i+1<=t/\t<i+1+vs.length
  ·rw[if_pos c,if_pos (by omega),show t-i=t-(i+1)+1 by omega];simp
  ·rw[if_neg c];by_cases d:t=i
   ·subst d;simp
   ·rw[if_neg d,if_neg (by omega)]
theorem TQ(C:gY P E)(F:dI w G st slc){all:List A}:∀(ps:List (TypeId×PM)){as:List A}{vs:List Value}{i:Nat}{u:List Nat×List Nat×List (Nat×Nat)×LD}{stk vL:St}{Gk:Gh}{sl:Nat->Option Value}{os0 gs0 bn0:List Nat},sP E st all ps as=some u->eZ w G st as vs->
  (∀d,d∈u.2.2.1->d∈ds)->(u.1++os0).Nodup->(∀n∈u.1,∀d∈ds,d.1≠n)->iY ps=true->(∀r,r∈gs0->r∈os0)->(∀n,n∈bn0->rZ n∈os0)->dI w Gk stk sl->F2 G st ds gs0 bn0 Gk->fE E i ps u.2.2.2 stk=some vL->
   vs.length=ps.length/\∃Gc,dI w Gc vL (DH sl i vs)/\F2 G st ds (u.2.1++gs0) (gZ ps as++bn0) Gc/\(∀r,r∈u.2.1->r∈u.1)/\∀n,n∈gZ ps as->rZ n∈u.1
 |[],[],vs,i,u,stk,vL,Gk,sl,os0,gs0,bn0,h,hv,_,_,_,_,_,_,s,l,e=>by simp[sP,ok]at h;subst h;simp[fE,ok]at e;subst e;have:vs=[]:=hv;subst this;exact⟨rfl,Gk,s,by simpa[gZ]using l,by simp,by simp[gZ]⟩
 |p::ps,a::as,vs,i,u,stk,vL,Gk,sl,os0,gs0,bn0,h,hv,j,K,g,b7,J,H,s,l,e=>by
  simp only[sP]at h;obtain⟨U,a2,a3⟩:=bind_some h;obtain⟨b6,a4,y⟩:=bind_some a3;simp[ok]at y;subst y;obtain⟨v,c0,rfl,a7,a9⟩:=hv;simp only at j K g e;have a5:iY [p]=true:=by obtain⟨t,m⟩:=p;cases m<;>simp_all[iY]
  have a6:iY ps=true:=by obtain⟨t,m⟩:=p;cases m<;>simp_all[iY]
  have L:(b6.1++(U.os++os0)).Nodup:=by refine List.Perm.nodup ?_ K;rw[List.append_assoc];exact(List.perm_append_comm_assoc _ _ _).symm.trans (List.Perm.refl _)|>.symm.symm.symm
  obtain⟨Gk',b5,a',b0,b1,b2,b3,Q,T⟩:=x3 C F a2 a7 (λd hd=>j d (by simp[hd])) (by
   refine(List.nodup_append.1 L).2.1) (λn c=>g n (by simp[c])) a5 J H s l e
  have b4:=b1.put (d:=i) b2;obtain⟨V,Gc,W,Y,a0,a1⟩:=TQ C F ps (stk:=b5.put i a') (i:=i+1) (os0:=U.os++os0) a4 a9 (λd hd=>j d (by simp[hd])) L (λn c=>g n (by simp[c])) a6
   (λr f=>by simp only[List.mem_append]at f⊢;exact f.imp (Q r) (J r)) (λn c=>by simp only[List.mem_append]at c⊢;exact c.imp (T n) (H n)) b4 b3 b0
  refine⟨by simp[V],Gc,W,Y.sub (λn c=>?_) (λn c=>?_),λr f=>?_,λn c=>?_⟩
  ·simp only[List.mem_append]at c⊢;rcases c with h |h |h
   ·exact .inl (.inr h)
   ·exact .inl (.inl h)
   ·exact .inr h
  ·simp only[gZ,List.mem_append]at c⊢;rcases c with h |h |h
   ·exact .inl (.inr h)
   ·exact .inl (.inl h)
   ·exact .inr h
  ·simp only[List.mem_append]at f⊢;exact f.imp (Q r) (a0 r)
  ·simp only[gZ,List.mem_append]at c⊢;exact c.imp (T n) (a1 n)
 |[],_::_,_,_,_,_,_,_,_,_,_,_,h,_,_,_,_,_,_,_,_,_,_=>by simp[sP,aG]at h
 |_::_,[],_,_,_,_,_,_,_,_,_,_,h,_,_,_,_,_,_,_,_,_,_=>by simp[sP,aG]at h
open Classical in
noncomputable def Gh.base(G:Gh)(st:St)(ds:List (Nat×Nat)):Gh:=
 {own:=λb=>match G.own b with
   |.fz=>.fz
   |.arr r _=>if∃d∈ds,d.1=r then .fz else .out
   |.box=>if∃n x u,look st.bx n=some x/\(rZ n,u)∈ds/\(G.B n).1 =b then .fz else .out
   |.out=>.out
  H:=G.H
  B:=G.B}
theorem Ym(G:Gh)(st:St)(g:∀n x,look st.bx n=some x->G.own (G.B n).1 =.box)(ds:List (Nat×Nat)):F2 G st ds [] [] (G.base st ds):=by
 refine⟨λb h=>by simp[Gh.base,h],λb d p hd h=>?_,λn x u hx l=>?_,λb r p h hd _=>?_,λb h j=>?_,λb h=>by simp[Gh.base,h]⟩
 ·simp only[Gh.base,h];rw[if_pos ⟨d,hd,rfl⟩]
 ·simp only[Gh.base,g n x hx];rw[if_pos ⟨n,x,u,hx,l,rfl⟩]
 ·simp only[Gh.base,h];rw[if_neg (by rintro⟨d,c,e⟩;exact hd d c e)]
 ·simp only[Gh.base,h];rw[if_neg (by rintro⟨n,x,u,c,e,f⟩;exact(j n x c f).1 u e)]
theorem x4{b:Nat}(h:(G.base st ds).own b≠.out):G.own b≠.out:=λe=>h (by simp[Gh.base,e])
theorem Yn(c:dI w G st slc):dI w (G.base st ds) Ji (λ_=>none):=
 ⟨λ_ _ h=>by simp at h,λb x h=>by simp[Ji,look]at h,λb b' x e h=>by simp[Ji,look]at h,λr a h=>by simp[Ji,look]at h,λb d=>c.live b (x4 d),c.hdr⟩
end
end Go.Eng

namespace Go.Eng
open Classical in
noncomputable def Gh.merge(G Gx:Gh)(n:Nat)(gs:List Nat)(ds':List (Nat×Nat)):Gh:=
 {own:=λb=>if b<n/\¬∃r p,G.own b=.arr r p/\r∈gs then G.own b else
   match Gx.own b with
   |.fz=>.fz
   |.arr c _=>if∃d∈ds',d.1=c then .fz else .out
   |_=>.out
  H:=G.H
  B:=G.B}
section
variable{w w':World}{G Gc Gx:Gh}{st:St}{slc:Nat->Option Value}{ds ds':List (Nat×Nat)}{gs bn:List Nat}
theorem XI:∀(gs:List Nat)(st:St)(r:Nat),look (lF gs st).ar r=if r∈gs then none else look st.ar r
 |[],st,r=>by simp[lF]
 |g::gs,st,r=>by
  rw[lF,XI gs];simp only[St.gone,nM,List.mem_cons];by_cases h:r∈gs
  ·simp[h]
  ·by_cases e:r=g
   ·simp[e]
   ·simp[h,e]
theorem KA:∀(gs:List Nat)(st:St),(lF gs st).bx=st.bx/\(lF gs st).sl=st.sl/\(lF gs st).ctr=st.ctr
 |[],st=>⟨rfl,rfl,rfl⟩
 |g::gs,st=>KA gs (st.gone g)
theorem HB:∀n,(JE n).length=n
 |0=>rfl
 |n+1=>congrArg (·+1) (HB n)
theorem Jj:∀(n j:Nat),(JE n).getD j .undef=.undef
 |0,j=>by simp[JE]
 |n+1,0=>rfl
 |n+1,j+1=>by rw[JE,List.getD_cons_succ];exact Jj n j
theorem NN(st:St)(b n:Nat):look (JF st b).bx n=if n=b then(look st.bx n).map (λx=>{uid:=x.uid,lv:=JE x.lv.length})else look st.bx n:=by
 unfold JF;cases h:look st.bx b with
 |none=>
  by_cases e:n=b
  ·subst e;simp[h]
  ·simp[e]
 |some x=>
  simp only[bQ];by_cases e:n=b
  ·subst e;simp[h]
  ·simp[e]
theorem Yo(st:St)(b:Nat):(JF st b).ar=st.ar/\(JF st b).sl=st.sl/\(JF st b).ctr=st.ctr:=by unfold JF;cases look st.bx b<;>exact⟨rfl,rfl,rfl⟩
theorem QG:∀(ps:List (TypeId×PM))(as:List A)(st:St),(kC ps as st).ar=st.ar/\(kC ps as st).sl=st.sl/\(kC ps as st).ctr=st.ctr/\
  ∀n,(n∉gZ ps as->look (kC ps as st).bx n=look st.bx n)/\(n∈gZ ps as->look (kC ps as st).bx n=(look st.bx n).map (λx=>{uid:=x.uid,lv:=JE x.lv.length}))
 |[],as,st=>by
  have:kC [] as st=st:=by cases as<;>rfl
  rw[this];exact⟨rfl,rfl,rfl,λn=>⟨λ_=>rfl,λh=>by simp[gZ]at h⟩⟩
 |p::ps,[],st=>by
  have:kC (p::ps) [] st=st:=by obtain⟨t,m⟩:=p;cases m<;>rfl
  rw[this];exact⟨rfl,rfl,rfl,λn=>⟨λ_=>rfl,λh=>by simp[gZ]at h⟩⟩
 |p::ps,a::as,st=>by
  by_cases c:∃b,sU p a=[b]
  ·obtain⟨b,c⟩:=c;have f:kC (p::ps) (a::as) st=kC ps as (JF st b):=by
    obtain⟨t,m⟩:=p;cases m<;>cases a<;>simp[sU]at c;subst c;rfl
   rw[f];obtain⟨u,v,y,e⟩:=QG ps as (JF st b);obtain⟨l,r,s⟩:=Yo st b;refine⟨u.trans l,v.trans r,y.trans s,λn=>⟨λd=>?_,λd=>?_⟩⟩
   ·simp only[gZ,c,List.mem_append,List.mem_singleton,not_or]at d;rw[(e n).1 d.2,NN,if_neg d.1]
   ·simp only[gZ,c,List.mem_append,List.mem_singleton]at d;by_cases g:n∈gZ ps as
    ·rw[(e n).2 g,NN];split
     ·cases look st.bx n<;>simp[HB]
     ·rfl
    ·rw[(e n).1 g,NN];have:n=b:=d.resolve_right g;rw[if_pos this]
  ·have j:sU p a=[]:=by
    obtain⟨t,m⟩:=p;cases m<;>cases a<;>first|rfl |exact absurd ⟨_,rfl⟩ c
   have f:kC (p::ps) (a::as) st=kC ps as st:=by obtain⟨t,m⟩:=p;cases m<;>cases a<;>first|rfl |(simp[sU]at j)
   rw[f];have:=QG ps as st;simpa[gZ,j]using this
theorem EJ{b:Nat}{n:Nat}(e:b<n)(h:∀r p,G.own b=.arr r p->r∉gs):(G.merge Gx n gs ds').own b=G.own b:=by simp only[Gh.merge];rw[if_pos ⟨e,λ⟨r,p,c,d⟩=>h r p c d⟩]
theorem unlent(s:dI w G st slc)(c:F2 G st ds gs bn Gc){b:Nat}(h:∀r p,G.own b=.arr r p->r∉gs)(l:∀n x,look st.bx n=some x->(G.B n).1 =b->n∉bn):Gc.own b=.out\/Gc.own b=.fz:=by
 cases e:G.own b with
 |out=>exact .inl (c.out b e)
 |fz=>exact .inr (c.fz b e)
 |arr r p=>
  by_cases hd:∃d∈ds,d.1=r
  ·obtain⟨d,f,rfl⟩:=hd;exact .inr (c.dep b d p f e)
  ·exact .inl (c.free b r p e (λd f g=>hd ⟨d,f,g⟩) (h r p e))
 |box=>
  by_cases hd:∃n x u,look st.bx n=some x/\(rZ n,u)∈ds/\(G.B n).1 =b
  ·obtain⟨n,x,u,f,g,rfl⟩:=hd;exact .inr (c.rp n x u f g)
  ·exact .inl (c.box b e (λn x hx j=>⟨λu m=>hd ⟨n,x,u,hx,m,j⟩,l n x hx j⟩))
theorem aCh(l:dI w G st slc)(b1:F2 G st ds gs bn Gc)(Y:Fr w Gc w' Gx)(b7:∀b,Gx.own b≠.out->b<w'.heap.size){ps:List (TypeId×PM)}{as:List A}(b3:bn=gZ ps as)
  (b4:∀n x,look st.bx n=some x->n∈bn->∃cs e,w'.heap[(G.B n).1]?=some (.cells cs e (0,0))/\(G.B n).2 +x.lv.length<=cs.size):
  Le w G st w' (G.merge Gx w.heap.size gs ds') (kC ps as (lF gs st))/\dI w' (G.merge Gx w.heap.size gs ds') (kC ps as (lF gs st)) (λ_=>none):=by
 subst b3;obtain⟨e1,d0,a5⟩:=KA gs st;obtain⟨a6,d1,a7,V⟩:=QG ps as (lF gs st);have P:∀r a,look (kC ps as (lF gs st)).ar r=some a->look st.ar r=some a/\r∉gs:=λr a h=>by
  rw[a6,XI]at h;split at h
  ·simp at h
  ·rename_i d;exact⟨h,d⟩
 have H:∀n f,look (kC ps as (lF gs st)).bx n=some f->∃x,look st.bx n=some x/\x.uid=f.uid/\x.lv.length=f.lv.length/\(n∉gZ ps as->f=x)/\(n∈gZ ps as->f.lv=JE x.lv.length/\f.mp=none):=λn f h=>by
  by_cases d:n∈gZ ps as
  ·rw[(V n).2 d,e1]at h;cases a2:look st.bx n with
   |none=>simp[a2]at h
   |some x=>simp[a2]at h;subst h;exact⟨x,rfl,rfl,by simp[HB],λh=>absurd d h,λ_=>⟨rfl,rfl⟩⟩
  ·rw[(V n).1 d,e1]at h;exact⟨f,h,rfl,rfl,λ_=>rfl,λh=>absurd h d⟩
 have J:(kC ps as (lF gs st)).ctr=st.ctr:=a7.trans a5;have Q:∀b,b<w.heap.size->(∀r p,G.own b=.arr r p->r∉gs)->(∀n x,look st.bx n=some x->(G.B n).1 =b->n∉gZ ps as)->w'.heap[b]?=w.heap[b]?:=λb c y L=>(Y.block b c (unlent l b1 y L)).1;have a1:∀b,G.own b=.fz->(G.merge Gx w.heap.size gs ds').own b=.fz/\w'.heap[b]?=w.heap[b]?:=λb c=>by have s:=l.live b (by rw[c];simp);refine⟨by rw[EJ s (λr p h=>by rw[c]at h;simp at h),c],Q b s (λr p h=>by rw[c]at h;simp at h) (λn x hx d=>?_)⟩;have:=(l.boxes n x hx).2.1;rw[d,c]at this;simp at this
 have a4:∀r,r∉gs->∀b p,G.own b=.arr r p->(G.merge Gx w.heap.size gs ds').own b=.arr r p/\w'.heap[b]?=w.heap[b]?:=λr c3 b p c=>by
  have s:=l.live b (by rw[c];simp);have y:∀r' p',G.own b=.arr r' p'->r'∉gs:=λr' p' h=>by rw[c]at h;injection h with h;exact h▸c3
  refine⟨by rw[EJ s y,c],Q b s y (λn x hx d=>?_)⟩;have:=(l.boxes n x hx).2.1;rw[d,c]at this;simp at this
 have a0:Le w G st w' (G.merge Gx w.heap.size gs ds') (kC ps as (lF gs st)):=by
  refine⟨by rw[J];exact Nat.le_refl _,λr u p a' _ h=>?_,λn f _ hx=>?_,λr a' _ h=>?_,a1⟩
  ·exact⟨a',⟨(P r a' h.1).1,h.2⟩,rfl,rfl,rfl,λh=>h⟩
  ·obtain⟨x,g,m,_⟩:=H n f hx;exact⟨x,g,m,rfl⟩
  ·obtain⟨g,m⟩:=P r a' h;exact⟨a',g,rfl,λb p c=>by obtain⟨C,t⟩:=a4 r m b p c;exact⟨⟨p,C⟩,t⟩⟩
 refine⟨a0,λ_ _ h=>by simp at h,λn f hx=>?_,λn n' x f y L c2=>?_,λr a b2=>?_,λb c=>?_,l.hdr⟩
 ·obtain⟨x,g,m,a9,b0,W⟩:=H n f hx;obtain⟨C,t,b5⟩:=l.boxes n x g;have s:=l.live (G.B n).1 (by rw[t];simp);have a3:(G.merge Gx w.heap.size gs ds').own (G.B n).1 =.box:=by rw[EJ s (λr p h=>by rw[t]at h;simp at h),t]
  by_cases d:n∈gZ ps as
  ·obtain⟨K,F,c8,T⟩:=b4 n x g d;refine⟨by rw[J,<-m];exact C,a3,lG.of_cells (W d).2 ⟨K,F,c8,by rw[<-a9];exact T,λj b6=>?_⟩⟩;have c0:(G.B n).2 +j<K.size:=by omega
   refine⟨K[(G.B n).2 +j],Array.getElem?_eq_getElem c0,?_⟩;rw[(W d).1,Jj];exact trivial
  ·have c4:=b0 d;subst c4;refine⟨by rw[J];exact C,a3,b5.step ?_ rfl rfl λj b6 v T=>dS a0 _ _ T⟩;exact Q (G.B n).1 s (λr p h=>by rw[t]at h;simp at h) (λn' U c5 c1=>by
     by_cases F:n'=n
     ·subst F;exact d
     ·exact absurd c1 (l.apartB n' n U f c5 g F))
 ·obtain⟨U,g,_⟩:=H n x y;obtain⟨c9,m,_⟩:=H n' f L;exact l.apartB n n' U c9 g m c2
 ·obtain⟨g,m⟩:=P r a b2;obtain⟨C,t,c6,c7⟩:=l.arrs r a g;rw[J];exact⟨C,t,c6,HT a1 (λ_=>rfl) (λb p c=>a4 r m b p c) c7⟩
 ·simp only[Gh.merge]at c;split at c
  ·rename_i h;exact Nat.lt_of_lt_of_le h.1 Y.size
  ·refine b7 b (λe=>?_);rw[e]at c;simp at c
end
end Go.Eng

namespace Go.Eng
section
variable{w w':World}{G Gc Gx Gm:Gh}{st s:St}{slc sl:Nat->Option Value}{ds ds':List (Nat×Nat)}{gs bn:List Nat}
structure Ret(w:World)(G Gc:Gh)(st:St)(ds:List (Nat×Nat))(gs bn:List Nat)(w':World)(Gx:Gh):Prop where
 imp:F2 G st ds gs bn Gc
 fr:Fr w Gc w' Gx
 rel:∃sl,dI w G st sl
 box:∀n x,look st.bx n=some x->n∈bn->Gx.own (G.B n).1 =.box
theorem Ret.unlent(h:Ret w G Gc st ds gs bn w' Gx){b:Nat}(g:b<w.heap.size)(d:∀r p,G.own b=.arr r p->r∉gs)(c:Gx.own b≠.box\/∀n x,look st.bx n=some x->(G.B n).1 =b->n∉bn):Gx.own b=Gc.own b/\(Gc.own b=.out\/Gc.own b=.fz):=by
 obtain⟨sl,f⟩:=h.rel;have e:∀n x,look st.bx n=some x->(G.B n).1 =b->n∉bn:=by
  rcases c with c |c
  ·intro n x hx l j;have:=h.box n x hx j;rw[l]at this;exact c this
  ·exact c
 have:=Go.Eng.unlent f h.imp d e;exact⟨(h.fr.block b g this).2,this⟩
theorem NO(b:Nat):(b<w.heap.size/\(∀r p,G.own b=.arr r p->r∉gs)/\(G.merge Gx w.heap.size gs ds').own b=G.own b)\/
  ((G.merge Gx w.heap.size gs ds').own b=match Gx.own b with|.fz=>.fz |.arr rx _=>(open Classical in if∃d∈ds',d.1=rx then .fz else .out) |_=>.out):=by
 by_cases h:b<w.heap.size/\¬∃r p,G.own b=.arr r p/\r∈gs
 ·left;refine⟨h.1,λr p c e=>h.2 ⟨r,p,c,e⟩,?_⟩;simp only[Gh.merge];rw[if_pos h]
 ·right;simp only[Gh.merge];rw[if_neg h];try(cases Gx.own b<;>simp)
theorem Ret.arr(h:Ret w G Gc st ds gs bn w' Gx){b n:Nat}{p:cQ}(e:Gx.own b=.arr n p):(G.merge Gx w.heap.size gs ds').own b=if∃d∈ds',d.1=n then .fz else .out:=by
 rcases NO (w:=w) (G:=G) (Gx:=Gx) (gs:=gs) (ds':=ds') b with⟨c,j,l⟩ |c
 ·obtain⟨f,g⟩:=h.unlent c j (.inl (by rw[e];simp));rw[e]at f;rw[<-f]at g;simp at g
 ·rw[c,e]
theorem Ret.free(h:Ret w G Gc st ds gs bn w' Gx){b n:Nat}{p:cQ}(f:Gx.own b=.arr n p)(g:∀d∈ds',d.1≠n):(G.merge Gx w.heap.size gs ds').own b=.out:=by rw[h.arr f,if_neg (by rintro⟨d,c,e⟩;exact g d c e)]
theorem Ret.ptr(h:Ret w G Gc st ds gs bn w' Gx){b:Nat}(f:Gx.own b=.box)(j:∀n x,look st.bx n=some x->(G.B n).1 =b->n∉bn):(G.merge Gx w.heap.size gs ds').own b=.out:=by
 rcases NO (w:=w) (G:=G) (Gx:=Gx) (gs:=gs) (ds':=ds') b with⟨c,g,l⟩ |c
 ·obtain⟨d,e⟩:=h.unlent c g (.inr j);rw[f]at d;rw[<-d]at e;simp at e
 ·rw[c,f]
theorem Eh{d:Nat×Nat}:∀{l:List (Nat×Nat)},rK l=false->d∈l->d.1<1000000000000
 |[],_,h=>by simp at h
 |(r,v)::l,h,hd=>by
  simp only[rK,Bool.or_eq_false_iff]at h;rcases List.mem_cons.1 hd with rfl |hd
  ·have:=h.1;rcases Nat.lt_or_ge r 1000000000000 with h |h
   ·exact h
   ·exact absurd (Nat.ble_eq_true_of_le h) (by simp[this])
  ·exact Eh h.2 hd
theorem Ret.read(h:Ret w G Gc st ds gs bn w' Gx)(t:rK ds=false){b:Nat}(c:vU Gx ds' b):vU (G.merge Gx w.heap.size gs ds') ds b:=by
 rcases c with c |⟨d,hd,p,c⟩
 ·rcases NO (w:=w) (G:=G) (Gx:=Gx) (gs:=gs) (ds':=ds') b with⟨j,l,s⟩ |j
  ·obtain⟨e,F⟩:=h.unlent j l (.inl (by rw[c];simp));rw[c]at e;unfold vU;rw[s];cases f:G.own b with
   |out=>have:=h.imp.out b f;rw[<-e]at this;simp at this
   |fz=>exact .inl rfl
   |arr r p=>
    by_cases hd:∃d∈ds,d.1=r
    ·obtain⟨d,g,rfl⟩:=hd;exact .inr ⟨d,g,p,rfl⟩
    ·have:=h.imp.free b r p f (λd g m=>hd ⟨d,g,m⟩) (l r p f);rw[<-e]at this;simp at this
   |box=>have:=h.imp.box b f (λn x hx y=>⟨λu C=>by have:=Eh t C;simp[rZ]at this;omega,λv=>by have:=h.box n x hx v;rw[y,c]at this;simp at this⟩);rw[<-e]at this;simp at this
  ·left;rw[j,c]
 ·left;rw[h.arr c,if_pos ⟨d,hd,rfl⟩]
structure Mg(Gx Gm0 Gm:Gh)(done bdone:List Nat):Prop where
 own:∀b,(∀n p,n∈done->Gx.own b≠.arr n p)->b∉bdone->Gm.own b=Gm0.own b
theorem Mg.refl(Gx Gm0:Gh):Mg Gx Gm0 Gm0 [] []:=⟨λ_ _ _=>rfl⟩
theorem Mg.into{Gm0 Gm':Gh}{done bdone ns:List Nat}(h:Mg Gx Gm0 Gm done bdone)(k:aGQ Gx Gm Gm' ns):Mg Gx Gm0 Gm' (ns++done) bdone:=
 ⟨λb d e=>by rw[k.own b (λn p c=>d n p (by simp[c]))];exact h.own b (λn p c=>d n p (by simp[c])) e⟩
structure Can(Gx Gm0:Gh)(ds ds':List (Nat×Nat))(names blocks:List Nat):Prop where
 free:∀n∈names,∀b p,Gx.own b=.arr n p->Gm0.own b=.out
 ptr:∀b∈blocks,Gm0.own b=.out
 pbox:∀b∈blocks,Gx.own b=.box
 read:rK ds=false->∀b,vU Gx ds' b->vU Gm0 ds b
 ap:∀n∈names,∀d∈ds',d.1≠n
theorem Tn{Gm0:Gh}{names blocks done bdone:List Nat}(g:Can Gx Gm0 ds ds' names blocks)(F:Mg Gx Gm0 Gm done bdone)(K:∀b∈bdone,Gx.own b=.box)(J:dI w' Gm s sl)(U:∀b,Gx.own b≠.out->b<w'.heap.size)(T:∀r p,∃a n c,Gx.H r p=.slice a n c)
  {ts:List LT}{vs:List Value}{k nb:Nat}{x:D}{os:List (Option Nat)}{dep:List (Nat×Nat)}(h:SC w' Gx ds' ts vs k x 0 os)(G:(eE os++done).Nodup)(C:∀n∈eE os,n∈names)(P:∀n∈done,n∈names)
  (L:(dep=ds/\rK ds=false)\/ds=[]\/pS ts=true)(Q:∀d,d∈dep->d.2<s.ctr)(Y:ds=[]\/∀t∈ts,AF t=true):
  ∃Gm',Mg Gx Gm0 Gm' (eE os++done) bdone/\Le w' Gm s w' Gm' (dJ dep nb k x 0 ts s).1 /\dI w' Gm' (dJ dep nb k x 0 ts s).1 sl/\eZ w' Gm' (dJ dep nb k x 0 ts s).1 (dJ dep nb k x 0 ts s).2 vs/\∀b,Gm'.B b=Gm.B b:=by
 have y:∀b,(∀n p,n∈done->Gx.own b≠.arr n p)->Gx.own b≠.box->Gm.own b=Gm0.own b:=λb f u=>F.own b f (λV=>u (K b V));have v:∀(dep:List (Nat×Nat)),(∀b,vU Gx ds' b->vU Gm0 dep b)->∀b,vU Gx ds' b->vU Gm dep b:=λdep hd b e=>by
  have:=hd b e;unfold vU at this⊢;rw[y b (λn p j l=>by
   rcases e with e |⟨d,hd,p',e⟩
   ·rw[l]at e;simp at e
   ·rw[l]at e;injection e with e;exact g.ap n (P n j) d hd e.symm) (λl=>by
   rcases e with e |⟨d,hd,p',e⟩
   ·rw[l]at e;simp at e
   ·rw[l]at e;simp at e)]
  exact this
 obtain⟨Gm',H,a0,a1,a2⟩:=EI (nb:=nb) (dep:=dep) U T h J (List.nodup_append.1 G).1 (λn j=>g.ap n (C n j)) (λn j b p e=>by
   rw[y b (λn' p' W m=>by rw[e]at m;injection m with m;exact sS G n j (m▸W)) (by rw[e];simp)];exact g.free n (C n j) b p e)
  (by
   rcases L with⟨f,u⟩ |f |f
   ·subst f;exact .inl (v dep (λb e=>g.read u b e))
   ·subst f;refine .inl (v dep (λb e=>?_));have:=g.read rfl b e;exact zX (ds:=[]) (by simp) b this
   ·exact .inr f) Q (by
   rcases Y with f |f
   ·left;subst f;intro b e;have:=v [] (λb e=>g.read rfl b e) b (.inl e);exact(PR b).1 this
   ·exact .inr f)
 exact⟨Gm',F.into H,a0,a1,a2,H.B⟩
theorem aFL(d:dI w Gm s sl){b:Nat}{x:Bx}{l:List A}{cs:Array Value}{e:TypeId}{vs:List Value}(hx:look s.bx b=some x)(Q:w.heap[(Gm.B b).1]?=some (.cells cs e (0,0)))(W:(Gm.B b).2 +l.length<=cs.size)(H:eZ w Gm s l vs)
  (T:∀(j:Nat)(v:Value),vs[j]?=some v->cs[(Gm.B b).2 +j]?=some v):Le w Gm s w Gm {s with bx:=qD s.bx b {uid:=x.uid,lv:=l}}/\dI w Gm {s with bx:=qD s.bx b {uid:=x.uid,lv:=l}} sl:=by
 have g:=Le.bxPut (w:=w) (G:=Gm) hx l;have a4:=(dG.1 H).1;obtain⟨K,L,_⟩:=d.boxes b x hx;refine⟨g,d.step g (λt v hv=>dS g _ _ (d.slots t v hv)) (λb' f c=>?_) (λb1 b2 a1 a2 e1 y V=>?_) (λr a P=>.inl ⟨P,λ_=>rfl,λb p h=>⟨h,rfl⟩⟩) d.live d.hdr⟩
 ·simp only[bQ]at c;by_cases m:b'=b
  ·rw[if_pos m]at c;injection c with c;subst c;subst m;refine .inr ⟨K,L,lG.of_cells rfl ⟨cs,e,Q,W,λj u=>?_⟩⟩;have U:j<vs.length:=by simp only at u;omega
   have J:vs[j]?=some vs[j]:=by simp[U]
   refine⟨vs[j],T j _ J,dS g _ _ ?_⟩;exact(dG.1 H).2 j _ _ (by simp only at u;simp[List.getD,u]) J
  ·rw[if_neg m]at c;exact .inl ⟨c,rfl,rfl,(d.boxes b' f c).2.1⟩
 ·simp only[bQ]at e1 y;have C:∀b' f,(if b'=b then some ({uid:=x.uid,lv:=l}:Bx)else look s.bx b')=some f->∃a3,look s.bx b'=some a3:=λb' f F=>by
   split at F
   ·rename_i h;exact⟨x,h▸hx⟩
   ·exact⟨f,F⟩
  obtain⟨y1,Y⟩:=C b1 a1 e1;obtain⟨y2,a0⟩:=C b2 a2 y;exact d.apartB b1 b2 y1 y2 Y a0 V
theorem Yp{l m:List A}(h:l.length=m.length):vO m 0 l=l:=by
 apply List.ext_getElem?;intro j;rw[MY l m 0 j (by omega)];by_cases c:j<l.length
 ·rw[if_pos (by omega)];rfl
 ·rw[if_neg (by omega),List.getElem?_eq_none (by omega),List.getElem?_eq_none (by omega)]
theorem EK{Gm0:Gh}{names blocks:List Nat}(a5:Can Gx Gm0 ds ds' names blocks)(b0:∀b,Gx.own b≠.out->b<w'.heap.size)(a7:∀r p,∃a n c,Gx.H r p=.slice a n c):
  ∀(ps:List (TypeId×PM)){as:List A}{vs:List Value}{xs:LD}{d b2 done:List Nat}{Gm:Gh}{s g:St},TP w' Gx ds' ps vs xs d b2->eZ w G st as vs->Le w G st w' Gm s->kZ ps as xs s=some g->dI w' Gm s sl->Mg Gx Gm0 Gm done []->
   (∀n,Gm.B n=G.B n)->(d++done).Nodup->(∀n∈d,n∈names)->(∀n∈done,n∈names)->(ds=[]\/vP ps=true)->iY ps=true->
   ∃l,Mg Gx Gm0 l (d++done) []/\Le w' Gm s w' l g/\dI w' l g sl/\∀n,l.B n=G.B n
 |[],as,vs,xs,d,b2,done,Gm,s,g,⟨H,J,f3,g9⟩,hv,K,hg,L,T,y,_,_,_,_,_=>by
  subst H;subst J;subst f3;have:as=[]:=by
   cases as with
   |nil=>rfl
   |cons a as=>obtain⟨v,d2,e,_⟩:=hv;simp at e
  subst this;simp[kZ,ok]at hg;subst hg;exact⟨Gm,T,Le.refl w' Gm s,L,y⟩
 |p::ps,[],vs,xs,d,b2,done,Gm,s,g,P,hv,K,hg,L,T,y,_,_,_,_,W=>by obtain⟨t,m⟩:=p;cases m<;>simp_all[kZ,aG,iY]
 |p::ps,a::as,vs,xs,d,b2,done,Gm,s,g,P,hv,K,hg,L,T,y,b1,V,a6,b3,W=>by
  obtain⟨v,d2,rfl,c4,c5⟩:=hv;have c2:iY ps=true:=by obtain⟨t,m⟩:=p;cases m<;>simp_all[iY]
  by_cases a9:∃t el,p=(t,.io el)
  ·obtain⟨t,el,rfl⟩:=a9;obtain⟨b6,Y,x,h8,b,o,os,c7,g7,e1,e2,e3,H,e4,e5,J⟩:=P;injection e1 with a1 a2;subst a1;subst a2;subst e2;subst e4;subst e5;simp only[kZ]at hg;obtain⟨s1,U,e6⟩:=bind_some hg;have c3:ds=[]\/pS el=true:=b3.imp id λh=>by simp only[vP,Bool.and_eq_true]at h;exact h.1
   have b4:ds=[]\/vP ps=true:=b3.imp id λh=>by simp only[vP,Bool.and_eq_true]at h;exact h.2
   unfold Rn at U;split at U
   ·rename_i n u;obtain⟨lv,e7,e9⟩:=bind_some U;obtain⟨f0,b7⟩:=aW e9;have h2:=Nat.eq_of_beq_eq_true f0;obtain⟨d3,y1,y2,y3⟩:=fX e7;have F:v=.pointer (some ⟨(G.B n).1,(G.B n).2 +0,none⟩):=by
     obtain⟨y0,g1,g2,_⟩:=K.bx n d3 (by rw[y2];exact c4.1) y1;exact c4.2 y0 g1 (g2.trans y2)
    rw[e3]at F;injection F with F;injection F with F;injection F with f5 c0;subst f5;rw[Nat.add_zero]at c0;subst c0;obtain⟨h6,cs,e,us,g3,h7,g4,c8⟩:=H;have f7:(eE os++done).Nodup:=by exact(List.Sublist.append (List.sublist_append_left (eE os) c7) (List.Sublist.refl done)).nodup b1
    obtain⟨e0,g5,c9,g6,d0,d1⟩:=Tn (nb:=nm n 0) (dep:=[]) a5 T (by simp) L b0 a7 c8 f7 (λm Q=>V m (by simp[Q])) a6 (by
      rcases c3 with h |h
      ·exact .inr (.inl h)
      ·exact .inr (.inr h)) (by simp) (by
      rcases c3 with h |h
      ·exact .inl h
      ·right;have:∀(ts:List LT),pS ts=true->∀t∈ts,AF t=true:=by
        intro ts;induction ts with
        |nil=>intro _ t ht;simp at ht
        |cons t0 ts g0=>
         intro C t ht;simp only[pS,Bool.and_eq_true]at C;rcases List.mem_cons.1 ht with rfl |ht
         ·cases t with
          |sl o e el=>cases o with
           |true=>simpa[AF,LT.noFz]using C.1
           |false=>rfl
          |_=>rfl
         ·exact g0 C.2 t ht
       exact this el h)
    unfold Rl at b7;obtain⟨h4,f1,f2⟩:=bind_some b7;obtain⟨z,a0,z2,z3⟩:=fX f1;obtain⟨g8,a3⟩:=jR f2;have c1:=(qS [] (nm n 0) el.length x el 0 s).2;rw[c1,y1]at a0;injection a0 with a0;subst a0;rw[y3]at z3;subst z3;have h0:=(dG.1 d0).1;have h1:=c8.length;rw[Yp (by omega)]at a3;have f9:look (dJ [] (nm n 0) el.length x 0 el s).1.bx n=some d3:=by rw[c1];exact y1
    have a4:e0.B n=G.B n:=(d1 n).trans (y n);obtain⟨b5,c6⟩:=aFL (cs:=cs) (e:=e) g6 f9 (by rw[a4];exact g3) (by rw[a4];omega) d0 (by rw[a4];exact g4);rw[<-y2]at a3;rw[a3]at b5 c6;have f8:(c7++(eE os++done)).Nodup:=by refine List.Perm.nodup ?_ b1;rw[List.append_assoc];exact(List.perm_append_comm_assoc _ _ _)
    obtain⟨l,t1,t2,t3,t4⟩:=EK a5 b0 a7 ps (done:=eE os++done) J c5 ((K.trans c9).trans b5) e6 c6 g5 (λn=>(d1 n).trans (y n)) f8 (λm Q=>V m (by simp[Q])) (λm Q=>by
     rcases List.mem_append.1 Q with h |h
     ·exact V m (by simp[h])
     ·exact a6 m h) b4 c2
    refine⟨l,⟨λb H J=>t1.own b (λn p C=>H n p ?_) J⟩,(c9.trans b5).trans t2,t3,t4⟩;simp only[List.mem_append]at C⊢;rcases C with h |h |h
    ·exact .inl (.inr h)
    ·exact .inl (.inl h)
    ·exact .inr h
   ·simp[aG]at U
  ·have f4:∃b6 Y,v::d2=b6::Y/\TP w' Gx ds' ps Y xs d b2:=by
    obtain⟨t,m⟩:=p;cases m with
    |io el=>exact absurd ⟨t,el,rfl⟩ a9
    |_=>exact P
   obtain⟨b6,Y,e1,P⟩:=f4;injection e1 with a1 a2;subst a1;subst a2;have f6:kZ ps as xs s=some g:=by
    obtain⟨t,m⟩:=p;cases m with
    |io el=>exact absurd ⟨t,el,rfl⟩ a9
    |sio lv=>simp[iY]at W
    |sub j h3 k=>simp[iY]at W
    |clo f h5=>simp[iY]at W
    |_=>cases xs<;>simpa[kZ]using hg
   have b4:ds=[]\/vP ps=true:=b3.imp id λh=>by obtain⟨t,m⟩:=p;cases m<;>simp_all[vP]
   exact EK a5 b0 a7 ps P c5 K f6 L T y b1 V a6 b4 c2
end
section
variable{w w':World}{G Gc Gx Gm:Gh}{st s:St}{slc sl:Nat->Option Value}{ds ds':List (Nat×Nat)}{gs bn:List Nat}
def To(ds:List (Nat×Nat))(m:RM):Prop:=ds=[]\/(rK ds=false/\zT [m]=true)\/vQ [m]=true
theorem Ao:∀(ts:List LT),pS ts=true->∀t∈ts,AF t=true
 |[],_,t,ht=>by simp at ht
 |t0::ts,c,t,ht=>by
  simp only[pS,Bool.and_eq_true]at c;rcases List.mem_cons.1 ht with rfl |ht
  ·cases t with
   |sl o e el=>cases o with
    |true=>simpa[AF,LT.noFz]using c.1
    |false=>rfl
   |_=>rfl
  ·exact Ao ts c.2 t ht
theorem Yq{α:Type}{f:α->Bool}:∀{l:List α},DK f l=true->∀a∈l,f a=true
 |[],_,_,h=>absurd h (by simp)
 |b::l,h,a,c=>by
  simp only[DK,Bool.and_eq_true]at h;rcases List.mem_cons.1 c with rfl |c
  ·exact h.1
  ·exact Yq h.2 a c
theorem XJ{Gm0:Gh}{names blocks done bdone:List Nat}(G:Can Gx Gm0 ds ds' names blocks)(Y:∀b,Gx.own b≠.out->b<w'.heap.size)(V:∀r p,∃a n c,Gx.H r p=.slice a n c){m:RM}{u:Value}{x:D}{y b1:List Nat}{d c:Nat}{C:St}{a:A}
  (h:Yk w' Gx ds' m u x y b1)(j:DN ds d c x m s=some (C,a))(F:dI w' Gm s sl)(H:Mg Gx Gm0 Gm done bdone)(Q:∀b∈bdone,Gx.own b=.box)(a1:(y++done).Nodup)(T:(b1++bdone).Nodup)(W:∀n∈y,n∈names)(a7:∀b∈b1,b∈blocks)
  (U:∀n∈done,n∈names)(a9:∀p,p∈ds->p.2<s.ctr)(hf:To ds m):
  ∃f,Mg Gx Gm0 f (y++done) (b1++bdone)/\Le w' Gm s w' f C/\dI w' f C sl/\dO w' f C a u/\∀n,n≠d->f.B n=Gm.B n:=by
 cases m with
 |val agg lv=>
  obtain⟨rfl,vs,os,l,g,rfl⟩:=h;simp only[DN]at j;obtain⟨a',a5,P⟩:=bind_some j;simp[ok]at P;obtain⟨rfl,rfl⟩:=P;obtain⟨f,t,J,K,v,L⟩:=Tn (nb:=nm d (64*c)) (dep:=ds) G H Q F Y V g a1 W U (by
    rcases hf with h |h |h
    ·exact .inr (.inl h)
    ·exact .inl ⟨rfl,h.1⟩
    ·exact .inr (.inr (by simp only[vQ,Bool.and_eq_true]at h;exact h.1))) a9 (by
    rcases hf with h |h |h
    ·exact .inl h
    ·exact .inr (by have g:=h.2;simp only[zT,Bool.and_eq_true]at g;exact Yq g.1)
    ·exact .inr (by simp only[vQ,Bool.and_eq_true]at h;exact Ao _ h.1))
  exact⟨f,by simpa using t,J,K,NL a5 l v,λn _=>L n⟩
 |ptr el=>
  rcases h with⟨l,rfl,rfl,rfl⟩ |⟨c3,ys,b,o,os,l,rfl,⟨b5,cs,e,us,b6,c2,b7,a4⟩,rfl,rfl⟩
  ·simp only[DN,l]at j;simp[ok]at j;obtain⟨rfl,rfl⟩:=j;exact⟨Gm,by simpa using H,Le.refl w' Gm s,F,rfl,λ_ _=>rfl⟩
  ·simp only[DN,l]at j;simp[ok]at j;obtain⟨rfl,rfl⟩:=j;have a2:ds=[]\/pS el=true:=by
    rcases hf with h |h |h
    ·exact .inl h
    ·exact .inr (by have g:=h.2;simp only[zT,Bool.and_eq_true]at g;exact g.1)
    ·exact .inr (by simp only[vQ,Bool.and_eq_true]at h;exact h.1)
   obtain⟨f,t,J,K,v,L⟩:=Tn (nb:=nm d (64*c)) (dep:=[]) G H Q F Y V a4 a1 W U (by
     rcases a2 with h |h
     ·exact .inr (.inl h)
     ·exact .inr (.inr h)) (by simp) (a2.imp id (Ao el))
   have a6:b∉bdone:=by simp only[List.singleton_append,List.nodup_cons]at T;exact T.1
   have b0:f.own b=.out:=by rw[t.own b (λn p a0 a3=>by rw[b5]at a3;simp at a3) a6];exact G.ptr b (a7 b (by simp))
   have c0:=(dG.1 v).1;have c1:=a4.length;obtain⟨b2,b3,b4⟩:=Pp (Gx:=Gx) (d:=d) (o:=o) K b0 b6 (by omega) v b7;refine⟨_,⟨λb' l g=>?_⟩,J.trans b2,b3,b4,λn a0=>by simp[Gh.box,Gh.tag,a0,L]⟩;simp only[List.singleton_append,List.mem_cons,not_or]at g;have:((f.tag b .box).box d (b,o)).own b'=f.own b':=by simp[Gh.box,Gh.tag,g.1]
   rw[this];exact t.own b' l g.2
theorem XK{Gm0:Gh}{names blocks:List Nat}(L:Can Gx Gm0 ds ds' names blocks)(a3:∀b,Gx.own b≠.out->b<w'.heap.size)(a2:∀r p,∃a n c,Gx.H r p=.slice a n c){x:D}{d:Nat}:
  ∀(F:List RM){us:List Value}{c:Nat}{j b1 done bdone:List Nat}{Gm:Gh}{s t:St}{l:List A},Jh w' Gx ds' F us x c j b1->JG ds d x c F s=some (t,l)->dI w' Gm s sl->Mg Gx Gm0 Gm done bdone->(∀b∈bdone,Gx.own b=.box)->(j++done).Nodup->(b1++bdone).Nodup->
   (∀n∈j,n∈names)->(∀b∈b1,b∈blocks)->(∀n∈done,n∈names)->(∀p,p∈ds->p.2<s.ctr)->(∀m∈F,To ds m)->
    ∃g,Mg Gx Gm0 g (j++done) (b1++bdone)/\Le w' Gm s w' g t/\dI w' g t sl/\eZ w' g t l us/\∀n,n≠d->g.B n=Gm.B n
 |[],us,c,j,b1,done,bdone,Gm,s,t,l,⟨v,y,H⟩,C,J,Q,_,_,_,_,_,_,_,_=>by subst v;subst y;subst H;simp[JG,ok]at C;obtain⟨rfl,rfl⟩:=C;exact⟨Gm,by simpa using Q,Le.refl w' Gm s,J,rfl,λ_ _=>rfl⟩
 |m::F,us,c,j,b1,done,bdone,Gm,s,t,l,⟨u,d3,na,nb,G,T,v,y,H,b2,b3⟩,C,J,Q,V,a4,W,P,K,Y,a0,hf=>by
  subst v;subst y;subst H;simp only[JG]at C;obtain⟨d1,a7,a9⟩:=bind_some C;obtain⟨d2,b0,U⟩:=bind_some a9;simp[ok]at U;obtain⟨rfl,rfl⟩:=U;obtain⟨s1,a1⟩:=d1;obtain⟨e2,e1⟩:=d2;have c0:(na++done).Nodup:=(List.Sublist.append (List.sublist_append_left na nb) (List.Sublist.refl done)).nodup a4;have b4:(G++bdone).Nodup:=(List.Sublist.append (List.sublist_append_left G T) (List.Sublist.refl bdone)).nodup W;obtain⟨e0,c3,a5,c4,c5,c6⟩:=XJ L a3 a2 b2 a7 J Q V c0 b4 (λn e=>P n (by simp[e])) (λb f=>K b (by simp[f])) Y a0 (hf m (by simp));have c1:(nb++(na++done)).Nodup:=by refine List.Perm.nodup ?_ a4;rw[List.append_assoc];exact List.perm_append_comm_assoc _ _ _
  have b5:(T++(G++bdone)).Nodup:=by refine List.Perm.nodup ?_ W;rw[List.append_assoc];exact List.perm_append_comm_assoc _ _ _
  have b6:∀b∈G++bdone,Gx.own b=.box:=λb f=>by
   rcases List.mem_append.1 f with h |h
   ·exact L.pbox b (K b (by simp[h]))
   ·exact V b h
  obtain⟨g,c7,a6,c8,c9,d0⟩:=XK L a3 a2 F b3 b0 c4 c3 b6 c1 b5 (λn e=>P n (by simp[e])) (λb f=>K b (by simp[f])) (λn e=>by
   rcases List.mem_append.1 e with h |h
   ·exact P n (by simp[h])
   ·exact Y n h) (λp c2=>Nat.lt_of_lt_of_le (a0 p c2) a5.ctr) (λm b7=>hf m (by simp[b7]))
  refine⟨g,⟨λb v y=>c7.own b (λn p e=>v n p ?_) (λf=>y ?_)⟩,a5.trans a6,c8,⟨u,d3,rfl,dS a6 _ _ c5,c9⟩,λn e=>(d0 n e).trans (c6 n e)⟩
  ·simp only[List.mem_append]at e⊢;rcases e with h |h |h
   ·exact .inl (.inr h)
   ·exact .inl (.inl h)
   ·exact .inr h
  ·simp only[List.mem_append]at f⊢;rcases f with h |h |h
   ·exact .inl (.inr h)
   ·exact .inl (.inl h)
   ·exact .inr h
end
section
variable{P:Program}{E:fM}{ctx:tU}{w w':World}{G Gc Gx Gm:Gh}{st s:St}{sl:Nat->Option Value}{ds ds':List (Nat×Nat)}{gs bn:List Nat}
theorem Yr(j:dI w G st sl){t:LT}{a:A}{v:Value}{r:Nm D}(h:JD st t a=some r)(f:dO w G st a v):∀d,d∈r.ds->d.2<st.ctr:=by
 unfold JD at h;split at h
 ·obtain⟨_,c⟩:=aW h;simp[ok]at c;subst c;simp
 ·simp[ok]at h;subst h;simp
 ·simp[ok]at h;subst h;simp
 ·simp[ok]at h;subst h;simp
 ·obtain⟨a',_,c⟩:=bind_some h;split at c
  ·obtain⟨_,e⟩:=aW c;simp[ok]at e;subst e;simp
  ·simp[aG]at c
 ·obtain⟨_,c⟩:=aW h;simp[ok]at c;subst c;exact f.1
 ·obtain⟨q,g,c⟩:=bind_some h;obtain⟨_,e⟩:=aW c;simp[ok]at e;subst e;intro d hd;simp at hd;subst hd;exact(MT j f g).1
 ·simp[aG]at h
theorem HC(e:dI w G st sl):∀{lv:List LT}{l:List A}{vs:List Value}{r:Nm (LD)},cN st lv l=some r->eZ w G st l vs->∀d,d∈r.ds->d.2<st.ctr
 |[],[],vs,r,h,_,d,hd=>by simp[cN,ok]at h;subst h;simp at hd
 |t::ts,a::l,vs,r,h,hv,d,hd=>by
  simp only[cN]at h;obtain⟨p,f,g⟩:=bind_some h;obtain⟨q,j,c⟩:=bind_some g;simp[ok]at c;subst c;obtain⟨v,u,_,m,s⟩:=hv;simp only[List.mem_append]at hd;rcases hd with hd |hd
  ·exact Yr e f m d hd
  ·exact HC e j s d hd
 |[],_::_,_,_,h,_,_,_=>by simp[cN,aG]at h
 |_::_,[],_,_,h,_,_,_=>by simp[cN,aG]at h
theorem Jk(f:dI w G st sl){lv:List LT}{l:List A}{vs:List Value}{r:List (Nat×Nat)×LD}(h:F4 st lv l=some r)(hv:eZ w G st l vs):∀d,d∈r.1->d.2<st.ctr:=by obtain⟨p,e,c⟩:=bind_some h;simp[ok]at c;subst c;exact HC f e hv
theorem Jl{l:List A}{vs:List Value}(h:eZ w G st l vs)(n:Nat):eZ w G st (kL n l) (vs.take n):=by
 obtain⟨d,e⟩:=dG.1 h;refine dG.2 ⟨by rw[mW];simp[d],λj a v c hv=>?_⟩;rw[mW,List.getElem?_take]at c;rw[List.getElem?_take]at hv;split at c
 ·rename_i f;rw[if_pos f]at hv;exact e j a v c hv
 ·simp at c
theorem L3{l:List A}{vs:List Value}(h:eZ w G st l vs)(n:Nat):eZ w G st (oS n l) (vs.drop n):=by obtain⟨d,e⟩:=dG.1 h;refine dG.2 ⟨by rw[sR];simp[d],λj a v c hv=>?_⟩;rw[sR,List.getElem?_drop]at c;rw[List.getElem?_drop]at hv;exact e _ a v c hv
theorem Ys{a:A}{v:Value}(h:dO w G st a v):∃vs,eZ w G st (fY a) vs:=by
 cases a with
 |agg xs=>obtain⟨vs,_,c⟩:=h;exact⟨vs,c⟩
 |_=>exact⟨[v],v,[],rfl,h,rfl⟩
theorem aD4(L:dI w G st sl){all:List A}{p:TypeId×PM}{a:A}{v:Value}{u:Arg}(h:FT E st all p a=some u)(a4:dO w G st a v)(a1:iY [p]=true):(∀d,d∈u.ds->d.2<st.ctr)/\(gM [p]=true->u.os=[]):=by
 obtain⟨t,m⟩:=p;have W:∀{b Q l},pR st b Q=some l->0<st.ctr/\∃vs,eZ w G st l vs:=λ{b Q l}a5=>by obtain⟨x,a2,b4,a9⟩:=fX a5;subst a9;obtain⟨_,_,vs,_,_,b0,_⟩:=QF L a2 (vV a5 a2);exact⟨Nat.lt_of_le_of_lt (Nat.zero_le _) (L.boxes b x a2).1,vs,b0⟩
 cases m with
 |ro=>
  simp only[FT]at h;obtain⟨ti,T,F⟩:=bind_some h;obtain⟨q,H,c⟩:=bind_some F;simp[ok]at c;subst c;refine⟨?_,λ_=>rfl⟩;unfold aDJ at H;split at H
  ·unfold aBo at H;obtain⟨a6,_,y⟩:=bind_some H;obtain⟨l,K,C⟩:=bind_some y;obtain⟨_,U⟩:=aW C;obtain⟨b1,a7,a3⟩:=bind_some U;simp[ok]at a3;subst a3;obtain⟨V,vs,J⟩:=W K;intro d hd;simp only[List.mem_cons]at hd;rcases hd with rfl |hd
   ·exact V
   ·exact Jk L a7 (Jl J _) d hd
  ·obtain⟨_,y⟩:=aW H;obtain⟨b1,K,C⟩:=bind_some y;simp[ok]at C;subst C;obtain⟨vs,J⟩:=Ys a4;exact Jk L K J
 |rp=>
  simp only[FT,MF]at h;obtain⟨e,T,F⟩:=bind_some h;obtain⟨a6,H,c⟩:=bind_some F;unfold U9 at c;split at c
  ·obtain⟨_,y⟩:=aW c;simp[ok]at y;subst y;exact⟨a4.1,λ_=>rfl⟩
  ·obtain⟨l,y,K⟩:=bind_some c;obtain⟨q,C,U⟩:=bind_some K;simp[ok]at U;subst U;obtain⟨V,vs,J⟩:=W y;refine⟨λd hd=>?_,λ_=>rfl⟩;simp only[List.mem_cons]at hd;rcases hd with rfl |hd
   ·exact V
   ·exact Jk L C (Jl (L3 J _) _) d hd
  ·rename_i r Q p k i;obtain⟨q,y,K⟩:=bind_some c;obtain⟨_,C⟩:=aW K;simp[ok]at C;subst C;refine⟨λd hd=>?_,λ_=>rfl⟩;simp at hd;subst hd;obtain⟨a0,v0,_,_,b2⟩:=JJ y;rw[b2];exact(L.arrs r a0 v0.1).2.1
  ·simp[aG]at c
 |fnv f=>
  cases a<;>simp only[FT,aG]at h<;>(try cases h);rename_i g caps;cases caps with
  |cons _ _=>simp[FT,aG]at h
  |nil=>simp only[FT]at h;obtain⟨_,F⟩:=aW (s:= "") h;simp[ok]at F;subst F;exact⟨by simp,λ_=>rfl⟩
 |mv=>
  cases a<;>simp only[FT,aG]at h<;>(try cases h)
  ·exact⟨by simp,λP=>by simp[gM]at P⟩
  ·rename_i r Q p;cases p with
   |cons _ _=>simp[FT,aG]at h
   |nil=>simp only[FT]at h;obtain⟨q,T,F⟩:=bind_some h;obtain⟨ti,a6,H,c,y⟩:=AK F;obtain⟨_,C⟩:=aW (s:= "") y;simp[ok]at C;subst C;exact⟨by simp,λP=>by simp[gM]at P⟩
 |io el=>
  simp only[FT]at h;unfold MF at h;split at h
  ·rename_i P;simp at P
  ·rename_i b3 n Q Y;injection Y with Y;subst Y;obtain⟨l,T,F⟩:=bind_some h;obtain⟨q,H,c⟩:=bind_some F;simp[ok]at c;subst c;obtain⟨_,vs,J⟩:=W T;exact⟨HC L H J,λP=>by simp[gM]at P⟩
  ·simp[aG]at h
 |sio lv=>simp[iY]at a1
 |sub j b5 k=>simp[iY]at a1
 |clo f b6=>simp[iY]at a1
theorem KB{p:TypeId×PM}{ps:List (TypeId×PM)}(h:iY (p::ps)=true):iY [p]=true/\iY ps=true:=by obtain⟨t,m⟩:=p;cases m<;>simp_all[iY]
theorem Fz{p:TypeId×PM}{ps:List (TypeId×PM)}(h:gM (p::ps)=true):gM [p]=true/\gM ps=true:=by obtain⟨t,m⟩:=p;cases m<;>simp_all[gM]
theorem Jm(e:dI w G st sl){all:List A}:∀(ps:List (TypeId×PM)){as:List A}{vs:List Value}{u:List Nat×List Nat×List (Nat×Nat)×LD},sP E st all ps as=some u->eZ w G st as vs->iY ps=true->(∀d,d∈u.2.2.1->d.2<st.ctr)/\(gM ps=true->u.1=[])
 |[],[],vs,u,h,_,_=>by simp[sP,ok]at h;subst h;exact⟨by simp,λ_=>rfl⟩
 |p::ps,a::as,vs,u,h,hv,y=>by
  simp only[sP]at h;obtain⟨P,m,r⟩:=bind_some h;obtain⟨Q,s,c⟩:=bind_some r;simp[ok]at c;subst c;obtain⟨v,T,_,C,F⟩:=hv;obtain⟨K,L⟩:=KB y;obtain⟨f,g⟩:=aD4 e m C K;obtain⟨j,l⟩:=Jm e ps s F L;refine⟨λd hd=>?_,λt=>?_⟩
  ·simp only[List.mem_append]at hd;exact hd.elim (f d) (j d)
  ·obtain⟨H,J⟩:=Fz t;simp[g H,l J]
 |[],_::_,_,_,h,_,_=>by simp[sP,aG]at h
 |_::_,[],_,_,h,_,_=>by simp[sP,aG]at h
theorem Jn(H:dI w G st sl){all:List A}:∀(ps:List (TypeId×PM)){as:List A}{vs:List Value}{u:List Nat×List Nat×List (Nat×Nat)×LD}{xs:LD}{g b2:List Nat},sP E st all ps as=some u->eZ w G st as vs->TP w' Gx ds' ps vs xs g b2->
  ∀n,n∈gZ ps as->∃x,look st.bx n=some x/\Gx.own (G.B n).1 =.box/\(G.B n).1 ∈b2/\∃cs e,w'.heap[(G.B n).1]?=some (.cells cs e (0,0))/\(G.B n).2 +x.lv.length<=cs.size
 |[],as,vs,u,xs,g,b2,_,_,_,n,c=>by cases as<;>simp[gZ]at c
 |p::ps,[],vs,u,xs,g,b2,_,_,_,n,c=>by simp[gZ]at c
 |p::ps,a::as,vs,u,xs,g,b2,h,hv,J,n,c=>by
  simp only[sP]at h;obtain⟨d1,f,a2⟩:=bind_some h;obtain⟨d2,C,F⟩:=bind_some a2;simp[ok]at F;subst F;obtain⟨v,d3,rfl,b6,L⟩:=hv;obtain⟨t,m⟩:=p;cases m with
  |io el=>
   obtain⟨c3,c4,e0,e2,b,o,os,c7,c5,e1,Q,T,b5,U,V,y⟩:=J;injection e1 with j r;subst j;subst r;subst Q;subst U;subst V;simp only[gZ,List.mem_append]at c;rcases c with c |c
   ·cases a<;>simp[sU]at c;rename_i n' c9 off;subst c;simp only[FT]at f;unfold MF at f;split at f
    ·rename_i b3;simp at b3
    ·rename_i c6 n' d0 s a6;injection s with s;subst s;injection a6 with a7 a9 b0;subst a7;subst a9;subst b0;obtain⟨l,a3,a4⟩:=bind_some f;obtain⟨q,a5,_⟩:=bind_some a4;obtain⟨x,P,b7,c0⟩:=fX a3;subst c0;have d:=b6.2 x P b7;rw[T]at d;injection d with d;injection d with d;injection d with b1 K;subst b1;rw[Nat.add_zero]at K;subst K;obtain⟨c1,cs,e,us,c2,c8,_⟩:=b5;have:=sT a5;exact⟨x,P,c1,by simp,cs,e,c2,by omega⟩
    ·simp[aG]at f
   ·obtain⟨x,W,Y,a0,a1⟩:=Jn H ps C L y n c;exact⟨x,W,Y,by simp[a0],a1⟩
  |_=>
   obtain⟨c3,c4,e1,y⟩:=J;injection e1 with j r;subst j;subst r;have b4:n∈gZ ps as:=by
    simp only[gZ,List.mem_append]at c;rcases c with c |c
    ·cases a<;>simp[sU]at c
    ·exact c
   exact Jn H ps C L y n b4
theorem Y8{m:RM}{u:Value}{x:D}{e b1:List Nat}(h:Yk w' Gx ds' m u x e b1):∀b∈b1,Gx.own b=.box:=by
 cases m with
 |val agg lv=>obtain⟨rfl,_⟩:=h;simp
 |ptr el=>
  rcases h with⟨_,_,_,rfl⟩ |⟨f,ys,b,o,os,_,_,d,_,rfl⟩
  ·simp
  ·intro b' c;simp at c;subst c;exact d.1
theorem Yt:∀{e:List RM}{us:List Value}{x:D}{c:Nat}{l b1:List Nat},Jh w' Gx ds' e us x c l b1->∀b∈b1,Gx.own b=.box
 |[],_,_,_,_,_,⟨_,_,h⟩,b,d=>by subst h;simp at d
 |m::e,_,_,_,_,_,⟨u,t,na,nb,r,s,_,_,f,g,j⟩,b,d=>by subst f;simp only[List.mem_append]at d;exact d.elim (Y8 g b) (Yt j b)
theorem aCi{rs:List RM}{v:Value}{x:D}{c b1:List Nat}(h:TO w' Gx ds' rs v x c b1):∀b∈b1,Gx.own b=.box:=by
 unfold TO at h;split at h
 ·obtain⟨_,_,rfl⟩:=h;simp
 ·exact Y8 h
 ·obtain⟨us,_,h⟩:=h;exact Yt h
theorem NP:∀{l:List Nat},nodup l=true->l.Nodup
 |[],_=>List.nodup_nil
 |m::l,h=>by simp only[nodup,Bool.and_eq_true,Bool.not_eq_true']at h;refine List.nodup_cons.2 ⟨λc=>?_,NP h.2⟩;rw[JY.2 c]at h;exact absurd h.1 (by simp)
theorem NQ{l:List Nat}:∀{m:List (Nat×Nat)},apart l m=true->∀n∈l,∀d∈m,d.1≠n
 |[],_,_,_,d,hd=>by simp at hd
 |(r,v)::m,h,n,c,d,hd=>by
  simp only[apart,Bool.and_eq_true,Bool.not_eq_true']at h;rcases List.mem_cons.1 hd with rfl |hd
  ·intro e;simp only at e;subst e;rw[JY.2 c]at h;simp at h
  ·exact NQ h.2 n c d hd
theorem L4{s:FY}{ds:List (Nat×Nat)}(h:PO s ds=true):(ds=[]\/vP s.ps=true)/\∀m∈s.rs,To ds m:=by
 cases ds with
 |nil=>exact⟨.inl rfl,λ_ _=>.inl rfl⟩
 |cons p l=>
  simp only[PO,Bool.and_eq_true]at h;refine⟨.inr h.2,λm c=>?_⟩;have g:∀(rs:List RM),vQ rs=true->∀m∈rs,vQ [m]=true:=by
   intro rs;induction rs with
   |nil=>intro _ m c;simp at c
   |cons f rs e=>
    intro j m c;rcases List.mem_cons.1 c with rfl |c
    ·cases m<;>simp_all[vQ]
    ·exact e (by cases f<;>simp_all[vQ]) m c
  have r:∀(rs:List RM),zT rs=true->∀m∈rs,zT [m]=true:=by
   intro rs;induction rs with
   |nil=>intro _ m c;simp at c
   |cons f rs e=>
    intro j m c;rcases List.mem_cons.1 c with rfl |c
    ·cases m<;>simp_all[zT]
    ·exact e (by cases f<;>simp_all[zT]) m c
  cases d:rK (p::l)with
  |true=>rw[d]at h;exact .inr (.inr (g _ h.1 m c))
  |false=>rw[d]at h;exact .inr (.inl ⟨d,r _ h.1 m c⟩)
theorem Yu(vs:List Value):DH (λ_=>none) 0 vs=λi=>vs[i]?:=by
 funext t;rw[SD];by_cases h:t<vs.length
 ·rw[if_pos (by omega)];rfl
 ·rw[if_neg (by omega),List.getElem?_eq_none (by omega)]
def Jo(P:Program)(ctx:tU)(m:Nat)(s:FY)(e:TypeId)(el:List LT)(f:Nat):Prop:=
 ∀data q x,ctx m [.l data,.l []]=some (q,[x])->s.rs=[]->∀{w:World}{G:Gh}{st:St}{sl:Nat->Option Value}{r:Nat}{a:yN},dI w G st sl->look st.ar r=some a->a.stale=[]->a.e=e->a.el=el->a.data=data->
  Calls P s.fn ⟨[G.H r [],.func (.func f) #[] #[]]⟩ w (λc w'=>c=.returned (.tuple #[])/\w'.os=w.os/\w'.tape=w.tape/\w'.output=w.output/\w.heap.size<=w'.heap.size/\(∀b,b<w.heap.size->G.own b≠.arr r []->w'.heap[b]?=w.heap[b]?)/\yV w' G [] r e el [] (G.H r []) x.els)
theorem aGS{r:Nat}{e:TypeId}{el:List LT}{v:Value}{data:LD}(hf:sC el=true)(h:yV w G [] r e el [] v data){l:World}{f:Gh}(K:∀b,G.own b=.arr r []->f.own b=.arr r []/\l.heap[b]?=w.heap[b]?):yV l f [] r e el [] v data:=by
 obtain⟨a,n,c,L,P,Q,T,U,V⟩:=h;refine⟨a,n,c,L,P,Q,T,U,λad W=>?_⟩;obtain⟨y,C,cs,s,F,H,J⟩:=V ad W;obtain⟨a1,g⟩:=K ad.block C;refine⟨y,a1,cs,s,g.trans F,H,λi Y=>JO el 0 (λj t ht=>?_)⟩;obtain⟨a3,a2,d⟩:=CM (J i Y) j t ht;refine⟨a3,(vS g _).trans a2,?_⟩;have a0:=uB hf j t ht;cases t with
 |int k=>exact d
 |bool=>exact d
 |str=>exact d
 |sl o m u=>exact absurd rfl (a0 o m u)
theorem L5{m:Nat}{s:FY}{e:TypeId}{el:List LT}{f d:Nat}(a2:Jo P ctx m s e el f)(a1:s.rs=[]){as:List A}{vs:List Value}{st':St}(K:dI w G st sl)(hv:eZ w G st as vs)
  (h:((Gt st e el f as).bind λq=>(oR "sort: answer" (ctx m [.l q.2.data,.l []])).bind (Gs st d q.1 q.2))=some st'):
  Calls P s.fn ⟨vs⟩ w (λe w'=>∃v G',e=.returned v/\Fr w G w' G'/\Le w G st w' G' st'/\dI w' G' st' (yY sl d v)):=by
 obtain⟨q,j,V⟩:=bind_some h;obtain⟨b6,H,c⟩:=bind_some V;simp only[oR]at H;unfold Gt at j;split at j
 ·rename_i r u g;obtain⟨J,W⟩:=aW j;simp only[Bool.and_eq_true]at J;have:=Nat.eq_of_beq_eq_true J.1;subst this;obtain⟨a,Y,l⟩:=bind_some W;split at l
  ·rename_i L;obtain⟨t,F⟩:=aW l;simp[ok]at F;subst F;simp only[Bool.and_eq_true]at t;have e1:=Nat.eq_of_beq_eq_true t.1;have C:=iK _ _ t.2;have y:=eM Y;obtain⟨c0,c2,rfl,a3,c1,b4,rfl,a4,a5⟩:=hv;have:b4=[]:=a5;subst this;obtain⟨a6,_,_⟩:=a3.2 a y;obtain⟨us,a7,a9⟩:=a4;have:us=[]:=a9;subst this;subst a6;subst a7;unfold Gs at c;split at c
   ·rename_i b5 x;simp[ok]at c;subst c;refine Calls.mono (a2 a.data b5 x H a1 K y.1 L e1 C.symm rfl) λb7 w' a0=>?_;obtain⟨rfl,o1,o2,b0,b1,b2,b3⟩:=a0;obtain⟨Q,T,U⟩:=JS (data:=x.els) K y.1 L ⟨o1,o2,b0⟩ b1 b2 (by rw[e1,<-C];exact b3);exact⟨_,G,rfl,Q,T.trans (Le.put _ _ _ _ _),U.put ⟨[],rfl,rfl⟩⟩
   ·simp[aG]at c
  ·simp[aG]at l
 ·simp[aG]at j
theorem L6(g5:gY P E){m:Nat}{s:FY}(hf:iY s.ps=true->NM P E ctx m s)(h3:∀e el f,mP s.ps=some (e,el,f)->s.rs=[]/\Jo P ctx m s e el f){d:Nat}(k1:d<500\/600<=d){as:List A}{vs:List Value}{st':St}(F:dI w G st sl)(hv:eZ w G st as vs)(h:RO E ctx st d m s as=some st'):
  Calls P s.fn ⟨vs⟩ w (λe w'=>∃v G',e=.returned v/\(gM s.ps=true->HQ w w')/\Fr w G w' G'/\Le w G st w' G' st'/\dI w' G' st' (yY sl d v)):=by
 unfold RO at h;cases C:mP s.ps with
 |some q=>
  obtain⟨e,el,f⟩:=q;rw[C]at h;obtain⟨V,c2⟩:=h3 e el f C;refine Calls.mono (L5 c2 V F hv h) λk0 w' c7=>?_;obtain⟨v,G',Q,c0,a7,c1⟩:=c7;refine⟨v,G',Q,λb0=>?_,c0,a7,c1⟩;unfold mP at C;split at C
  ·rename_i T;rw[T]at b0;simp[gM]at b0
  ·simp at C
 |none=>
 rw[C]at h;simp only at h;obtain⟨u,V,c2⟩:=bind_some h;obtain⟨e5,g3⟩:=aW c2;obtain⟨r,c3,g4⟩:=bind_some g3;obtain⟨e0,e2,K⟩:=bind_some g4;simp only[Bool.and_eq_true]at e5;obtain⟨T,b3,a9,e9⟩:=e5;have b3:=NP b3;have a9:=NQ a9;simp only[oR]at c3;obtain⟨os,gs,ds,xs⟩:=u;simp only at c3 e2 K b3 a9 e9;obtain⟨vL,g8,g7⟩:=hf T xs r c3;obtain⟨h0,Gc,f3,U,f4,h5⟩:=TQ g5 F s.ps (stk:=Ji) (os0:=[]) (gs0:=[]) (bn0:=[]) V hv (ds:=ds) (λd hd=>hd) (by simpa using b3) a9 T (by simp) (by simp) (Yn (ds:=ds) F) (Ym G st (λn x hx=>(F.boxes n x hx).2.1) ds) g8;simp only[List.append_nil]at U f4;rw[Yu]at f3;obtain⟨e6,f0⟩:=Jm F s.ps V hv T;simp only at e6 f0;refine Calls.mono (g7 w Gc vs h0 f3) λe w' c7=>?_;obtain⟨v,Gx,rfl,J,L⟩:=c7;obtain⟨ds',d3,b1,b6,b2,o1,o2,f7,f8,f9⟩:=L.ex;have c5:=Jn (w':=w') (Gx:=Gx) (ds':=ds') F s.ps V hv o2;have c9:Ret w G Gc st ds gs (gZ s.ps as) w' Gx:=⟨U,J,⟨sl,F⟩,λn x hx c=>by obtain⟨i1,Q,c0,_⟩:=c5 n c;exact c0⟩;obtain⟨b4,h6⟩:=aCh (ds':=ds') F U J L.live rfl (λn x hx c=>by obtain⟨i1,Q,_,_,c1⟩:=c5 n c;rw[hx]at Q;injection Q with Q;subst Q;exact c1);have c8:=aCi o1;have c6:Can Gx (G.merge Gx w.heap.size gs ds') ds ds' (b6++d3) b1:=by refine⟨λn c b p y=>c9.free y (λd hd=>f9 n c d hd),λb y=>c9.ptr (c8 b y) (λn x hx c Y=>?_),c8,λY b y=>c9.read Y y,λn c d hd=>f9 n c d hd⟩;obtain⟨_,_,_,a7,_⟩:=c5 n Y;rw[c]at a7;exact sS f8 b a7 y
 obtain⟨g2,a6⟩:=L4 e9;obtain⟨e1,g0,i2⟩:=KA gs st;obtain⟨i8,g1,j0,_⟩:=QG s.ps as (lF gs st);have h7:dI w' (G.merge Gx w.heap.size gs ds') (kC s.ps as (lF gs st)) sl:=h6.withSlots λt i0 h4=>by rw[g1,g0];exact dS b4 _ _ (F.slots t i0 h4)
 have f1:(b6++[]).Nodup:=by simpa using(List.nodup_append.1 f7).1
 obtain⟨a5,b5,f6,d1,h9⟩:=EK c6 L.live L.hdr s.ps (done:=[]) o2 hv b4 e2 h7 (Mg.refl _ _) (λ_=>rfl) f1 (λn c=>by simp[c]) (by simp) g2 T;simp only[List.append_nil]at b5;have f2:(d3++b6).Nodup:=List.Perm.nodup List.perm_append_comm f7;have e4:(b1++[]).Nodup:=by simpa using(List.nodup_append.1 f8).2.1
 have e7:∀p,p∈ds->p.2<e0.ctr:=λp C=>Nat.lt_of_lt_of_le (e6 p C) (b4.trans f6).ctr;have b7:∀(j:Gh)(H:St)(a:A),Mg Gx (G.merge Gx w.heap.size gs ds') j (d3++b6) (b1++[])->Le w' a5 e0 w' j H->dI w' j H sl->dO w' j H a v->(∀n,n≠d->j.B n=a5.B n)->
   (gM s.ps=true->HQ w w')/\Fr w G w' j/\Le w G st w' j (H.put d a)/\dI w' j (H.put d a) (yY sl d v):=by
  intro j H a a0 a1 a2 a3 a4;refine⟨λb0=>⟨J.size,λb y=>?_⟩,⟨J.os,J.tape,J.output,J.size,λb y g=>?_,λn k2 f1=>?_⟩,((b4.trans f6).trans a1).trans (Le.put _ _ _ _ _),a2.put a3⟩
  ·have h1:=f0 b0;subst h1;have g9:gs=[]:=List.eq_nil_iff_forall_not_mem.2 λr h2=>by simpa using f4 r h2
   have g6:gZ s.ps as=[]:=List.eq_nil_iff_forall_not_mem.2 λn c=>by simpa using h5 n c
   refine(J.block b y (Go.Eng.unlent F U (λr p _=>by rw[g9];simp) (λn x _ _=>by rw[g6];simp))).1
  ·have e3:Gc.own b=G.own b:=by
    rcases g with g |g
    ·rw[g];exact U.out b g
    ·rw[g];exact U.fz b g
   obtain⟨t1,t2⟩:=J.block b y (by rw[e3];exact g);refine⟨t1,?_⟩;have hx:Gx.own b=G.own b:=t2.trans e3;rw[a0.own b (λn p _ C=>by rw[hx]at C;rcases g with g |g<;>rw[g]at C<;>simp at C) (λY=>by have:=c8 b (by simpa using Y);rw[hx]at this;rcases g with g |g<;>rw[g]at this<;>simp at this)];exact EJ y (λr p C=>by rcases g with g |g<;>rw[g]at C<;>simp at C)
  ·rw[a4 n (by omega),h9 n]
 cases d0:s.rs with
 |nil=>rw[d0]at o1 K;obtain⟨rfl,rfl,rfl⟩:=o1;simp[ok]at K;subst K;exact⟨_,a5,rfl,b7 a5 e0 (.tup []) (by simpa using b5) (Le.refl _ _ _) d1 ⟨[],rfl,rfl⟩ (λ_ _=>rfl)⟩
 |cons f5 d2=>
  cases d2 with
  |nil=>rw[d0]at o1 K a6;simp only[TO]at o1;obtain⟨q,c4,W⟩:=bind_some K;simp[ok]at W;subst W;obtain⟨H,a⟩:=q;obtain⟨j,a0,a1,a2,a3,a4⟩:=XJ c6 L.live L.hdr o1 c4 d1 b5 (by simp) f2 e4 (λn c=>by simp[c]) (λb y=>y) (λn c=>by simp[c]) e7 (a6 f5 (by simp));exact⟨v,j,rfl,b7 j H a a0 a1 a2 a3 a4⟩
  |cons h8 d2=>rw[d0]at o1 K a6;simp only[TO]at o1;obtain⟨us,rfl,o1⟩:=o1;obtain⟨q,c4,W⟩:=bind_some K;simp[ok]at W;subst W;obtain⟨H,l⟩:=q;obtain⟨j,a0,a1,a2,a3,a4⟩:=XK c6 L.live L.hdr (f5::h8::d2) o1 c4 d1 b5 (by simp) f2 e4 (λn c=>by simp[c]) (λb y=>y) (λn c=>by simp[c]) e7 a6;exact⟨_,j,rfl,b7 j H (.tup l) a0 a1 a2 ⟨us,rfl,a3⟩ a4⟩
end
section
variable{P:Program}{E:fM}{ctx:tU}{w w':World}{G Gc Gx Gm:Gh}{st:St}{sl:Nat->Option Value}{ds ds':List (Nat×Nat)}
theorem Jp:∀(ps:List (TypeId×PM))(as:List A)(st:St),gZ ps as=[]->kC ps as st=st
 |[],as,st,_=>by cases as<;>rfl
 |p::ps,[],st,_=>by obtain⟨t,m⟩:=p;cases m<;>rfl
 |p::ps,a::as,st,h=>by
  simp only[gZ,List.append_eq_nil_iff]at h;have c:kC (p::ps) (a::as) st=kC ps as st:=by obtain⟨t,m⟩:=p;cases m<;>cases a<;>first|rfl |(simp[sU]at h)
  rw[c];exact Jp ps as st h.2
theorem x5{t:LT}{v:Value}{x:D}{n:Option Nat}{ds2:List (Nat×Nat)}(h:Y7 w' Gx ds' t v x n)(g:∀d,d∈ds'->d∈ds2)(j:∀m,n=some m->∃u,(m,u)∈ds2):yQ w' (vU Gx ds2) t v x:=by
 have c:∀t,yQ w' (vU Gx ds') t v x->yQ w' (vU Gx ds2) t v x:=λt ht=>dA (λb f=>⟨zX g b f,rfl⟩) t v x ht;cases t with
 |int k=>exact c _ h.2
 |bool=>exact c _ h.2
 |str=>exact c _ h.2
 |sl o e el=>
  cases o with
  |false=>exact c _ h.2
  |true=>
   cases n with
   |none=>obtain⟨rfl,hx⟩:=h;exact⟨none,0,0,rfl,by rw[hx];rfl,Nat.le_refl _,Nat.zero_le _,λ_=>rfl,by simp⟩
   |some m=>obtain⟨u,l⟩:=j m rfl;have:=dA (λb f=>⟨zX (ds':=ds2) (by intro d hd;simp at hd;subst hd;exact l) b (V8 (v:=u) f),rfl⟩) _ _ _ (I1 (show yV w' Gx [] m e el [] v x.els from h));exact this
theorem Jq{ds2:List (Nat×Nat)}(f:∀d,d∈ds'->d∈ds2):∀{ts:List LT}{vs:List Value}{k:Nat}{x:D}{j:Nat}{ns:List (Option Nat)},SC w' Gx ds' ts vs k x j ns->(∀m,m∈eE ns->∃u,(m,u)∈ds2)->
  ∀(i:Nat)(t:LT)(u:Value),ts[i]?=some t->vs[i]?=some u->yQ w' (vU Gx ds2) t u (lf k x (j+i))
 |[],_,_,_,_,_,_,_,i,t,u,h,_=>by simp at h
 |t0::ts,vs,k,x,j,ns,⟨v,C,n,y,e1,l,r,s⟩,g,i,t,u,ht,e=>by
  subst e1;subst l;cases i with
  |zero=>simp at ht e;subst ht;subst e;exact x5 r f (λm c=>g m (by subst c;simp[eE]))
  |succ i=>have:=Jq f s (λm c=>g m (by cases n<;>simp[eE,c])) i t u (by simpa using ht) (by simpa using e);rwa [show j+1+i=j+(i+1)by omega]at this
theorem aCj(a5:gY P E){m:Nat}{s:FY}(hf:NM P E ctx m s){as:List A}{vs:List Value}{agg:Bool}{lv:List LT}{gs:List Nat}{xs:LD}{r:uX}(c1:s.rs=[.val agg lv])(g:dI w G st sl)(hv:eZ w G st as vs)
  (K:sP E st as s.ps as=some ([],gs,ds,xs))(W:iY s.ps=true)(l:rK ds=false\/sC lv=true)(h:ZN ctx true m agg lv ds xs=some r):
  ∃a,r=.val a/\Calls P s.fn ⟨vs⟩ w (λe w'=>∃v G',e=.returned v/\HQ w w'/\Fr w G w' G'/\Le w G st w' G' st/\dI w' G' st sl/\dO w' G' st a v):=by
 obtain⟨q,L,F⟩:=bind_some h;simp only[oR,cond_true]at L;split at F
 ·rename_i d2;obtain⟨a,a4,rfl⟩:=jB F;refine⟨a,rfl,?_⟩;obtain⟨vL,a9,a6⟩:=hf xs q L;obtain⟨b4,Gc,a0,C,a1,c5⟩:=TQ a5 g s.ps (stk:=Ji) (os0:=[]) (gs0:=[]) (bn0:=[]) K hv (ds:=ds) (λd hd=>hd) (by simp) (by simp) W (by simp) (by simp) (Yn (ds:=ds) g) (Ym G st (λn x hx=>(g.boxes n x hx).2.1) ds) a9;simp only[List.append_nil]at C a1;rw[Yu]at a0;obtain⟨U,b5⟩:=Jm g s.ps K hv W;simp only at U b5;have b3:gs=[]:=List.eq_nil_iff_forall_not_mem.2 λr b7=>by simpa using a1 r b7
  have H:gZ s.ps as=[]:=List.eq_nil_iff_forall_not_mem.2 λn y=>by simpa using c5 n y
  subst b3;rw[H]at C;refine Calls.mono (a6 w Gc vs b4 a0) λe w' a7=>?_;obtain⟨v,Gx,rfl,c,T⟩:=a7;obtain⟨ds',c7,b1,d3,b2,o1,o2,e0,e1,e2⟩:=T.ex;rw[c1]at o1;obtain⟨_,us,os,c8,a3,c9⟩:=o1;have c0:Ret w G Gc st ds [] [] w' Gx:=⟨C,c,⟨sl,g⟩,λn x hx y=>by simp at y⟩;let ds2:List (Nat×Nat):=ds'++c7.map λn=>(n,0)
  obtain⟨J,a2⟩:=aCh (ds':=ds2) (ps:=s.ps) (as:=as) g C c T.live H.symm (λn x hx y=>by simp at y);have c2:kC s.ps as (lF [] st)=st:=Jp s.ps as st H;rw[c2]at J a2;have Y:∀b,b<w.heap.size->Gc.own b=.out\/Gc.own b=.fz:=λb f=>Go.Eng.unlent g C (λr p _=>by simp) (λn x _ _=>by simp);have c6:=a2.withSlots (sl':=sl) λt d0 c4=>dS J _ _ (g.slots t d0 c4);refine⟨v,G.merge Gx w.heap.size [] ds2,rfl,⟨c.size,λb f=>(c.block b f (Y b f)).1⟩,⟨c.os,c.tape,c.output,c.size,λb f d1=>⟨(c.block b f (Y b f)).1,EJ f (λr p _=>by simp)⟩,λ_ _ _=>rfl⟩,J,c6,?_⟩;have b0:=Jq (ds2:=ds2) (λd hd=>by simp[ds2,hd]) a3 (λm b6=>⟨0,by simp[ds2,c9,b6]⟩);refine NL a4 c8 (An U lv 0 us a3.length (λj t u V c3=>?_));have Q:=b0 j t u V c3;rcases l with l |l
  ·exact dA (λb f=>⟨c0.read l f,rfl⟩) _ _ _ Q
  ·exact So (uB l j t V) Q
 ·simp[aG]at F
end
section
variable{ext:Nat->Value}{P:Program}{E:fM}{ctx:tU}{w w':World}{G:Gh}{st:St}{sl:Nat->Option Value}{act:Act}{nt:Nat}
theorem L7{t:TypeId}{v u:Value}(h:(Instr.loadAt t v).run P w=.ok u w):(do loadVar t (<-asAddr v):Sem Value).run P w=.ok u w:=by
 cases v with
 |pointer a=>
  cases a with
  |none=>simp[Instr.loadAt,Instr.sureAddr]at h
  |some a=>simpa[Instr.loadAt,Instr.sureAddr,asAddr]using h
 |_=>simp[Instr.loadAt,Instr.sureAddr]at h
theorem HD(j:gY P E)(c:iQ ext nt w G st act):∀(l:List ResultVar){as:List A},kM E st l=some as->∃us,(l.mapM (m:=Sem) (λ
  |.tmp t=>pure (act.tmps.getD t undef)
  |.cell a t=>do loadVar t (<-asAddr (act.tmps.getD a undef)))).run P w=.ok us w/\eZ w G st as us
 |[],as,h=>by simp[kM,ok]at h;subst h;exact⟨[],rfl,rfl⟩
 |.tmp t::l,as,h=>by simp only[kM]at h;obtain⟨q,g,d⟩:=bind_some h;simp[ok]at d;subst d;obtain⟨us,e,f⟩:=HD j c l g;refine⟨act.tmps.getD t undef::us,?_,_,us,rfl,PS (c.slots t),f⟩;rw[List.mapM_cons];simp only[Sem.run_bind,Sem.run_pure,Result.andThen_ok,e]
 |.cell t ty::l,as,h=>by simp only[kM]at h;obtain⟨ti,g,d⟩:=bind_some h;obtain⟨a,s,v⟩:=bind_some d;obtain⟨q,y,r⟩:=bind_some v;simp[ok]at r;subst r;obtain⟨us,e,f⟩:=HD j c l y;obtain⟨u,C,F⟩:=Ic (P:=P) (j.types _ _ g) c.rel (PS (c.slots t)) s;refine⟨u::us,?_,u,us,rfl,F,f⟩;have:=L7 (C w (HQ.refl w));rw[List.mapM_cons];simp only[Sem.run_bind]at this⊢;rw[this];simp only[Result.andThen_ok,e,Sem.run_pure]
theorem SE(g:gY P E)(j:iQ ext nt w G st act){f:Func}{as:List A}(h:kM E st f.results.toList=some as):∃us,(results f act.tmps).run P w=.ok (if us.length=1 then us.getD 0 undef else .tuple ⟨us⟩) w/\eZ w G st as us:=by
 obtain⟨us,d,e⟩:=HD g j _ h;refine⟨us,?_,e⟩;unfold results;rw[Array.mapM_eq_mapM_toList];rw[Sem.run_bind,Sem.run_map];erw [d];simp only[Result.andThen_ok,Sem.run_pure];by_cases c:us.length=1
 ·match us,c with
  |[u],_=>rfl
 ·have:¬(us.toArray.size=1):=by simpa using c
  rw[if_neg c];simp[c]
structure Yv(w:World)(G:Gh)(st:St)(bl:List Nat):Prop where
 ex:∀n∈bl,∃x,look st.bx n=some x
theorem XL(s:dI w G st sl){m:RM}{a:A}{v:Value}{r:Nm D}(h:G9 st m a=some r)(y:dO w G st a v){ds:List (Nat×Nat)}(C:∀d,d∈r.ds->d∈ds):
  ∃ns bl,Yk w G ds m v r.x ns (bl.map λn=>(G.B n).1)/\r.os.Perm (bl.map rZ++ns)/\Yv w G st bl:=by
 unfold G9 at h;split at h
 ·rename_i lv l;obtain⟨p,f,c⟩:=bind_some h;simp[ok]at c;subst c;obtain⟨vs,rfl,Q⟩:=y;obtain⟨ns,g,j⟩:=XG s f Q C;exact⟨eE ns,[],⟨rfl,vs,ns,rfl,g,rfl⟩,by simp only[List.map_nil,List.nil_append];rw[j],⟨by simp⟩⟩
 ·rename_i lv a;obtain⟨p,f,c⟩:=bind_some h;simp[ok]at c;subst c;obtain⟨ns,g,j⟩:=XG (vs:=[v]) s f ⟨v,[],rfl,y,rfl⟩ C;exact⟨eE ns,[],⟨rfl,[v],ns,rfl,g,rfl⟩,by simp only[List.map_nil,List.nil_append];rw[j],⟨by simp⟩⟩
 ·simp[ok]at h;subst h;exact⟨[],[],.inl ⟨rfl,y,rfl,rfl⟩,by simp,⟨by simp⟩⟩
 ·rename_i el b u;obtain⟨l,f,c⟩:=bind_some h;obtain⟨p,F,H⟩:=bind_some c;simp[ok]at H;subst H;obtain⟨x,t,T,U⟩:=fX f;subst U;have hv:=y.2 x t T;obtain⟨cs,e,vs,K,V,L,P⟩:=QF s t (vV f t);obtain⟨ns,g,j⟩:=XG s F L C;have W:=sT F;refine⟨eE ns,[b],.inr ⟨zS p.x,[],(G.B b).1,(G.B b).2,ns,rfl,by rw[hv];rfl,⟨(s.boxes b x t).2.1,cs,e,vs,K,by omega,P,g⟩,rfl,rfl⟩,?_,⟨λn J=>by simp at J;subst J;exact⟨x,t⟩⟩⟩;simp only[List.map_cons,List.map_nil];rw[j];exact List.Perm.refl _
 ·simp[aG]at h
theorem Jr{α:Type}{a b c d e f:List α}(g:a.Perm (b++c))(h:d.Perm (e++f)):(a++d).Perm ((b++e)++(c++f)):=by refine(List.Perm.append g h).trans ?_;rw[List.append_assoc,List.append_assoc];refine List.Perm.append_left b ?_;rw[<-List.append_assoc,<-List.append_assoc];exact List.Perm.append_right f List.perm_append_comm
theorem XM(s:dI w G st sl){ds:List (Nat×Nat)}{X:D}:∀{f:List RM}{l:List A}{us:List Value}{r:Nm (LD)}(c:Nat),nL st f l=some r->eZ w G st l us->(∀d,d∈r.ds->d∈ds)->(∀j e,r.x[j]?=some e->X.fld (c+j)=e)->
  ∃ns bl,Jh w G ds f us X c ns (bl.map λn=>(G.B n).1)/\r.os.Perm (bl.map rZ++ns)/\Yv w G st bl
 |[],[],us,r,c,h,hv,_,_=>by simp[nL,ok]at h;subst h;exact⟨[],[],⟨hv,rfl,rfl⟩,by simp,⟨by simp⟩⟩
 |m::f,a::l,us,r,c,h,hv,t,hx=>by
  simp only[nL]at h;obtain⟨p,J,K⟩:=bind_some h;obtain⟨q,L,g⟩:=bind_some K;simp[ok]at g;subst g;obtain⟨v,a1,rfl,Q,T⟩:=hv;obtain⟨u,b1,C,F,H⟩:=XL s J Q (ds:=ds) (λd hd=>t d (by simp[hd]));obtain⟨y,b2,W,Y,a0⟩:=XM s (c+1) L T (λd hd=>t d (by simp[hd])) (λj e V=>by have:=hx (j+1) e (by simpa using V);rwa [show c+(j+1)=c+1+j by omega]at this);have U:X.fld c=p.x:=by have:=hx 0 p.x rfl;simpa using this
  refine⟨u++y,b1++b2,⟨v,a1,u,y,b1.map λn=>(G.B n).1,b2.map λn=>(G.B n).1,rfl,rfl,by simp,by rw[U];exact C,W⟩,?_,⟨λn P=>?_⟩⟩
  ·simp only[List.map_append];exact Jr F Y
  ·rcases List.mem_append.1 P with h |h
   ·exact H.ex n h
   ·exact a0.ex n h
 |[],_::_,_,_,_,h,_,_,_=>by simp[nL,aG]at h
 |_::_,[],_,_,_,h,_,_,_=>by simp[nL,aG]at h
theorem NR(g:dI w G st sl){ds:List (Nat×Nat)}:∀{ps:List (TypeId×PM)}{vs:List Value}{r:Nm (LD)}(i:Nat),GA st i ps=some r->iY ps=true->vs.length=ps.length->(∀d,d∈r.ds->d∈ds)->
  (∀(k:Nat)(t:TypeId)(el:List LT)(v:Value),ps[k]?=some (t,PM.io el)->vs[k]?=some v->v=.pointer (some ⟨(G.B (500+(i+k))).1,(G.B (500+(i+k))).2,none⟩))->
   ∃ns bl,TP w G ds ps vs r.x ns (bl.map λn=>(G.B n).1)/\r.os.Perm (bl.map rZ++ns)/\Yv w G st bl
 |[],vs,r,i,h,_,c,_,_=>by simp[GA,ok]at h;subst h;have:vs=[]:=List.eq_nil_of_length_eq_zero (by simpa using c);subst this;exact⟨[],[],⟨rfl,rfl,rfl,rfl⟩,by simp,⟨by simp⟩⟩
 |p::ps,[],r,i,h,_,c,_,_=>by simp at c
 |p::ps,v::vs,r,i,h,b3,c,C,F=>by
  obtain⟨Q,Y⟩:=KB b3;by_cases y:∃t el,p=(t,.io el)
  ·obtain⟨t,el,rfl⟩:=y;simp only[GA]at h;obtain⟨q,T,a7⟩:=bind_some h;obtain⟨b4,a9,U⟩:=bind_some a7;simp[ok]at U;subst U;unfold H0 at T;obtain⟨x,l,u⟩:=bind_some T;split at u;case h_2=>simp[aG]at u
   rename_i b1;obtain⟨a0,V,W⟩:=bind_some u;simp[ok]at W;subst W;simp only[oR]at l;obtain⟨cs,e,us,a1,b5,a2,a3⟩:=QF g l b1;obtain⟨ns,a4,a5⟩:=XG g V a2 (ds:=ds) (λd hd=>C d (by simp[hd]));have b6:=sT V;have hv:=F 0 t el v rfl rfl;simp only[Nat.add_zero]at hv;obtain⟨s,b2,K,L,P⟩:=NR g (i+1) a9 Y (by simpa using c) (λd hd=>C d (by simp[hd])) (λk t el v H hv=>by have:=F (k+1) t el v (by simpa using H) (by simpa using hv);rwa [show i+(k+1)=i+1+k by omega]at this);refine⟨eE ns++s,(500+i)::b2,⟨v,vs,zS a0.x,b4.x,_,_,ns,s,_,rfl,rfl,hv,⟨(g.boxes _ x l).2.1,cs,e,us,a1,by omega,a3,a4⟩,rfl,by simp,K⟩,?_,⟨λn J=>?_⟩⟩
   ·have b0:(Da (500+i) 0 1++a0.os).Perm ([500+i].map rZ++eE ns):=by rw[a5];exact List.Perm.refl _
    exact Jr b0 L
   ·rcases List.mem_cons.1 J with rfl |J
    ·exact⟨x,l⟩
    ·exact P.ex n J
  ·have a6:GA st (i+1) ps=some r:=by
    obtain⟨t,m⟩:=p;cases m with
    |io el=>exact absurd ⟨t,el,rfl⟩ y
    |sio lv=>simp[iY]at Q
    |sub j b7 k=>simp[iY]at Q
    |clo f c0=>simp[iY]at Q
    |_=>simpa[GA]using h
   obtain⟨s,b2,K,L,P⟩:=NR g (i+1) a6 Y (by simpa using c) C (λk t el v H hv=>by have:=F (k+1) t el v (by simpa using H) (by simpa using hv);rwa [show i+(k+1)=i+1+k by omega]at this);refine⟨s,b2,?_,L,P⟩;obtain⟨t,m⟩:=p;cases m with
   |io el=>exact absurd ⟨t,el,rfl⟩ y
   |_=>exact⟨v,vs,rfl,K⟩
theorem Tp(f:dI w G st sl){bl:List Nat}(hg:Yv w G st bl)(h:bl.Nodup):(bl.map λn=>(G.B n).1).Nodup:=by
 induction bl with
 |nil=>exact List.nodup_nil
 |cons b bl m=>simp only[List.map_cons,List.nodup_cons]at h⊢;refine⟨λg=>?_,m ⟨λn j=>hg.ex n (by simp[j])⟩ h.2⟩;obtain⟨n,c,d⟩:=List.mem_map.1 g;obtain⟨x,hx⟩:=hg.ex n (by simp[c]);obtain⟨r,l⟩:=hg.ex b (by simp);exact f.apartB n b x r hx l (λe=>h.1 (e▸c)) d
theorem KC:∀(ps:List (TypeId×PM)){i:Nat}{xs:LD}{st vL:St},iY ps=true->fE E i ps xs st=some vL->(∀t,t<i\/i+ps.length<=t->vL.sl.get t=st.sl.get t)/\∀n,n<500+i->look vL.bx n=look st.bx n
 |[],i,xs,st,vL,_,h=>by
  cases xs with
  |nil=>simp[fE,ok]at h;subst h;exact⟨λ_ _=>rfl,λ_ _=>rfl⟩
  |cons _ _=>simp[fE,aG]at h
 |p::ps,i,xs,st,vL,C,h=>by
  obtain⟨r,F⟩:=KB C;have key:∀{xs:LD}{st1:St}{a:A},st1.sl=st.sl->(∀n,n<500+i->look st1.bx n=look st.bx n)->fE E (i+1) ps xs (st1.put i a)=some vL->
    (∀t,t<i\/i+(p::ps).length<=t->vL.sl.get t=st.sl.get t)/\∀n,n<500+i->look vL.bx n=look st.bx n:=λ{xs st1 a}v c y=>by
   obtain⟨g,l⟩:=KC ps F y;refine⟨λt ht=>?_,λn s=>?_⟩
   ·simp only[List.length_cons]at ht;rw[g t (by omega)];simp only[St.put,Tr.get_set];rw[if_neg (by omega),v]
   ·rw[l n (by omega)];exact c n s
  obtain⟨t,m⟩:=p;cases m with
  |ro=>
   cases xs with
   |nil=>simp[fE,aG]at h
   |cons x xs=>simp only[fE]at h;obtain⟨ti,_,c⟩:=bind_some h;obtain⟨a,_,d⟩:=bind_some c;exact key rfl (λ_ _=>rfl) d
  |rp=>
   cases xs with
   |nil=>simp[fE,aG]at h
   |cons x xs=>simp only[fE]at h;obtain⟨e,_,c⟩:=bind_some h;obtain⟨u,_,d⟩:=bind_some c;exact key rfl (λ_ _=>rfl) d
  |fnv f=>
   cases xs with
   |nil=>simp[fE,aG]at h
   |cons x xs=>simp only[fE]at h;exact key rfl (λ_ _=>rfl) h
  |mv=>
   cases xs with
   |nil=>simp[fE,aG]at h
   |cons x xs=>simp only[fE]at h;obtain⟨ti,_,c⟩:=bind_some h;obtain⟨u,_,d⟩:=bind_some c;exact key (st1:=st.newArr (500+i) ti.e (fC true u.lv) x.els) rfl (λ_ _=>rfl) d
  |io el=>
   cases xs with
   |nil=>simp[fE,aG]at h
   |cons x xs=>simp only[fE]at h;obtain⟨g,l⟩:=qS [] (nm (500+i) 0) el.length x el 0 st;refine key (st1:=(dJ [] (nm (500+i) 0) el.length x 0 el st).1.newBox (500+i) (dJ [] (nm (500+i) 0) el.length x 0 el st).2) g (λn s=>?_) h;simp only[St.newBox,bQ];rw[if_neg (by omega),l]
  |sio lv=>simp[iY]at r
  |sub j G k=>simp[iY]at r
  |clo f H=>simp[iY]at r
theorem Yw:∀(ps:List (TypeId×PM)){i:Nat}{xs:LD}{st vL:St},iY ps=true->fE E i ps xs st=some vL->∀(k:Nat)(t:TypeId)(el:List LT),ps[k]?=some (t,.io el)->
  ∃c x,vL.sl.get (i+k)=.pb (500+(i+k)) c 0/\look vL.bx (500+(i+k))=some x/\x.uid=c
 |[],i,xs,st,vL,_,_,k,t,el,l=>by simp at l
 |p::ps,i,xs,st,vL,F,h,k,t,el,l=>by
  obtain⟨r,s⟩:=KB F;have hx:∃u st1,fE E (i+1) ps u st1=some vL:=by
   obtain⟨K,m⟩:=p;cases xs with
   |nil=>cases m<;>simp[fE,aG]at h
   |cons x xs=>
    cases m with
    |ro=>simp only[fE]at h;obtain⟨ti,_,d⟩:=bind_some h;obtain⟨a,_,g⟩:=bind_some d;exact⟨_,_,g⟩
    |rp=>simp only[fE]at h;obtain⟨e,_,d⟩:=bind_some h;obtain⟨G,_,g⟩:=bind_some d;exact⟨_,_,g⟩
    |fnv f=>simp only[fE]at h;exact⟨_,_,h⟩
    |mv=>simp only[fE]at h;obtain⟨ti,_,d⟩:=bind_some h;obtain⟨G,_,g⟩:=bind_some d;exact⟨_,_,g⟩
    |io el=>simp only[fE]at h;exact⟨_,_,h⟩
    |sio lv=>simp[iY]at r
    |sub j H k=>simp[iY]at r
    |clo f J=>simp[iY]at r
  cases k with
  |zero=>
   simp at l;subst l;cases xs with
   |nil=>simp[fE,aG]at h
   |cons x xs=>
    simp only[fE]at h;obtain⟨v,y⟩:=KC ps s h;simp only[Nat.add_zero];rw[v i (by omega),y (500+i) (by omega)];refine⟨(dJ [] (nm (500+i) 0) el.length x 0 el st).1.ctr,{uid:=(dJ [] (nm (500+i) 0) el.length x 0 el st).1.ctr,lv:=(dJ [] (nm (500+i) 0) el.length x 0 el st).2 },?_,?_,rfl⟩
    ·simp[St.put,Tr.get_set]
    ·simp[St.put,St.newBox,bQ]
  |succ k=>obtain⟨u,st1,C⟩:=hx;have:=Yw ps s C k t el (by simpa using l);rwa [show i+1+k=i+(k+1)by omega]at this
end
section
variable{P:Program}{E:fM}{ctx:tU}
theorem Yx{vs:List Value}{n t:Nat}(c:vs.length<=n):((⟨vs⟩:Array Value)++Array.replicate (n-vs.length) undef).getD t undef=(vs[t]?).getD undef:=by
 rw[Array.getD_eq_getD_getElem?];by_cases h:t<vs.length
 ·rw[Array.getElem?_append_left (by simpa using h)];simp
 ·rw[Array.getElem?_append_right (by simpa using h),List.getElem?_eq_none (by omega)];simp only[Array.getElem?_replicate,Option.getD_none];split<;>rfl
theorem aCk{act:Act}{t:Nat}(h:act.tmps.size<=1000):tv (λ_=>undef) act t=act.tmps.getD t undef:=by
 unfold tv;split
 ·rfl
 ·rw[Array.getD_eq_getD_getElem?,Array.getElem?_eq_none (by omega)];rfl
theorem KD(c4:gY P E)(e6:jY P E ctx)(f8:P.follows .mixedOrders=true){f:Func}{c:Code}{s:FY}{h:fR}{k m:Nat}(hf:P.funcs[s.fn]?=some f)(f1:f.body=some c)
  (g0:lI E h f.ntmps c=true)(e4:f.ntmps<=500)(c8:s.ps.length<=f.ntmps)(h8:s.ps.length<=100)(g1:iY s.ps=true){vL:St}{r:D×LD}(c2:MO E ctx k f c s h vL=some r)
  (e0:∀t,s.ps.length<=t->vL.sl.get t=.undef)
  (d3:∀(kk:Nat)(t:TypeId)(el:List LT),s.ps[kk]?=some (t,PM.io el)->∃a2 x,vL.sl.get kk=.pb (500+kk) a2 0/\look vL.bx (500+kk)=some x/\x.uid=a2)
  (w:World)(G:Gh)(vs:List Value)(g6:vs.length=s.ps.length)(b5:dI w G vL (λi=>vs[i]?)):
  Calls P s.fn ⟨vs⟩ w (λe w'=>∃v G',e=.returned v/\Fr w G w' G'/\aD3 w' G' s vs r v):=by
 unfold MO at c2;obtain⟨h3,e2,b1⟩:=bind_some c2;obtain⟨ex,st1⟩:=h3;have f4:(ex=.norm\/ex=.ret)/\∃as u v,kM E st1 f.results.toList=some as/\nL st1 s.rs as=some u/\GA st1 0 s.ps=some v/\nodup (u.os++v.os)=true/\apart (u.os++v.os) (u.ds++v.ds)=true/\r=((match u.x with|[x]=>x |xs=>.l xs),v.x):=by
  have key:∀{X:M (D×LD)},X=some r->X=((kM E st1 f.results.toList).bind λvs=>(nL st1 s.rs vs).bind λu=>(GA st1 0 s.ps).bind λv=>
    bif nodup (u.os++v.os)&&apart (u.os++v.os) (u.ds++v.ds)then ok ((match u.x with|[x]=>x |xs=>.l xs),v.x)else aG "result: shared")->
    ∃as u v,kM E st1 f.results.toList=some as/\nL st1 s.rs as=some u/\GA st1 0 s.ps=some v/\nodup (u.os++v.os)=true/\apart (u.os++v.os) (u.ds++v.ds)=true/\r=((match u.x with|[x]=>x |xs=>.l xs),v.x):=by
   intro X e9 f3;subst f3;obtain⟨as,a5,g⟩:=bind_some e9;obtain⟨u,a6,a7⟩:=bind_some g;obtain⟨v,a9,T⟩:=bind_some a7;obtain⟨b0,c1⟩:=aW T;simp only[Bool.and_eq_true]at b0;simp only[ok,Option.some.injEq]at c1;exact⟨as,u,v,a5,a6,a9,b0.1,b0.2,c1.symm⟩
  cases ex with
  |norm=>exact⟨.inl rfl,key b1 rfl⟩
  |ret=>exact⟨.inr rfl,key b1 rfl⟩
  |exit id=>simp[aG]at b1
 obtain⟨f5,as,u,v,a5,g,a6,a7,a9,T⟩:=f4;have e7:iQ (λ_=>undef) f.ntmps w G vL {tmps:=(⟨vs⟩:Array Value)++Array.replicate (f.ntmps-vs.length) undef,defers:=[]}:=by
  refine⟨b5.none,λt=>?_,?_,rfl⟩
  ·rw[aCk (by simp;omega)];show dO w G vL (vL.sl.get t) (((⟨vs⟩:Array Value)++Array.replicate (f.ntmps-vs.length) undef).getD t undef);rw[Yx (by omega)];cases hv:vs[t]?with
   |some Y=>exact b5.slots t Y hv
   |none=>have:vs.length<=t:=List.getElem?_eq_none_iff.1 hv;rw[e0 t (by omega)];exact trivial
  ·show((⟨vs⟩:Array Value)++Array.replicate (f.ntmps-vs.length) undef).size=f.ntmps;simp;omega
 refine calls_of_wp hf f1 ?_;refine rM c4 e6 f8 e4 k c 0 g0 e7 e2 _ (λh7 a a' w' y=>?_) (λw' G' c0 c5 J=>?_)
 ·obtain⟨_,Y,Gx,g4,_⟩:=y;simp at g4
 ·
  have main:c0.defers=[]/\∃Y,(results f c0.tmps).run P w'=.ok Y w'/\∃d0 Gx,Ending.returned Y=.returned d0/\Fr w G w' Gx/\aD3 w' Gx s vs r d0:=by
   refine⟨J.defers,?_⟩;obtain⟨us,g9,a1⟩:=SE (P:=P) c4 J a5;refine⟨_,g9,_,G',rfl,c5,?_⟩;obtain⟨h1,d2,o1,o2,h2⟩:=NR (ds:=u.ds++v.ds) J.rel 0 a6 g1 g6 (λd hd=>by simp[hd]) (λkk t el a0 c7 hv=>by
    obtain⟨a2,x,e1,a3,a4⟩:=d3 kk t el c7;simp only[Nat.zero_add]at⊢;have:=b5.slots kk a0 hv;rw[e1]at this;have g5:=this.2 x a3 a4;have h9:kk<100:=by have:=(List.getElem?_eq_some_iff.1 c7).1;omega
    rw[c5.B (500+kk) (by omega) (by omega)];exact g5)
   have f9:=NP a7;have f0:=NQ a9;have b2:∀(K C:List Nat)(a0:Value),TO w' G' (u.ds++v.ds) s.rs a0 r.1 K (C.map λn=>(G'.B n).1)->u.os.Perm (C.map rZ++K)->Yv w' G' st1 C->aD3 w' G' s vs r a0:=by
    intro K C a0 U V W;have c9:=Jr V o2;have L:=c9.nodup f9;obtain⟨b7,h0,i8⟩:=List.nodup_append.1 L;rw[<-List.map_append]at b7;have f2:(C++d2).Nodup:=by
     have f6:∀l:List Nat,(l.map rZ).Nodup->l.Nodup:=by
      intro l;induction l with
      |nil=>intro _;exact List.nodup_nil
      |cons a l b6=>intro y;simp only[List.map_cons,List.nodup_cons]at y;exact List.nodup_cons.2 ⟨λf7=>y.1 (List.mem_map_of_mem f7),b6 y.2⟩
     exact f6 _ b7
    have c6:=Tp J.rel ⟨λn L=>(List.mem_append.1 L).elim (W.ex n) (h2.ex n)⟩ f2;rw[List.map_append]at c6;refine⟨⟨u.ds++v.ds,K,_,h1,_,U,by rw[T];exact o1,List.perm_append_comm.nodup h0,List.perm_append_comm.nodup c6,λn L d hd=>f0 n ?_ d hd⟩,J.rel.live,J.rel.hdr⟩;refine c9.mem_iff.2 ?_;simp only[List.mem_append]at L⊢;exact .inr L.symm
   cases Q:s.rs with
   |nil=>
    rw[Q]at g;cases as with
    |cons _ _=>simp[nL,aG]at g
    |nil=>simp[nL,ok]at g;have:us=[]:=a1;subst this;refine b2 [] [] _ ?_ (by rw[<-g];simp) ⟨by simp⟩;rw[Q];exact⟨rfl,rfl,rfl⟩
   |cons i0 F=>
    cases F with
    |nil=>
     rw[Q]at g;cases as with
     |nil=>simp[nL,aG]at g
     |cons a as=>
      cases as with
      |cons _ _=>simp only[nL]at g;obtain⟨p,_,H⟩:=bind_some g;simp[aG]at H
      |nil=>
       simp only[nL]at g;obtain⟨p,e3,H⟩:=bind_some g;simp[ok]at H;obtain⟨v0,h4,e1,a3,a4⟩:=a1;have:h4=[]:=a4;subst this;subst e1;obtain⟨K,C,U,V,W⟩:=XL (ds:=u.ds++v.ds) J.rel e3 a3 (λd hd=>by rw[<-H];simp[hd]);refine b2 K C _ ?_ (by rw[<-H];simpa using V) W;have b4:r.1=p.x:=by rw[T,<-H]
       rw[Q,b4];simpa[TO]using U
    |cons b7 F=>
     have c8:us.length=as.length:=(dG.1 a1).1;have b3:=g;rw[Q]at b3;have g7:∀{F:List RM}{l:List A}{r:Nm (LD)},nL st1 F l=some r->r.x.length=F.length/\l.length=F.length:=by
      intro F;induction F with
      |nil=>intro l r y;cases l with
       |nil=>simp[nL,ok]at y;subst y;exact⟨rfl,rfl⟩
       |cons _ _=>simp[nL,aG]at y
      |cons m F b6=>intro l r y;cases l with
       |nil=>simp[nL,aG]at y
       |cons a l=>simp only[nL]at y;obtain⟨p,_,H⟩:=bind_some y;obtain⟨q,e5,c3⟩:=bind_some H;simp[ok]at c3;subst c3;obtain⟨i1,i2⟩:=b6 e5;exact⟨by simp[i1],by simp[i2]⟩
     obtain⟨d1,h5⟩:=g7 b3;have g2:¬us.length=1:=by rw[c8,h5];simp
     rw[if_neg g2];have b4:r.1=.l u.x:=by
      rw[T];cases g3:u.x with
      |nil=>rfl
      |cons h6 ys=>
       cases ys with
       |nil=>rw[g3]at d1;simp at d1
       |cons _ _=>rfl
     obtain⟨K,C,U,V,W⟩:=XM (ds:=u.ds++v.ds) (X:=.l u.x) J.rel 0 b3 a1 (λd hd=>by simp[hd]) (λj h6 g8=>by simp only[D.fld,D.els,Nat.zero_add,List.getD,g8];rfl);refine b2 K C _ ?_ V W;rw[Q,b4];exact⟨us,rfl,U⟩
  rcases f5 with rfl |rfl
  ·exact main
  ·exact main
theorem L8(K:gY P E)(J:jY P E ctx)(V:P.follows .mixedOrders=true){f:Func}{c:Code}{s:FY}{h:fR}{k m:Nat}{g:tU}(Q:∀xs,g m xs=Ov E ctx k f c s h xs)(hf:P.funcs[s.fn]?=some f)(L:f.body=some c)
  (W:lI E h f.ntmps c=true)(H:f.ntmps<=500)(U:s.ps.length<=f.ntmps)(C:s.ps.length<=100)(e:iY s.ps=true):NM P E g m s:=by
 intro xs r l;rw[Q]at l;obtain⟨vL,d,F⟩:=bind_some l;obtain⟨y,a1⟩:=KC s.ps e d;refine⟨vL,d,λw G vs a0 Y=>KD (m:=m) K J V hf L W H U C e F (λt ht=>?_) (λkk t el T=>?_) w G vs a0 Y⟩
 ·rw[y t (by omega)];simp only[Tr.get_nil]
 ·obtain⟨u,x,e1,j,v⟩:=Yw s.ps e d kk t el T;simp only[Nat.zero_add]at e1 j;exact⟨u,x,e1,j,v⟩
theorem L9(T:gY P E)(Q:jY P E ctx)(Y:P.follows .mixedOrders=true){f:Func}{c:Code}{s:FY}{h:fR}{k m:Nat}{a3:tU}(c0:∀xs,a3 m xs=Wy E ctx k f c s h xs)(hf:P.funcs[s.fn]?=some f)(U:f.body=some c)
  (a0:lI E h f.ntmps c=true)(L:f.ntmps<=500)(W:s.ps.length<=f.ntmps)(J:s.ps.length<=100)(C:iY s.ps=true):NM P E a3 m s:=by
 intro xs r u;rw[c0]at u;unfold Wy at u;split at u;case h_2=>simp[aG]at u
 rename_i t0 a7;obtain⟨vL,a6,y⟩:=bind_some u;obtain⟨a4,c7⟩:=KC s.ps C a6;have H:∀(st:St)(kk:Nat)(t:TypeId)(el:List LT),s.ps[kk]?=some (t,PM.io el)->∃a2 x,st.sl.get kk=.pb (500+kk) a2 0/\look st.bx (500+kk)=some x/\x.uid=a2:=λst kk t el g=>by
  rw[a7]at g;cases kk with
  |zero=>simp at g
  |succ n=>simp at g
 have V:s.ps.length=1:=by rw[a7];rfl
 refine⟨vL,a6,λw G vs a1 F=>?_⟩;unfold Sd at y;split at y
 ·rename_i e el c2;obtain⟨c5,b3,b4⟩:=bind_some y;obtain⟨d1,K,b5⟩:=bind_some b4;obtain⟨c6,b6,j⟩:=bind_some b5;have c3:c5=(.l [],[]):=by
   unfold V6 at K;split at K
   ·rfl
   ·simp[aG]at K
  have c4:c6=(.l [],[])/\r=(.l [],[]):=by
   unfold V6 at j;split at j
   ·simp[ok]at j;exact⟨rfl,j.symm⟩
   ·simp[aG]at j
  obtain⟨rfl,rfl⟩:=c4;subst c3;obtain⟨v,rfl⟩:∃v,vs=[v]:=by rw[V]at a1;exact List.length_eq_one_iff.1 a1
  ·have hv:=F.slots 0 v rfl;rw[c2]at hv;obtain⟨a,n,b0,a5,b1,c8,c9,b2,d0⟩:=hv.2 rfl;have c1:n=0:=by simpa[D.els]using b1.symm
   subst c1;have a9:yY (λi=>([v]:List Value)[i]?) 0 v=λi=>([v]:List Value)[i]?:=by
    funext i;cases i with
    |zero=>rfl
    |succ i=>rfl
   have g:∀(x:A)t,s.ps.length<=t->(vL.put 0 x).sl.get t=.undef:=λx t ht=>by show(vL.sl.set 0 x).get t=_;rw[Tr.get_set,if_neg (by omega),a4 t (by omega)];simp only[Tr.get_nil]
   cases a with
   |none=>have b7:=b2 rfl;subst b7;have l:=F.put (d:=0) (a:=.nils) (v:=v) a5;rw[a9]at l;exact KD (m:=m) T Q Y hf U a0 L W J C b3 (g _) (H _) w G [v] V.symm l
   |some ad=>have l:=F.put (d:=0) (a:=.ez) (v:=v) ⟨ad,b0,a5⟩;rw[a9]at l;exact KD (m:=m) T Q Y hf U a0 L W J C b6 (g _) (H _) w G [v] V.symm l
 ·exact KD (m:=m) T Q Y hf U a0 L W J C y (λt ht=>by rw[a4 t (by omega)];simp only[Tr.get_nil]) (H _) w G vs a1 F
theorem aCl(j:gY P E)(u:∀m s,E.sg.look m=some s->∃f,P.funcs[s.fn]?=some f/\f.name≠ "runtime.NumGoroutine"/\f.body.isNone=false)(hf:∀m s,E.sg.look m=some s->iY s.ps=true->NM P E ctx m s)
  (F:∀m s e el f,E.sg.look m=some s->mP s.ps=some (e,el,f)->s.rs=[]/\Jo P ctx m s e el f)(v:∀q g,E.ic ctx q=some g->aB3 P g):jY P E ctx:=
 ⟨u,λt c d hv h=>L6 j (hf _ _ c) (λe el f=>F _ _ e el f c) t d hv h,λc C d hv r l y h=>aCj j (hf _ _ c l) C d hv r l y h,v⟩
def Nt:List A->A
 |[a]=>a
 |l=>.tup l
structure lJ where
 fn:FuncId
 f:Func
 c:Code
 h:fR
 np:Nat
def Js(E:fM)(ctx:tU)(k:Nat)(s:lJ)(st:St):M (A×St):=
 (MB E s.h ctx k 0 s.c st).bind λr=>match r.1 with
  |.exit _=>aG "exit out of the body"
  |_=>(kM E r.2 s.f.results.toList).bind λvs=>ok (Nt vs,r.2)
def aFM(E:fM)(k:Nat)(T:BT lJ):tU->Nat->Option Ifn:=λctx q=>(T.look q).map λs=>{fn:=s.fn,np:=s.np,run:=Js E ctx k s}
def yM(E:fM)(k:Nat)(T:BT lJ):Nat->fM
 |0=>{E with ic:=λ_ _=>none}
 |n+1=>{E with ic:=aFM (yM E k T n) k T}
structure aCm(P:Program)(E:fM)(s:lJ):Prop where
 func:P.funcs[s.fn]?=some s.f
 name:s.f.name≠ "runtime.NumGoroutine"
 body:s.f.body=some s.c
 code:lI E s.h s.f.ntmps s.c=true
 tmps:s.f.ntmps<=500
 np:s.np<=s.f.ntmps
theorem M0{w:World}{G:Gh}{st:St}{as:List A}{us:List Value}(h:eZ w G st as us):dO w G st (Nt as) (if us.length=1 then us.getD 0 undef else .tuple ⟨us⟩):=by
 match as,us,h with
 |[],us,h=>have h:us=[]:=h;subst h;exact⟨[],rfl,rfl⟩
 |[a],us,h=>obtain⟨v,vs,rfl,d,c⟩:=h;have c:vs=[]:=c;subst c;simpa[Nt]using d
 |a::a'::as,us,h=>have e:=h;obtain⟨v,vs,rfl,d,c⟩:=h;obtain⟨f,g,rfl,j,l⟩:=c;rw[if_neg (by simp)];exact⟨v::f::g,rfl,e⟩
theorem aFN{E:fM}{ctx:tU}(r:gY P E)(C:jY P E ctx)(U:P.follows .mixedOrders=true){k:Nat}{s:lJ}(c:aCm P E s):aB3 P {fn:=s.fn,np:=s.np,run:=Js E ctx k s}:=by
 refine⟨⟨s.f,c.func,c.name,by rw[c.body];rfl⟩,?_⟩;intro w G st st' a vs ext j u W Y T Q;simp only at j u W;unfold Js at j;obtain⟨a3,y,g⟩:=bind_some j;obtain⟨ex,st1⟩:=a3;have J:(ex=.norm\/ex=.ret)/\∃as,kM E st1 s.f.results.toList=some as/\a=Nt as/\st'=st1:=by
  have key:((kM E st1 s.f.results.toList).bind λvs=>ok (Nt vs,st1))=some (a,st')->∃as,kM E st1 s.f.results.toList=some as/\a=Nt as/\st'=st1:=by intro h;obtain⟨as,e,f⟩:=bind_some h;simp only[ok,Option.some.injEq,Prod.mk.injEq]at f;exact⟨as,e,f.1.symm,f.2.symm⟩
  cases ex with
  |norm=>exact⟨.inl rfl,key g⟩
  |ret=>exact⟨.inr rfl,key g⟩
  |exit id=>simp[aG]at g
 obtain⟨K,as,e,rfl,rfl⟩:=J;have V:vs.length<=s.f.ntmps:=by rw[u];exact c.np
 have H:iQ ext s.f.ntmps w G st {tmps:=(⟨vs⟩:Array Value)++Array.replicate (s.f.ntmps-vs.length) undef,defers:=[]}:=by
  refine⟨Y,λt=>?_,by simp;omega,rfl⟩;unfold tv;split
  ·rename_i ht;show dO w G st (st.sl.get t) (((⟨vs⟩:Array Value)++Array.replicate (s.f.ntmps-vs.length) undef).getD t undef);rw[Yx V];exact T t ht
  ·exact Q t (by omega)
 refine calls_of_wp c.func c.body ?_;refine rM r C U c.tmps k s.c 0 c.code H y _ (λa4 a a' w' L=>?_) (λw' G' m F d=>?_)
 ·obtain⟨_,l,Gx,a0,_⟩:=L;simp at a0
 ·have main:m.defers=[]/\∃l,(results s.f m.tmps).run P w'=.ok l w'/\∃v Gx,Ending.returned l=.returned v/\Fr w G w' Gx/\dI w' Gx st' (λ_=>none)/\dO w' Gx st' (Nt as) v/\∀t,1000<=t->dO w' Gx st' (st'.sl.get t) (ext t):=by
   refine⟨d.defers,?_⟩;obtain⟨us,a1,a2⟩:=SE (P:=P) r d e;exact⟨_,a1,_,G',rfl,F,d.rel,M0 a2,λt ht=>by have:=d.slots t;unfold tv at this;rwa [if_neg (by omega)]at this⟩
  rcases K with rfl |rfl
  ·exact main
  ·exact main
theorem aCn(E:fM)(k:Nat)(T:BT lJ):∀n,RO (yM E k T n)=RO E
 |0=>by kernel_rfl
 |n+1=>by kernel_rfl
theorem aCo(E:fM)(k:Nat)(T:BT lJ):∀n,sP (yM E k T n)=sP E
 |0=>by kernel_rfl
 |n+1=>by kernel_rfl
theorem GI(E:fM)(k:Nat)(T:BT lJ):∀n,(yM E k T n).sg=E.sg
 |0=>rfl
 |n+1=>rfl
theorem Jt(E:fM)(k:Nat)(T:BT lJ):∀n,fE (yM E k T n)=fE E
 |0=>by kernel_rfl
 |n+1=>by kernel_rfl
theorem aFc{E:fM}{ctx:tU}{k:Nat}{T:BT lJ}(r:P.follows .mixedOrders=true)(j:∀n,gY P (yM E k T n))(d:jY P (yM E k T 0) ctx)(l:∀n q s,T.look q=some s->aCm P (yM E k T n) s):∀n,jY P (yM E k T n) ctx
 |0=>d
 |n+1=>by
  have C:=aFc r j d l n;refine⟨λm s c=>d.fn m s (by rw[GI]at c⊢;exact c),λhd c f hv h=>?_,λc y f hv e v u h=>?_,λq g t=>?_⟩
  ·have:=d.call hd (by rw[GI]at c⊢;exact c) f hv (by rw[aCn]at h⊢;exact h);exact this
  ·exact d.gd (by rw[GI]at c⊢;exact c) y f hv (by rw[aCo]at e⊢;exact e) v u h
  simp only[yM,aFM,Option.map_eq_some_iff]at t;obtain⟨s,e,rfl⟩:=t;exact aFN (j n) C r (l n q s e)
end
def Y9:LT->Value->Bool
 |.int k,.int c n=>nK k c&&aD n 0
 |.bool,.bool b=>!b
 |.str,.string s=>Nat.beq s.data.size 0
 |.sl ..,.slice none 0 0=>true
 |_,_=>false
def Ap:List LT->List Value->Bool
 |[],[]=>true
 |t::ts,v::vs=>Y9 t v&&Ap ts vs
 |_,_=>false
theorem Ei{t:LT}{v:Value}(h:Y9 t v=true):v=fZ t:=by
 unfold Y9 at h;split at h
 ·simp only[Bool.and_eq_true,bT]at h;rw[(fF _ _).1 h.1,h.2];rfl
 ·simp only[Bool.not_eq_true']at h;rw[h];rfl
 ·rename_i s;have:=Nat.eq_of_beq_eq_true h;cases s with
  |mk d=>simp only at this;rw[Array.eq_empty_of_size_eq_zero this];rfl
 ·rfl
 ·simp at h
theorem XN:∀{ts:List LT}{vs:List Value},Ap ts vs=true->vs=ts.map fZ
 |[],[],_=>rfl
 |t::ts,v::vs,h=>by simp only[Ap,Bool.and_eq_true]at h;rw[Ei h.1,XN h.2];rfl
 |[],_::_,h=>by simp[Ap]at h
 |_::_,[],h=>by simp[Ap]at h
def XO(P:Program):List (Nat×TypeId)->List Field->Bool
 |[],_=>true
 |(off,c)::l,fd::m=>Nat.beq fd.offset off&&(Nat.beq fd.type c&&((match P.info? c with|some j=>!Nat.beq j.size 0 |none=>false)&&XO P l m))
 |_::_,[]=>false
def Tq(P:Program):List Field->Bool
 |[]=>true
 |fd::m=>(match P.info? fd.type with|some _=>true |none=>false)&&Tq P m
def Z0:List (Nat×TypeId)->TypeId->Bool
 |[],_=>true
 |(_,c)::l,e=>Nat.beq c e&&Z0 l e
def aCp(P:Program)(ti:TI):TypeDesc->Bool
 |.struct fs=>XO P ti.fs fs.toList
 |.array n e=>Nat.beq ti.fs.length n&&Z0 ti.fs e
 |.slice e=>Nat.beq ti.e e&&Nat.beq ti.lv.length 1
 |.int k=>match ti.lv with|[.int k']=>nK k k' |_=>false
 |.bool=>match ti.lv with|[.bool]=>true |_=>false
 |.string=>match ti.lv with|[.str]=>true |_=>false
 |_=>true
theorem SF{P:Program}:∀{l:List (Nat×TypeId)}{m:List Field},XO P l m=true->∀(f off:Nat)(c:TypeId),l[f]?=some (off,c)->∃fd:Field,m[f]?=some fd/\fd.offset=off/\fd.type=c/\∃j,P.info? c=some j/\j.size≠0
 |[],_,_,f,off,c,h=>by simp at h
 |(o,t)::l,fd::m,h,f,off,c,hf=>by
  simp only[XO,Bool.and_eq_true]at h;cases f with
  |zero=>
   simp at hf;obtain⟨rfl,rfl⟩:=hf;refine⟨fd,rfl,Nat.eq_of_beq_eq_true h.1,Nat.eq_of_beq_eq_true h.2.1,?_⟩;have d:=h.2.2.1;split at d
   ·rename_i j g;refine⟨j,g,λe=>?_⟩;rw[e]at d;simp at d
   ·simp at d
  |succ f=>exact SF h.2.2.2 f off c (by simpa using hf)
 |_::_,[],h,_,_,_,_=>by simp[XO]at h
theorem XP{P:Program}:∀{m:List Field},Tq P m=true->∀(j:Nat)(fd:Field),m[j]?=some fd->∃i,P.info? fd.type=some i
 |[],_,j,fd,h=>by simp at h
 |fd'::m,h,j,fd,c=>by
  simp only[Tq,Bool.and_eq_true]at h;cases j with
  |zero=>
   simp at c;subst c;have d:=h.1;split at d
   ·rename_i i e;exact⟨i,e⟩
   ·simp at d
  |succ j=>exact XP h.2 j fd (by simpa using c)
theorem Ej:∀{l:List (Nat×TypeId)}{e:TypeId},Z0 l e=true->∀(i off:Nat)(c:TypeId),l[i]?=some (off,c)->c=e
 |[],_,_,i,off,c,h=>by simp at h
 |(o,t)::l,e,h,i,off,c,d=>by
  simp only[Z0,Bool.and_eq_true]at h;cases i with
  |zero=>simp at d;rw[<-d.2];exact Nat.eq_of_beq_eq_true h.1
  |succ i=>exact Ej h.2 i off c (by simpa using d)
theorem Yy{P:Program}{ti:TI}{d:TypeDesc}(h:aCp P ti d=true):H1 P ti d:=by
 unfold aCp at h;split at h
 ·rename_i fs;intro f off j hf;obtain⟨fd,c,g⟩:=SF h f off j hf;exact⟨fd,by simpa using c,g⟩
 ·simp only[Bool.and_eq_true]at h;exact⟨Nat.eq_of_beq_eq_true h.1,Ej h.2⟩
 ·simp only[Bool.and_eq_true]at h;exact⟨Nat.eq_of_beq_eq_true h.1,Nat.eq_of_beq_eq_true h.2⟩
 ·rename_i k;split at h
  ·rename_i t e;have:=(fF _ _).1 h;subst this;exact e
  ·simp at h
 ·split at h
  ·rename_i e;exact e
  ·simp at h
 ·split at h
  ·rename_i e;exact e
  ·simp at h
 ·rename_i c g l m r s;unfold H1;split
  ·exact(c _ rfl).elim
  ·exact(g _ _ rfl).elim
  ·exact(l _ rfl).elim
  ·exact(m _ rfl).elim
  ·exact(r rfl).elim
  ·exact(s rfl).elim
  ·trivial
def Z1(ti:TI)(d:TypeDesc):Bool:=
 match ti.agg,ti.lv with
 |false,[.int k]=>match d with|.int k'=>nK k k' |_=>false
 |false,[.bool]=>match d with|.bool=>true |_=>false
 |false,[.str]=>match d with|.string=>true |_=>false
 |_,_=>true
def slB(P:Program)(ti:TI):TypeDesc->Bool
 |.slice e=>Nat.beq e ti.e&&(match P.info? e with|some j=>Nat.beq j.size ti.ek |none=>false)
 |_=>false
def aFO(P:Program):TypeDesc->Bool
 |.struct fs=>Tq P fs.toList
 |_=>true
def aGT:TypeDesc->Bool
 |.array _ _=>true
 |_=>false
def Z2:TypeDesc->Bool
 |.struct _=>true
 |_=>false
def aCq(ti:TI)(z:Option Value):Bool:=
 match z with
 |some z=>Ap ti.lv z.cells.toList
 |none=>false
def tiB(P:Program)(t:TypeId)(ti:TI):Bool:=
 match P.underlying t,P.info? t with
 |some d,some i=>aCq ti i.zero&&(Nat.beq i.size ti.lv.length&&(Nat.beq i.bytes ti.bytes&&(FS (aDO d) ti.agg&&(aCp P ti d&&(Z1 ti d&&(vK (fC false ti.lv) ti.lv&&
   (aFO P d&&((!ti.arr||aGT d)&&((!(ti.agg&&!ti.arr)||Z2 d)&&(!ti.sl||slB P ti d))))))))))
 |_,_=>false
theorem x6{P:Program}{t:TypeId}{ti:TI}(h:tiB P t ti=true):lW P t ti:=by
 unfold tiB at h;split at h
 ·rename_i d i hd U;simp only[Bool.and_eq_true]at h;obtain⟨m,G,H,Y,J,c,K,L,C,y,g⟩:=h;have v:∃z,i.zero=some z/\z.cells.toList=ti.lv.map fZ:=by
   unfold aCq at m;split at m
   ·rename_i z v;exact⟨z,v,XN m⟩
   ·simp at m
  obtain⟨z,W,z2⟩:=v;have Q:aDO d=ti.agg:=by cases f:aDO d<;>cases F:ti.agg<;>simp_all[FS]
  refine⟨⟨d,i,z,hd,U,Nat.eq_of_beq_eq_true G,Nat.eq_of_beq_eq_true H,W,z2,Q,Yy J⟩,λf k l=>?_,λf l=>?_,iK _ _ K,λfs r j fd u=>?_,λf l=>?_,λf=>?_,λf F=>?_,λV=>?_⟩
  ·simp only[Z1,f,l]at c;split at c
   ·rename_i a0;have:=(fF _ _).1 c;subst this;exact hd
   ·simp at c
  ·simp only[Z1,f,l]at c;split at c
   ·exact hd
   ·simp at c
  ·rw[hd]at r;injection r with r;subst r;exact XP L j fd (by simpa using u)
  ·simp only[Z1,f,l]at c;split at c
   ·exact hd
   ·simp at c
  ·simp only[f,Bool.not_true,Bool.false_or]at C;cases d<;>simp[aGT]at C;exact⟨_,_,hd⟩
  ·simp only[f,F,Bool.not_false,Bool.and_self,Bool.not_true,Bool.false_or]at y;cases d<;>simp[Z2]at y;exact⟨_,hd⟩
  ·simp only[V,Bool.not_true,Bool.false_or]at g;unfold slB at g;split at g
   ·rename_i e;simp only[Bool.and_eq_true]at g;have T:=Nat.eq_of_beq_eq_true g.1;subst T;have s:=g.2;split at s
    ·rename_i j u;exact⟨j,hd,u,Nat.eq_of_beq_eq_true s⟩
    ·simp at s
   ·simp at g
 ·simp at h
def BT.allB{α:Type}(f:Nat->α->Bool):BT α->Bool
 |.nil=>true
 |.node k v l r=>f k v&&(l.allB f&&r.allB f)
theorem BT.look_all{α:Type}{f:Nat->α->Bool}:∀{t:BT α}{n:Nat}{v:α},t.allB f=true->t.look n=some v->f n v=true
 |.nil,n,v,_,h=>by simp[BT.look]at h
 |.node k x l r,n,v,h,c=>by
  simp only[BT.allB,Bool.and_eq_true]at h;simp only[BT.look]at c;cases d:Nat.beq n k with
  |true=>rw[d]at c;simp at c;subst c;rw[Nat.eq_of_beq_eq_true d];exact h.1
  |false=>
   rw[d]at c;simp only[cond_false]at c;cases e:Nat.ble n k with
   |true=>rw[e]at c;exact BT.look_all h.2.1 c
   |false=>rw[e]at c;exact BT.look_all h.2.2 c
def ptB(P:Program)(t e:TypeId):Bool:=
 (match P.underlying t with|some (.pointer e')=>Nat.beq e' e |_=>false)&&(match P.info? t with|some i=>Nat.beq i.size 1&&(match i.zero with|some (.pointer none)=>true |_=>false) |none=>false)
def aD5(P:Program):Nat->List Field->Bool
 |_,[]=>true
 |j,fd::l=>(!(fd.name== "_"))&&(Nat.beq fd.offset j&&((match P.underlying fd.type with|some (.int _)=>true |_=>false)&&aD5 P (j+1) l))
def eqB(P:Program)(t:TypeId):Bool:=
 match P.underlying t,P.info? t with
 |some (.struct fs),some i=>Nat.beq i.size fs.size&&(!P.stoodInHeld t&&(!P.eqGuardType P.depth t&&aD5 P 0 fs.toList))
 |_,_=>false
theorem Ju{P:Program}:∀{l:List Field}{n:Nat},aD5 P n l=true->∀(j:Nat)(fd:Field),l[j]?=some fd->fd.name≠ "_"/\fd.offset=n+j/\∃k,P.underlying fd.type=some (.int k)
 |[],_,_,j,fd,h=>by simp at h
 |f::l,n,h,j,fd,c=>by
  simp only[aD5,Bool.and_eq_true,Bool.not_eq_true']at h;cases j with
  |zero=>
   simp at c;subst c;refine⟨λe=>?_,Nat.eq_of_beq_eq_true h.2.1,?_⟩
   ·have:=h.1;rw[e]at this;simp at this
   ·have d:=h.2.2.1;split at d
    ·rename_i k r;exact⟨k,r⟩
    ·simp at d
  |succ j=>obtain⟨g,s,m⟩:=Ju h.2.2.2 j fd (by simpa using c);exact⟨g,by omega,m⟩
theorem x7{P:Program}{t:TypeId}(h:eqB P t=true):aGK P t:=by
 unfold eqB at h;split at h
 ·rename_i fs i g l;simp only[Bool.and_eq_true,Bool.not_eq_true']at h;obtain⟨c,d,e,f⟩:=h;refine⟨fs,i,g,l,Nat.eq_of_beq_eq_true c,d,e,λj fd m=>?_⟩;obtain⟨r,u,s⟩:=Ju f j fd (by simpa using m);exact⟨r,by omega,s⟩
 ·simp at h
def aGU:LT->TypeDesc->Bool
 |.str,.string=>true
 |.int k,.int c=>nK k c
 |_,_=>false
def aFP(P:Program)(t:TypeId)(c:MI):Bool:=
 (match P.underlying t with|some (.map k e)=>Nat.beq k c.key&&Nat.beq e c.el |_=>false)&&((match P.underlying c.key with|some d=>aGU c.kk d |_=>false)&&
  (match P.info? c.el with|some i=>(match i.zero with|some z=>Y9 c.ek z |none=>false) |none=>false))
theorem M1{P:Program}{t:TypeId}{c:MI}(h:aFP P t c=true):∃d,P.underlying t=some (.map c.key c.el)/\GB c.kk=some d/\P.underlying c.key=some d/\∃i,P.info? c.el=some i/\i.zero=some (fZ c.ek):=by
 simp only[aFP,Bool.and_eq_true]at h;obtain⟨f,g,j⟩:=h;have e1:P.underlying t=some (.map c.key c.el):=by
  split at f
  ·rename_i k e m;simp only[Bool.and_eq_true]at f;rw[m,Nat.eq_of_beq_eq_true f.1,Nat.eq_of_beq_eq_true f.2]
  ·simp at f
 have l:∃i,P.info? c.el=some i/\i.zero=some (fZ c.ek):=by
  split at j
  ·rename_i i r;split at j
   ·rename_i z u;exact⟨i,r,by rw[u,Ei j]⟩
   ·simp at j
  ·simp at j
 split at g
 ·rename_i d hd;refine⟨d,e1,?_,hd,l⟩;cases s:c.kk<;>rw[s]at g<;>cases d<;>simp[aGU]at g<;>simp[GB];exact(fF _ _).1 g
 ·simp at g
def aFQ(P:Program)(E:fM):Bool:=E.mt.allB (aFP P)&&(E.tt.allB (tiB P)&&(E.pt.allB (ptB P)&&allB (eqB P) E.eqt))
theorem M2{P:Program}{E:fM}(h:aFQ P E=true):gY P E:=by
 simp only[aFQ,Bool.and_eq_true]at h;obtain⟨g,j,l,m⟩:=h;refine⟨λt v ht=>M1 (BT.look_all g ht),λt ti ht=>x6 (BT.look_all j ht),λt e ht=>?_,λt ht=>x7 (jC m t (JY.1 ht))⟩;have:=BT.look_all l ht;simp only[ptB,Bool.and_eq_true]at this;obtain⟨d,c⟩:=this;constructor
 ·split at d
  ·rename_i u r;rw[r,Nat.eq_of_beq_eq_true d]
  ·simp at d
 ·split at c
  ·rename_i i s;simp only[Bool.and_eq_true]at c;refine⟨i,s,Nat.eq_of_beq_eq_true c.1,?_⟩;have f:=c.2;split at f
   ·assumption
   ·simp at f
  ·simp at c
abbrev mA:=BT (Func×fR)
abbrev aD6:=Nat->Option (LD->Option (D×LD))
def Hb(E:fM):aD6:=λm=>bif Nat.beq m E.srt then some Di else none
def rN(E:fM)(B:mA)(X:aD6)(k:Nat):Nat->tU
 |0=>λm xs=>match X m with
  |some f=>f xs
  |none=>none
 |n+1=>λm xs=>match X m with
  |some f=>f xs
  |none=>match B.look m,E.sg.look m with
   |some b,some s=>match b.1.body with
    |some c=>bif b.2.fork then Wy E (rN E B X k n) k b.1 c s b.2 xs else Ov E (rN E B X k n) k b.1 c s b.2 xs
    |none=>none
   |_,_=>none
def fnB(E:fM)(m:Nat)(b:Func×fR):Bool:=
 match b.1.body,E.sg.look m with
 |some c,some s=>lI E b.2 b.1.ntmps c&&(Nat.ble b.1.ntmps 500&&(Nat.ble s.ps.length b.1.ntmps&&Nat.ble s.ps.length 100))
 |_,_=>true
def aGV(P:Program)(E:fM)(B:mA)(X:aD6):Prop:=
 (∀m s,E.sg.look m=some s->∃f,P.funcs[s.fn]?=some f/\f.name≠ "runtime.NumGoroutine"/\f.body.isNone=false)/\
 ∀m s b,X m=none->E.sg.look m=some s->B.look m=some b->P.funcs[s.fn]?=some b.1
theorem aFR{P:Program}{E:fM}{B:mA}{X:aD6}{k:Nat}(H:gY P E)(Q:P.follows .mixedOrders=true)(J:aGV P E B X)(U:B.allB (fnB E)=true)
  (W:∀ctx:tU,(∀m s,E.sg.look m=some s->iY s.ps=true->NM P E ctx m s)->(∀m s e el f,E.sg.look m=some s->mP s.ps=some (e,el,f)->s.rs=[]/\Jo P ctx m s e el f)->jY P E ctx)
  (K:∀m s f,X m=some f->E.sg.look m=some s->iY s.ps=true->∀ctx:tU,(∀xs,ctx m xs=f xs)->NM P E ctx m s)
  (V:∀m s e el f,E.sg.look m=some s->mP s.ps=some (e,el,f)->s.rs=[]/\∃F,X m=some F/\∀ctx:tU,(∀xs,ctx m xs=F xs)->Jo P ctx m s e el f):∀n m s,E.sg.look m=some s->iY s.ps=true->NM P E (rN E B X k n) m s:=by
 intro n;induction n with
 |zero=>
  intro m s d l;cases hx:X m with
  |some f=>exact K m s f hx d l _ (λxs=>by simp only[rN,hx])
  |none=>intro xs r t;simp[rN,hx]at t
 |succ n a1=>
  intro m s d l;cases hx:X m with
  |some f=>exact K m s f hx d l _ (λxs=>by simp only[rN,hx])
  |none=>
   cases g:B.look m with
   |none=>intro xs r t;simp[rN,hx,g]at t
   |some b=>
    cases j:b.1.body with
    |none=>intro xs r t;simp[rN,hx,g,d,j]at t
    |some c=>
     have T:=BT.look_all U g;simp only[fnB,j,d,Bool.and_eq_true]at T;obtain⟨u,v,y,C⟩:=T;have G:jY P E (rN E B X k n):=W _ a1 λm' a2 e el f Y a0=>by obtain⟨u,F,v,y⟩:=V m' a2 e el f Y a0;exact⟨u,y _ λxs=>by cases n<;>simp only[rN,v]⟩
     cases L:b.2.fork with
     |true=>refine L9 (k:=k) (h:=b.2) H G Q (λxs=>?_) (J.2 m s b hx d g) j u (Nat.le_of_ble_eq_true v) (Nat.le_of_ble_eq_true y) (Nat.le_of_ble_eq_true C) l;simp only[rN,hx,g,d,j,L,cond_true]
     |false=>refine L8 (k:=k) (h:=b.2) H G Q (λxs=>?_) (J.2 m s b hx d g) j u (Nat.le_of_ble_eq_true v) (Nat.le_of_ble_eq_true y) (Nat.le_of_ble_eq_true C) l;simp only[rN,hx,g,d,j,L,cond_false]
noncomputable def Gh.top(w:World):Gh:={own:=λb=>if b<w.heap.size then .fz else .out,H:=λ_ _=>.slice none 0 0,B:=λ_=>(0,0)}
theorem dI.top{w:World}{st:St}{sl:Nat->Option Value}(c:st.bx=[])(d:st.ar=[])(e:∀t v,sl t=some v->dO w (Gh.top w) st (st.sl.get t) v):dI w (Gh.top w) st sl:=
 ⟨e,λb x h=>by rw[c]at h;simp[look]at h,λb b' x f h=>by rw[c]at h;simp[look]at h,λr a h=>by rw[d]at h;simp[look]at h,λb c=>by
  simp only[Gh.top]at c;split at c
  ·assumption
  ·exact absurd rfl c,λ_ _=>⟨Option.none,0,0,rfl⟩⟩
theorem Fr.below{w w':World}{G':Gh}(h:Fr w (Gh.top w) w' G'):Go.RowKit.Below w.heap.size w w':=
 ⟨h.os,h.tape,h.output,h.size,λk c=>(h.block k c (.inr (by simp[Gh.top,c]))).1⟩
def FW{α:Type}(Q:Nat->α->Prop):BT α->Prop
 |.nil=>True
 |.node k v l r=>Q k v/\FW Q l/\FW Q r
theorem FW.look{α:Type}{Q:Nat->α->Prop}:∀{t:BT α}{n:Nat}{v:α},FW Q t->t.look n=some v->Q n v
 |.nil,n,v,_,h=>by simp[BT.look]at h
 |.node k x l r,n,v,⟨e,f,g⟩,h=>by
  simp only[BT.look]at h;cases c:Nat.beq n k with
  |true=>rw[c]at h;simp at h;subst h;rw[Nat.eq_of_beq_eq_true c];exact e
  |false=>
   rw[c]at h;simp only[cond_false]at h;cases d:Nat.ble n k with
   |true=>rw[d]at h;exact FW.look f h
   |false=>rw[d]at h;exact FW.look g h
def sgB(E:fM)(m:Nat)(s:FY):Bool:=Nat.beq s.fn m&&(match mP s.ps with
 |none=>!(Nat.beq m E.srt)
 |some _=>Nat.beq m E.srt&&s.rs.isEmpty)
def TR(P:Program)(E:fM):Prop:=∀s e el f,E.sg.look E.srt=some s->mP s.ps=some (e,el,f)->∀ctx:tU,(∀xs,ctx E.srt xs=Di xs)->Jo P ctx E.srt s e el f
def aGW(P:Program)(m:Nat)(_:FY):Prop:=∃f,P.funcs[m]?=some f/\f.name≠ "runtime.NumGoroutine"/\f.body.isNone=false
def aGX(P:Program)(m:Nat)(b:Func×fR):Prop:=P.funcs[m]?=some b.1
theorem x8(E:fM)(k:Nat)(T:BT lJ):∀n,lI (yM E k T n)=lI E
 |0=>by kernel_rfl
 |n+1=>by kernel_rfl
theorem aFS(E:fM)(k:Nat)(T:BT lJ):∀n,fnB (yM E k T n)=fnB E
 |0=>by kernel_rfl
 |n+1=>by kernel_rfl
theorem M3{P:Program}{E:fM}(k:Nat)(T:BT lJ)(c:gY P E):∀n,gY P (yM E k T n)
 |0=>⟨c.maps,c.types,c.ptrs,c.eqs⟩
 |n+1=>⟨c.maps,c.types,c.ptrs,c.eqs⟩
theorem Z3{P:Program}{E:fM}{k:Nat}{T:BT lJ}{ctx:tU}{m:Nat}{s:FY}(n:Nat):NM P (yM E k T n) ctx m s<->NM P E ctx m s:=by unfold NM;rw[Jt]
def M4(P:Program)(_:Nat)(s:lJ):Prop:=P.funcs[s.fn]?=some s.f/\s.f.name≠ "runtime.NumGoroutine"/\s.f.body=some s.c
def aCr(E:fM)(_:Nat)(s:lJ):Bool:=lI E s.h s.f.ntmps s.c&&(Nat.ble s.f.ntmps 500&&Nat.ble s.np s.f.ntmps)
theorem aCs{P:Program}{E:fM}{B:mA}{T:BT lJ}{k:Nat}(C:gY P E)(G:P.follows .mixedOrders=true)(Q:B.allB (fnB E)=true)(a0:E.sg.allB (sgB E)=true)(a1:TR P E)(L:FW (aGW P) E.sg)(l:FW (aGX P) B)(U:T.allB (aCr E)=true)(V:FW (M4 P) T)(N:Nat):
  ∀n m s,E.sg.look m=some s->iY s.ps=true->NM P (yM E k T N) (rN (yM E k T N) B (Hb E) k n) m s:=by
 have r:∀m s,E.sg.look m=some s->s.fn=m/\((mP s.ps=none/\Nat.beq m E.srt=false)\/(∃q,mP s.ps=some q)/\m=E.srt/\s.rs=[]):=λm s h=>by
  have:=BT.look_all a0 h;simp only[sgB,Bool.and_eq_true]at this;refine⟨Nat.eq_of_beq_eq_true this.1,?_⟩;cases d:mP s.ps with
  |none=>rw[d]at this;left;exact⟨rfl,by simpa using this.2⟩
  |some q=>rw[d]at this;simp only[Bool.and_eq_true]at this;right;exact⟨⟨q,rfl⟩,Nat.eq_of_beq_eq_true this.2.1,by simpa using this.2.2⟩
 have F:∀m s,E.sg.look m=some s->∃f,P.funcs[s.fn]?=some f/\f.name≠ "runtime.NumGoroutine"/\f.body.isNone=false:=λm s h=>by rw[(r m s h).1];exact FW.look L h
 have Y:∀ctx:tU,(∀m s,(yM E k T N).sg.look m=some s->iY s.ps=true->NM P (yM E k T N) ctx m s)->(∀m s e el f,(yM E k T N).sg.look m=some s->mP s.ps=some (e,el,f)->s.rs=[]/\Jo P ctx m s e el f)->jY P (yM E k T N) ctx:=by
  intro ctx hf H;rw[GI]at hf H;have K:jY P (yM E k T 0) ctx:=by refine aCl (M3 k T C 0) (by rw[GI];exact F) (λm s t j=>?_) (by rw[GI];exact H) (λq g u=>by simp[yM]at u);rw[GI]at t;exact(Z3 0).2 ((Z3 N).1 (hf m s t j))
  refine aFc G (M3 k T C) K (λn q s u=>?_) N;have c:=BT.look_all U u;obtain⟨v,y,J⟩:=FW.look V u;simp only[aCr,Bool.and_eq_true]at c;exact⟨v,y,J,by rw[x8];exact c.1,Nat.le_of_ble_eq_true c.2.1,Nat.le_of_ble_eq_true c.2.2⟩
 intro n m s t j;refine aFR (M3 k T C N) G ⟨?_,λm s b _ h c=>?_⟩ (by rw[aFS];exact Q) Y (λm s f h l j=>?_) (λm s e el f h d=>?_) n m s (by rw[GI];exact t) j
 ·rw[GI];exact F
 ·rw[GI]at h;rw[(r m s h).1];exact FW.look l c
 ·rw[GI]at l;rcases(r m s l).2 with⟨_,g⟩ |⟨⟨q,g⟩,_,_⟩
  ·simp[Hb,g]at h
  ·have:iY s.ps=false:=by
    unfold mP at g;split at g
    ·rename_i e;rw[e];rfl
    ·cases g
   rw[this]at j;cases j
 ·rw[GI]at h;rcases(r m s h).2 with⟨g,_⟩ |⟨_,v,y⟩
  ·rw[g]at d;cases d
  ·subst v;refine⟨y,Di,by simp[Hb],λctx W=>?_⟩;exact a1 s e el f h d ctx W
theorem x9{P:Program}{E:fM}{ctx:tU}{m:Nat}{s:FY}(r:NM P E ctx m s)(G:s.rs=[.val false [.bool]]){xs:LD}{q:Bool}(F:ctx m xs=some (.b q,[])){w:World}{vs:List Value}(y:vs.length=s.ps.length)
  (H:∀vL,fE E 0 s.ps xs Ji=some vL->vL.bx=[]/\vL.ar=[]/\∀t v,vs[t]?=some v->dO w (Gh.top w) vL (vL.sl.get t) v):
  Calls P s.fn ⟨vs⟩ w (λe w'=>e=.returned (.bool q)/\Go.RowKit.Below w.heap.size w w'):=by
 obtain⟨vL,j,l⟩:=r xs _ F;obtain⟨f,g,h⟩:=H vL j;refine(l w (Gh.top w) vs y (dI.top f g h)).mono λe w' u=>?_;obtain⟨v,G',rfl,hf,C⟩:=u;refine⟨?_,hf.below⟩;obtain⟨ds,T,b1,U,b2,o1,_⟩:=C.ex;rw[G]at o1;obtain⟨_,us,os,c,J,_⟩:=o1;simp only[Bool.false_eq_true,if_false]at c;subst c;obtain⟨v0,W,n,V,e1,K,d,L⟩:=J;injection e1 with e1 Q;subst e1;have:v=.bool q:=d.2;rw[this]
mutual
inductive IX(σ τ:Type) where
 |ret (x:D) (bs:LD)
 |again (s:σ)
 |out (t:τ)
 |bad
 |ask (b:Bool) (t f:IX σ τ)
 |call (m:Nat) (xs:LD) (nb:Nat) (k:D->LD->IX σ τ)
 |loop (b:Nat) (s:σ) (ks:Ts σ τ)
inductive Ts(σ τ:Type) where
 |nil
 |cons (k:LD->IX σ τ) (ks:Ts σ τ)
end
abbrev X:=IX St (Ex×St)
abbrev Sh:=IX (LD) (Nat×LD)
def uD{α:Type}(x:M α)(k:α->X):X:=
 match x with
 |some a=>k a
 |none=>.bad
def RF:LD->D
 |[]=>.i 0
 |x::_=>x
def Ga:LD->Bool
 |[]=>true
 |_::_=>false
def gD(l:LD)(i:Nat):D:=l.getD i (.i 0)
def Jv(l:LD):Nat->Nat->LD
 |_,0=>[]
 |i,n+1=>gD l i::Jv l (i+1) n
def Pq:List (TypeId×PM)->Nat
 |[]=>0
 |(_,.io _)::l=>Pq l+1
 |(_,.sio _)::l=>Pq l+1
 |(_,.clo _ _)::l=>Pq l+1
 |_::l=>Pq l
def NS(rs:List RM)(dep:List (Nat×Nat))(d:Nat)(x:D)(st:St):M St:=
 match rs with
 |[]=>ok (st.put d (.tup []))
 |[m]=>(DN dep d 0 x m st).bind λq=>ok (q.1.put d q.2)
 |ms=>(JG dep d x 0 ms st).bind λq=>ok (q.1.put d (.tup q.2))
def aCt(s:FY)(st:St)(d:Nat)(as:List A)(u:List Nat×List Nat×List (Nat×Nat)×LD)(r:D×LD):M St:=
 (kZ s.ps as r.2 (kC s.ps as (lF u.2.1 st))).bind λst=>NS s.rs u.2.2.1 d r.1 st
section
variable(E:fM)(h:fR)
def aD7(nn:Bool)(x:D)(k:D->X):X:=.ask (Ga x.els) (bif nn then .bad else k (.l [])) (k (.l [RF x.els]))
def M5(nn:Bool)(x:D):Nat->List RM->(LD->X)->X
 |_,[],k=>k []
 |c,.ptr _::d,k=>aD7 nn (x.fld c) λe=>M5 nn x (c+1) d λl=>k (e::l)
 |c,.val _ _::d,k=>M5 nn x (c+1) d λl=>k (x.fld c::l)
def aGY(nn:Bool)(rs:List RM)(x:D)(k:D->X):X:=
 match rs with
 |[]=>k x
 |[.ptr _]=>aD7 nn x k
 |[.val _ _]=>k x
 |ms=>M5 nn x 0 ms λl=>k (.l l)
def Z4(st:St)(d n:Nat)(s:FY)(as:List A)(k:St->X):X:=
 match mP s.ps with
 |some (e,el,f)=>uD (Gt st e el f as) λq=>.call n [.l q.2.data,.l []] 1 λx bs=>uD (Gs st d q.1 q.2 (x,Jv bs 0 1)) k
 |none=>uD (sP E st as s.ps as) λu=>
  bif iY s.ps&&(nodup u.1&&(apart u.1 u.2.2.1&&PO s u.2.2.1))then
   .call n u.2.2.2 (Pq s.ps) λx bs=>aGY (has h.nn d) s.rs x λc=>uD (aCt s st d as u (c,Jv bs 0 (Pq s.ps))) k
  else .bad
def Tt(agg:Bool)(lv:List LT)(ds:List (Nat×Nat))(r:D×LD):M uX:=
 match r.2 with
 |[]=>rv (FX agg lv.length (JA ds lv.length r.1 0 lv))
 |_::_=>aG "guarded call: gives back"
def Tu(R:Bool)(m:Nat)(agg:Bool)(lv:List LT)(ds:List (Nat×Nat))(xs:LD)(k:uX->X):X:=
 .ask R (.call m xs 0 λx _=>uD (Tt agg lv ds (x,[])) k) (uD (Tt agg lv ds (.i 0,[])) k)
def Tv(st:St)(R:Bool)(d m:Nat)(s:FY)(as:List A)(agg:Bool)(k:uX->X):List LT->X
 |[.bool]=>bif agg then .bad else .ask R (Z4 E h st d m s as λs=>k (.st s)) (k (.val (.bool false)))
 |_=>.bad
def Aq(st:St)(R:Bool)(d m:Nat)(as:List A)(s:FY)(k:uX->X):X:=
 match s.rs with
 |[.val agg lv]=>uD (sP E st as s.ps as) λu=>
  match u.1 with
  |[]=>bif iY s.ps&&(!rK u.2.2.1||sC lv)then Tu R m agg lv u.2.2.1 u.2.2.2 k else .bad
  |_::_=>Tv E h st R d m s as agg k lv
 |_=>.bad
def Tw(R gd:Bool)(st:St)(d:Nat)(c:Array Operand)(k:uX->X):A->X
 |.fn n caps=>uD (E.sg.look (MK h d n)) λs=>bif Nat.beq s.fn n then
   (bif gd then Aq E h st R d (MK h d n) (F5 st.sl c.toList++caps) s k else Z4 E h st d (MK h d n) s (F5 st.sl c.toList++caps) λs=>k (.st s))
   else .bad
 |_=>.bad
def noC:tU:=λ_ _=>none
def Tx(st:St)(d:Nat)(data:LD):St:=
 match look st.ar d with
 |some b=>{st with ar:=qD st.ar d {b with data:=data++b.data}}
 |none=>st
def Ar(st:St)(d:Nat)(e:TypeId)(c:TI)(el:List LT)(data:LD)(ns:aDH)(k:St->X):X:=
 match ns with
 |.flat ys=>.ask (jN (data.length+ys.length) c.bytes) (bif Nat.beq el.length c.lv.length then k (st.newArr d e el (data++ys))else .bad) .bad
 |.cells n l=>.ask (jN (data.length+n) c.bytes) (bif Nat.beq el.length c.lv.length then uD (appElems d el.length n l (st.newArr d e el [])) λs=>k (Tx s d data)else .bad) .bad
def Ty(st:St)(d:Nat)(c:TI)(e:TypeId)(g:Option (List LT))(x f:A)(k:St->X):X:=
 match x with
 |.nils=>uD (LO st (aDI st g c.lv f) f) λns=>Ar st d e c (aDI st g c.lv f) [] ns λs=>k (s.view d)
 |.vw r u p=>uD (dQ st r u p) λq=>uD (LO st q.2.2.1 f) λns=>uD (LP st d r p) λs1=>Ar s1 d q.2.1 c q.2.2.1 q.2.2.2 ns λs=>k (s.view d)
 |.px r u n=>uD (dQ st r u []) λq=>.ask (Nat.ble n q.2.2.2.length) (uD (LO st q.2.2.1 f) λns=>uD (LP st d r []) λs1=>Ar s1 d q.2.1 c q.2.2.1 (q.2.2.2.take n) ns λs=>k (s.view d)) .bad
 |_=>.bad
def As(st:St)(d:Nat)(t:TypeId)(l:List Operand)(k:St->X):X:=
 match l with
 |[x,e]=>uD (sD E t) λti=>uD (sD E ti.e) λc=>bif ti.sl then Ty st d c ti.e (look h.el d) (eR st.sl x) (eR st.sl e) k else .bad
 |_=>.bad
def Tz(st:St)(r u:Nat)(p:List (Nat×Nat))(i j:Nat)(x:A)(k:St->X):X:=
 uD (jL st r u p) λa=>match a.stale with
  |[]=>uD (wrLeaf st r u p i j x) k
  |_::_=>bif !LN p.length a.stale then .bad else uD (mT a.e a.el a.data p) λq=>
   match q.2.1[j]?,x with
   |some (.sl true _ _),.nils=>.ask (fill (p++[(i,j)]) a.stale) (k (setRow st r a p i j q.2.1.length (.l []) true)) .bad
   |some (.sl true e el),.vw c d []=>bif Nat.beq c r then .bad else uD (jL st c d []) λb=>
     bif Nat.beq b.e e&&vK el b.el then
      match b.stale with
      |[]=>.ask (fill (p++[(i,j)]) a.stale) (k (setRow (st.gone c) r a p i j q.2.1.length (.l b.data) true)) .bad
      |_::_=>.bad
     else .bad
   |_,_=>uD (wrLeaf st r u p i j x) k
def QH(r:Nat)(p:List (Nat×Nat))(i:Nat)(k:St->X):St->Nat->Nat->List A->X
 |st,_,_,[]=>k st
 |st,u,j,a::l=>Tz st r u p i j a λst=>QH r p i k st (jA st r p) (j+1) l
def M6(st:St)(p v:A)(k:St->X):X:=
 match p with
 |.pa r u p _ i off=>QH r p i k st u off (fY v)
 |p=>uD (ZJ st p v) k
def Jw(st:St)(n:Nat)(p v:A)(k:St->X):X:=
 bif jT st (fY v)&&Nat.beq (fY v).length n then(bif jM st p then M6 st p v k else .bad)else .bad
def M7(st:St)(ti:Option TI)(x:A)(n:Int):Bool:=
 match x with
 |.fz _ _ _ xs=>aA n xs.length
 |.vw r u p=>match Wg st r u p with
  |some q=>aA n q.2.2.length
  |none=>false
 |.sx _ _ _ m _=>aA n m
 |_=>match ti with
  |some ti=>aA n ti.fs.length
  |none=>false
def Yz(op:BinOp)(c:A):Option Bool:=
 match op,c with
 |.quo,.int _ b=>some (!aD b 0)
 |.rem,.int _ b=>some (!aD b 0)
 |.shl,.int _ b=>some (cX 0 b)
 |.shr,.int _ b=>some (cX 0 b)
 |_,_=>none
def Pr(st:St):Op->Option Bool
 |.indexAddr t x i=>match eR st.sl i with
  |.int _ n=>some (M7 st (sD E t) (eR st.sl x) n)
  |_=>none
 |.index _ x i=>match eR st.sl x,eR st.sl i with
  |.str s,.int _ n=>some (aA n s.length)
  |_,_=>none
 |.binOp op _ _ c _=>Yz op (eR st.sl c)
 |_=>none
def Ua(R gd:Bool)(st:St)(d:Nat)(o:Op)(k:uX->X):X:=
 match Pr E st o with
 |none=>uD (rL E h noC R gd st d o) k
 |some c=>.ask (!R||c) (uD (rL E h noC false gd st d o) k) .bad
def Za(d c:Option Int)(n:Nat):Bool:=kT (d.getD 0) (c.getD (n:Int)) (n:Int)
def Ub(R gd:Bool)(st:St)(d:Nat)(ti:TI)(l c:Option Int)(x:A)(k:uX->X):X:=
 match x with
 |.vw r u p=>bif ti.sl then
   (bif has h.pfx d then(match p,l,c with
     |[],none,some n=>uD (dQ st r u []) λq=>.ask (!R||(cX 0 n&&cX n (q.2.2.2.length:Int))) (uD (rv (Ri false st ti.ek r u p l c)) k) .bad
     |[],some n,none=>uD (dQ st r u []) λq=>.ask (!R||(cX 0 n&&cX n (q.2.2.2.length:Int))) (uD (rv (Ri false st ti.ek r u p l c)) k) .bad
     |_,_,_=>.bad)
    else bif has h.snap d then uD (dQ st r u p) λq=>.ask (!R||Za l c q.2.2.2.length) (uD (rv (U8 false st ti.ek r u p l c)) k) .bad
    else bif gd then .bad else uD (dQ st r u p) λq=>.ask (Za l c q.2.2.2.length) (bif Nat.beq ti.ek q.2.2.1.length then
     uD (LP st d r p) λs1=>k (.st ((s1.newArr d q.2.1 q.2.2.1 ((q.2.2.2.take (c.getD (q.2.2.2.length:Int)).toNat).drop (l.getD 0).toNat)).view d))else .bad) .bad)
   else .bad
 |.fz _ _ _ xs=>.ask (!R||Za l c xs.length) (uD (rv (MD false ti x l c)) k) .bad
 |.str s=>.ask (!R||Za l c s.length) (uD (rv (MD false ti x l c)) k) .bad
 |.nils=>uD (rv (MD R ti x l c)) k
 |_=>.bad
def M8(R gd:Bool)(st:St)(d:Nat)(t:TypeId)(x:A)(f e:Option A)(k:uX->X):X:=
 bif jM st x then uD (sD E t) λti=>uD (ME f) λl=>uD (ME e) λc=>Ub h R gd st d ti l c x k else .bad
def aFT(R gd:Bool)(st:St)(d:Nat)(o:Op)(op:BinOp)(t:TypeId)(x c:A)(k:uX->X):X:=
 match x,c with
 |.fz dep e el xs,.nils=>bif jM st x then .ask (Ga xs) .bad (uD (rv (F7 E R t op (.fz dep e el (RF xs::xs.tail)) .nils)) k)else .bad
 |_,_=>Ua E h R gd st d o k
def aCu(gd:Bool)(st:St)(d:Nat)(t:TypeId)(a b:A)(k:uX->X):X:=
 bif gd then .bad else
 match a,b with
 |.int .i64 n,.int .i64 m=>uD (sD E t) λti=>uD (sD E ti.e) λc=>
  bif ti.sl&&vK (fC false (MJ h d c)) c.lv then
   .ask (cX 0 n&&(aD n m&&jN n.toNat c.bytes)) (k (.st ((st.newArr d ti.e (MJ h d c) (List.replicate n.toNat (zS (fW c.lv)))).view d))) .bad
  else .bad
 |_,_=>.bad
def Uc(st:St)(d:Nat)(t e:TypeId)(l:List Operand)(k:St->X):X:=
 match l with
 |[x,g]=>match eR st.sl x,eR st.sl g with
  |.nils,.int .i64 n=>uD (sD E t) λti=>uD (sD E ti.e) λc=>uD (sD E e) λf=>
   bif ti.sl&&(aBs f&&(VN c.lv&&Nat.ble 1 c.lv.length))then
    .ask (aT 0 n&&jN n.toNat c.bytes) (k ((st.newArr d ti.e c.lv (List.replicate n.toNat (zS (fW c.lv)))).view d)) .bad
   else .bad
  |_,_=>.bad
 |_=>.bad
def Z5(R gd:Bool)(st:St)(d:Nat)(o:Op)(k:uX->X):X:=
 match o with
 |.call c=>match c.callee with
  |.value f=>Tw E h R gd st d c.args k (eR st.sl f)
  |.builtin .append=>bif gd then .bad else(match c.argTypes.toList with
   |[t,e]=>bif Nat.beq t e then As E h st d t c.args.toList λs=>k (.st s)else Uc E st d t e c.args.toList λs=>k (.st s)
   |_=>.bad)
  |_=>uD (rL E h noC R gd st d o) k
 |.makeSlice t n m=>aCu E h gd st d t (eR st.sl n) (eR st.sl m) k
 |.store t p x=>bif gd then .bad else uD (Ry E t) λn=>Jw st n (eR st.sl p) (eR st.sl x) λs=>k (.st (s.put d .undef))
 |.slice t x j g none=>M8 E h R gd st d t (eR st.sl x) (j.map (eR st.sl)) (g.map (eR st.sl)) k
 |.binOp op t x l _=>aFT E h R gd st d o op t (eR st.sl x) (eR st.sl l) k
 |o=>Ua E h R gd st d o k
def KE(i:Nat)(o:Oper)(s:RS)(R gd:Bool)(G:List (Nat×Bool))(k:RS->X):X:=
 match o.dst with
 |some d=>Z5 E h R gd s.st (HN h.nb+d) o.op λr=>uD (VQ s i d (HN h.nb+d) R G r) k
 |none=>bif gd then .bad else Z5 E h R gd s.st (HN h.nb+4000) o.op λr=>uD (Rz s r) k
end
abbrev InX:=Nat->St->(A×St->X)->X
section
variable(E:fM)(h:fR)(Tb:BT lJ)(it:InX)
def aCv(s:RS)(i d:Nat)(q:InH)(np:Nat)(as:List A)(k:RS->X):X:=
 bif aBy s.sg q&&(Nat.beq as.length np&&Nat.ble np 500)then
  it q.site (Hv s.st q as) λr=>k (s.note i d true [] ((DR r.2 q).put d r.1) r.1)
 else .bad
def Jx(i:Nat)(o:Oper)(s:RS)(d:Nat)(q:InH)(k:RS->X):X:=
 match o.op with
 |.call c=>match c.callee with
  |.value f=>match eR s.st.sl f with
   |.fn n caps=>uD (Tb.look q.site) λg=>bif Nat.beq g.fn n then aCv it s i d q g.np (F5 s.st.sl c.args.toList++caps) k else .bad
   |_=>.bad
  |_=>.bad
 |_=>.bad
def XQ(i:Nat)(o:Oper)(s:RS)(R gd:Bool)(G:List (Nat×Bool))(k:RS->X):X:=
 match LR h o with
 |some q=>bif gd then .bad else Jx Tb it i o s q.1 q.2 λs=>bif DK (Dd E s) q.2.ck then k s else .bad
 |none=>match ckP h i o with
  |[]=>KE E h i o s R gd G k
  |c::l=>bif gd then .bad else KE E h i o s R gd G λs=>.ask (DK (Dd E s) (c::l)) (k s) .bad
def Z6(i:Nat)(o:Oper)(s:RS)(j:Nat)(c:Bool)(g:Bool×Bool×List (Nat×Bool))(k:RS->X):X:=
 bif Wm (Wo s o) ((j,c)::g.2.2)then XQ E h Tb it i o s (g.1&&FS g.2.1 c) true ((j,c)::g.2.2) k else .bad
def Ud(i:Nat)(o:Oper)(s:RS)(k:RS->X):X:=
 match o.guard with
 |none=>bif Wm (Wo s o) []then XQ E h Tb it i o s true false [] k else .bad
 |some p=>uD (look s.ge p.1) λg=>Z6 E h Tb it i o s p.1 p.2 g k
def XR(k:RS->X):List (Nat×Oper)->RS->X
 |[],s=>k s
 |p::l,s=>Ud E h Tb it p.1 p.2 s λs=>XR k l s
def aD8(ops:List (Nat×Oper))(st:St)(k:Ex×St->X):X:=
 XR E h Tb it (λs=>k (.norm,tX s.sg s.st)) ops {st:=st,ge:=[],sg:=[],by_:=[]}
def Z7(id:Nat)(ops:Array Oper)(st:St)(r:Ex×St)(k:Ex×St->X):List (List Nat)->X
 |[]=>k r
 |o::os=>aD8 E h Tb it (ML ops.toList o) st λq=>uD (Hz h id q) λq=>.ask (V4 r q) (Z7 id ops st r k os) .bad
def aCw(id:Nat)(ops:Array Oper)(st:St)(r:Ex×St)(k:Ex×St->X):X:=
 match De h id with
 |none=>k r
 |some q=>Z7 E h Tb it id ops st r k q.2
def aFd(st:St)(x c:X):A->X
 |.bool t=>.ask t x c
 |_=>.bad
def Ps(k:Ex×St->X):List (LD->Ex×St)->Ts St (Ex×St)
 |[]=>.nil
 |t::ts=>.cons (λds=>k (t ds)) (Ps k ts)
def aFe(k:Ex×St->X)(c:St->X)(r:Ex×St):X:=
 match r.1 with
 |.norm=>c r.2
 |_=>k r
def HE(lb:Nat)(T:Nat->List (LD->Ex×St)):Nat->Code->St->(Ex×St->X)->X
 |_,.skip,st,k=>k (.norm,st)
 |_,.region id ops _,st,k=>aD8 E h Tb it (CL h id ops) st λr=>uD (Hz h id r) λr=>aCw E h Tb it id ops st r k
 |b,.seq x d,st,k=>HE lb T b x st (aFe k λs=>HE lb T b d s k)
 |b,.cond c x d,st,k=>aFd st (HE lb T b x st k) (HE lb T b d st k) (eR st.sl c)
 |_,.block id x,st,k=>HE lb T id x st λr=>uD (Ww id r) k
 |b,.loop _,st,k=>uD (HP (look h.heads b) st) λs=>.loop (lb+b) s (Ps k (T (lb+b)))
 |_,.exit id,st,k=>k (.exit id,st)
 |_,.ret,st,k=>k (.ret,st)
 |_,.label _,st,k=>k (.norm,st)
 |b,.scope x,st,k=>HE lb T b x st k
 |_,_,_,_=>.bad
def At(lb:Nat)(T:Nat->List (LD->Ex×St))(b:Nat)(x:Code)(s:St):X:=
 HE E h Tb it lb T b x s λr=>match r.1 with
  |.norm=>uD (HP (look h.heads b) r.2) .again
  |_=>uD (G6 (look h.ends b) r) .out
def Ue(f:Func)(s:FY)(r:Ex×St):M (D×LD):=
 match r.1 with
 |.exit _=>aG "exit out of the body"
 |_=>(kM E r.2 f.results.toList).bind λvs=>(nL r.2 s.rs vs).bind λu=>(GA r.2 0 s.ps).bind λv=>
    bif nodup (u.os++v.os)&&apart (u.os++v.os) (u.ds++v.ds)then
     ok ((match u.x with|[x]=>x |xs=>.l xs),v.x)
    else aG "result: shared"
def Pt(T:Nat->List (LD->Ex×St))(f:Func)(c:Code)(s:FY)(ds:LD):X:=
 uD (fE E 0 s.ps ds {sl:=.nil,bx:=[],ar:=[],ctr:=1}) λst=>HE E h Tb it 0 T 0 c st λr=>uD (Ue E f s r) λq=>.ret q.1 q.2
end
def itN(E:fM)(Tb:BT lJ)(T:Nat->List (LD->Ex×St)):Nat->InX
 |0=>λ_ _ _=>.bad
 |n+1=>λq st k=>
  match Tb.look q with
  |some s=>HE E s.h Tb (itN E Tb T n) (1000*(q+1)) T 0 s.c st λr=>
   match r.1 with
   |.exit _=>.bad
   |_=>uD (kM E r.2 s.f.results.toList) λvs=>k (Nt vs,r.2)
  |none=>.bad
def dN:Nat->Code->List (Nat×Code)
 |b,.seq x c=>dN b x++dN b c
 |b,.cond _ x c=>dN b x++dN b c
 |_,.block id x=>dN id x
 |b,.loop x=>(b,x)::dN b x
 |b,.scope x=>dN b x
 |_,_=>[]
mutual
def IX.map{c e d h:Type}(f:Nat->c->d)(b0:Nat)(g:e->h):IX c e->IX d h
 |.ret x bs=>.ret x bs
 |.again s=>.again (f b0 s)
 |.out t=>.out (g t)
 |.bad=>.bad
 |.ask b p q=>.ask b (p.map f b0 g) (q.map f b0 g)
 |.call m xs nb k=>.call m xs nb λx bs=>(k x bs).map f b0 g
 |.loop b s ks=>.loop b (f b s) (ks.map f b0 g)
def Ts.map{c e d h:Type}(f:Nat->c->d)(b0:Nat)(g:e->h):Ts c e->Ts d h
 |.nil=>.nil
 |.cons k ks=>.cons (λds=>(k ds).map f b0 g) (ks.map f b0 g)
end
abbrev aCx:=List (Nat×(LD->St))
abbrev z7:=List (Nat×List (LD->Ex×St))
structure Fn where
 np:Nat
 bs:List Nat
 main:LD->Sh
 lps:List (Nat×(LD->Sh))
def gI(l:LD)(i:Nat):Int:=(gD l i).toI
def gB(l:LD)(i:Nat):Bool:=(gD l i).toB
def gS(l:LD)(i:Nat):List UInt8:=(gD l i).toS
def gL(l:LD)(i:Nat):LD:=(gD l i).els
def gN(l:LD)(i:Nat):Nat:=(gD l i).toI.toNat
def jD(s:List UInt8)(k:Int):Int:=((s.getD k.toNat 0).toNat:Int)
def aII(k:IntKind)(a b:Int):Int:=k.wrap (a*2^(min b.toNat k.bits))
def aIJ(k:IntKind)(a b:Int):Int:=a.fdiv (2^(min b.toNat k.bits))
def aIK(k:IntKind)(n:Int):Int:=HM .xor k (bif k.signed then-1 else k.max) n
abbrev t0(l r:Tr):Tr:=.node .undef l r
abbrev t1(a:A):Tr:=.node a .nil .nil
abbrev t2(a:A)(l r:Tr):Tr:=.node a l r
def vL:St:={sl:=.nil,bx:=[],ar:=[],ctr:=0}
def Uf(S:aCx)(b:Nat)(ps:LD):St:=
 match look S b with
 |some g=>g ps
 |none=>vL
def tOf(T:z7)(b:Nat):List (LD->Ex×St):=
 match look T b with
 |some l=>l
 |none=>[]
def Z8:List (Nat×Code)->Nat->Code
 |[],_=>.skip
 |(m,c)::l,b=>bif Nat.beq m b then c else Z8 l b
def uE(b:Nat)(c:Code):Code:=Z8 (dN 0 c) b
def cd(f:Func):Code:=match f.body with|some c=>c |none=>.skip
def Ug(t:BT FY)(n:Nat):FY:=match t.look n with|some s=>s |none=>{fn:=0,ps:=[],rs:=[]}
def noT(_:LD):Ex×St:=(.exit 0,{sl:=.nil,bx:=[],ar:=[],ctr:=0})
def Pu(T:z7)(b:Nat)(q:Nat×LD):Ex×St:=((tOf T b).getD q.1 noT) q.2
def Sh.up(S:aCx)(T:z7)(b0:Nat)(t:Sh):X:=t.map (Uf S) b0 (Pu T b0)
inductive Lf(σ τ:Type) where
 |ret (x:D) (bs:LD)
 |again (s:σ)
 |out (t:τ)
section
variable{σ τ:Type}(C:Nat->LD->D->LD->Prop)(L:Nat->σ->Nat->LD->Prop)
mutual
def Ev:IX σ τ->Lf σ τ->Prop
 |.ret x bs,lf=>lf=.ret x bs
 |.again s,lf=>lf=.again s
 |.out t,lf=>lf=.out t
 |.bad,_=>False
 |.ask b p q,lf=>(b=true/\Ev p lf)\/(b=false/\Ev q lf)
 |.call m xs nb k,lf=>∃x bs,C m xs x bs/\bs.length=nb/\Ev (k x bs) lf
 |.loop b s ks,lf=>∃i ds,L b s i ds/\Nl ks i ds lf
def Nl:Ts σ τ->Nat->LD->Lf σ τ->Prop
 |.nil,_,_,_=>False
 |.cons k _,0,ds,lf=>Ev (k ds) lf
 |.cons _ ks,i+1,ds,lf=>Nl ks i ds lf
end
end
section
variable{E:fM}{h:fR}{ctx:tU}{L:Nat->St->Nat->LD->Prop}{lf:Lf St (Ex×St)}
abbrev cR(ctx:tU):Nat->LD->D->LD->Prop:=λm xs x bs=>ctx m xs=some (x,bs)
theorem eF{α:Type}{x:M α}{k:α->X}(c:Ev (cR ctx) L (uD x k) lf):∃a,x=some a/\Ev (cR ctx) L (k a) lf:=by
 cases x with
 |none=>simp[uD,Ev]at c
 |some a=>exact⟨a,rfl,c⟩
theorem GJ{c:Bool}{p:X}(d:Ev (cR ctx) L (.ask c p .bad) lf):c=true/\Ev (cR ctx) L p lf:=by
 simp only[Ev]at d;rcases d with d |⟨_,d⟩
 ·exact d
 ·exact d.elim
theorem vC{c:Bool}{p:X}(d:Ev (cR ctx) L (bif c then p else .bad) lf):c=true/\Ev (cR ctx) L p lf:=by
 cases c with
 |true=>exact⟨rfl,d⟩
 |false=>simp[Ev]at d
theorem aHx(c:D)(l:LD)(i:Nat):gD (c::l) (i+1)=gD l i:=by simp[gD]
theorem Zb:∀(c l:LD),Jv (c++l) c.length l.length=l
 |c,[]=>rfl
 |c,d::l=>by
  simp only[List.length_cons,Jv];have f:gD (c++d::l) c.length=d:=by simp[gD]
  have e:=Zb (c++[d]) l;simp only[List.append_assoc,List.singleton_append,List.length_append,List.length_singleton]at e;rw[f,e]
theorem Au{l:LD}{n:Nat}(c:l.length=n):Jv l 0 n=l:=by subst c;exact Zb [] l
def Pv(m:RM)(e x:D):Prop:=∀dep d c st,DN dep d c e m st=DN dep d c x m st
theorem aCz{nn:Bool}{x:D}{k:D->X}{el:List LT}(g:Ev (cR ctx) L (aD7 nn x k) lf):∃h,Pv (.ptr el) h x/\Ev (cR ctx) L (k h) lf:=by
 simp only[aD7,Ev]at g;rcases g with⟨e,f⟩ |⟨e,f⟩
 ·cases nn with
  |true=>simp[Ev]at f
  |false=>
  refine⟨_,λdep d c st=>?_,f⟩;cases hx:x.els with
  |nil=>simp only[DN];rw[hx];rfl
  |cons z t=>rw[hx]at e;simp[Ga]at e
 ·refine⟨_,λdep d c st=>?_,f⟩;cases hx:x.els with
  |nil=>rw[hx]at e;simp[Ga]at e
  |cons z t=>simp only[DN];rw[hx];rfl
theorem Pv.refl(m:RM)(x:D):Pv m x x:=λ_ _ _ _=>rfl
theorem M9{nn:Bool}{x:D}:∀(f:List RM)(c:Nat){k:LD->X},Ev (cR ctx) L (M5 nn x c f k) lf->∃l,(∀j m,f[j]?=some m->Pv m (l.getD j (.i 0)) (x.fld (c+j)))/\Ev (cR ctx) L (k l) lf
 |[],c,k,e=>⟨[],λj m d=>by simp at d,e⟩
 |.val a lv::f,c,k,e=>by
  simp only[M5]at e;obtain⟨l,g,h⟩:=M9 f (c+1) e;refine⟨_,λj m d=>?_,h⟩;cases j with
  |zero=>simp at d;subst d;exact Pv.refl _ _
  |succ j=>simp at d;have:=g j m d;simpa[Nat.add_assoc,Nat.add_comm 1 j]using this
 |.ptr el::f,c,k,e=>by
  simp only[M5]at e;obtain⟨s,r,e⟩:=aCz (el:=el) e;obtain⟨l,g,h⟩:=M9 f (c+1) e;refine⟨_,λj m d=>?_,h⟩;cases j with
  |zero=>simp at d;subst d;exact r
  |succ j=>simp at d;have:=g j m d;simpa[Nat.add_assoc,Nat.add_comm 1 j]using this
theorem Ek{dep:List (Nat×Nat)}{d:Nat}{z x:D}:∀(e:List RM)(c:Nat)(st:St),(∀j m,e[j]?=some m->Pv m (z.fld (c+j)) (x.fld (c+j)))->JG dep d z c e st=JG dep d x c e st
 |[],_,_,_=>rfl
 |m::e,c,st,g=>by simp only[JG];have f:=g 0 m rfl dep d c st;simp only[Nat.add_zero]at f;rw[f];congr 1;funext r;rw[Ek e (c+1) r.1 λj m' h=>by have:=g (j+1) m' h;simpa[Nat.add_assoc,Nat.add_comm 1 j]using this];try rfl
theorem aFU{nn:Bool}{rs:List RM}{x:D}{k:D->X}(c:Ev (cR ctx) L (aGY nn rs x k) lf):∃e,(∀dep d st,NS rs dep d e st=NS rs dep d x st)/\Ev (cR ctx) L (k e) lf:=by
 match rs,c with
 |[],c=>exact⟨x,λ_ _ _=>rfl,c⟩
 |[.ptr el],c=>obtain⟨e,f,g⟩:=aCz (el:=el) c;exact⟨e,λdep d st=>by simp only[NS];rw[f],g⟩
 |[.val a lv],c=>exact⟨x,λ_ _ _=>rfl,c⟩
 |m::m'::h,c=>
  have c:Ev (cR ctx) L (M5 nn x 0 (m::m'::h) λl=>k (.l l)) lf:=by cases m<;>exact c
  obtain⟨l,f,g⟩:=M9 _ _ c;refine⟨_,λdep d st=>?_,g⟩;simp only[NS];rw[Ek (z:=.l l) (x:=x) (m::m'::h) 0 st λj q r=>by simpa[D.fld,D.els]using f j q r]
theorem Z9{st:St}{d n:Nat}{s:FY}{as:List A}{k:St->X}(c:Ev (cR ctx) L (Z4 E h st d n s as k) lf):∃g,RO E ctx st d n s as=some g/\Ev (cR ctx) L (k g) lf:=by
 unfold Z4 at c;unfold RO;cases y:mP s.ps with
 |some q=>obtain⟨e,el,f⟩:=q;rw[y]at c;simp only at c⊢;obtain⟨q,j,c⟩:=eF c;simp only[Ev]at c;obtain⟨x,bs,l,m,c⟩:=c;rw[Au m]at c;obtain⟨g,r,c⟩:=eF c;exact⟨g,by simp[j,l,r,oR],c⟩
 |none=>rw[y]at c;simp only at c⊢;obtain⟨u,j,c⟩:=eF c;obtain⟨F,c⟩:=vC c;simp only[Ev]at c;obtain⟨x,bs,l,m,c⟩:=c;rw[Au m]at c;obtain⟨H,r,c⟩:=aFU c;obtain⟨g,t,c⟩:=eF c;refine⟨g,?_,c⟩;rw[j];simp only[Option.bind_some,F,cond_true,oR,l];simp only[aCt]at t;obtain⟨G,C,v⟩:=bind_some t;rw[C];simp only[Option.bind_some];rw[r]at v;exact v
theorem z8{R:Bool}{m:Nat}{agg:Bool}{lv:List LT}{ds:List (Nat×Nat)}{xs:LD}{k:uX->X}(c:Ev (cR ctx) L (Tu R m agg lv ds xs k) lf):∃r,ZN ctx R m agg lv ds xs=some r/\Ev (cR ctx) L (k r) lf:=by
 simp only[Tu,Ev]at c;unfold ZN;rcases c with⟨rfl,x,bs,e,f,c⟩ |⟨rfl,c⟩
 ·obtain⟨r,d,c⟩:=eF c;have:bs=[]:=List.length_eq_zero_iff.1 f;subst this;exact⟨r,by simpa[oR,e,Tt]using d,c⟩
 ·obtain⟨r,d,c⟩:=eF c;exact⟨r,by simpa[oR,Tt]using d,c⟩
theorem aAa{st:St}{R:Bool}{d m:Nat}{s:FY}{as:List A}{agg:Bool}{k:uX->X}{l:List LT}(c:Ev (cR ctx) L (Tv E h st R d m s as agg k l) lf):∃r,ZO E ctx st R d m s as agg l=some r/\Ev (cR ctx) L (k r) lf:=by
 unfold Tv at c;split at c
 ·cases agg with
  |true=>simp[Ev]at c
  |false=>
   simp only[cond_false,Ev]at c;rcases c with⟨rfl,c⟩ |⟨rfl,c⟩
   ·obtain⟨f,e,c⟩:=Z9 c;exact⟨_,by simp[ZO,e,rs,ok],c⟩
   ·exact⟨_,rfl,c⟩
 ·simp[Ev]at c
theorem Zc{st:St}{R:Bool}{d m:Nat}{as:List A}{s:FY}{k:uX->X}(c:Ev (cR ctx) L (Aq E h st R d m as s k) lf):∃r,HO E ctx st R d m as s=some r/\Ev (cR ctx) L (k r) lf:=by
 unfold Aq at c;split at c
 ·rename_i agg lv j;obtain⟨u,g,c⟩:=eF c;split at c
  ·rename_i f;obtain⟨l,c⟩:=vC c;obtain⟨r,e,c⟩:=z8 c;refine⟨r,?_,c⟩;unfold HO;simp only[j,g,Option.bind_some,f,l,cond_true];exact e
  ·rename_i v t f;obtain⟨r,e,c⟩:=aAa c;refine⟨r,?_,c⟩;unfold HO;simp only[j,g,Option.bind_some,f];exact e
 ·simp[Ev]at c
theorem aAb{R gd:Bool}{st:St}{d:Nat}{e:Array Operand}{k:uX->X}{a:A}(c:Ev (cR ctx) L (Tw E h R gd st d e k a) lf):∃r,SS E h ctx R gd st d e a=some r/\Ev (cR ctx) L (k r) lf:=by
 unfold Tw at c;split at c
 ·rename_i n caps;obtain⟨s,f,c⟩:=eF c;obtain⟨g,c⟩:=vC c;unfold SS;simp only[f,oR,Option.bind_some,g,cond_true];cases gd with
  |true=>simp only[cond_true]at c⊢;exact Zc c
  |false=>simp only[cond_false]at c⊢;obtain⟨l,j,c⟩:=Z9 c;exact⟨_,by simp[j,rs,ok],c⟩
 ·simp[Ev]at c
end
theorem aAc{α:Type}{c:Bool}{x:M α}{s:String}{d:α}(h:(bif c then aG s else x)=some d):c=false/\x=some d:=by
 cases c with
 |true=>simp[aG]at h
 |false=>exact⟨rfl,h⟩
structure mB(d:Nat)(data0:LD)(s t:St):Prop where
 ex:∃a l,s.ar=(d,a)::l/\look l d=none/\a.stale=[]/\t={s with ar:=(d,{a with data:=data0++a.data})::l}
theorem Jy{α:Type}{d:Nat}:∀{l:List (Nat×α)},look l d=none->oH l d=l
 |[],_=>rfl
 |(m,a)::l,h=>by
  simp only[look]at h;cases c:Nat.beq m d with
  |true=>rw[c]at h;simp at h
  |false=>rw[c]at h;simp only[oH,c,cond_false];rw[Jy (by simpa using h)]
theorem EL{α:Type}{d q:Nat}:∀{l:List (Nat×α)},look l d=none->look (oH l q) d=none
 |[],_=>rfl
 |(m,a)::l,h=>by
  simp only[look]at h;cases c:Nat.beq m d with
  |true=>rw[c]at h;simp at h
  |false=>
   rw[c]at h;simp only[oH];cases e:Nat.beq m q with
   |true=>exact EL (by simpa using h)
   |false=>simp only[cond_false,look,c];exact EL (by simpa using h)
theorem EM{α:Type}(d:Nat):∀(l:List (Nat×α)),look (oH l d) d=none
 |[]=>rfl
 |(m,a)::l=>by
  simp only[oH];cases c:Nat.beq m d with
  |true=>exact EM d l
  |false=>simp only[cond_false,look,c];exact EM d l
theorem GK{α:Type}(d:Nat)(a:α)(l:List (Nat×α)):look ((d,a)::l) d=some a:=by simp[look,qE]
theorem a8{α:Type}{d q:Nat}(a:α)(l:List (Nat×α))(h:q≠d):look ((d,a)::l) q=look l q:=by simp[look,qL (Ne.symm h)]
theorem XS{α:Type}{d:Nat}(a b:α){l:List (Nat×α)}(h:look l d=none):qD ((d,a)::l) d b=(d,b)::l:=by simp[qD,oH,qE,Jy h]
theorem N0(data0 l:LD)(i:Nat)(z:D):(data0++l).getD (data0.length+i) z=l.getD i z:=by simp[List.getD_eq_getElem?_getD,List.getElem?_append_right]
theorem aAd(data0 l:LD)(i:Nat)(z:D):(data0++l).set (data0.length+i) z=data0++l.set i z:=by rw[List.set_append_right _ _ (by omega)];simp
theorem mB.new{d:Nat}{data0:LD}{s:St}{e:TypeId}{el:List LT}{data:LD}:mB d data0 (s.newArr d e el data) (s.newArr d e el (data0++data)):=
 ⟨⟨_,oH s.ar d,rfl,EM d _,rfl,rfl⟩⟩
theorem mB.newBoth{d:Nat}{data0:LD}{s t:St}(h:mB d data0 s t){e:TypeId}{el:List LT}{data:LD}:mB d data0 (s.newArr d e el data) (t.newArr d e el (data0++data)):=by
 obtain⟨a,l,f,c,g,rfl⟩:=h.ex;refine⟨⟨{e:=e,el:=el,data:=data,uid:=s.ctr,hv:=ZI s.ctr,dv:=s.ctr},l,?_,c,?_,?_⟩⟩
 ·simp only[St.newArr];rw[f,XS _ _ c]
 ·rfl
 ·simp only[St.newArr];rw[XS _ _ c]
theorem mB.arrOf_other{d:Nat}{data0:LD}{s t:St}(h:mB d data0 s t){q u:Nat}(f:Nat.beq q d=false)(p:List (Nat×Nat)):jL t q u p=jL s q u p:=by
 obtain⟨a,l,g,j,m,rfl⟩:=h.ex;have c:q≠d:=by intro e;subst e;rw[qE]at f;simp at f
 simp only[jL];rw[g,a8 _ _ c,a8 _ _ c]
theorem mB.gone{d:Nat}{data0:LD}{s t:St}(h:mB d data0 s t){q:Nat}(c:Nat.beq q d=false):mB d data0 (s.gone q) (t.gone q):=by
 obtain⟨a,l,f,g,m,rfl⟩:=h.ex;have e:Nat.beq d q=false:=by
  cases j:Nat.beq d q with
  |false=>rfl
  |true=>rw[Nat.eq_of_beq_eq_true j,qE]at c;simp at c
 refine⟨⟨a,oH l q,?_,EL g,m,?_⟩⟩
 ·simp only[St.gone];rw[f];simp[oH,e]
 ·simp only[St.gone];simp[oH,e]
theorem mB.setRow{d:Nat}{data0:LD}{s t:St}(h:mB d data0 s t){a:yN}(c:look s.ar d=some a)(i j k:Nat)(x:D)(hdr:Bool):
  mB d data0 (setRow s d a [] i j k x hdr) (setRow t d {a with data:=data0++a.data} [] (data0.length+i) j k x hdr):=by
 obtain⟨a',l,f,e,g,rfl⟩:=h.ex;rw[f,GK]at c;injection c with c;subst c;refine⟨⟨{a' with data:=oY a'.el a'.data [] (λdata=>data.set i (rY k (data.getD i (.i 0)) j x)),stale:=bif hdr then[]else a'.stale,dv:=s.ctr,hv:=bif hdr then yO s.ctr 0 a'.hv else a'.hv},l,?_,e,?_,?_⟩⟩
 ·simp only[Go.Eng.setRow];rw[f,XS _ _ e];rfl
 ·simp only[g];cases hdr<;>rfl
 ·simp only[Go.Eng.setRow];rw[XS _ _ e];simp only[oY,N0,aAd,List.length_nil]
theorem mB.gone_look{d:Nat}{s:St}{q:Nat}{a:yN}(f:look s.ar d=some a)(c:Nat.beq q d=false):look (s.gone q).ar d=some a:=by
 simp only[St.gone];rw[nM,if_neg]
 ·exact f
 ·intro e;subst e;rw[qE]at c;simp at c
theorem mB.wrLeaf{d u i j:Nat}{data0:LD}{s t:St}(h:mB d data0 s t){x:A}{y:St}(c:wrLeaf s d u [] i j x=some y):∃C,wrLeaf t d u [] (data0.length+i) j x=some C/\mB d data0 y C:=by
 obtain⟨a,l,F,T,m,G⟩:=h.ex;have e:look s.ar d=some a:=by rw[F,GK]
 have L:look t.ar d=some {a with data:=data0++a.data}:=by subst G;simp only[GK]
 unfold Go.Eng.wrLeaf at c⊢;simp only[jL,e,L,jP]at c⊢;cases v:(Nat.ble (List.length ([]:List (Nat×Nat))) 4&&Nat.beq a.uid u)with
 |false=>rw[v]at c;simp[aG]at c
 |true=>
 rw[v]at c;simp only[cond_true,ok,Option.bind_some]at c⊢;obtain⟨P,c⟩:=(show(LN 0 a.stale=true)/\_ from by
  cases K:LN 0 a.stale with
  |false=>simp only[List.length_nil,K,Bool.not_false,cond_true,aG]at c;simp at c
  |true=>exact⟨rfl,c⟩)
 simp only[List.length_nil,P,Bool.not_true,cond_false,mT,oR,Option.bind_some]at c⊢;generalize a.el[j]?=ol at c⊢;split at c
 ·obtain⟨g,c⟩:=aW c;simp only[Option.some.injEq]at c;subst c;exact⟨_,by simp only[g,cond_true],h.setRow e _ _ _ _ _⟩
 ·simp only[Option.some.injEq]at c;subst c;exact⟨_,rfl,h.setRow e _ _ _ _ _⟩
 ·simp only[Option.some.injEq]at c;subst c;exact⟨_,rfl,h.setRow e _ _ _ _ _⟩
 ·obtain⟨g,c⟩:=aW c;simp only[Option.some.injEq]at c;subst c;exact⟨_,by simp only[g,cond_true],h.setRow e _ _ _ _ _⟩
 ·simp only[Option.some.injEq]at c;subst c;exact⟨_,rfl,h.setRow e _ _ _ _ _⟩
 ·rw[m]at c⊢;simp only[Cy,fill,Bool.not_true,Bool.false_or,cond_true,ok,Option.some.injEq]at c⊢;subst c;exact⟨_,rfl,h.setRow e _ _ _ _ _⟩
 ·obtain⟨f,c⟩:=aAc c;obtain⟨b,H,c⟩:=bind_some c;obtain⟨Q,c⟩:=aW c;rw[m]at c⊢;have r:=λu=>h.arrOf_other (u:=u) f [];simp only[jL,jP,ok,List.length_nil]at r;split at c
  ·rename_i J;simp only[Cy,fill,Bool.not_true,Bool.false_or,cond_true,ok,Option.some.injEq]at c;subst c;refine⟨_,?_,(h.gone f).setRow (mB.gone_look e f) _ _ _ _ _⟩;simp only[f,cond_false];rw[r,H];simp only[Option.bind_some,Q,cond_true,J,Cy,fill,Bool.not_true,Bool.false_or,ok];rw[m]
  ·simp[aG]at c
 ·simp[aG]at c
theorem mB.wrLeaves{d i:Nat}{data0:LD}:∀(l:List A){j u:Nat}{s t e:St},mB d data0 s t->wrLeaves s d u [] i j l=some e->∃f,wrLeaves t d u [] (data0.length+i) j l=some f/\mB d data0 e f
 |[],j,u,s,t,e,h,c=>by simp only[Go.Eng.wrLeaves,ok,Option.some.injEq]at c;subst c;exact⟨t,rfl,h⟩
 |x::l,j,u,s,t,e,h,c=>by
  simp only[Go.Eng.wrLeaves]at c⊢;obtain⟨s1,r,v⟩:=bind_some c;obtain⟨t1,y,g⟩:=h.wrLeaf r;have G:jA t1 d []=jA s1 d []:=by obtain⟨a,l,m,H,_,rfl⟩:=g.ex;simp only[jA];rw[m,GK,GK];rfl
  obtain⟨f,C,F⟩:=mB.wrLeaves l g v;exact⟨f,by rw[y];simp only[Option.bind_some];rw[G];exact C,F⟩
theorem mB.appElems{d k:Nat}{data0:LD}:∀(n:Nat)(l:List A){s t f:St},mB d data0 s t->appElems d k n l s=some f->∃g,appElems d k n l t=some g/\mB d data0 f g
 |0,l,s,t,f,h,c=>by simp only[Go.Eng.appElems,ok,Option.some.injEq]at c;subst c;exact⟨t,rfl,h⟩
 |n+1,l,s,t,f,h,c=>by
  obtain⟨a,P,m,L,r,j⟩:=h.ex;have J:look s.ar d=some a:=by rw[m,GK]
  have K:look t.ar d=some {a with data:=data0++a.data}:=by subst j;simp only[GK]
  have H:t.ctr=s.ctr:=by subst j;rfl
  simp only[Go.Eng.appElems,J,K,oR,Option.bind_some,r]at c⊢;obtain⟨s1,u,v⟩:=bind_some c;obtain⟨t1,y,C⟩:=mB.wrLeaves _ (h.newBoth (e:=a.e) (el:=a.el) (data:=a.data++[zS (fW a.el)])) u;obtain⟨g,F,G⟩:=mB.appElems n _ C v;refine⟨g,?_,G⟩;rw[List.append_assoc,List.length_append,H,y];exact F
theorem mB.patch{d:Nat}{data0:LD}{s t:St}(h:mB d data0 s t):t=Tx s d data0:=by obtain⟨a,l,c,e,g,f⟩:=h.ex;subst f;simp only[Tx];rw[c,GK];simp only;rw[XS _ _ e]
theorem Jz{d k n:Nat}{l:List A}{e:TypeId}{el:List LT}{data:LD}{st s:St}(h:appElems d k n l (st.newArr d e el [])=some s):appElems d k n l (st.newArr d e el data)=some (Tx s d data):=by obtain⟨t,c,f⟩:=mB.appElems n l (mB.new (data0:=data) (data:=[]) (d:=d) (s:=st) (e:=e) (el:=el)) h;rw[List.append_nil]at c;rw[c,f.patch]
section
variable{E:fM}{h:fR}{ctx:tU}{L:Nat->St->Nat->LD->Prop}{lf:Lf St (Ex×St)}
theorem Ka{st:St}{d:Nat}{e:TypeId}{h:TI}{el:List LT}{data:LD}{ns:aDH}{k:St->X}(c:Ev (cR ctx) L (Ar st d e h el data ns k) lf):∃s,yP st d e h el data ns=some s/\Ev (cR ctx) L (k s) lf:=by
 cases ns with
 |flat ys=>simp only[Ar]at c;obtain⟨f,c⟩:=GJ c;obtain⟨g,c⟩:=vC c;exact⟨_,by simp[yP,f,g,ok],c⟩
 |cells n l=>simp only[Ar]at c;obtain⟨f,c⟩:=GJ c;obtain⟨g,c⟩:=vC c;obtain⟨s,j,c⟩:=eF c;exact⟨_,by simp[yP,f,g,Jz j],c⟩
theorem aAe{st:St}{d:Nat}{m:TI}{e:TypeId}{l:Option (List LT)}{x r:A}{k:St->X}(c:Ev (cR ctx) L (Ty st d m e l x r k) lf):∃s,JC st d m e l x r=some s/\Ev (cR ctx) L (k s) lf:=by
 unfold Ty at c;split at c
 ·obtain⟨ns,f,c⟩:=eF c;obtain⟨s,g,c⟩:=Ka c;exact⟨_,by simp[JC,f,g,ok],c⟩
 ·obtain⟨q,h,c⟩:=eF c;obtain⟨ns,f,c⟩:=eF c;obtain⟨s1,g,c⟩:=eF c;obtain⟨s,j,c⟩:=Ka c;exact⟨_,by simp[JC,h,f,g,j,ok],c⟩
 ·obtain⟨q,h,c⟩:=eF c;obtain⟨t,c⟩:=GJ c;obtain⟨ns,f,c⟩:=eF c;obtain⟨s1,g,c⟩:=eF c;obtain⟨s,j,c⟩:=Ka c;exact⟨_,by simp only[JC,h,Option.bind_some,t,cond_true,f,g,j];rfl,c⟩
 ·simp[Ev]at c
theorem Zd{st:St}{d:Nat}{t:TypeId}{l:List Operand}{k:St->X}(c:Ev (cR ctx) L (As E h st d t l k) lf):∃s,VM E h st d t l=some s/\Ev (cR ctx) L (k s) lf:=by
 unfold As at c;split at c
 ·obtain⟨ti,e,c⟩:=eF c;obtain⟨m,f,c⟩:=eF c;obtain⟨g,c⟩:=vC c;obtain⟨s,j,c⟩:=aAe c;exact⟨s,by simp[VM,tyE,e,f,g,j],c⟩
 ·simp[Ev]at c
theorem aAf{st:St}{r u:Nat}{p:List (Nat×Nat)}{i j:Nat}{x:A}{k:St->X}(c:Ev (cR ctx) L (Tz st r u p i j x k) lf):∃s,wrLeaf st r u p i j x=some s/\Ev (cR ctx) L (k s) lf:=by
 unfold Tz at c;obtain⟨a,h,c⟩:=eF c;split at c
 ·exact eF c
 ·rename_i F t C;cases d:LN p.length a.stale with
  |false=>rw[d]at c;simp[Ev]at c
  |true=>
   rw[d]at c;simp only[Bool.not_true,cond_false]at c;obtain⟨q,l,c⟩:=eF c;split at c
   ·rename_i f _ _;obtain⟨e,c⟩:=GJ c;refine⟨_,?_,c⟩;unfold wrLeaf;simp only[h,Option.bind_some,d,Bool.not_true,cond_false,l,oR,f,e,Cy,Bool.false_or,cond_true,ok]
   ·rename_i f _ _;cases g:Nat.beq _ r with
    |true=>rw[g]at c;simp[Ev]at c
    |false=>
     rw[g]at c;simp only[cond_false]at c;obtain⟨b,m,c⟩:=eF c;obtain⟨v,c⟩:=vC c;split at c
     ·rename_i y;obtain⟨e,c⟩:=GJ c;refine⟨_,?_,c⟩;unfold wrLeaf;simp only[h,Option.bind_some,d,Bool.not_true,cond_false,l,oR,f,g,m,v,y,e,Cy,Bool.false_or,cond_true,ok]
     ·simp[Ev]at c
   ·exact eF c
theorem El{r:Nat}{p:List (Nat×Nat)}{i:Nat}{k:St->X}:∀(l:List A){st:St}{u j:Nat},Ev (cR ctx) L (QH r p i k st u j l) lf->∃s,wrLeaves st r u p i j l=some s/\Ev (cR ctx) L (k s) lf
 |[],st,u,j,c=>⟨st,rfl,c⟩
 |a::l,st,u,j,c=>by simp only[QH]at c;obtain⟨s1,d,c⟩:=aAf c;obtain⟨s,e,c⟩:=El l c;exact⟨s,by simp only[wrLeaves,d,Option.bind_some];exact e,c⟩
theorem aCA{st:St}{p v:A}{k:St->X}(c:Ev (cR ctx) L (M6 st p v k) lf):∃s,ZJ st p v=some s/\Ev (cR ctx) L (k s) lf:=by
 unfold M6 at c;split at c
 ·exact El _ c
 ·exact eF c
theorem N2{st:St}{n:Nat}{p v:A}{k:St->X}(c:Ev (cR ctx) L (Jw st n p v k) lf):∃s,VO st n p v=some s/\Ev (cR ctx) L (k s) lf:=by unfold Jw at c;obtain⟨d,c⟩:=vC c;obtain⟨e,c⟩:=vC c;obtain⟨s,f,c⟩:=aCA c;exact⟨s,by simp only[VO,d,cond_true,mO,e];exact f,c⟩
end
section
variable{E:fM}{h:fR}{ctx:tU}{L:Nat->St->Nat->LD->Prop}{lf:Lf St (Ex×St)}
theorem Ze(R gd:Bool)(st:St)(d:Nat)(o:Op)(e:∀c f,o=.call c->c.callee≠.value f):rL E h noC R gd st d o=rL E h ctx R gd st d o:=by
 cases o;case call c=>
  simp only[rL];unfold DP;split
  ·rename_i f hf;exact absurd hf (e c f rfl)
  ·rfl
  ·rfl
 case slice t x lo hi mx=>cases mx<;>rfl
 case makeMap t q=>cases q<;>rfl
 all_goals rfl
theorem zE{α:Type}{R c:Bool}{x d:α}(e:(!R||c)=true)(hx:Cy false c x=some d):Cy R c x=some d:=by simp only[Cy,Bool.not_false,Bool.true_or,cond_true]at hx;simp only[Cy,e,cond_true,hx]
theorem Nu{R:Bool}{k:Int}{x:A}{ti:TI}{d:A}(h:(!R||aA k ti.fs.length)=true)(hx:DO E false k x ti=some d):DO E R k x ti=some d:=by
 unfold DO at hx⊢;split at hx
 ·rename_i o j l m;obtain⟨r,e,f⟩:=bind_some hx;obtain⟨c,g⟩:=aW f;rw[e];simp only[Bool.not_false,Bool.true_or,Bool.and_true]at c;simp only[Option.bind_some,c,h,Bool.and_true,cond_true];exact g
 ·simp[aG]at hx
theorem Gb{R:Bool}{st:St}{k:Int}{x:A}{ti:TI}{g:A}(d:(!R||M7 st (some ti) x k)=true)(hx:vR E false st k x ti=some g):vR E R st k x ti=some g:=by
 unfold vR at hx⊢;split at hx
 ·obtain⟨c,e⟩:=aW hx;simp only[M7]at d;simp only[c,cond_true];exact zE d e
 ·obtain⟨q,c,e⟩:=bind_some hx;obtain⟨f,h⟩:=aW e;simp only[M7,c]at d;rw[c];simp only[Option.bind_some,f,cond_true];exact zE d h
 ·obtain⟨c,e⟩:=aW hx;simp only[M7]at d;simp only[c,cond_true];exact zE d e
 ·rename_i c e f;have:M7 st (some ti) x k=aA k ti.fs.length:=by
   unfold M7;split
   ·exact(c _ _ _ _ rfl).elim
   ·exact(e _ _ _ rfl).elim
   ·exact(f _ _ _ _ _ rfl).elim
   ·rfl
  rw[this]at d;exact Nu d hx
theorem Kb{α:Type}{st:St}{x:A}{f:A->M α}{c:α}(hx:mO st x f=some c):jM st x=true/\f x=some c:=aW hx
theorem aD9{R:Bool}{op:BinOp}{k h:IntKind}{a b:Int}{c:Bool}{j:A}(d:Yz op (.int h b)=some c)(e:(!R||c)=true)(hx:Rp false op k h a b=some j):Rp R op k h a b=some j:=by
 cases op;case quo=>
  simp only[Yz,Option.some.injEq]at d;subst d;simp only[Rp,Om]at hx⊢;obtain⟨f,g⟩:=aW hx;simp only[f,cond_true];exact zE e g
 case rem=>
  simp only[Yz,Option.some.injEq]at d;subst d;simp only[Rp,Om]at hx⊢;obtain⟨f,g⟩:=aW hx;simp only[f,cond_true];exact zE e g
 case shl=>
  simp only[Yz,Option.some.injEq]at d;subst d;simp only[Rp]at hx⊢;exact zE e hx
 case shr=>
  simp only[Yz,Option.some.injEq]at d;subst d;simp only[Rp]at hx⊢;exact zE e hx
 all_goals simp[Yz]at d
theorem aEa{R:Bool}{t:TypeId}{op:BinOp}{x d:A}{c:Bool}{z:A}(f:Yz op d=some c)(e:(!R||c)=true)(hx:F7 E false t op x d=some z):F7 E R t op x d=some z:=by
 unfold F7 at hx⊢;split at hx
 ·exact aD9 f e hx
 ·exact hx
theorem aEb{R gd:Bool}{st:St}{d:Nat}{o:Op}{c:Bool}{r:uX}(e:Pr E st o=some c)(u:(!R||c)=true)(hx:rL E h noC false gd st d o=some r):rL E h ctx R gd st d o=some r:=by
 cases o;case indexAddr t x i=>
  simp only[Pr]at e;simp only[rL]at hx⊢;unfold rv at hx⊢;obtain⟨a,j,l⟩:=bind_some hx;obtain⟨C,m⟩:=Kb j;split at e
  ·rename_i k n v;simp only[Option.some.injEq]at e;subst e;simp only[v,AG]at m;obtain⟨ti,g,f⟩:=bind_some m;rw[g]at u;have:=Gb u f;simp only[mO,C,cond_true,v,AG,g,Option.bind_some,this];exact l
  ·simp at e
 case index t x i=>
  simp only[Pr]at e;simp only[rL]at hx⊢;unfold rv at hx⊢;obtain⟨a,j,l⟩:=bind_some hx;obtain⟨ti,g,f⟩:=bind_some j;split at e
  ·rename_i s k n H v;simp only[Option.some.injEq]at e;subst e;rw[H,v]at f⊢;simp only[VK]at f;obtain⟨F,G⟩:=aW f;have:=zE u G;rw[g];simp only[Option.bind_some,VK,F,cond_true,this];exact l
  ·simp at e
 case binOp op t x y cc=>
  simp only[Pr]at e;simp only[rL]at hx⊢;unfold rv at hx⊢;obtain⟨a,j,l⟩:=bind_some hx;obtain⟨C,m⟩:=Kb j;obtain⟨g,f⟩:=Kb m;have:=aEa (R:=R) e u f;simp only[mO,C,g,cond_true,this];exact l
 all_goals simp[Pr]at e
theorem Zf{R gd:Bool}{st:St}{d:Nat}{o:Op}{k:uX->X}(m:∀c f,o=.call c->c.callee≠.value f)(e:Ev (cR ctx) L (Ua E h R gd st d o k) lf):∃r,rL E h ctx R gd st d o=some r/\Ev (cR ctx) L (k r) lf:=by
 unfold Ua at e;split at e
 ·obtain⟨r,g,e⟩:=eF e;rw[Ze (ctx:=ctx) R gd st d o m]at g;exact⟨r,g,e⟩
 ·rename_i c l;obtain⟨j,e⟩:=GJ e;obtain⟨r,g,e⟩:=eF e;exact⟨r,aEb l j g,e⟩
theorem aAg{R gd:Bool}{st:St}{d:Nat}{ti:TI}{l y:Option Int}{x:A}{k:uX->X}(c:Ev (cR ctx) L (Ub h R gd st d ti l y x k) lf):∃r,AH h R gd st d ti l y x=some r/\Ev (cR ctx) L (k r) lf:=by
 unfold Ub at c;split at c
 ·rename_i r u p;obtain⟨G,c⟩:=vC c;simp only[AH,G,cond_true];cases C:has h.pfx d with
  |true=>
   rw[C]at c;simp only[cond_true]at c⊢;split at c
   ·obtain⟨q,v,c⟩:=eF c;obtain⟨g,c⟩:=GJ c;obtain⟨m,e,c⟩:=eF c;refine⟨m,?_,c⟩;unfold rv at e⊢;obtain⟨a,f,s⟩:=bind_some e;have:∀n,Ri R st ti.ek r u [] none (some n)=Ri R st ti.ek r u [] none (some n):=λ_=>rfl;simp only[Ri,v,Option.bind_some]at f⊢;obtain⟨t,j⟩:=aW f;simp only[t,cond_true];rw[zE g j];exact s
   ·obtain⟨q,v,c⟩:=eF c;obtain⟨g,c⟩:=GJ c;obtain⟨m,e,c⟩:=eF c;refine⟨m,?_,c⟩;unfold rv at e⊢;obtain⟨a,f,s⟩:=bind_some e;simp only[Ri,v,Option.bind_some]at f⊢;obtain⟨t,j⟩:=aW f;simp only[t,cond_true];rw[zE g j];exact s
   ·simp[Ev]at c
  |false=>
   rw[C]at c;simp only[cond_false]at c⊢;cases F:has h.snap d with
   |true=>rw[F]at c;simp only[cond_true]at c⊢;obtain⟨q,v,c⟩:=eF c;obtain⟨g,c⟩:=GJ c;simp only[Za]at g;obtain⟨m,e,c⟩:=eF c;refine⟨m,?_,c⟩;unfold rv at e⊢;obtain⟨a,f,s⟩:=bind_some e;simp only[U8,v,Option.bind_some]at f⊢;obtain⟨t,j⟩:=aW f;simp only[t,cond_true];unfold Hn at j⊢;rw[zE g j];exact s
   |false=>
    rw[F]at c;simp only[cond_false]at c⊢;cases gd with
    |true=>simp[Ev]at c
    |false=>simp only[cond_false]at c⊢;obtain⟨q,v,c⟩:=eF c;obtain⟨g,c⟩:=GJ c;obtain⟨e,c⟩:=vC c;obtain⟨s1,f,c⟩:=eF c;refine⟨_,?_,c⟩;simp only[Za]at g;simp only[rs,aFy,v,Option.bind_some,g,e,Bool.and_true,cond_true,f];rfl
 ·obtain⟨g,c⟩:=GJ c;simp only[Za]at g;obtain⟨m,e,c⟩:=eF c;refine⟨m,?_,c⟩;unfold rv at e;obtain⟨a,f,s⟩:=bind_some e;simp only[AH,rv];simp only[MD]at f⊢;obtain⟨t,j⟩:=aW f;simp only[t,cond_true];unfold Hn at j⊢;rw[zE g j];exact s
 ·obtain⟨g,c⟩:=GJ c;simp only[Za]at g;obtain⟨m,e,c⟩:=eF c;refine⟨m,?_,c⟩;unfold rv at e;obtain⟨a,f,s⟩:=bind_some e;simp only[AH,rv];simp only[MD]at f⊢;obtain⟨t,j⟩:=aW f;simp only[t,cond_true];rw[zE g j];exact s
 ·obtain⟨m,e,c⟩:=eF c;exact⟨m,by simp only[AH];exact e,c⟩
 ·simp[Ev]at c
theorem aCB{R gd:Bool}{st:St}{d:Nat}{t:TypeId}{x:A}{f e:Option A}{k:uX->X}(c:Ev (cR ctx) L (M8 E h R gd st d t x f e k) lf):∃r,VL E h R gd st d t x f e=some r/\Ev (cR ctx) L (k r) lf:=by unfold M8 at c;obtain⟨g,c⟩:=vC c;obtain⟨ti,j,c⟩:=eF c;obtain⟨l,m,c⟩:=eF c;obtain⟨v,s,c⟩:=eF c;obtain⟨r,u,c⟩:=aAg c;exact⟨r,by simp only[VL,mO,g,cond_true,j,m,s,Option.bind_some,u],c⟩
theorem aFV{R gd:Bool}{st:St}{d:Nat}{op:BinOp}{t:TypeId}{x j:Operand}{l:TypeId}{k:uX->X}(g:Ev (cR ctx) L (aFT E h R gd st d (.binOp op t x j l) op t (eR st.sl x) (eR st.sl j) k) lf):∃r,rL E h ctx R gd st d (.binOp op t x j l)=some r/\Ev (cR ctx) L (k r) lf:=by
 unfold aFT at g;split at g
 ·rename_i dep e el xs hx y;obtain⟨m,g⟩:=vC g;simp only[Ev]at g;rcases g with⟨_,g⟩ |⟨u,g⟩
  ·exact g.elim
  ·obtain⟨r,s,g⟩:=eF g;refine⟨r,?_,g⟩;cases xs with
   |nil=>simp[Ga]at u
   |cons z C=>simp only[RF,List.tail_cons]at s;simp only[rL,mO];rw[hx]at m;rw[hx,y,m];simp only[cond_true,jM];exact s
 ·exact Zf (λc f v=>by simp at v) g
theorem aEc{gd:Bool}{st:St}{d:Nat}{t:TypeId}{a b:A}{k:uX->X}(c:Ev (cR ctx) L (aCu E h gd st d t a b k) lf):∃r,tW gd (Rv E h st d t a b)=some r/\Ev (cR ctx) L (k r) lf:=by
 unfold aCu at c;cases gd with
 |true=>simp[Ev]at c
 |false=>
  simp only[cond_false]at c;split at c
  ·obtain⟨ti,g,c⟩:=eF c;obtain⟨l,j,c⟩:=eF c;obtain⟨f,c⟩:=vC c;obtain⟨e,c⟩:=GJ c;refine⟨_,?_,c⟩;simp only[Bool.and_eq_true]at f e;simp only[tW,cond_false,Rv,tyE,g,j,Option.bind_some,Ru,f.1,f.2,e.1,e.2.1,e.2.2,Bool.and_self,cond_true];rfl
  ·simp[Ev]at c
theorem aAh{st:St}{d:Nat}{t g:TypeId}{l:List Operand}{k:St->X}(c:Ev (cR ctx) L (Uc E st d t g l k) lf):∃s,PQ E st d t g l=some s/\Ev (cR ctx) L (k s) lf:=by
 unfold Uc at c;split at c
 ·rename_i x y;split at c
  ·rename_i n e1 h;obtain⟨ti,j,c⟩:=eF c;obtain⟨u,m,c⟩:=eF c;obtain⟨v,r,c⟩:=eF c;obtain⟨e,c⟩:=vC c;obtain⟨f,c⟩:=GJ c;refine⟨_,?_,c⟩;simp only[Bool.and_eq_true]at e f;simp only[PQ,tyE,j,m,r,Option.bind_some,e1,h,Rx,Rw,e.1,e.2.1,e.2.2.1,e.2.2.2,f.1,f.2,Bool.and_self,cond_true];rfl
  ·simp[Ev]at c
 ·simp[Ev]at c
theorem b8{R gd:Bool}{st:St}{d:Nat}{o:Op}{k:uX->X}(e:Ev (cR ctx) L (Z5 E h R gd st d o k) lf):∃r,rL E h ctx R gd st d o=some r/\Ev (cR ctx) L (k r) lf:=by
 unfold Z5 at e;split at e
 ·rename_i c;split at e
  ·rename_i f hf;obtain⟨r,g,e⟩:=aAb e;refine⟨r,?_,e⟩;simp only[rL,DP];rw[hf];exact g
  ·rename_i hf;cases gd with
   |true=>simp[Ev]at e
   |false=>
    simp only[cond_false]at e;split at e
    ·rename_i t y u;cases g:Nat.beq t y with
     |true=>rw[g]at e;simp only[cond_true]at e;obtain⟨s,j,e⟩:=Zd e;refine⟨_,?_,e⟩;simp only[rL,DP];rw[hf];simp only[jI,cond_false,u,g,cond_true,j,rs];rfl
     |false=>rw[g]at e;simp only[cond_false]at e;obtain⟨s,j,e⟩:=aAh e;refine⟨_,?_,e⟩;simp only[rL,DP];rw[hf];simp only[jI,cond_false,u,g,j,rs];rfl
    ·simp[Ev]at e
  ·rename_i hf _;obtain⟨r,g,e⟩:=eF e;rw[Ze (ctx:=ctx) R gd st d _ (λc' f l v=>by injection l with l;subst l;exact hf f v)]at g;exact⟨r,g,e⟩
 ·rename_i t n m;obtain⟨r,g,e⟩:=aEc e;exact⟨r,by simp only[rL];exact g,e⟩
 ·rename_i t p x;cases gd with
  |true=>simp[Ev]at e
  |false=>simp only[cond_false]at e;obtain⟨n,g,e⟩:=eF e;obtain⟨s,j,e⟩:=N2 e;exact⟨_,by simp only[rL,tW,cond_false,g,Option.bind_some,j,rs];rfl,e⟩
 ·obtain⟨r,g,e⟩:=aCB e;exact⟨r,by simp only[rL];exact g,e⟩
 ·exact aFV e
 ·rename_i g j C F G;exact Zf (λc f l=>(g c l).elim) e
theorem XT{i:Nat}{o:Oper}{s:RS}{R gd:Bool}{G:List (Nat×Bool)}{k:RS->X}(c:Ev (cR ctx) L (KE E h i o s R gd G k) lf):∃e,DF E h ctx i o s R gd G=some e/\Ev (cR ctx) L (k e) lf:=by
 unfold KE at c;unfold DF;split at c
 ·rename_i d hd;obtain⟨r,f,c⟩:=b8 c;obtain⟨e,g,c⟩:=eF c;exact⟨e,by simp only[hd,f,Option.bind_some,g],c⟩
 ·rename_i hd;cases gd with
  |true=>simp[Ev]at c
  |false=>simp only[cond_false]at c;obtain⟨r,f,c⟩:=b8 c;obtain⟨e,g,c⟩:=eF c;exact⟨e,by simp only[hd,cond_false,f,Option.bind_some,g],c⟩
variable{Tb:BT lJ}{it:InX}
def vZ(E:fM)(ctx:tU)(L:Nat->St->Nat->LD->Prop)(Tb:BT lJ)(it:InX):Prop:=
 ∀q s st kk lf,Tb.look q=some s->Ev (λm xs x bs=>ctx m xs=some (x,bs)) L (it q st kk) lf->∃g r,E.ic ctx q=some g/\g.fn=s.fn/\g.np=s.np/\g.run st=some r/\Ev (λm xs x bs=>ctx m xs=some (x,bs)) L (kk r) lf
theorem N3(t:vZ E ctx L Tb it){i:Nat}{o:Oper}{s:RS}{d:Nat}{q:InH}{k:RS->X}(e:Ev (cR ctx) L (Jx Tb it i o s d q k) lf):∃h,VR E ctx i o s d q=some h/\Ev (cR ctx) L (k h) lf:=by
 unfold Jx at e;unfold VR;split at e
 ·rename_i c v;split at e
  ·rename_i f hf;split at e
   ·rename_i n caps u;obtain⟨H,j,e⟩:=eF e;obtain⟨l,e⟩:=vC e;unfold aCv at e;obtain⟨m,e⟩:=vC e;obtain⟨g,r,y,C,F,G,e⟩:=t _ _ _ _ _ j e;refine⟨_,?_,e⟩;rw[v];simp only[hf,u,oR,y,Option.bind_some,C,l,cond_true,aBz,F,m,G];rfl
   ·simp[Ev]at e
  ·simp[Ev]at e
 ·simp[Ev]at e
theorem Kc(r:vZ E ctx L Tb it){i:Nat}{o:Oper}{s:RS}{R gd:Bool}{G:List (Nat×Bool)}{k:RS->X}(d:Ev (cR ctx) L (XQ E h Tb it i o s R gd G k) lf):∃e,CK E h ctx i o s R gd G=some e/\Ev (cR ctx) L (k e) lf:=by
 unfold XQ at d;unfold CK;cases m:LR h o with
 |none=>
  rw[m]at d;simp only at d⊢;cases j:ckP h i o with
  |nil=>rw[j]at d;exact XT d
  |cons c l=>
   rw[j]at d;simp only at d⊢;cases gd with
   |true=>simp[Ev]at d
   |false=>
    simp only[cond_false]at d⊢;obtain⟨e,f,d⟩:=XT d;simp only[Ev]at d;rcases d with⟨g,d⟩ |⟨_,d⟩
    ·exact⟨e,by simp only[f,Option.bind_some,ckS,g,cond_true,ok],d⟩
    ·exact d.elim
 |some q=>
  rw[m]at d;simp only at d⊢;cases gd with
  |true=>simp[Ev]at d
  |false=>simp only[cond_false]at d⊢;obtain⟨e,f,d⟩:=N3 r d;obtain⟨g,d⟩:=vC d;exact⟨e,by simp only[f,Option.bind_some,ckS,g,cond_true,ok],d⟩
theorem aAi(j:vZ E ctx L Tb it){i:Nat}{o:Oper}{s:RS}{k:RS->X}(c:Ev (cR ctx) L (Ud E h Tb it i o s k) lf):∃d,ST E h ctx i o s=some d/\Ev (cR ctx) L (k d) lf:=by
 unfold Ud at c;unfold ST;split at c
 ·rename_i hg;obtain⟨e,c⟩:=vC c;obtain⟨d,f,c⟩:=Kc j c;exact⟨d,by simp only[hg,e,cond_true,f],c⟩
 ·rename_i p hg;obtain⟨g,e,c⟩:=eF c;unfold Z6 at c;obtain⟨f,c⟩:=vC c;obtain⟨d,l,c⟩:=Kc j c;exact⟨d,by simp only[hg,e,oR,Option.bind_some,Sa,f,cond_true,l],c⟩
theorem Ke(d:vZ E ctx L Tb it){k:RS->X}:∀(l:List (Nat×Oper)){s:RS},Ev (cR ctx) L (XR E h Tb it k l s) lf->∃e,JH E h ctx l s=some e/\Ev (cR ctx) L (k e) lf
 |[],s,c=>⟨s,rfl,c⟩
 |p::l,s,c=>by simp only[XR]at c;obtain⟨s1,f,c⟩:=aAi d c;obtain⟨j,g,c⟩:=Ke d l c;exact⟨j,by simp only[JH,f,Option.bind_some,g],c⟩
theorem aCC(e:vZ E ctx L Tb it){ops:List (Nat×Oper)}{st:St}{k:Ex×St->X}(c:Ev (cR ctx) L (aD8 E h Tb it ops st k) lf):∃r,ZS E h ctx ops st=some r/\Ev (cR ctx) L (k r) lf:=by unfold aD8 at c;obtain⟨s,d,c⟩:=Ke e ops c;exact⟨_,by simp only[ZS,d,Option.bind_some];rfl,c⟩
theorem b9(d:vZ E ctx L Tb it){id:Nat}{ops:Array Oper}{st:St}{r:Ex×St}{k:Ex×St->X}:∀(os:List (List Nat)),Ev (cR ctx) L (Z7 E h Tb it id ops st r k os) lf->∃q,Dg E h ctx id ops st r os=some q/\Ev (cR ctx) L (k q) lf
 |[],c=>⟨r,rfl,c⟩
 |o::os,c=>by
  simp only[Z7]at c;obtain⟨q,e,c⟩:=aCC d c;obtain⟨m,f,c⟩:=eF c;simp only[Ev]at c;rcases c with⟨g,c⟩ |⟨_,c⟩
  ·obtain⟨l,j,c⟩:=b9 d os c;exact⟨l,by simp only[Dg,e,Option.bind_some,f,g,cond_true,j],c⟩
  ·exact c.elim
theorem aEd(e:vZ E ctx L Tb it){id:Nat}{ops:Array Oper}{st:St}{r:Ex×St}{k:Ex×St->X}(c:Ev (cR ctx) L (aCw E h Tb it id ops st r k) lf):
  ∃q,(match De h id with
   |none=>ok r
   |some q=>Dg E h ctx id ops st r q.2)=some q/\Ev (cR ctx) L (k q) lf:=by
 unfold aCw at c;cases d:De h id with
 |none=>rw[d]at c;exact⟨r,rfl,c⟩
 |some q=>rw[d]at c;exact b9 e q.2 c
def sV(Q:Nat->Code->Prop):Nat->Code->Prop
 |b,.seq x c=>sV Q b x/\sV Q b c
 |b,.cond _ x c=>sV Q b x/\sV Q b c
 |_,.block id x=>sV Q id x
 |b,.loop x=>Q b x
 |b,.scope x=>sV Q b x
 |_,_=>True
variable{T:Nat->List (LD->Ex×St)}{k:Nat}
def XU(E:fM)(h:fR)(ctx:tU)(k:Nat)(L:Nat->St->Nat->LD->Prop)(lb:Nat)(T:Nat->List (LD->Ex×St))(b:Nat)(x:Code):Prop:=
 ∀st s i ds t,HP (look h.heads b) st=some s->L (lb+b) s i ds->(T (lb+b))[i]?=some t->MB E h ctx k b (.loop x) st=some (t ds)
theorem d4{kk:Ex×St->X}{ds:LD}:∀(ts:List (LD->Ex×St))(i:Nat),Nl (λm xs x bs=>ctx m xs=some (x,bs)) L (Ps kk ts) i ds lf->∃t,ts[i]?=some t/\Ev (cR ctx) L (kk (t ds)) lf
 |[],i,c=>by simp[Ps,Nl]at c
 |t::ts,0,c=>⟨t,rfl,by simpa[Ps,Nl]using c⟩
 |t::ts,i+1,c=>by simp only[Ps,Nl]at c;exact d4 ts i c
theorem KF(g:vZ E ctx L Tb it){lb:Nat}:∀(c:Code){b:Nat}{st:St}{kk:Ex×St->X},sV (XU E h ctx k L lb T) b c->Ev (cR ctx) L (HE E h Tb it lb T b c st kk) lf->∃r,MB E h ctx k b c st=some r/\Ev (cR ctx) L (kk r) lf
 |.skip,b,st,kk,_,d=>⟨_,rfl,d⟩
 |.region id ops C,b,st,kk,_,d=>by simp only[HE]at d;obtain⟨r,j,d⟩:=aCC g d;obtain⟨v,l,d⟩:=eF d;obtain⟨y,m,d⟩:=aEd g d;exact⟨y,by simp only[MB,V5,j,Option.bind_some,l];exact m,d⟩
 |.seq x u,b,st,kk,f,d=>by
  simp only[HE]at d;obtain⟨r,j,d⟩:=KF g x f.1 d;simp only[MB,j,Option.bind_some];unfold aFe at d;unfold Wv;obtain⟨e,s⟩:=r;cases e with
  |norm=>exact KF g u f.2 d
  |ret=>exact⟨_,rfl,d⟩
  |exit id=>exact⟨_,rfl,d⟩
 |.cond c x u,b,st,kk,f,d=>by
  simp only[HE]at d;simp only[MB];unfold aFd at d;unfold aBB;cases hv:eR st.sl c with
  |bool t=>
   rw[hv]at d;simp only[Ev]at d;rcases d with⟨rfl,d⟩ |⟨rfl,d⟩
   ·simp only[cond_true];exact KF g x f.1 d
   ·simp only[cond_false];exact KF g u f.2 d
  |_=>rw[hv]at d;simp[Ev]at d
 |.block id x,b,st,kk,f,d=>by simp only[HE]at d;obtain⟨r,j,d⟩:=KF g x (b:=id) f d;obtain⟨v,l,d⟩:=eF d;exact⟨v,by simp only[MB,j,Option.bind_some,l],d⟩
 |.loop x,b,st,kk,f,d=>by simp only[HE]at d;obtain⟨s,j,d⟩:=eF d;simp only[Ev]at d;obtain⟨i,ds,l,d⟩:=d;obtain⟨t,m,d⟩:=d4 _ _ d;exact⟨_,f st s i ds t j l m,d⟩
 |.exit id,b,st,kk,_,d=>⟨_,rfl,d⟩
 |.ret,b,st,kk,_,d=>⟨_,rfl,d⟩
 |.rangeFunc ..,_,_,_,_,d=>by simp[HE,Ev]at d
 |.scope x,b,st,kk,f,d=>by simp only[HE]at d;simp only[MB];exact KF g x (b:=b) f d
 |.label _,b,st,kk,_,d=>⟨_,rfl,d⟩
 |.goto _,_,_,_,_,d=>by simp[HE,Ev]at d
 |.refuse _,_,_,_,_,d=>by simp[HE,Ev]at d
theorem aCD(l:vZ E ctx L Tb it){lb b:Nat}{x:Code}{s:St}(m:sV (XU E h ctx k L lb T) b x)(c:Ev (cR ctx) L (At E h Tb it lb T b x s) lf):
  (∃s1 f,MB E h ctx k b x s=some (.norm,s1)/\HP (look h.heads b) s1=some f/\lf=.again f)\/
  (∃r t,MB E h ctx k b x s=some r/\(∀g,MN g r=some r)/\G6 (look h.ends b) r=some t/\lf=.out t):=by
 unfold At at c;obtain⟨r,j,c⟩:=KF l x m c;obtain⟨e,s1⟩:=r;cases e with
 |norm=>obtain⟨f,d,c⟩:=eF c;exact .inl ⟨s1,f,j,d,c⟩
 |ret=>obtain⟨t,d,c⟩:=eF c;exact .inr ⟨_,t,j,λ_=>rfl,d,c⟩
 |exit id=>obtain⟨t,d,c⟩:=eF c;exact .inr ⟨_,t,j,λ_=>rfl,d,c⟩
theorem d5(m:vZ E ctx L Tb it){f:Func}{c:Code}{s:FY}{ds:LD}(t:sV (XU E h ctx k L 0 T) 0 c)(d:Ev (cR ctx) L (Pt E h Tb it T f c s ds) lf):∃r:D×LD,Ov E ctx k f c s h ds=some r/\lf=.ret r.1 r.2:=by unfold Pt at d;obtain⟨st,g,d⟩:=eF d;obtain⟨r,j,d⟩:=KF m c t d;obtain⟨q,l,d⟩:=eF d;refine⟨q,?_,d⟩;unfold Ov;rw[g];simp only[Option.bind_some];unfold MO;rw[j];simp only[Option.bind_some];obtain⟨e,u⟩:=r;cases e<;>exact l
end
def jZ(E:fM)(B:mA)(Tb:BT lJ)(m:Nat)(xs:LD)(x:D)(bs:LD):Prop:=∃N,∀k n L,N<=k->N<=n->N<=L->rN (yM E k Tb L) B (Hb E) k n m xs=some (x,bs)
structure FD where
 f:Func
 h:fR
 c:Code
 s:FY
 F:Fn
 S:aCx
 T:z7
def Fn.lp(F:Fn)(b:Nat)(p:LD):Sh:=
 match look F.lps b with
 |some g=>g p
 |none=>.bad
def d6(E:fM)(h:fR)(ctx:tU)(k b:Nat)(x:Code)(q:Nat)(s:St):M (Ex×St):=
 ((MB E h ctx k b x s).bind (MN (VW (MB E h ctx k b x) (HP (Go.Eng.look h.heads b)) q))).bind (G6 (Go.Eng.look h.ends b))
structure LAt where
 h:fR
 c:Code
 b:Nat
 lb:Nat
def lA(d:FD)(Tb:BT lJ)(n:Nat):LAt:=
 bif Nat.ble 1000 n then
  match Tb.look (n/1000-1)with
  |some s=>⟨s.h,s.c,n%1000,n/1000*1000⟩
  |none=>⟨d.h,d.c,n,0⟩
 else⟨d.h,d.c,n,0⟩
def RG(E:fM)(B:mA)(Tb:BT lJ)(d:FD)(b:Nat)(ps:LD)(i:Nat)(ds:LD):Prop:=
 ∃N,∀k n q L L0,N<=k->N<=n->N<=q->N<=L->N<=L0->d6 (yM E k Tb L) (lA d Tb b).h (rN (yM E k Tb L0) B (Hb E) k n) k (lA d Tb b).b (uE (lA d Tb b).b (lA d Tb b).c) q (Uf d.S b ps)=some (Pu d.T b (i,ds))
abbrev Nv:Nat:=4
def NT(c:Code):Prop:=∃bs:List Nat,dN 0 c=bs.map (λb=>(b,uE b c))/\DK (λb=>Nat.ble (b+1) 1000) bs=true
def siteLoopB(Tb:BT lJ)(n:Nat):Bool:=
 match Tb.look (n/1000-1)with
 |some s=>has ((dN 0 s.c).map λq=>q.1) (n%1000)
 |none=>false
structure CR(E:fM)(B:mA)(Tb:BT lJ)(m:Nat)(d:FD):Prop where
 look:B.look m=some (d.f,d.h)
 sig:E.sg.look m=some d.s
 body:d.f.body=some d.c
 loops:dN 0 d.c=d.F.bs.map λb=>(b,uE b d.c)
 small:DK (λb=>Nat.ble (b+1) 1000) d.F.bs=true
 sub:DK (λq=>Nat.ble 1000 q.1||has d.F.bs q.1) d.F.lps=true
 sites:∀q s,Tb.look q=some s->NT s.c
 inSite:DK (λq=>Nat.ble (q.1+1) 1000||siteLoopB Tb q.1) d.F.lps=true
 ns:Nat.beq m E.srt=false
 main:∀x,Pt E d.h Tb (itN E Tb (tOf d.T) Nv) (tOf d.T) d.f d.c d.s (Jv x 0 d.F.np)=(d.F.main x).up d.S d.T 0
 round:∀b g,Go.Eng.look d.F.lps b=some g->∀p,At E (lA d Tb b).h Tb (itN E Tb (tOf d.T) Nv) (lA d Tb b).lb (tOf d.T) (lA d Tb b).b (uE (lA d Tb b).b (lA d Tb b).c) (Uf d.S b p)=(g p).up d.S d.T b
theorem aCE{α:Type}{Q:Nat->α->Prop}:∀b g,look ([]:List (Nat×α)) b=some g->Q b g:=λb g h=>by simp[look]at h
theorem N4{α:Type}{Q:Nat->α->Prop}{b0:Nat}{d:α}{l:List (Nat×α)}(e:Q b0 d)(f:∀b g,look l b=some g->Q b g):∀b g,look ((b0,d)::l) b=some g->Q b g:=λb g h=>by
 simp only[look]at h;cases c:Nat.beq b0 b with
 |true=>rw[c]at h;simp only[cond_true,Option.some.injEq]at h;rw[<-Nat.eq_of_beq_eq_true c,<-h];exact e
 |false=>rw[c]at h;exact f b g h
section
variable{E:fM}{B:mA}{Tb:BT lJ}{d:FD}
def Lf.up(S:aCx)(T:z7)(b0:Nat):Lf (LD) (Nat×LD)->Lf St (Ex×St)
 |.ret x bs=>.ret x bs
 |.again ps=>.again (Uf S b0 ps)
 |.out t=>.out (Pu T b0 t)
def LK(E:fM)(B:mA)(Tb:BT lJ)(d:FD)(N k n L0:Nat)(b:Nat)(s:St)(i:Nat)(ds:LD):Prop:=
 ∀L st,N<=L->HP (look (lA d Tb b).h.heads (lA d Tb b).b) st=some s->MB (yM E k Tb L) (lA d Tb b).h (rN (yM E k Tb L0) B (Hb E) k n) k (lA d Tb b).b (.loop (uE (lA d Tb b).b (lA d Tb b).c)) st=some (Pu d.T b (i,ds))
theorem RG.LK{b:Nat}{ps:LD}{i:Nat}{ds:LD}(h:RG E B Tb d b ps i ds):∃N,∀M k n L0,N<=M->N<=k->N<=n->N<=L0->LK E B Tb d M k n L0 b (Uf d.S b ps) i ds:=by obtain⟨N,e⟩:=h;refine⟨N+1,λM k n L0 l m r j L st g f=>?_⟩;obtain⟨c,rfl⟩:∃c,k=c+1:=⟨k-1,by omega⟩;have:=e (c+1) n c L L0 (by omega) (by omega) (by omega) (by omega) (by omega);unfold d6 at this;simp only[MB,VW];rw[f];simp only[Option.bind_some];exact this
abbrev sW(E:fM)(B:mA)(Tb:BT lJ)(d:FD)(t:Sh)(lf:Lf (LD) (Nat×LD)):Prop:=Ev (jZ E B Tb) (RG E B Tb d) t lf
abbrev EvK(E:fM)(B:mA)(Tb:BT lJ)(d:FD)(M k n L:Nat)(t:X)(lf:Lf St (Ex×St)):Prop:=Ev (λm xs x bs=>rN (yM E k Tb L) B (Hb E) k n m xs=some (x,bs)) (LK E B Tb d M k n L) t lf
mutual
theorem trans(b0:Nat):∀(t:Sh){lf:Lf (LD) (Nat×LD)},sW E B Tb d t lf->∃N,∀M k n L,N<=M->N<=k->N<=n->N<=L->EvK E B Tb d M k n L (t.up d.S d.T b0) (lf.up d.S d.T b0)
 |.ret x bs,lf,c=>by simp only[sW,Ev]at c;subst c;exact⟨0,λM k n L _ _ _ _=>by simp only[Sh.up,IX.map,Lf.up,EvK,Ev]⟩
 |.again s,lf,c=>by simp only[sW,Ev]at c;subst c;exact⟨0,λM k n L _ _ _ _=>by simp only[Sh.up,IX.map,Lf.up,EvK,Ev]⟩
 |.out t,lf,c=>by simp only[sW,Ev]at c;subst c;exact⟨0,λM k n L _ _ _ _=>by simp only[Sh.up,IX.map,Lf.up,EvK,Ev]⟩
 |.bad,lf,c=>by simp[sW,Ev]at c
 |.ask b p q,lf,c=>by
  simp only[sW,Ev]at c;rcases c with⟨e,c⟩ |⟨e,c⟩
  ·obtain⟨N,f⟩:=trans b0 p c;exact⟨N,λM k n L h j l g=>by simp only[Sh.up,IX.map,EvK,Ev];exact .inl ⟨e,f M k n L h j l g⟩⟩
  ·obtain⟨N,f⟩:=trans b0 q c;exact⟨N,λM k n L h j l g=>by simp only[Sh.up,IX.map,EvK,Ev];exact .inr ⟨e,f M k n L h j l g⟩⟩
 |.call m xs nb kk,lf,c=>by simp only[sW,Ev]at c;obtain⟨x,bs,⟨r,e⟩,u,c⟩:=c;obtain⟨N,f⟩:=trans b0 (kk x bs) c;exact⟨max N r,λM k n L h j l g=>by simp only[Sh.up,IX.map,EvK,Ev];exact⟨x,bs,e k n L (by omega) (by omega) (by omega),u,f M k n L (by omega) (by omega) (by omega) (by omega)⟩⟩
 |.loop b s ks,lf,c=>by simp only[sW,Ev]at c;obtain⟨i,ds,e,c⟩:=c;obtain⟨r,e⟩:=e.LK;obtain⟨N,f⟩:=aCF b0 ks c;exact⟨max N r,λM k n L h j l g=>by simp only[Sh.up,IX.map,EvK,Ev];exact⟨i,ds,e M k n L (by omega) (by omega) (by omega) (by omega),f M k n L (by omega) (by omega) (by omega) (by omega)⟩⟩
theorem aCF(b0:Nat):∀(ks:Ts (LD) (Nat×LD)){i:Nat}{ds:LD}{lf:Lf (LD) (Nat×LD)},Nl (jZ E B Tb) (RG E B Tb d) ks i ds lf->∃N,∀M k n L,N<=M->N<=k->N<=n->N<=L->Nl (λm xs x bs=>rN (yM E k Tb L) B (Hb E) k n m xs=some (x,bs)) (LK E B Tb d M k n L) (ks.map (Uf d.S) b0 (Pu d.T b0)) i ds (lf.up d.S d.T b0)
 |.nil,i,ds,lf,c=>by simp[Nl]at c
 |.cons kk ks,0,ds,lf,c=>by simp only[Nl]at c;obtain⟨N,g⟩:=trans b0 (kk ds) c;exact⟨N,λM k n L f h j e=>by simp only[Ts.map,Nl];exact g M k n L f h j e⟩
 |.cons kk ks,i+1,ds,lf,c=>by simp only[Nl]at c;obtain⟨N,g⟩:=aCF b0 ks c;exact⟨N,λM k n L f h j e=>by simp only[Ts.map,Nl];exact g M k n L f h j e⟩
end
theorem lQ{Q:Nat->Code->Prop}:∀(c:Code)(b:Nat),(∀q∈dN b c,Q q.1 q.2)->sV Q b c
 |.seq x e,b,h=>⟨lQ x b λq d=>h q (by simp[dN,d]),lQ e b λq d=>h q (by simp[dN,d])⟩
 |.cond c x e,b,h=>⟨lQ x b λq d=>h q (by simp[dN,d]),lQ e b λq d=>h q (by simp[dN,d])⟩
 |.block id x,b,h=>lQ x id h
 |.loop x,b,h=>h (b,x) (by simp[dN])
 |.skip,_,_=>trivial
 |.region ..,_,_=>trivial
 |.exit _,_,_=>trivial
 |.ret,_,_=>trivial
 |.rangeFunc ..,_,_=>trivial
 |.scope x,b,h=>lQ x b h
 |.label _,_,_=>trivial
 |.goto _,_,_=>trivial
 |.refuse _,_,_=>trivial
theorem qT:∀(c:Code)(b:Nat)(q:Nat×Code),q∈dN b c->∀e∈dN q.1 q.2,e∈dN b c
 |.seq x g,b,q,d,e,f=>by
  simp only[dN,List.mem_append]at d⊢;rcases d with d |d
  ·exact .inl (qT x b q d e f)
  ·exact .inr (qT g b q d e f)
 |.cond c x g,b,q,d,e,f=>by
  simp only[dN,List.mem_append]at d⊢;rcases d with d |d
  ·exact .inl (qT x b q d e f)
  ·exact .inr (qT g b q d e f)
 |.block id x,b,q,d,e,f=>qT x id q d e f
 |.loop x,b,q,d,e,f=>by
  simp only[dN,List.mem_cons]at d⊢;rcases d with rfl |d
  ·exact .inr f
  ·exact .inr (qT x b q d e f)
 |.skip,_,_,d,_,_=>by simp[dN]at d
 |.region ..,_,_,d,_,_=>by simp[dN]at d
 |.exit _,_,_,d,_,_=>by simp[dN]at d
 |.ret,_,_,d,_,_=>by simp[dN]at d
 |.rangeFunc ..,_,_,d,_,_=>by simp[dN]at d
 |.scope x,b,q,d,e,f=>qT x b q d e f
 |.label _,_,_,d,_,_=>by simp[dN]at d
 |.goto _,_,_,d,_,_=>by simp[dN]at d
 |.refuse _,_,_,d,_,_=>by simp[dN]at d
theorem aEe(E:fM)(k:Nat)(T:BT lJ):∀n,HE (yM E k T n)=HE E
 |0=>by kernel_rfl
 |n+1=>by kernel_rfl
theorem aAj(E:fM)(k:Nat)(T:BT lJ):∀n,At (yM E k T n)=At E
 |0=>by kernel_rfl
 |n+1=>by kernel_rfl
theorem Zg(E:fM)(k:Nat)(T:BT lJ):∀n,Pt (yM E k T n)=Pt E
 |0=>by kernel_rfl
 |n+1=>by kernel_rfl
theorem N5(E:fM)(k:Nat)(T:BT lJ):∀n,kM (yM E k T n)=kM E
 |0=>by kernel_rfl
 |n+1=>by kernel_rfl
theorem Uh{n:Nat}(h:n<1000):lA d Tb n=⟨d.h,d.c,n,0⟩:=by
 unfold lA;cases c:Nat.ble 1000 n with
 |true=>have:=Nat.le_of_ble_eq_true c;omega
 |false=>rfl
theorem Ui{q b:Nat}{s:lJ}(e:Tb.look q=some s)(f:b<1000):lA d Tb (1000*(q+1)+b)=⟨s.h,s.c,b,1000*(q+1)⟩:=by
 unfold lA;rw[Nat.ble_eq_true_of_le (show 1000<=1000*(q+1)+b by omega)];simp only[cond_true];have e1:(1000*(q+1)+b)/1000=q+1:=by omega
 have c:(1000*(q+1)+b)%1000=b:=by omega
 rw[e1,c,Nat.add_sub_cancel,e];simp only[LAt.mk.injEq,true_and];omega
theorem Hc{h:fR}{c:Code}{lb M k n L0 L:Nat}(m:M<=L)(f:∀b,b<1000->lA d Tb (lb+b)=⟨h,c,b,lb⟩){bs:List Nat}(u:dN 0 c=bs.map λb=>(b,uE b c))(v:DK (λb=>Nat.ble (b+1) 1000) bs=true){q:Nat×Code}(e:q∈dN 0 c):
  XU (yM E k Tb L) h (rN (yM E k Tb L0) B (Hb E) k n) k (LK E B Tb d M k n L0) lb (tOf d.T) q.1 q.2:=by
 rw[u]at e;simp only[List.mem_map]at e;obtain⟨b,r,rfl⟩:=e;have y:=Nat.le_of_ble_eq_true (JU v b r);intro st s i ds t g j l;have:=j L st m (by rw[f b (by omega)];exact g);rw[f b (by omega)]at this;simp only[Pu]at this;simp only;rw[this];simp[List.getD_eq_getElem?_getD,l]
theorem XV(j:∀q s,Tb.look q=some s->NT s.c){M k n L0:Nat}:∀(D L:Nat),M+D<=L->vZ (yM E k Tb L) (rN (yM E k Tb L0) B (Hb E) k n) (LK E B Tb d M k n L0) Tb (itN E Tb (tOf d.T) D)
 |0,L,_=>λq s st kk lf _ c=>by simp[itN,Ev]at c
 |D+1,L,H=>by
  obtain⟨e,rfl⟩:∃e,L=e+1:=⟨L-1,by omega⟩;have G:=XV j (M:=M) (k:=k) (n:=n) (L0:=L0) D e (by omega);intro q s st kk lf h c;simp only[itN,h]at c;obtain⟨bs,v,y⟩:=j q s h;rw[<-aEe E k Tb e]at c;obtain⟨r,t,c⟩:=KF G (k:=k) s.c (lQ _ _ λJ F=>Hc (L:=e) (by omega) (λb u=>Ui h u) v y F) c;obtain⟨ex,st1⟩:=r;have C:∃as,kM E st1 s.f.results.toList=some as/\(ex=.norm\/ex=.ret)/\Ev (λm xs x bs=>rN (yM E k Tb L0) B (Hb E) k n m xs=some (x,bs)) (LK E B Tb d M k n L0) (kk (Nt as,st1)) lf:=by
   cases ex with
   |norm=>obtain⟨as,f,g⟩:=eF c;exact⟨as,f,.inl rfl,g⟩
   |ret=>obtain⟨as,f,g⟩:=eF c;exact⟨as,f,.inr rfl,g⟩
   |exit id=>simp[Ev]at c
  obtain⟨as,f,g,l⟩:=C;refine⟨{fn:=s.fn,np:=s.np,run:=Js (yM E k Tb e) (rN (yM E k Tb L0) B (Hb E) k n) k s},(Nt as,st1),by simp[yM,aFM,h],rfl,rfl,?_,l⟩;simp only[Js];rw[t];simp only[Option.bind_some];rw[N5,f];rcases g with rfl |rfl<;>rfl
theorem bE{m:Nat}(c:CR E B Tb m d)(hf:d.h.fork=false){xs:LD}{x:D}{bs:LD}(hx:Jv xs 0 d.F.np=xs)(t:sW E B Tb d (d.F.main xs) (.ret x bs)):jZ E B Tb m xs x bs:=by obtain⟨N,l⟩:=trans 0 _ t;refine⟨N+Nv+1,λk n L y C v=>?_⟩;obtain⟨n',rfl⟩:∃n',n=n'+1:=⟨n-1,by omega⟩;have f:=l N k n' L (by omega) (by omega) (by omega) (by omega);rw[<-c.main,hx,<-Zg E k Tb L]at f;obtain⟨r,h,e⟩:=d5 (XV c.sites Nv L (by omega)) (k:=k) (lQ _ _ λq u=>Hc (L:=L) (by omega) (λb s=>by rw[Nat.zero_add];exact Uh s) c.loops c.small u) f;simp only[Lf.up]at e;injection e with e j;have g:=c.sig;rw[<-GI E k Tb L]at g;simp only[rN,Hb,c.ns,cond_false,c.look,g,c.body,hf,cond_false,h,e,j]
theorem aEf{m:Nat}(c:CR E B Tb m d)(hf:d.h.fork=true){t:TypeId}(J:d.s.ps=[(t,.ro)]){l:LD}{x:D}{bs:LD}(hx:d.F.np=1)
  (u:∀st,fE E 0 d.s.ps [.l l] {sl:=.nil,bx:=[],ar:=[],ctr:=1}=some st->∀g,Sd g st (st.sl.get 0)=g st)(H:sW E B Tb d (d.F.main [.l l]) (.ret x bs)):jZ E B Tb m [.l l] x bs:=by
 obtain⟨N,F⟩:=trans 0 _ H;refine⟨N+Nv+1,λk n L Q T P=>?_⟩;obtain⟨n',rfl⟩:∃n',n=n'+1:=⟨n-1,by omega⟩;have h:=F N k n' L (by omega) (by omega) (by omega) (by omega);rw[<-c.main,hx,<-Zg E k Tb L]at h;have e:Jv [D.l l] 0 1=[.l l]:=rfl;rw[e]at h;obtain⟨r,v,f⟩:=d5 (XV c.sites Nv L (by omega)) (k:=k) (lQ _ _ λq K=>Hc (L:=L) (by omega) (λb G=>by rw[Nat.zero_add];exact Uh G) c.loops c.small K) h;simp only[Lf.up]at f;injection f with f y;have s:=c.sig;rw[<-GI E k Tb L]at s;simp only[rN,Hb,c.ns,cond_false,c.look,s,c.body,hf,cond_true];have C:Wy (yM E k Tb L) (rN (yM E k Tb L) B (Hb E) k n') k d.f d.c d.s d.h [.l l]=Ov (yM E k Tb L) (rN (yM E k Tb L) B (Hb E) k n') k d.f d.c d.s d.h [.l l]:=by
  unfold Wy Ov;rw[J]at u⊢;simp only;cases j:fE (yM E k Tb L) 0 [(t,PM.ro)] [D.l l] {sl:=.nil,bx:=[],ar:=[],ctr:=1}with
  |none=>rfl
  |some st=>rw[Jt]at j;simp only[Option.bind_some];exact u st j _
 rw[C,v,f,y]
theorem aEg{F:Fn}{b:Nat}{g:LD->Sh}(h:look F.lps b=some g):(b,g)∈F.lps:=by
 have:∀l:List (Nat×(LD->Sh)),look l b=some g->(b,g)∈l:=by
  intro l;induction l with
  |nil=>intro h;simp[look]at h
  |cons p l e=>
   intro h;simp only[look]at h;cases c:Nat.beq p.1 b with
   |true=>
    rw[c]at h;simp only[cond_true,Option.some.injEq]at h;have d:=Nat.eq_of_beq_eq_true c;have:p=(b,g):=by rw[<-d,<-h]
    rw[this];exact List.mem_cons_self
   |false=>rw[c]at h;exact List.mem_cons_of_mem _ (e h)
 exact this _ h
theorem CR.at{m:Nat}(h:CR E B Tb m d){n:Nat}(r:1000<=n){g:LD->Sh}(hg:(n,g)∈d.F.lps):∃(s:lJ)(bs:List Nat),Tb.look (n/1000-1)=some s/\dN 0 s.c=bs.map (λb=>(b,uE b s.c))/\n%1000∈bs:=by
 have c:=JU h.inSite _ hg;simp only[Bool.or_eq_true]at c;rcases c with c |c
 ·have:=Nat.le_of_ble_eq_true c;omega
 ·unfold siteLoopB at c;split at c
  ·rename_i s j;obtain⟨bs,f,l⟩:=h.sites _ s j;refine⟨s,bs,j,f,?_⟩;rw[f]at c;have e:(bs.map (λb=>(b,uE b s.c))).map (λq=>q.1)=bs:=by
    rw[List.map_map];exact List.map_id'' (λ_=>rfl) _
   rw[e]at c;exact JY.1 c
  ·simp at c
theorem aCG{m:Nat}(c:CR E B Tb m d){b:Nat}{ps:LD}{lf:Lf (LD) (Nat×LD)}(F:sW E B Tb d (d.F.lp b ps) lf):∃N,∀k n L L0,N<=k->N<=n->N<=L->N<=L0->
  (∃s1 H,MB (yM E k Tb L) (lA d Tb b).h (rN (yM E k Tb L0) B (Hb E) k n) k (lA d Tb b).b (uE (lA d Tb b).b (lA d Tb b).c) (Uf d.S b ps)=some (.norm,s1)/\HP (look (lA d Tb b).h.heads (lA d Tb b).b) s1=some H/\lf.up d.S d.T b=.again H)\/
  (∃r t,MB (yM E k Tb L) (lA d Tb b).h (rN (yM E k Tb L0) B (Hb E) k n) k (lA d Tb b).b (uE (lA d Tb b).b (lA d Tb b).c) (Uf d.S b ps)=some r/\(∀g,MN g r=some r)/\G6 (look (lA d Tb b).h.ends (lA d Tb b).b) r=some t/\lf.up d.S d.T b=.out t):=by
 obtain⟨N,U⟩:=trans b _ F;refine⟨N+Nv,λk n L L0 a9 b0 a6 a7=>?_⟩;have y:=U N k n L0 (by omega) (by omega) (by omega) (by omega);cases f:look d.F.lps b with
 |none=>simp only[Fn.lp,f,sW,Ev]at F
 |some g=>
  have hg:=aEg f;have Y:d.F.lp b ps=g ps:=by simp only[Fn.lp,f]
  rw[Y,<-c.round _ _ f,<-aAj E k Tb L]at y;have a0:∃bs:List Nat,dN 0 (lA d Tb b).c=bs.map (λb'=>(b',uE b' (lA d Tb b).c))/\DK (λb'=>Nat.ble (b'+1) 1000) bs=true/\(lA d Tb b).b∈bs/\(∀b',b'<1000->lA d Tb ((lA d Tb b).lb+b')=⟨(lA d Tb b).h,(lA d Tb b).c,b',(lA d Tb b).lb⟩):=by
   by_cases V:b<1000
   ·rw[Uh V];refine⟨d.F.bs,c.loops,c.small,?_,λb' u=>by simp only[Nat.zero_add];exact Uh u⟩;have:=JU c.sub _ hg;simp only[Bool.or_eq_true]at this;rcases this with h |h
    ·have:=Nat.le_of_ble_eq_true h;omega
    ·exact JY.1 h
   ·obtain⟨s,bs,j,K,P⟩:=c.at (show 1000<=b by omega) hg;obtain⟨J,v,Q⟩:=c.sites _ s j;have e:b=1000*(b/1000-1+1)+b%1000:=by omega
    have W:lA d Tb b=⟨s.h,s.c,b%1000,1000*(b/1000-1+1)⟩:=by have:=Ui (d:=d) j (show b%1000<1000 by omega);rw[<-e]at this;exact this
    rw[W];refine⟨J,v,Q,?_,λb' u=>Ui j u⟩;have C:(b%1000,uE (b%1000) s.c)∈dN 0 s.c:=by rw[K];exact List.mem_map.2 ⟨_,P,rfl⟩
    rw[v]at C;obtain⟨a5,T,l⟩:=List.mem_map.1 C;injection l with l _;rw[<-l];exact T
  obtain⟨bs,G,a2,a3,a4⟩:=a0;refine aCD (XV c.sites Nv L (by omega)) (k:=k) (lb:=(lA d Tb b).lb) (lQ _ _ λq a1=>Hc (L:=L) (by omega) a4 G a2 (qT _ _ ((lA d Tb b).b,uE (lA d Tb b).b (lA d Tb b).c) ?_ q a1)) y;rw[G];exact List.mem_map.2 ⟨_,a3,rfl⟩
theorem zF{m:Nat}(s:CR E B Tb m d){b:Nat}{ps:LD}{i:Nat}{ds:LD}(u:sW E B Tb d (d.F.lp b ps) (.out (i,ds))):RG E B Tb d b ps i ds:=by
 obtain⟨N,l⟩:=aCG s u;refine⟨N,λk n q L L0 v y _ h j=>?_⟩;rcases l k n L L0 v y h j with⟨s1,C,_,_,e⟩ |⟨r,t,f,g,e,c⟩
 ·simp[Lf.up]at e
 ·simp only[Lf.up]at c;injection c with c;subst c;simp only[d6,f,Option.bind_some,g,e]
theorem sX{m:Nat}(v:CR E B Tb m d){b:Nat}{ps ps':LD}{i:Nat}{ds:LD}(y:sW E B Tb d (d.F.lp b ps) (.again ps'))(f:RG E B Tb d b ps' i ds):RG E B Tb d b ps i ds:=by
 obtain⟨N,s⟩:=aCG v y;obtain⟨g,u⟩:=f;refine⟨max N g+1,λk n q L L0 G f H C F=>?_⟩;obtain⟨e,rfl⟩:∃e,q=e+1:=⟨q-1,by omega⟩;rcases s k n L L0 (by omega) (by omega) (by omega) (by omega)with⟨s1,J,h,j,c⟩ |⟨r,t,_,_,_,l⟩
 ·simp only[Lf.up]at c;injection c with c;subst c;have:=u k n e L L0 (by omega) (by omega) (by omega) (by omega) (by omega);unfold d6 at this⊢;rw[h];simp only[Option.bind_some,MN,VW];rw[j];simp only[Option.bind_some];exact this
 ·simp[Lf.up]at l
theorem dF{m:Nat}(c:CR E B Tb m d){b:Nat}(f:Nat->LD)(n:Nat){i:Nat}{ds:LD}(e:∀j,j<n->sW E B Tb d (d.F.lp b (f j)) (.again (f (j+1))))(g:sW E B Tb d (d.F.lp b (f n)) (.out (i,ds))):RG E B Tb d b (f 0) i ds:=by
 have:∀j,j<=n->RG E B Tb d b (f (n-j)) i ds:=by
  intro j;induction j with
  |zero=>intro _;exact zF c g
  |succ j h=>intro l;have:=e (n-(j+1)) (by omega);rw[show n-(j+1)+1=n-j by omega]at this;exact sX c this (h (by omega))
 have:=this n (Nat.le_refl n);rwa [Nat.sub_self]at this
end
abbrev Zh:=Lf (LD) (Nat×LD)
abbrev Cl:=Nat->LD->Option (D×LD)
abbrev Lo:=Nat->LD->Option (Nat×LD)
def Zi(nb:Nat)(k:D->LD->Option Zh):Option (D×LD)->Option Zh
 |some r=>bif Nat.beq r.2.length nb then k r.1 r.2 else none
 |none=>none
def d7(k:Nat->LD->Option Zh):Option (Nat×LD)->Option Zh
 |some o=>k o.1 o.2
 |none=>none
def aCH(k:LD->Option Zh)(ks:Nat->LD->Option Zh)(i:Nat)(ds:LD):Option Zh:=
 bif Nat.beq i 0 then k ds else ks (i-1) ds
noncomputable def goT(cl:Cl)(lp:Lo)(t:Sh):Option Zh:=
 IX.rec (motive_1:=λ_=>Option Zh) (motive_2:=λ_=>Nat->LD->Option Zh)
  (λx bs=>some (.ret x bs)) (λs=>some (.again s)) (λt=>some (.out t)) none
  (λb _ _ p q=>bif b then p else q)
  (λm xs nb _ k=>Zi nb k (cl m xs))
  (λb s _ ks=>d7 ks (lp b s))
  (λ_ _=>none)
  (λ_ _ k ks=>aCH k ks) t
noncomputable def goL(cl:Cl)(lp:Lo)(t:Ts (LD) (Nat×LD)):Nat->LD->Option Zh:=
 Ts.rec (motive_1:=λ_=>Option Zh) (motive_2:=λ_=>Nat->LD->Option Zh)
  (λx bs=>some (.ret x bs)) (λs=>some (.again s)) (λt=>some (.out t)) none
  (λb _ _ p q=>bif b then p else q)
  (λm xs nb _ k=>Zi nb k (cl m xs))
  (λb s _ ks=>d7 ks (lp b s))
  (λ_ _=>none)
  (λ_ _ k ks=>aCH k ks) t
def Kf(k:LD->Option (Nat×LD)):Option Zh->Option (Nat×LD)
 |some (.again ps)=>k ps
 |some (.out t)=>some t
 |some (.ret _ _)=>none
 |none=>none
noncomputable def Kg(cl:Cl)(F:Fn)(g:Nat):Lo:=
 Nat.rec (λ_ _=>none) (λ_ c b ps=>Kf (c b) (goT cl c (F.lp b ps))) g
def aAk:Option Zh->Option (D×LD)
 |some (.ret x bs)=>some (x,bs)
 |_=>none
def fnG(k:Fn->Option (D×LD)):Option Fn->Option (D×LD)
 |some F=>k F
 |none=>none
def aEh(r:Option (D×LD)):Option (D×LD)->Option (D×LD)
 |some x=>some x
 |none=>r
noncomputable def aAl(P:BT Fn)(X:Cl)(g n:Nat):Cl:=
 Nat.rec (λ_ _=>none) (λ_ c m xs=>aEh (fnG (λF=>bif Nat.beq xs.length F.np then aAk (goT c (Kg c F g) (F.main xs))else none) (P.look m)) (X m xs)) n
section
variable{E:fM}{B:mA}{Tb:BT lJ}{d:FD}{cl:Cl}{lp:Lo}
mutual
theorem Pw(e:∀m xs r,cl m xs=some r->jZ E B Tb m xs r.1 r.2)(f:∀b ps o,lp b ps=some o->RG E B Tb d b ps o.1 o.2):∀(t:Sh){lf:Zh},goT cl lp t=some lf->sW E B Tb d t lf
 |.ret x bs,lf,h=>by have h:some (Lf.ret x bs)=some lf:=h;injection h with h;subst h;simp only[sW,Ev]
 |.again s,lf,h=>by have h:some (Lf.again s)=some lf:=h;injection h with h;subst h;simp only[sW,Ev]
 |.out t,lf,h=>by have h:some (Lf.out t)=some lf:=h;injection h with h;subst h;simp only[sW,Ev]
 |.bad,lf,h=>by have h:none=some lf:=h;simp at h
 |.ask b p q,lf,h=>by
  have h:(bif b then goT cl lp p else goT cl lp q)=some lf:=h;simp only[sW,Ev];cases b with
  |true=>exact .inl ⟨rfl,Pw e f p h⟩
  |false=>exact .inr ⟨rfl,Pw e f q h⟩
 |.call m xs nb k,lf,h=>by
  have h:Zi nb (λx bs=>goT cl lp (k x bs)) (cl m xs)=some lf:=h;simp only[sW,Ev];cases c:cl m xs with
  |none=>rw[c]at h;simp[Zi]at h
  |some r=>
   rw[c]at h;simp only[Zi]at h;cases g:Nat.beq r.2.length nb with
   |false=>rw[g]at h;simp at h
   |true=>rw[g]at h;exact⟨r.1,r.2,e m xs r c,Nat.eq_of_beq_eq_true g,Pw e f (k r.1 r.2) h⟩
 |.loop b s ks,lf,h=>by
  have h:d7 (goL cl lp ks) (lp b s)=some lf:=h;simp only[sW,Ev];cases c:lp b s with
  |none=>rw[c]at h;simp[d7]at h
  |some o=>rw[c]at h;exact⟨o.1,o.2,f b s o c,aFh e f ks h⟩
theorem aFh(c:∀m xs r,cl m xs=some r->jZ E B Tb m xs r.1 r.2)(e:∀b ps o,lp b ps=some o->RG E B Tb d b ps o.1 o.2):∀(t:Ts (LD) (Nat×LD)){i:Nat}{ds:LD}{lf:Zh},goL cl lp t i ds=some lf->Nl (jZ E B Tb) (RG E B Tb d) t i ds lf
 |.nil,i,ds,lf,h=>by have h:none=some lf:=h;simp at h
 |.cons k ks,i,ds,lf,h=>by
  have h:aCH (λds=>goT cl lp (k ds)) (goL cl lp ks) i ds=some lf:=h;cases i with
  |zero=>simp only[Nl];exact Pw c e (k ds) h
  |succ i=>simp only[Nl];exact aFh c e ks h
end
theorem d8{m:Nat}(c:CR E B Tb m d)(e:∀m xs r,cl m xs=some r->jZ E B Tb m xs r.1 r.2):∀(g:Nat)(b:Nat)(ps:LD)(o:Nat×LD),Kg cl d.F g b ps=some o->RG E B Tb d b ps o.1 o.2
 |0,b,ps,o,h=>by have h:none=some o:=h;simp at h
 |g+1,b,ps,o,h=>by
  have h:Kf (Kg cl d.F g b) (goT cl (Kg cl d.F g) (d.F.lp b ps))=some o:=h;have j:=d8 c e g;cases hg:goT cl (Kg cl d.F g) (d.F.lp b ps)with
  |none=>rw[hg]at h;simp[Kf]at h
  |some lf=>
   rw[hg]at h;have f:=Pw e (λb ps o l=>j b ps o l) _ hg;cases lf with
   |ret x bs=>simp[Kf]at h
   |again ps'=>exact sX c f (j b ps' o h)
   |out t=>simp only[Kf,Option.some.injEq]at h;subst h;exact zF c f
def d9(E:fM)(B:mA)(Tb:BT lJ)(P:BT Fn):Prop:=∀m F,P.look m=some F->∃d,d.F=F/\CR E B Tb m d/\d.h.fork=false
theorem aEi{xs:LD}{n:Nat}(h:Nat.beq xs.length n=true):Jv xs 0 n=xs:=Au (Nat.eq_of_beq_eq_true h)
theorem aCJ{P:BT Fn}{X:Cl}(f:d9 E B Tb P)(j:∀m xs r,X m xs=some r->jZ E B Tb m xs r.1 r.2)(g:Nat):∀(n:Nat)(m:Nat)(xs:LD)(r:D×LD),aAl P X g n m xs=some r->jZ E B Tb m xs r.1 r.2
 |0,m,xs,r,h=>by have h:none=some r:=h;simp at h
 |n+1,m,xs,r,h=>by
  have h:aEh (fnG (λF=>bif Nat.beq xs.length F.np then aAk (goT (aAl P X g n) (Kg (aAl P X g n) F g) (F.main xs))else none) (P.look m)) (X m xs)=some r:=h;have u:=aCJ f j g n;cases hx:X m xs with
  |some y=>rw[hx]at h;simp only[aEh,Option.some.injEq]at h;subst h;exact j m xs y hx
  |none=>
   rw[hx]at h;simp only[aEh]at h;cases c:P.look m with
   |none=>rw[c]at h;simp[fnG]at h
   |some F=>
    rw[c]at h;simp only[fnG]at h;obtain⟨d,rfl,l,hf⟩:=f m F c;cases e:Nat.beq xs.length d.F.np with
    |false=>rw[e]at h;simp at h
    |true=>
     rw[e]at h;simp only[cond_true]at h;cases hg:goT (aAl P X g n) (Kg (aAl P X g n) d.F g) (d.F.main xs)with
     |none=>rw[hg]at h;simp[aAk]at h
     |some lf=>
      rw[hg]at h;cases lf with
      |again s=>simp[aAk]at h
      |out t=>simp[aAk]at h
      |ret x bs=>simp only[aAk,Option.some.injEq]at h;subst h;exact bE l hf (aEi e) (Pw u (λb ps o v=>d8 l u g b ps o v) _ hg)
def Zj(E:fM)(B:mA)(Tb:BT lJ):BT Fn->Prop
 |.nil=>True
 |.node m F l r=>(∃d,d.F=F/\CR E B Tb m d/\d.h.fork=false)/\Zj E B Tb l/\Zj E B Tb r
theorem TS:∀{P:BT Fn},Zj E B Tb P->d9 E B Tb P
 |.nil,_,m,F,h=>by simp[BT.look]at h
 |.node k F l r,⟨f,g,j⟩,m,d,h=>by
  simp only[BT.look]at h;cases c:Nat.beq m k with
  |true=>rw[c]at h;simp only[cond_true,Option.some.injEq]at h;subst h;rw[Nat.eq_of_beq_eq_true c];exact f
  |false=>
   rw[c]at h;simp only[cond_false]at h;cases e:Nat.ble m k with
   |true=>rw[e]at h;exact TS g m d h
   |false=>rw[e]at h;exact TS j m d h
end
@[simp] theorem aEj(a b:Int):cX a b=decide (a<=b):=by rw[Bool.eq_iff_iff];simp only[fN,decide_eq_true_eq]
@[simp] theorem aHz(a b:Int):aT a b=decide (a<b):=by rw[Bool.eq_iff_iff];simp only[aT,aEj,Bool.not_eq_true',decide_eq_false_iff_not,decide_eq_true_eq];omega
@[simp] theorem aHA(a b:Int):aD a b=decide (a=b):=by rw[ZX,Bool.eq_iff_iff];simp
@[simp] theorem aFW(k:Int)(n:Nat):aA k n=decide (0<=k/\k<n):=by simp[aA]
theorem wA{n:Int}(c:-9223372036854775808<=n)(d:n<=9223372036854775807):bD .i64 n=n:=by simp[bD,VH,VI,c,d]
@[simp] theorem rO(x:D)(l:LD):gD (x::l) 0=x:=rfl
@[simp] theorem sY(x:D)(l:LD)(n:Nat):gD (x::l) (n+1)=gD l n:=by simp[gD]
@[simp] theorem aIM(l:LD)(n:Nat):gI l n=(gD l n).toI:=rfl
@[simp] theorem aIN(l:LD)(n:Nat):gB l n=(gD l n).toB:=rfl
@[simp] theorem aIO(l:LD)(n:Nat):gS l n=(gD l n).toS:=rfl
@[simp] theorem aIP(l:LD)(n:Nat):gL l n=(gD l n).els:=rfl
@[simp] theorem aIQ(l:LD)(n:Nat):gN l n=(gD l n).toI.toNat:=rfl
@[simp] theorem lB(n:Int):(D.i n).toI=n:=rfl
@[simp] theorem lR(b:Bool):(D.b b).toB=b:=rfl
@[simp] theorem aIx(s:List UInt8):(D.s s).toS=s:=rfl
@[simp] theorem mC(l:LD):(D.l l).els=l:=rfl
@[simp] theorem kP(l:LD)(n:Nat):(D.l l).fld n=gD l n:=rfl
section
variable{σ τ:Type}{C:Nat->LD->D->LD->Prop}{L:Nat->σ->Nat->LD->Prop}{lf:Lf σ τ}{p q:IX σ τ}
theorem aC{b:Bool}(c:b=true)(h:Ev C L p lf):Ev C L (.ask b p q) lf:=by simp only[Ev];exact .inl ⟨c,h⟩
theorem aM{b:Bool}(c:b=false)(h:Ev C L q lf):Ev C L (.ask b p q) lf:=by simp only[Ev];exact .inr ⟨c,h⟩
theorem aG0{b:Bool}(d:b=true->Ev C L p lf)(c:b=false->Ev C L q lf):Ev C L (.ask b p q) lf:=by
 cases b with
 |true=>exact aC rfl (d rfl)
 |false=>exact aM rfl (c rfl)
theorem bW{m nb:Nat}{xs:LD}{k:D->LD->IX σ τ}{x:D}{bs:LD}(c:C m xs x bs)(d:bs.length=nb)(e:Ev C L (k x bs) lf):Ev C L (.call m xs nb k) lf:=by simp only[Ev];exact⟨x,bs,c,d,e⟩
theorem aO{b:Nat}{s:σ}{ks:Ts σ τ}{i:Nat}{ds:LD}(c:L b s i ds)(d:Nl C L ks i ds lf):Ev C L (.loop b s ks) lf:=by simp only[Ev];exact⟨i,ds,c,d⟩
theorem bB{k:LD->IX σ τ}{ks:Ts σ τ}{ds:LD}(h:Ev C L (k ds) lf):Nl C L (.cons k ks) 0 ds lf:=by simpa only[Nl]using h
theorem fD{k:LD->IX σ τ}{ks:Ts σ τ}{i:Nat}{ds:LD}(h:Nl C L ks i ds lf):Nl C L (.cons k ks) (i+1) ds lf:=by simpa only[Nl]using h
theorem bM{x c:D}{bs cs:LD}(d:c=x)(e:cs=bs):Ev C L (.ret x bs:IX σ τ) (.ret c cs):=by subst d;subst e;simp only[Ev]
theorem aP{s t:σ}(h:t=s):Ev C L (.again s:IX σ τ) (.again t):=by subst h;simp only[Ev]
theorem bG{s t:τ}(h:t=s):Ev C L (.out s:IX σ τ) (.out t):=by subst h;simp only[Ev]
end
section
variable{E:fM}{B:mA}{Tb:BT lJ}{d:FD}
def dW:Nat->(Nat->Bool)->Bool
 |0,_=>false
 |n+1,P=>dW n P||P n
theorem bU{n:Nat}{P:Nat->Bool}:dW n P=false<->∀j,j<n->P j=false:=by
 induction n with
 |zero=>simp[dW]
 |succ n g=>
  simp only[dW,Bool.or_eq_false_iff,g];constructor
  ·rintro⟨c,d⟩ j f;by_cases e:j=n
   ·rw[e];exact d
   ·exact c j (by omega)
  ·intro h;exact⟨λj f=>h j (by omega),h n (by omega)⟩
theorem rP{n:Nat}{P:Nat->Bool}(h:dW n P=true):∃j,j<n/\P j=true/\∀i,i<j->P i=false:=by
 induction n with
 |zero=>simp[dW]at h
 |succ n f=>
  cases c:dW n P with
  |true=>obtain⟨j,g,d⟩:=f c;exact⟨j,by omega,d⟩
  |false=>simp only[dW,c,Bool.false_or]at h;exact⟨n,by omega,h,λi e=>bU.1 c i e⟩
theorem aEk{m:Nat}(e:CR E B Tb m d){b:Nat}(f:Nat->LD)(n:Nat)(P:Nat->Bool){i0 i1:Nat}{d0 d1:LD}
  (g:∀j,j<n->P j=false->sW E B Tb d (d.F.lp b (f j)) (.again (f (j+1))))(u:∀j,j<n->P j=true->sW E B Tb d (d.F.lp b (f j)) (.out (i0,d0)))(t:sW E B Tb d (d.F.lp b (f n)) (.out (i1,d1))):
  RG E B Tb d b (f 0) (bif dW n P then i0 else i1) (bif dW n P then d0 else d1):=by
 cases h:dW n P with
 |true=>obtain⟨j,l,r,s⟩:=rP h;exact dF e f j (λk c=>g k (by omega) (s k c)) (u j l r)
 |false=>exact dF e f n (λk c=>g k c (bU.1 h k c)) t
end
theorem Uj{P:Program}{E:fM}{B:mA}{Tb:BT lJ}{m:Nat}{s:FY}(l:∀k N n,NM P (yM E k Tb N) (rN (yM E k Tb N) B (Hb E) k n) m s)(r:s.rs=[.val false [.bool]]){xs:LD}{q:Bool}(f:jZ E B Tb m xs (.b q) [])
  {w:World}{vs:List Value}(j:vs.length=s.ps.length)
  (u:∃vL,fE E 0 s.ps xs Ji=some vL/\vL.bx=[]/\vL.ar=[]/\∀t v,vs[t]?=some v->dO w (Gh.top w) vL (vL.sl.get t) v):
  Calls P s.fn ⟨vs⟩ w (λe w'=>e=.returned (.bool q)/\Go.RowKit.Below w.heap.size w w'):=by
 obtain⟨N,g⟩:=f;obtain⟨vL,c,d⟩:=u;refine x9 (l N N N) r (g N N N (Nat.le_refl _) (Nat.le_refl _) (Nat.le_refl _)) j λst h=>?_;rw[Jt,c]at h;injection h with h;subst h;exact d
end Go.Eng
