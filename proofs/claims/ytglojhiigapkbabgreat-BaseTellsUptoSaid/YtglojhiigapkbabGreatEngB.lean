/- Part 2 of the proof: the evaluator's operations are sound. -/
import Derived.Test.YtglojhiigapkbabGreatEngA
import Derived.MapKept
set_option linter.unusedSimpArgs false
set_option linter.unusedVariables false
namespace Go.Eng
structure BW(w:World)(k:Nat)(ad:Option Addr)(n0 m:Nat)(news:List Value)(nv:Value)(w':World)(b' o' c':Nat):Prop where
 nv:nv=.slice (some ⟨b',o',none⟩) (n0+m) c'
 row:∃cs' e0',w'.heap[b']?=some (.cells cs' e0' (0,0))/\o'+c'*k<=cs'.size/\(∀q,q<n0*k->∀a0,ad=some a0->cs'[o'+q]?=w.cell? ⟨a0.block,a0.off+q,none⟩)/\∀q,q<m*k->cs'[o'+n0*k+q]?=news[q]?
 le:n0+m<=c'
 max:c'<=maxLen
 os:w'.os=w.os/\w'.tape=w.tape/\w'.output=w.output/\w.heap.size<=w'.heap.size
 other:∀b,b<w.heap.size->b≠b'->w'.heap[b]?=w.heap[b]?
 place:(b'=w.heap.size/\b'<w'.heap.size)\/(∃a0,ad=some a0/\b'=a0.block/\w'.heap.size=w.heap.size)
section
variable{P:Program}(w:World)
theorem WN{t ty e:TypeId}{i:TypeInfo}(ht:P.underlying t=some (.slice e))(F:P.info? e=some i){b o n0 c m cy:Nat}{a:Option Addr}{news:List Value}{cs:Array Value}{d:TypeId}
  (h:w.heap[b]?=some (.cells cs d (0,0)))(L:o+c*i.size<=cs.size)(H:c<=maxLen)(y:a=none->m=0)(r:news.length=m*i.size)(J:∀a0,a=some a0->∀j u,news[j]?=some u->w.cell? (a0.add j)=some u)
  (v:∀u∈news,u.oneCell'=true)(l:n0+m<=c):
  ∃nv w',(Builtin.append_ #[t,t] ty #[.slice (some ⟨b,o,none⟩) n0 c,.slice a m cy]).run P w=.ok nv w'/\BW w i.size (some ⟨b,o,none⟩) n0 m news nv w' b o c:=by
 have G:(n0+m)*i.size<=c*i.size:=Nat.mul_le_mul_right _ l;rw[Nat.add_mul]at G;have f:o+n0*i.size+news.length<=cs.toList.length:=by simp;omega
 have s:=run_storeCells_at (P:=P) b (o+n0*i.size) d news 0 cs w h (by simpa using f) v;simp only[Nat.add_zero]at s;have hf:(Builtin.firstCells i.size m (.slice a m cy)).run P w=.ok news.toArray w:=by
  cases a with
  |none=>have:=y rfl;subst this;have:news=[]:=List.eq_nil_of_length_eq_zero (by simpa using r);subst this;simp[Builtin.firstCells]
  |some a0=>exact run_firstCells_some (P:=P) w i.size m a0 m cy news r (J a0 rfl)
 refine⟨.slice (some ⟨b,o,none⟩) (n0+m) c,w.setRow b (qM cs.toList (o+n0*i.size) news).toArray,?_,?_⟩
 ·simp[Builtin.append_,run_underlying ht,sizeOf,typeInfo,F,Builtin.lenOf,l,hf,kE,s,qM]
 ·refine⟨rfl,⟨_,d,setRow_heap w b cs _ d (0,0) h,?_,λq K a0 g=>?_,λq K=>?_⟩,l,H,⟨rfl,rfl,rfl,by simp⟩,λb' _ C=>setRow_other w b b' _ C,.inr ⟨_,rfl,rfl,by simp⟩⟩
  ·show _<=(qM cs.toList (o+n0*i.size) news).length;rw[vA f];simpa using L
  ·injection g with g;subst g;simp only[List.getElem?_toArray,vY f];rw[if_neg (by omega)];simp[World.cell?,h]
  ·simp only[List.getElem?_toArray,vY f];rw[if_pos (by omega)];congr 1;omega
theorem Dq{t ty e:TypeId}{i:TypeInfo}{z:Value}(ht:P.underlying t=some (.slice e))(v:P.info? e=some i)(G:i.zero=some z)(W:z.cells.size=i.size){ad:Option Addr}{n0 c m cy:Nat}{a:Addr}{news olds:List Value}
  (H:ad=none->n0=0/\c=0)(d:olds.length=n0*i.size)(NH:∀a0,ad=some a0->∀j u,olds[j]?=some u->w.cell? (a0.add j)=some u)(V:∀a0,ad=some a0->a0.spot=none)
  (h:news.length=m*i.size)(y:∀j u,news[j]?=some u->w.cell? (a.add j)=some u)(C:c<n0+m)(Y:n0+m<=281474976710656)(s:(n0+m)*i.bytes<=140737488355328):
  ∃nv w' c',(Builtin.append_ #[t,t] ty #[.slice ad n0 c,.slice (some a) m cy]).run P w=.ok nv w'/\BW w i.size ad n0 m news nv w' w.heap.size 0 c':=by
 have Q:=grownCap_ge w (n0+m) c e;have L:grownCap w (n0+m) c e<=maxLen:=grownCap_le_maxLen w (n0+m) c e (by unfold maxLen;omega);have key:∀g:Array Value,g=olds.toArray++news.toArray++Builtin.zeroCells z.cells (grownCap w (n0+m) c e-(n0+m))->
   BW w i.size ad n0 m news (.slice (some ⟨w.heap.size,0,none⟩) (n0+m) (grownCap w (n0+m) c e)) (w.drew.alloc (.cells g e)) w.heap.size 0 (grownCap w (n0+m) c e):=by
  intro g K;subst K;refine⟨rfl,⟨_,e,heap_alloc_new w.drew _,?_,λq U a0 r=>?_,λq U=>?_⟩,Q,L,⟨rfl,rfl,rfl,by simp⟩,λb J _=>heap_alloc_old w.drew _ b J,.inl ⟨rfl,by simp⟩⟩
  ·simp only[Array.size_append,List.size_toArray,size_zeroCells,W,d,h,<-Nat.add_mul,Nat.zero_add];exact Nat.mul_le_mul_right _ (by omega)
  ·have f:q<olds.length:=by omega
   rw[Nat.zero_add,Array.append_assoc,Array.getElem?_append_left (by simpa using f)];have:=NH a0 r q olds[q] (by simp[f]);obtain⟨b0,a1,a2⟩:=a0;have F:=V _ r;simp only at F;subst F;rw[kE]at this;simp[f,this]
  ·have f:q<news.length:=by omega
   rw[Nat.zero_add,<-d,Array.append_assoc,Array.getElem?_append_right (by simp),Array.getElem?_append_left (by simp;omega)];simp
 cases ad with
 |none=>obtain⟨rfl,rfl⟩:=H rfl;have T:olds=[]:=List.eq_nil_of_length_eq_zero (by simpa using d);subst T;have l:=run_append_nil (P:=P) w t ty e i z ht v G a m cy news h y (by omega) (by omega) (by simp only[Nat.zero_add]at s;omega);refine⟨_,_,grownCap w (0+m) 0 e,?_,key _ rfl⟩;simpa using l
 |some b=>have l:=run_append_grow (P:=P) w t ty e i z ht v G b n0 c olds d (NH b rfl) a m cy news h y C (by omega) (growslice_fits C s);exact⟨_,_,_,l,key _ rfl⟩
end
section
variable{P:Program}{w w':World}{G G':Gh}{st:St}{sl:Nat->Option Value}
theorem Pd{el:List LT}{yv:Value}{ys:LD}(h:MZ w G el yv ys):∃(a:Option Addr)(m cy:Nat)(news:List Value),yv=.slice a m cy/\ys.length=m/\(a=none->m=0)/\(∀ad,a=some ad->0<m->ad.spot=none)/\news.length=m*el.length/\
  (0<m->∀a0,a=some a0->∀j u,news[j]?=some u->w.cell? (a0.add j)=some u)/\(∀u∈news,u.oneCell'=true)/\
  ∀i,i<m->∀(j:Nat)(t:LT),el[j]?=some t->sA t=false/\∃v,news[i*el.length+j]?=some v/\yQ w (λb=>G.own b=.fz) t v (lf el.length (ys.getD i (.i 0)) j):=by
 obtain⟨a,m,cy,F,H,P,U⟩:=h.ex;cases a with
 |none=>have:=P rfl;subst this;exact⟨none,0,cy,[],F,H,λ_=>rfl,by simp,by simp,by simp,by simp,λi g=>by omega⟩
 |some ad=>
  by_cases Y:0<m
  ·obtain⟨K,L⟩:=U ad rfl Y;obtain⟨b,o,a5⟩:=ad;simp only at K;subst K;let f:Nat->Value:=λq=>(w.cell? ⟨b,o+q,none⟩).getD undef
   have l:∀q,q<m*el.length->∃v,w.cell? ⟨b,o+q,none⟩=some v/\v.oneCell'=true:=λq l=>by
    have V:0<el.length:=Nat.pos_of_ne_zero (λh=>by rw[h]at l;simp at l);have g:q/el.length<m:=Nat.div_lt_of_lt_mul (by rw[Nat.mul_comm];exact l);have Q:q%el.length<el.length:=Nat.mod_lt _ V;obtain⟨_,v,c,y,_⟩:=L _ g (q%el.length) el[q%el.length] (by simp[Q]);refine⟨v,?_,y⟩;have e:=Nat.div_add_mod q el.length;rw[Nat.mul_comm]at e;have T:o+q/el.length*el.length+q%el.length=o+q:=by omega
    simp only[T]at c;exact c
   refine⟨some ⟨b,o,none⟩,m,cy,(List.range (m*el.length)).map f,F,H,P,λa4 C _=>by injection C with C;subst C;rfl,by simp,λ_ a0 J j u d=>?_,λu d=>?_,λi g j t ht=>?_⟩
   ·injection J with J;subst J;rw[List.getElem?_map]at d;cases r:(List.range (m*el.length))[j]?with
    |none=>simp[r]at d
    |some q=>have s:=(List.getElem?_eq_some_iff.1 r).1;simp only[List.length_range]at s;rw[List.getElem?_range s]at r;injection r with r;subst r;obtain⟨v,c,_⟩:=l j s;simp[List.getElem?_range s,f,c]at d;rw[kE,c,d]
   ·simp only[List.mem_map,List.mem_range]at d;obtain⟨q,a1,rfl⟩:=d;obtain⟨v,c,y⟩:=l q a1;simpa[f,c]using y
   ·obtain⟨a2,v,c,y,a3⟩:=L i g j t ht;have Q:j<el.length:=(List.getElem?_eq_some_iff.1 ht).1;have W:i*el.length+j<m*el.length:=by
     have:(i+1)*el.length<=m*el.length:=Nat.mul_le_mul_right _ g;rw[Nat.add_mul,Nat.one_mul]at this;omega
    refine⟨a2,v,?_,a3⟩;simp only[<-Nat.add_assoc]at c;simp[List.getElem?_map,List.getElem?_range W,f,<-Nat.add_assoc,c]
  ·have:m=0:=by omega
   subst this;exact⟨some ad,0,cy,[],F,H,λ_=>rfl,λ_ _ h=>by omega,by simp,by simp,by simp,λi g=>by omega⟩
def Gh.app(G:Gh)(r:Nat)(p:cQ)(d b':Nat)(nv:Value):Gh:=(G.ren r p d 0 nv).tag b' (.arr d [])
theorem Ab(l:dI w G st sl){r d:Nat}{p:cQ}{e:TypeId}{el:List LT}{ad:Option Addr}{n c n0 m b' o' c' k:Nat}{data:LD}{news:List Value}{nv:Value}
  (L:yV w G [] r e el p (.slice ad n c) data)(j:BW w k ad n0 m news nv w' b' o' c'):
  (∀b,G.own b≠.out->G.own b≠.arr r p->w'.heap[b]?=w.heap[b]?/\(G.app r p d b' nv).own b=(G.ren r p d 0 nv).own b)/\(∀b,(G.app r p d b' nv).own b=(G.ren r p d 0 nv).own b\/G.own b=.out)/\
  (∀b,b<w.heap.size->(G.own b=.out\/G.own b=.fz)->w'.heap[b]?=w.heap[b]?/\(G.app r p d b' nv).own b=G.own b)/\(∀b,(G.app r p d b' nv).own b≠.out->b<w'.heap.size):=by
 have s:(b'=w.heap.size/\b'<w'.heap.size)\/(G.own b'=.arr r p/\b'<w'.heap.size):=by
  rcases j.place with h |⟨a0,g,f,H⟩
  ·exact .inl h
  ·right;obtain⟨Q,n',T,v,W,Y,a1,a2,P⟩:=L;injection v with v;subst v;obtain⟨_,C,cs,U,F,_⟩:=P a0 g;rw[f];exact⟨C,by rw[H];exact(Array.getElem?_eq_some_iff.1 F).1⟩
 have u:∀b,b<w.heap.size->G.own b≠.arr r p->b≠b':=λb V y e=>by
  rcases s with h |h
  ·omega
  ·rw[e]at y;exact y h.1
 refine⟨λb g f=>?_,λb=>?_,λb g f=>?_,λb h=>?_⟩
 ·have t:=l.live b g;exact⟨j.other b t (u b t f),by simp[Gh.app,Gh.tag,u b t f]⟩
 ·by_cases h:b=b'
  ·subst h;rcases s with h |h
   ·right;cases K:G.own b with
    |out=>rfl
    |_=>have:=l.live b (by rw[K];simp);omega
   ·left;simp only[Gh.app,Gh.tag,if_true];exact(Sn b h.1).symm
  ·left;simp[Gh.app,Gh.tag,h]
 ·have:=u b g (by rcases f with f |f<;>rw[f]<;>simp);refine⟨j.other b g this,?_⟩;simp only[Gh.app,Gh.tag,this,if_false];exact CQ b (by rcases f with f |f<;>rw[f]<;>simp)
 ·simp only[Gh.app,Gh.tag]at h;split at h
  ·rename_i J;rw[J];rcases s with h |h<;>exact h.2
  ·have:=l.live b (X3 b h);have:=j.os.2.2.2;omega
theorem WP(a3:dI w G st sl){r d:Nat}{p:cQ}{e e1:TypeId}{el:List LT}{ad:Option Addr}{n c n0 m b' o' c':Nat}{data ys:LD}{news:List Value}{nv:Value}
  (L:yV w G [] r e el p (.slice ad n c) data)(e2:n0<=n)(h:BW w el.length ad n0 m news nv w' b' o' c')(b1:ys.length=m)
  (a9:∀i,i<m->∀(j:Nat)(t:LT),el[j]?=some t->sA t=false/\∃v,news[i*el.length+j]?=some v/\yQ w (λb=>G.own b=.fz) t v (lf el.length (ys.getD i (.i 0)) j)):
  yV w' (G.app r p d b' nv) [] d e1 el [] nv (data.take n0++ys):=by
 obtain⟨Q,c9,d0,d1⟩:=Ab (d:=d) a3 L h;obtain⟨c5,c6,P,c0,c1,c2⟩:=h.row;have e0:data.length=n:=by obtain⟨_,_,_,F,b5,_⟩:=L;injection F with _ F;omega
 have Y:∀b,G.own b=.fz->(G.app r p d b' nv).own b=.fz/\w'.heap[b]?=w.heap[b]?:=λb g=>by obtain⟨u,y⟩:=Q b (by rw[g];simp) (by rw[g];simp);exact⟨by rw[y,CQ b (by rw[g];simp),g],u⟩
 have a4:=Il (w':=w') (G':=G.app r p d b' nv) (d:=d) (e1:=e1) (l:=0) (n':=n0) (c':=c') (b':=b') (o':=o') (data':=data.take n0) L (by simp;omega) (by omega)
  (λi K=>by simp[List.getD,List.getElem?_take,K]) (by have:=h.le;omega) h.max P (by simp[Gh.app,Gh.tag]) c0
  (λb o e6 c4 hv q b0=>by injection hv with hv;have:=c1 q b0 _ hv;simpa using this) Y
  (λi j s K=>⟨by simp[Gh.app,Gh.tag,Gh.ren],λb g=>by
   have a7:G.own b≠.arr r p:=λe=>by rw[g]at e;injection e with _ e;have:=congrArg List.length e;simp at this
   obtain⟨u,y⟩:=Q b (by rw[g];simp) a7;exact⟨by rw[y];exact J0 b g,u⟩⟩)
 obtain⟨_,_,_,F,b5,e3,e4,e5,b6⟩:=a4;injection F with b2 b3 b4;subst b2;subst b3;subst b4;obtain⟨d2,T,a0,a1,f,U,V⟩:=b6 _ rfl;simp only at T f U V;refine⟨_,_,_,h.nv,by simp[b1];omega,h.le,h.max,by simp,λc3 J=>?_⟩;injection J with J;subst J;refine⟨rfl,T,a0,a1,f,U,λi K=>?_⟩;by_cases a5:i<n0
 ·have H:(data.take n0++ys).getD i (.i 0)=(data.take n0).getD i (.i 0):=by
   simp only[List.getD];rw[List.getElem?_append_left (by simp;omega)]
  rw[H];exact V i a5
 ·have H:(data.take n0++ys).getD i (.i 0)=ys.getD (i-n0) (.i 0):=by
   simp only[List.getD];rw[List.getElem?_append_right (by simp;omega)];congr 2;simp;omega
  rw[H];refine JO el 0 (λj t ht=>?_);obtain⟨u,v,y,a2⟩:=a9 (i-n0) (by omega) j t ht;have d3:j<el.length:=(List.getElem?_eq_some_iff.1 ht).1;rw[P]at f;injection f with f;injection f with f;subst f;have a6:(i-n0)*el.length+j<m*el.length:=by have:(i-n0+1)*el.length<=m*el.length:=Nat.mul_le_mul_right _ (by omega);rw[Nat.add_mul,Nat.one_mul]at this;omega
  have W:=c2 _ a6;rw[y]at W;have c7:n0*el.length+(i-n0)*el.length=i*el.length:=by rw[<-Nat.add_mul];congr 1;omega
  refine⟨v,?_,?_⟩
  ·simp only[World.cell?,P,Nat.zero_add];rw[<-W];simp;congr 1;omega
  ·rw[Nat.zero_add];have C:=dA Y t v _ a2;cases t with
   |int k=>exact C
   |bool=>exact C
   |str=>exact C
   |sl b7 e c8=>
    cases b7 with
    |false=>exact C
    |true=>simp[sA]at u
end
section
variable{P:Program}{w w':World}{G G':Gh}{st:St}{sl:Nat->Option Value}
theorem JR(b7:dI w G st sl){t ty e:TypeId}{i:TypeInfo}{z:Value}{k:Nat}(ht:P.underlying t=some (.slice e))(l:P.info? e=some i)(U:i.zero=some z)(V:z.cells.size=i.size)(a3:i.size=k)
  {r:Nat}{p:cQ}{e1:TypeId}{el:List LT}{ad:Option Addr}{n c n0 m cy:Nat}{data:LD}{a:Option Addr}{news:List Value}(a6:yV w G [] r e1 el p (.slice ad n c) data)(H:el.length=k)(c1:n0<=n)
  (F:a=none->m=0)(s:news.length=m*k)(J:0<m->∀a0,a=some a0->∀j u,news[j]?=some u->w.cell? (a0.add j)=some u)(K:∀u∈news,u.oneCell'=true)
  (L:n0+m<=281474976710656)(Q:(n0+m)*i.bytes<=140737488355328):
  (ad=none/\m=0/\n0=0/\(Builtin.append_ #[t,t] ty #[.slice ad n0 c,.slice a m cy]).run P w=.ok (.slice none 0 0) w)\/
  ∃nv w' b' o' c',(Builtin.append_ #[t,t] ty #[.slice ad n0 c,.slice a m cy]).run P w=.ok nv w'/\BW w k ad n0 m news nv w' b' o' c':=by
 obtain⟨_,_,_,a7,c2,c3,W,b2,b3⟩:=a6;injection a7 with a9 b0 b1;subst a9;subst b0;subst b1;subst a3;cases ad with
 |none=>
  have a2:=b2 rfl;have a4:n0=0:=by omega
  subst a2;subst a4;by_cases v:m=0
  ·subst v;left;refine⟨rfl,rfl,rfl,?_⟩;cases a<;>simp[Builtin.append_,run_underlying ht,sizeOf,typeInfo,l,Builtin.lenOf,Builtin.firstCells,loadCells,loadCellsFrom]
  ·right;cases a with
   |none=>exact absurd (F rfl) v
   |some a0=>obtain⟨nv,w',c',f,g⟩:=Dq (P:=P) w (ty:=ty) (cy:=cy) (olds:=[]) ht l U V (ad:=none) (n0:=0) (c:=0) (λ_=>⟨rfl,rfl⟩) (by simp) (by simp) (by simp) s (J (by omega) a0 rfl) (by omega) L Q;exact⟨nv,w',_,_,c',f,g⟩
 |some a1=>
  right;obtain⟨Y,b4,cs,b6,y,C,b5⟩:=b3 a1 rfl;obtain⟨b,o,c4⟩:=a1;simp only at Y;subst Y;simp only at b4 y C b5;by_cases T:n0+m<=c
  ·by_cases v:0<m
   ·obtain⟨nv,w',f,g⟩:=WN (P:=P) w (ty:=ty) (cy:=cy) ht l y (by rw[<-H];exact C) W F s (J v) K T;exact⟨nv,w',_,_,_,f,g⟩
   ·have:m=0:=by omega
    subst this;have a5:news=[]:=List.eq_nil_of_length_eq_zero (by simpa using s);obtain⟨nv,w',f,g⟩:=WN (P:=P) w (ty:=ty) (cy:=cy) (a:=a) ht l y (by rw[<-H];exact C) W (λ_=>rfl) s (λa0 _ j u d=>by rw[a5]at d;simp at d) K T;exact⟨nv,w',_,_,_,f,g⟩
  ·cases a with
   |none=>have:=F rfl;omega
   |some a0=>
    have c0:o+n0*i.size<=cs.size:=by have:n0*i.size<=c*i.size:=Nat.mul_le_mul_right _ (by omega);rw[H]at C;omega
    obtain⟨nv,w',c',f,g⟩:=Dq (P:=P) w (ty:=ty) (cy:=cy) (olds:=(cs.toList.drop o).take (n0*i.size)) ht l U V (ad:=some ⟨b,o,none⟩) (n0:=n0) (c:=c) (by simp)
     (by simp;omega) (λa' h j u d=>by
      injection h with h;subst h;rw[List.getElem?_take]at d;split at d
      ·rw[List.getElem?_drop]at d;rw[kE];simp[World.cell?,y];simpa using d
      ·simp at d) (λa' h=>by injection h with h;subst h;rfl) s (J (by omega) a0 rfl) (by omega) L Q
    exact⟨nv,w',_,_,c',f,g⟩
theorem Xn(y:dI w G st sl){r u d:Nat}{p:cQ}{e e1:TypeId}{el:List LT}{ad:Option Addr}{n c n0 m b' o' c':Nat}{data ys:LD}{news:List Value}{nv:Value}{a:yN}{s1:St}
  (Q:lP st r u p a)(Y:a.stale=[])(U:ZH a.el a.data p)(h:LP st d r p=some s1)
  (W:yV w G [] r e el p (.slice ad n c) data)(f:BW w el.length ad n0 m news nv w' b' o' c')(V:yV w' (G.app r p d b' nv) [] d e1 el [] nv ys):
  Fr w G w' (G.app r p d b' nv)/\Le w G st w' (G.app r p d b' nv) (s1.newArr d e1 el ys)/\dI w' (G.app r p d b' nv) (s1.newArr d e1 el ys) sl:=by
 obtain⟨C,H,J,K⟩:=Ab (d:=d) y W f;obtain⟨a2,a3⟩:=EC y (w':=w') (G':=G.app r p d b' nv) (v:=nv) (l:=0) Q Y U h H (λa4 g s=>by simp[Gh.app,Gh.tag,Gh.ren,g]) (λb g t=>(C b g t).1);have F:∀b T,G.own b=T->T≠.out->(∀r p,T≠.arr r p)->(G.app r p d b' nv).own b=T/\w'.heap[b]?=w.heap[b]?:=λb T j g t=>by subst j;obtain⟨L,P⟩:=C b g (t r p);exact⟨by rw[P,CQ b t],L⟩
 obtain⟨a0,a1⟩:=iP y (d:=d) (e:=e1) (el:=el) (data:=ys) a2 a3 (λb j=>F b .box j (by simp) (by simp)) (λ_=>rfl) (λb j=>F b .fz j (by simp) (by simp))
  (by
   have:(G.app r p d b' nv).H d []=nv:=by simp[Gh.app,Gh.tag,Gh.ren]
   rw[this];exact V) K (GE y ⟨_,_,_,f.nv⟩)
 exact⟨⟨f.os.1,f.os.2.1,f.os.2.2.1,f.os.2.2.2,J,λ_ _ _=>rfl⟩,a0,a1⟩
theorem GF(f:dI w G st sl){t ty:TypeId}{ti H:TI}(b5:lW P t ti)(b6:lW P ti.e H)(c4:ti.sl=true){r u d:Nat}{p:cQ}{e e1:TypeId}{el:List LT}{ad:Option Addr}{n c n0:Nat}{data ys:LD}{yv:Value}{a:yN}{s1 F:St}
  (Q:lP st r u p a)(W:a.stale=[])(U:ZH a.el a.data p)(h:LP st d r p=some s1)(y:yV w G [] r e el p (.slice ad n c) data)(V:n0<=n)
  (c6:MZ w G el yv ys)(T:yP s1 d e1 H el (data.take n0) (.flat ys)=some F):
  ∃nv w' G',(Builtin.append_ #[t,t] ty #[.slice ad n0 c,yv]).run P w=.ok nv w'/\Fr w G w' G'/\Le w G st w' G' (F.view d)/\dI w' G' (F.view d) (yY sl d nv):=by
 simp only[yP]at T;obtain⟨g,L⟩:=aW T;simp[ok]at L;subst L;simp only[Bool.and_eq_true]at g;obtain⟨a0,a1⟩:=PX g.1;have b7:=Nat.eq_of_beq_eq_true g.2;obtain⟨i0,a2,d1,d2⟩:=b5.sl c4;obtain⟨d0,i,z,d3,a7,K,a9,b0,b1,e0,e2⟩:=b6.ex;have c8:z.cells.size=i.size:=by
  have:z.cells.toList.length=H.lv.length:=by rw[b1];simp
  rw[K];simpa using this
 have e3:data.length=n:=by obtain⟨_,_,_,C,Y,_⟩:=y;injection C with _ C;omega
 have c5:(data.take n0).length=n0:=by simp;omega
 obtain⟨e5,m,cy,news,y1,y2,y3,y4,y5,y6,y7,y8⟩:=Pd c6;subst y1;rw[c5,y2]at a0 a1;have b2:∀b' nv,(G.app r p d b' nv).H d []=nv:=λb' nv=>by simp[Gh.app,Gh.tag,Gh.ren]
 rcases JR (P:=P) f (ty:=ty) (cy:=cy) a2 a7 b0 c8 (K.trans b7.symm) y rfl V y3 y5 y6 y7 a0 (by rw[a9];exact a1)with⟨q1,q2,q3,q4⟩ |⟨nv,w',b',o',c',q1,q2⟩
 ·subst q2;subst q3;have c7:ys=[]:=List.eq_nil_of_length_eq_zero y2;subst c7;obtain⟨a3,a4,a5,a6⟩:=DG f (r:=r) (d:=d) (l:=0) (p:=p) (v:=.slice none 0 0);obtain⟨c1,c2⟩:=EC f (w':=w) (G':=G.ren r p d 0 (.slice none 0 0)) (v:=.slice none 0 0) (l:=0) Q W U h (λb=>.inl rfl) (λe4 g s=>by simp[Gh.ren,g]) (λ_ _ _=>rfl);obtain⟨b3,b4⟩:=iP f (d:=d) (e:=e1) (el:=el) (data:=[]) c1 c2 a3 (λ_=>rfl) a4 ⟨none,0,0,by simp[Gh.ren],rfl,Nat.le_refl _,Nat.zero_le _,λ_=>rfl,by simp⟩ a5 (GE f ⟨_,_,_,rfl⟩);obtain⟨j,J⟩:=b4.view (jO (stg:=s1) (d:=d) (e:=e1) (el:=el) (data:=[]));have c0:(G.ren r p d 0 (.slice none 0 0)).H d []=.slice none 0 0:=by simp[Gh.ren]
  rw[c0]at j;refine⟨_,w,_,q4,a6,?_,?_⟩
  ·simpa using b3.trans J
  ·simpa using j
 ·have c3:=WP (d:=d) (e1:=e1) f y V q2 y2 y8;obtain⟨C,Y,c9⟩:=Xn f Q W U h y q2 c3;obtain⟨j,J⟩:=c9.view (jO (stg:=s1) (d:=d) (e:=e1) (el:=el) (data:=data.take n0++ys));rw[b2]at j;exact⟨nv,w',_,q1,C,Y.trans J,j⟩
theorem Io(j:dI w G st sl){d:Nat}{e1:TypeId}{el:List LT}{m b' o' c':Nat}{ys:LD}{news:List Value}{nv:Value}
  (f:BW w el.length none 0 m news nv w' b' o' c')(K:yV w' (G.app d [] d b' nv) [] d e1 el [] nv ys):
  Fr w G w' (G.app d [] d b' nv)/\Le w G st w' (G.app d [] d b' nv) (st.newArr d e1 el ys)/\dI w' (G.app d [] d b' nv) (st.newArr d e1 el ys) sl:=by
 have L:yV w G [] d e1 el [] (.slice none 0 0) []:=⟨none,0,0,rfl,rfl,Nat.le_refl _,Nat.zero_le _,λ_=>rfl,by simp⟩;obtain⟨v,U,y,C⟩:=Ab (d:=d) j L f;have V:∀b,G.own b≠.out->w'.heap[b]?=w.heap[b]?:=λb c=>by
  have:=j.live b c;refine f.other b this ?_;rcases f.place with h |⟨a0,h,_⟩
  ·omega
  ·simp at h
 have l:∀b T,G.own b=T->T≠.out->(∀p,T≠.arr d p)->(G.app d [] d b' nv).own b=T/\w'.heap[b]?=w.heap[b]?:=λb T c r t=>by
  subst c;obtain⟨F,H⟩:=v b r (t []);refine⟨?_,F⟩;rw[H];cases g:G.own b with
  |arr W s=>exact PW b (λe=>t s (by rw[g,e])) g
  |out=>exact absurd g r
  |fz=>rw[CQ b (by rw[g];simp),g]
  |box=>rw[CQ b (by rw[g];simp),g]
 obtain⟨P,Q⟩:=iP j (stg:=st) (d:=d) (e:=e1) (el:=el) (data:=ys) ⟨rfl,rfl,Nat.le_refl _⟩
  (λr' u a' J=>.inl ⟨J,λs=>by simp[Gh.app,Gh.tag,Gh.ren,u],λb p c=>l b _ c (by simp) (λq e=>by injection e with e;exact u e)⟩)
  (λb c=>l b .box c (by simp) (by simp)) (λ_=>rfl) (λb c=>l b .fz c (by simp) (by simp))
  (by
   have:(G.app d [] d b' nv).H d []=nv:=by simp[Gh.app,Gh.tag,Gh.ren]
   rw[this];exact K) C (GE j ⟨_,_,_,f.nv⟩)
 exact⟨⟨f.os.1,f.os.2.1,f.os.2.2.1,f.os.2.2.2,y,λ_ _ _=>rfl⟩,P,Q⟩
theorem WQ(c:dI w G st sl){t ty:TypeId}{ti j:TI}(a6:lW P t ti)(a7:lW P ti.e j)(b4:ti.sl=true){d:Nat}{e1:TypeId}{el:List LT}{ys:LD}{yv:Value}{h:St}
  (b5:MZ w G el yv ys)(F:yP st d e1 j el [] (.flat ys)=some h):
  ∃nv w' G',(Builtin.append_ #[t,t] ty #[.slice none 0 0,yv]).run P w=.ok nv w'/\Fr w G w' G'/\Le w G st w' G' (h.view d)/\dI w' G' (h.view d) (yY sl d nv):=by
 simp only[yP]at F;obtain⟨g,C⟩:=aW F;simp[ok]at C;subst C;simp only[Bool.and_eq_true]at g;obtain⟨K,L⟩:=PX g.1;have b1:=Nat.eq_of_beq_eq_true g.2;obtain⟨i0,Q,c4,c5⟩:=a6.sl b4;obtain⟨c3,i,z,c6,Y,y,a0,a1,a2,c7,c8⟩:=a7.ex;have b7:z.cells.size=i.size:=by
  have:z.cells.toList.length=j.lv.length:=by rw[a2];simp
  rw[y];simpa using this
 have J:yV w G [] d e1 el [] (.slice none 0 0) []:=⟨none,0,0,rfl,rfl,Nat.le_refl _,Nat.zero_le _,λ_=>rfl,by simp⟩;obtain⟨c9,m,cy,news,y1,y2,y3,y4,y5,y6,y7,y8⟩:=Pd b5;subst y1;simp only[List.length_nil,y2]at K L;rcases JR (P:=P) c (ty:=ty) (cy:=cy) Q Y a1 b7 (y.trans b1.symm) J rfl (Nat.le_refl 0) y3 y5 y6 y7 K (by rw[a0];exact L)with⟨q1,q2,q3,q4⟩ |⟨nv,w',b',o',c',q1,q2⟩
 ·subst q2;have b6:ys=[]:=List.eq_nil_of_length_eq_zero y2;subst b6;obtain⟨T,U,V,W⟩:=DG c (r:=d) (d:=d) (l:=0) (p:=[]) (v:=.slice none 0 0);obtain⟨a4,a5⟩:=iP c (stg:=st) (G':=G.ren d [] d 0 (.slice none 0 0)) (w':=w) (d:=d) (e:=e1) (el:=el) (data:=[]) ⟨rfl,rfl,Nat.le_refl _⟩
   (λr' H a' a9=>.inl ⟨a9,λs=>by simp[Gh.ren,H],λb p b0=>⟨PW b H b0,rfl⟩⟩) T (λ_=>rfl) U ⟨none,0,0,by simp[Gh.ren],rfl,Nat.le_refl _,Nat.zero_le _,λ_=>rfl,by simp⟩ V (GE c ⟨_,_,_,rfl⟩)
  obtain⟨f,u⟩:=a5.view (jO (stg:=st) (d:=d) (e:=e1) (el:=el) (data:=[]));have b2:(G.ren d [] d 0 (.slice none 0 0)).H d []=.slice none 0 0:=by simp[Gh.ren]
  rw[b2]at f;exact⟨_,w,_,q4,W,by simpa using a4.trans u,by simpa using f⟩
 ·have b3:=WP (d:=d) (e1:=e1) c J (Nat.le_refl 0) q2 y2 y8;obtain⟨c0,c1,c2⟩:=Io c q2 b3;obtain⟨f,u⟩:=c2.view (jO (stg:=st) (d:=d) (e:=e1) (el:=el) (data:=[].take 0++ys));have a3:(G.app d [] d b' nv).H d []=nv:=by simp[Gh.app,Gh.tag,Gh.ren]
  rw[a3]at f;exact⟨nv,w',_,q1,c0,by simpa using c1.trans u,by simpa using f⟩
end
theorem uC{st:St}{r:Nat}{a:yN}{p:cQ}{i j k:Nat}{d:D}{h:Bool}:∃a',look (setRow st r a p i j k d h).ar r=some a'/\a'.uid=a.uid:=by refine⟨{a with data:=oY a.el a.data p (λdata=>data.set i (rY k (data.getD i (.i 0)) j d)),stale:=bif h then[]else a.stale,dv:=st.ctr,hv:=bif h then yO st.ctr p.length a.hv else a.hv},by simp[setRow,bQ],rfl⟩
theorem J3{st s:St}{r u:Nat}{p:cQ}{i j:Nat}{x:A}(h:wrLeaf st r u p i j x=some s):∃a a',look st.ar r=some a/\look s.ar r=some a'/\a'.uid=a.uid:=by
 obtain⟨a,F,g⟩:=bind_some h;have G:=eM F;refine⟨a,?_⟩;suffices H:∃a',look s.ar r=some a'/\a'.uid=a.uid by
  obtain⟨a',l,d⟩:=H;exact⟨a',G.1,l,d⟩
 cases m:LN p.length a.stale with
 |false=>simp[m,aG]at g
 |true=>
 simp only[m,Bool.not_true,cond_false]at g;obtain⟨q,L,c⟩:=bind_some g;split at c
 ·obtain⟨_,d⟩:=aW c;simp[ok]at d;subst d;exact uC
 ·simp[ok]at c;subst c;exact uC
 ·simp[ok]at c;subst c;exact uC
 ·obtain⟨_,d⟩:=aW c;simp[ok]at d;subst d;exact uC
 ·simp[ok]at c;subst c;exact uC
 ·obtain⟨_,d⟩:=jR c;subst d;exact uC
 ·rename_i e el J P e1;cases t:Nat.beq J r with
  |true=>simp[t,aG]at c
  |false=>
   simp only[t,cond_false]at c;obtain⟨y,l,d⟩:=bind_some c;obtain⟨K,f⟩:=aW d;cases v:y.stale with
   |cons _ _=>simp[v,aG]at f
   |nil=>simp only[v]at f;obtain⟨_,C⟩:=jR f;subst C;exact uC
 ·simp[aG]at c
theorem WR{r:Nat}{p:cQ}{i:Nat}:∀{l:List A}{st s:St}{u j:Nat}{a:yN},wrLeaves st r u p i j l=some s->look st.ar r=some a->∃a',look s.ar r=some a'/\a'.uid=a.uid
 |[],st,s,u,j,a,h,d=>by simp[wrLeaves,ok]at h;subst h;exact⟨a,d,rfl⟩
 |x::l,st,s,u,j,a,h,d=>by simp only[wrLeaves]at h;obtain⟨s1,g,m⟩:=bind_some h;obtain⟨a0,a1,c,e,f⟩:=J3 g;rw[d]at c;injection c with c;subst c;obtain⟨a',t,v⟩:=WR m e;exact⟨a',t,v.trans f⟩
def Gh.more(G:Gh)(d n0:Nat)(v:Value):Gh:=
 {G with H:=λr s=>if r=d then(match s with|[]=>v |(i,j)::q=>if i=n0 then .slice none 0 0 else G.H d ((i,j)::q))else G.H r s}
section
variable{P:Program}{sl:Nat->Option Value}
theorem w7{w:World}{G:Gh}{st:St}(g:dI w G st sl){d:Nat}{a:yN}(P:look st.ar d=some a)(U:a.stale=[]){b o c:Nat}{cs:Array Value}{C:TypeId}(L:G.H d []=.slice (some ⟨b,o,none⟩) a.data.length c)
  (v:w.heap[b]?=some (.cells cs C (0,0)))(T:a.data.length+1<=c)(V:∀j t,a.el[j]?=some t->cs[o+a.data.length*a.el.length+j]?=some (fZ t)):
  Le w G st w (G.more d a.data.length (.slice (some ⟨b,o,none⟩) (a.data.length+1) c)) (st.newArr d a.e a.el (a.data++[zS (fW a.el)]))/\
  dI w (G.more d a.data.length (.slice (some ⟨b,o,none⟩) (a.data.length+1) c)) (st.newArr d a.e a.el (a.data++[zS (fW a.el)])) sl:=by
 obtain⟨_,_,_,F⟩:=g.arrs d a P;rw[U,L]at F;obtain⟨_,_,_,W,b0,b1,a2,b2,a3⟩:=F;injection W with Y a0 a1;subst Y;subst a0;subst a1;obtain⟨b3,H,a6,a7,l,J,K⟩:=a3 _ rfl;simp only at H l J K;rw[v]at l;injection l with l;injection l with a4 a5;subst a4;subst a5;refine iP g (stg:=st) (d:=d) ⟨rfl,rfl,Nat.le_refl _⟩ (λr f a' Q=>.inl ⟨Q,λp=>by simp[Gh.more,f],λb p h=>⟨h,rfl⟩⟩) (λb h=>⟨h,rfl⟩) (λ_=>rfl) (λb h=>⟨h,rfl⟩) ?_ g.live (λr s=>?_)
 ·refine⟨some ⟨b,o,none⟩,a.data.length+1,c,by simp[Gh.more],by simp,T,a2,by simp,λad u=>?_⟩;injection u with u;subst u;refine⟨rfl,H,cs,C,v,J,λi a9=>?_⟩;by_cases y:i<a.data.length
  ·have m:(a.data++[zS (fW a.el)]).getD i (.i 0)=a.data.getD i (.i 0):=by
    simp only[List.getD];rw[List.getElem?_append_left y]
   rw[m];refine MP (w:=w) (w':=w) (G:=G) (G':=G.more d a.data.length (.slice (some ⟨b,o,none⟩) (a.data.length+1) c)) (S:=[]) (S':=[]) (r:=d) (r':=d) (λb h=>⟨h,rfl⟩) a.el [] [] i i _ _ _ _ _ (λ_=>rfl) (λj q _=>.inr ⟨?_,λb h=>⟨h,rfl⟩⟩) (by simp) (K i y);simp[Gh.more,Nat.ne_of_lt y]
  ·have:i=a.data.length:=by omega
   subst this;have m:(a.data++[zS (fW a.el)]).getD a.data.length (.i 0)=zS (fW a.el):=by simp[List.getD]
   rw[m];exact Xm (λj=>by simp[Gh.more]) (λj t ht=>by simp only[World.cell?,v];simpa using V j t ht)
 ·by_cases f:r=d
  ·cases s with
   |nil=>exact⟨some ⟨b,o,none⟩,a.data.length+1,c,by simp[Gh.more,f]⟩
   |cons x q=>
    by_cases hx:x.1=a.data.length
    ·exact⟨none,0,0,by simp[Gh.more,f,hx]⟩
    ·obtain⟨a',n',c',e⟩:=g.hdr d (x::q);exact⟨a',n',c',by simp[Gh.more,f,hx,e]⟩
  ·obtain⟨a',n',c',e⟩:=g.hdr r s;exact⟨a',n',c',by simp[Gh.more,f,e]⟩
end
section
variable{P:Program}{sl:Nat->Option Value}
theorem GG(a:Addr):∀(vs us:List Value)(c:Nat)(w d e:World),(storeCells a vs c).run P w=.ok () d->(storeCells a us (c+vs.length)).run P d=.ok () e->(storeCells a (vs++us) c).run P w=.ok () e
 |[],us,c,w,d,e,h,k=>by
  have:d=w:=by simp[storeCells]at h;exact h.symm
  subst this;simpa using k
 |v::vs,us,c,w,d,e,h,k=>by
  simp only[storeCells,Sem.run_bind,List.cons_append]at h⊢;cases f:(store (a.add c) v).run P w with
  |halt x w0=>rw[f]at h;simp[Result.andThen]at h
  |ok u w0=>rw[f]at h;simp only[Result.andThen_ok]at h⊢;exact GG a vs us (c+1) w0 d e h (by rw[show c+1+vs.length=c+(v::vs).length by simp;omega];exact k)
theorem HV(b o:Nat):∀(vs:List Value)(x c:Nat)(w:World),(storeCells ⟨b,o+x,none⟩ vs c).run P w=(storeCells ⟨b,o,none⟩ vs (x+c)).run P w
 |[],_,_,_=>rfl
 |v::vs,x,c,w=>by
  simp only[storeCells,Sem.run_bind,kE,Nat.add_assoc];cases(store ⟨b,o+(x+c),none⟩ v).run P w with
  |halt d w0=>rfl
  |ok u w0=>simp only[Result.andThen_ok];exact HV b o vs x (c+1) w0
theorem NA{d k b o c:Nat}:∀(n:Nat){l:List A}{vs:List Value}{w:World}{G:Gh}{st s:St}{a:yN}{cs:Array Value}{f:TypeId},dI w G st sl->look st.ar d=some a->a.el.length=k->G.H d []=.slice (some ⟨b,o,none⟩) a.data.length c->
  w.heap[b]?=some (.cells cs f (0,0))->a.data.length+n<=c->(∀i,i<n->∀(j:Nat)(t:LT),a.el[j]?=some t->cs[o+(a.data.length+i)*k+j]?=some (fZ t))->eZ w G st l vs->l.length=n*k->(∀v,v∈vs->v.oneCell'=true)->
  appElems d k n l st=some s->∃w' G',(storeCells ⟨b,o,none⟩ vs (a.data.length*k)).run P w=.ok () w'/\Fr w G w' G'/\Le w G st w' G' s/\dI w' G' s sl/\G'.H d []=.slice (some ⟨b,o,none⟩) (a.data.length+n) c/\∃a',look s.ar d=some a'
 |0,l,vs,w,G,st,s,a,cs,f,J,u,g,H,y,d2,a3,C,L,V,h=>by simp[appElems,ok]at h;subst h;have:vs=[]:=List.eq_nil_of_length_eq_zero (by have:=(dG.1 C).1;simp at L;simp[L]at this;simpa using this);subst this;exact⟨w,G,rfl,Fr.refl w G,Le.refl w G st,J,H,a,u⟩
 |n+1,l,vs,w,G,st,s,a,cs,f,J,u,g,H,y,d2,a3,C,L,V,h=>by
  simp only[appElems]at h;obtain⟨a0,r,W⟩:=bind_some h;simp only[oR]at r;rw[u]at r;injection r with r;subst r;cases Q:a.stale with
  |cons _ _=>simp[Q,aG]at W
  |nil=>
   simp only[Q]at W;obtain⟨s1,a9,c8⟩:=bind_some W;obtain⟨a5,e3⟩:=w7 J u Q H y (by omega) (λj t ht=>by have:=a3 0 (by omega) j t ht;rw[g];simpa using this);have c9:WL (G.more d a.data.length (.slice (some ⟨b,o,none⟩) (a.data.length+1) c)) (st.newArr d a.e a.el (a.data++[zS (fW a.el)])) d st.ctr [] k a.data.length b o:=
    ⟨{e:=a.e,el:=a.el,data:=a.data++[zS (fW a.el)],uid:=st.ctr,hv:=ZI st.ctr,dv:=st.ctr},(a.e,a.el),⟨by simp[St.newArr,bQ],by simp,rfl⟩,rfl,trivial,g.symm,a.data.length+1,c,by simp[Gh.more],by omega⟩
   have b4:=GY C k 0;have b3:=GY C (n*k) k;simp only[oS,List.drop_zero]at b4;obtain⟨c4,c6,c0,e2,a4,c1,g5⟩:=EB (off:=0) 0 e3 c9 (pZ a5 _ _ b4) a9;have g4:vs.length=(n+1)*k:=by rw[<-L];exact(dG.1 C).1
   have g3:(n+1)*k=n*k+k:=by rw[Nat.add_mul,Nat.one_mul]
   have m:(vs.take k).length=k:=by simp;omega
   obtain⟨_,_,_,b5⟩:=J.arrs d a u;rw[Q,H]at b5;obtain⟨_,_,_,f3,g9,h0,h1,h2,f7⟩:=b5;injection f3 with f4 f5 f6;subst f4;subst f5;subst f6;obtain⟨g6,f0,g0,g7,F,c3,g8⟩:=f7 _ rfl;simp only at f0 F c3;rw[y]at F;injection F with F;injection F with f1 f2;subst f1;subst f2;have b6:o+a.data.length*k+k<=cs.toList.length:=by have:(a.data.length+1)*k<=c*k:=Nat.mul_le_mul_right _ (by omega);rw[Nat.add_mul,Nat.one_mul]at this;rw[g]at c3;simp;omega
   have b1:=run_storeCells_at (P:=P) b (o+a.data.length*k) f (vs.take k) 0 cs w y (by rw[m];simpa using b6) (λv hv=>V v (List.mem_of_mem_take hv));have Y:=c0 P;simp only[Nat.add_zero]at Y b1;rw[b1]at Y;injection Y with _ b7;rw[m]at b7;have e0:o+a.data.length*k+(vs.take k).length<=cs.toList.length:=by rw[m];exact b6
   have d0:c4.heap[b]?=some (.cells (qM cs.toList (o+a.data.length*k) (vs.take k)).toArray f (0,0)):=by rw[<-b7];have:=setRow_heap w b cs (qM cs.toList (o+a.data.length*k) (vs.take k)).toArray f (0,0) y;simpa[qM,m]using this
   obtain⟨a1,a6,f8⟩:=WR a9 (show look (st.newArr d a.e a.el (a.data++[zS (fW a.el)])).ar d=some {e:=a.e,el:=a.el,data:=a.data++[zS (fW a.el)],uid:=st.ctr,hv:=ZI st.ctr,dv:=st.ctr}by simp[St.newArr,bQ]);obtain⟨a2,f9,h3,v3,v4,v5⟩:=a4.vw d st.ctr [] a1 (Nat.lt_succ_self _) ⟨a6,by simp,f8⟩;have T:=f9.1;simp only[St.newArr,bQ,if_true]at T;injection T with T;subst T;have b0:c6.H d []=.slice (some ⟨b,o,none⟩) (a.data.length+1) c:=by rw[v4];simp[Gh.more]
   obtain⟨_,_,_,d3⟩:=c1.arrs d a1 a6;have K:a1.data.length=a.data.length+1:=by obtain⟨_,_,_,a7,z2,_⟩:=d3;rw[b0]at a7;injection a7 with _ a7;omega
   have d1:eZ w G st (oS k l) (vs.drop k):=by
    have e1:kL (n*k) (oS k l)=oS k l:=by rw[mW,sR];apply List.take_of_length_le;simp;omega
    have U:(vs.drop k).take (n*k)=vs.drop k:=by apply List.take_of_length_le;simp;omega
    rw[e1,U]at b3;exact b3
   obtain⟨c5,c7,c2,e4,e5,e6,e7,e9⟩:=NA n c1 a6 (by rw[v3];exact g) (by rw[K];exact b0) d0 (by omega) (λi g1 j t ht=>by
    rw[v3]at ht;have g2:j<k:=by rw[<-g];exact(List.getElem?_eq_some_iff.1 ht).1
    have:=a3 (i+1) (by omega) j t ht;rw[K];simp only[List.getElem?_toArray,vY e0];have e:a.data.length+1+i=a.data.length+(i+1):=by omega
    have U:(a.data.length+(i+1))*k=a.data.length*k+k+i*k:=by rw[Nat.add_mul,Nat.add_mul];omega
    rw[e,if_neg (by rw[m,U];omega)];simpa using this) (pZ (a5.trans a4) _ _ d1) (by rw[sR];simp;omega) (λv hv=>V v (List.mem_of_mem_drop hv)) c8
   refine⟨c5,c7,?_,(Fr.trans (⟨rfl,rfl,rfl,Nat.le_refl _,λ_ _ _=>⟨rfl,rfl⟩,λ_ _ _=>rfl⟩:Fr w G w (G.more d a.data.length (.slice (some ⟨b,o,none⟩) (a.data.length+1) c))) (e2.trans e4)),(a5.trans a4).trans e5,e6,by rw[e7,K];congr 1;omega,e9⟩;have b2:=GG (P:=P) ⟨b,o,none⟩ (vs.take k) (vs.drop k) (a.data.length*k) w c4 c5 (by
    have:=c0 P;simp only[Nat.add_zero]at this;rw[HV]at this;simpa using this) (by rw[m];rw[K,Nat.add_mul,Nat.one_mul]at c2;exact c2)
   rw[List.take_append_drop]at b2;exact b2
end
section
variable{P:Program}{sl:Nat->Option Value}
theorem BW.zero{w w':World}{k n0 m b' o' c':Nat}{ad:Option Addr}{news e:List Value}{nv:Value}(h:BW w k ad n0 m news nv w' b' o' c')(H:e.length=m*k):
  ∃c d,w'.heap[b']?=some (.cells c d (0,0))/\o'+n0*k+e.length<=c.toList.length/\(∀q,q<m*k->c[o'+n0*k+q]?=news[q]?)/\
   BW w k ad n0 0 [] (.slice (some ⟨b',o',none⟩) n0 c') (w'.setRow b' (qM c.toList (o'+n0*k) e).toArray) b' o' c':=by
 obtain⟨c,d,r,C,F,G⟩:=h.row;have v:=h.le;have j:o'+n0*k+e.length<=c.toList.length:=by have:(n0+m)*k<=c'*k:=Nat.mul_le_mul_right _ v;rw[Nat.add_mul]at this;simp;omega
 refine⟨c,d,r,j,G,rfl,⟨_,d,setRow_heap w' b' c _ d (0,0) r,?_,λq y a0 t=>?_,by simp⟩,by omega,h.max,⟨h.os.1,h.os.2.1,h.os.2.2.1,by simpa using h.os.2.2.2⟩,λb u l=>?_,?_⟩
 ·show _<=(qM c.toList (o'+n0*k) e).length;rw[vA j];simpa using C
 ·simp only[List.getElem?_toArray,vY j];rw[if_neg (by omega)];have:=F q y a0 t;simpa using this
 ·rw[setRow_other w' b' b _ l];exact h.other b u l
 ·rcases h.place with⟨f,g⟩ |⟨a0,f,g,s⟩
  ·exact .inl ⟨f,by simpa using g⟩
  ·exact .inr ⟨a0,f,g,by simpa using s⟩
theorem SX{w':World}{G':Gh}{st1:St}{k n0 m b' o' c' d:Nat}{c:Array Value}{r:TypeId}{el:List LT}{news:List Value}{l:List A}{s:St}{a:yN}
  (Q:w'.heap[b']?=some (.cells c r (0,0)))(L:o'+n0*k+m*k<=c.toList.length)(a6:∀q,q<m*k->c[o'+n0*k+q]?=news[q]?)(J:news.length=m*k)
  (U:dI (w'.setRow b' (qM c.toList (o'+n0*k) (sE (el.map fZ) m)).toArray) G' st1 sl)(V:look st1.ar d=some a)(u:a.el=el)(g:el.length=k)(Y:a.data.length=n0)
  (T:G'.H d []=.slice (some ⟨b',o',none⟩) n0 c')(a7:n0+m<=c')(a2:eZ (w'.setRow b' (qM c.toList (o'+n0*k) (sE (el.map fZ) m)).toArray) G' st1 l news)(a3:l.length=m*k)(F:∀v,v∈news->v.oneCell'=true)
  (h:appElems d k m l st1=some s)(P:Program):∃f,Fr (w'.setRow b' (qM c.toList (o'+n0*k) (sE (el.map fZ) m)).toArray) G' w' f/\Le (w'.setRow b' (qM c.toList (o'+n0*k) (sE (el.map fZ) m)).toArray) G' st1 w' f s/\
   dI w' f s sl/\f.H d []=.slice (some ⟨b',o',none⟩) (n0+m) c'/\∃a',look s.ar d=some a':=by
 have C:(sE (el.map fZ) m).length=m*k:=by rw[uZ];simp[g]
 have y:o'+n0*k+(sE (el.map fZ) m).length<=c.toList.length:=by rw[C];exact L
 have H:=setRow_heap w' b' c (qM c.toList (o'+n0*k) (sE (el.map fZ) m)).toArray r (0,0) Q;subst Y;obtain⟨b6,f,b0,b1,b2,b3,b4,b5⟩:=NA (P:=P) m U V (by rw[u];exact g) T H a7 (λi a0 j t ht=>by
  have a1:j<k:=by rw[<-g,<-u];exact(List.getElem?_eq_some_iff.1 ht).1
  have a4:i*k+j<m*k:=by have:(i+1)*k<=m*k:=Nat.mul_le_mul_right _ a0;rw[Nat.add_mul,Nat.one_mul]at this;omega
  have e:o'+(a.data.length+i)*k+j=o'+a.data.length*k+(i*k+j):=by rw[Nat.add_mul];omega
  rw[e];simp only[List.getElem?_toArray,vY y];rw[if_pos (by rw[C];omega),show o'+a.data.length*k+(i*k+j)-(o'+a.data.length*k)=i*k+j by omega];rw[WK _ _ _ (by simp[g];exact a4)];have a5:(i*k+j)%(el.map fZ).length=j:=by rw[show(el.map fZ).length=k by simp[g],Nat.mul_comm,Nat.mul_add_mod,Nat.mod_eq_of_lt a1]
  rw[a5,<-u];simp[ht]) a2 a3 F h
 have K:o'+a.data.length*k+news.length<=(qM c.toList (o'+a.data.length*k) (sE (el.map fZ) m)).length:=by rw[vA y,J];exact L
 have G:=run_storeCells_at (P:=P) b' o' r news (a.data.length*k) _ _ H (by simpa using K) F;rw[b0]at G;injection G with _ a9;have W:b6=w':=by
  rw[a9,setRow_setRow];have e:(List.take (o'+a.data.length*k) (qM c.toList (o'+a.data.length*k) (sE (el.map fZ) m)).toArray.toList++news++List.drop (o'+a.data.length*k+news.length) (qM c.toList (o'+a.data.length*k) (sE (el.map fZ) m)).toArray.toList).toArray=c:=by
   apply Array.ext';show qM (qM c.toList (o'+a.data.length*k) (sE (el.map fZ) m)) (o'+a.data.length*k) news=c.toList;apply List.ext_getElem?;intro q;rw[vY K,vY y,C,J];split
   ·rename_i b7;have:=a6 (q-(o'+a.data.length*k)) (by omega);rw[<-this];simp;congr 1;omega
   ·rfl
  rw[e];exact setRow_self w' b' c r (0,0) Q
 subst W;exact⟨f,b1,b2,b3,b4,b5⟩
theorem Dr{w:World}{G:Gh}{st:St}(U:dI w G st sl){el:List LT}{P:A}{yv:Value}{m:Nat}{l:List A}(Y:dO w G st P yv)(h:LO st el P=some (.cells m l)):
  ∃b o news,yv=.slice (some ⟨b,o,none⟩) m m/\news.length=m*el.length/\l.length=m*el.length/\eZ w G st l news/\(∀j u,news[j]?=some u->w.cell? ⟨b,o+j,none⟩=some u)/\jT st l=true:=by
 unfold LO at h;split at h
 ·simp[ok]at h
 ·simp[ok]at h
 ·rename_i b u k n;obtain⟨lv,C,d⟩:=bind_some h;obtain⟨f,s⟩:=aW d;simp[ok]at s;obtain⟨rfl,rfl⟩:=s;simp only[Bool.and_eq_true]at f;have W:=Nat.eq_of_beq_eq_true f.1;have a2:=Nat.le_of_ble_eq_true f.2.1;obtain⟨x,y,Q,T⟩:=fX C;subst T;obtain⟨hv,_⟩:=Y.2 x y Q;obtain⟨_,_,V⟩:=U.boxes b x y;obtain⟨cs,e,a0,a3,K⟩:=V.cells (vV C y);subst W;generalize a1:el.length=k at*;have H:(kL (k*n) x.lv).length=n*k:=by rw[mW,Nat.mul_comm n k];simp;omega
  refine⟨(G.B b).1,(G.B b).2,(List.range (n*k)).map λj=>(cs[(G.B b).2 +j]?).getD undef,hv,by simp,H,dG.2 ⟨by simp[H],λj a v g c=>?_⟩,λj v c=>?_,f.2.2⟩
  ·have r:j<n*k:=by rw[<-H];exact(List.getElem?_eq_some_iff.1 g).1
   have F:j<x.lv.length:=by rw[Nat.mul_comm]at r;omega
   obtain⟨v0,t,L⟩:=K j F;rw[List.getElem?_map,List.getElem?_range r]at c;simp[t]at c;subst c;rw[mW,List.getElem?_take]at g;split at g
   ·simpa[List.getD,g]using L
   ·simp at g
  ·have r:j<n*k:=by have:=(List.getElem?_eq_some_iff.1 c).1;simpa using this
   have F:j<x.lv.length:=by rw[Nat.mul_comm]at r;omega
   obtain⟨v0,t,L⟩:=K j F;rw[List.getElem?_map,List.getElem?_range r]at c;simp[t]at c;subst c;simp[World.cell?,a0,t]
 ·obtain⟨_,d⟩:=aW h;simp[ok]at d
 ·cases J:sC el with
  |false=>simp[J,aG]at h
  |true=>simp only[J,cond_true]at h;obtain⟨q,C,d⟩:=bind_some h;obtain⟨f,s⟩:=aW d;simp[ok]at s
 ·simp[aG]at h
theorem ED{w:World}{G:Gh}{st:St}(g:dI w G st sl){t ty:TypeId}{ti U:TI}(c9:lW P t ti)(d0:lW P ti.e U)(e5:ti.sl=true){r u d:Nat}{p:cQ}{e e1:TypeId}{el:List LT}{ad:Option Addr}{n c n0 m:Nat}{data:LD}{b3:A}{yv:Value}{l:List A}{a:yN}{s1 y:St}
  (a2:lP st r u p a)(a7:a.stale=[])(a5:ZH a.el a.data p)(h:LP st d r p=some s1)(F:yV w G [] r e el p (.slice ad n c) data)(a6:n0<=n)
  (e9:dO w G st b3 yv)(e3:LO st el b3=some (.cells m l))(a4:yP s1 d e1 U el (data.take n0) (.cells m l)=some y):
  ∃nv w' G',(Builtin.append_ #[t,t] ty #[.slice ad n0 c,yv]).run P w=.ok nv w'/\Fr w G w' G'/\Le w G st w' G' (y.view d)/\dI w' G' (y.view d) (yY sl d nv):=by
 obtain⟨f4,f5,news,y1,y2,y3,y4,y5,y6⟩:=Dr g e9 e3;subst y1;have C:=JN g y6 y4;simp only[yP]at a4;obtain⟨K,L⟩:=aW a4;simp only[Bool.and_eq_true]at K;obtain⟨b0,b1⟩:=PX K.1;have d1:=Nat.eq_of_beq_eq_true K.2;obtain⟨i0,b4,g0,g1⟩:=c9.sl e5;obtain⟨f8,i,z,g2,c1,W,c2,c3,c4,g3,g4⟩:=d0.ex;have f0:z.cells.size=i.size:=by
  have:z.cells.toList.length=U.lv.length:=by rw[c4];simp
  rw[W];simpa using this
 have g6:data.length=n:=by obtain⟨_,_,_,H,T,_⟩:=F;injection H with _ H;omega
 have e6:(data.take n0).length=n0:=by simp;omega
 rw[e6]at b0 b1;have e7:∀(w':World)(f:Gh)(s:St)(nv:Value),dI w' f s sl->f.H d []=nv->(∃a',look s.ar d=some a')->dI w' f (s.view d) (yY sl d nv)/\Le w' f s w' f (s.view d):=λw' f s nv a1 c6⟨a',a3⟩=>by have:=a1.view (Gw a3 (a1.arrs d a' a3).1);rw[c6]at this;exact this
 rcases JR (P:=P) g (ty:=ty) (cy:=m) (a:=some ⟨f4,f5,none⟩) b4 c1 c3 f0 (W.trans d1.symm) F rfl a6 (by simp) y2 (λ_ a0 Q j v hv=>by injection Q with Q;subst Q;rw[kE];exact y5 j v hv) C b0 (by rw[c2];exact b1)with⟨q1,q2,q3,q4⟩ |⟨nv,w',b',o',c',q1,q2⟩
 ·subst q2;subst q3;simp[appElems,ok]at L;subst L;obtain⟨b5,b6,b7,c0⟩:=DG g (r:=r) (d:=d) (l:=0) (p:=p) (v:=.slice none 0 0);obtain⟨d3,e0⟩:=EC g (w':=w) (G':=G.ren r p d 0 (.slice none 0 0)) (v:=.slice none 0 0) (l:=0) a2 a7 a5 h (λb=>.inl rfl) (λb2 C s=>by simp[Gh.ren,C]) (λ_ _ _=>rfl);obtain⟨c7,c8⟩:=iP g (d:=d) (e:=e1) (el:=el) (data:=[]) d3 e0 b5 (λ_=>rfl) b6 ⟨none,0,0,by simp[Gh.ren],rfl,Nat.le_refl _,Nat.zero_le _,λ_=>rfl,by simp⟩ b7 (GE g ⟨_,_,_,rfl⟩);obtain⟨J,V⟩:=c8.view (jO (stg:=s1) (d:=d) (e:=e1) (el:=el) (data:=[]));have d2:(G.ren r p d 0 (.slice none 0 0)).H d []=.slice none 0 0:=by simp[Gh.ren]
  rw[d2]at J;exact⟨_,w,_,q4,c0,c7.trans V,J⟩
 ·have a9:(sE (el.map fZ) m).length=m*el.length:=by rw[uZ];simp
  obtain⟨f7,f9,b2,f2,f3,Y⟩:=q2.zero a9;have e4:=WP (d:=d) (e1:=e1) g F a6 Y (ys:=[]) rfl (λi g5=>by omega);obtain⟨H,T,f1⟩:=Xn g a2 a7 a5 h F Y e4;have e2:look (s1.newArr d e1 el (data.take n0++[])).ar d=some {e:=e1,el:=el,data:=data.take n0++[],uid:=s1.ctr,hv:=ZI s1.ctr,dv:=s1.ctr}:=by simp[St.newArr,bQ]
  have c5:appElems d el.length m l (s1.newArr d e1 el (data.take n0++[]))=some y:=by simpa using L
  obtain⟨f,f6,z2,z3,z4,z5⟩:=SX (n0:=n0) (c':=c') b2 (by rw[<-a9];exact f2) f3 y2 f1 e2 rfl rfl (by simp;omega) (by simp[Gh.app,Gh.tag,Gh.ren]) q2.le (pZ T _ _ y4) y3 C c5 P;obtain⟨J,V⟩:=e7 w' f y nv z3 (z4.trans q2.nv.symm) z5;exact⟨nv,w',f,q1,H.trans f6,(T.trans z2).trans V,J⟩
end
section
variable{P:Program}{sl:Nat->Option Value}
theorem dI.viewOf{w':World}{c:Gh}{s:St}{nv:Value}{d:Nat}(e:dI w' c s sl)(g:c.H d []=nv)(hx:∃a',look s.ar d=some a'):dI w' c (s.view d) (yY sl d nv)/\Le w' c s w' c (s.view d):=by obtain⟨a',f⟩:=hx;have:=e.view (Gw f (e.arrs d a' f).1);rw[g]at this;exact this
theorem HW{w:World}{G:Gh}{st:St}(c:dI w G st sl){t ty:TypeId}{ti C:TI}(b6:lW P t ti)(b7:lW P ti.e C)(c6:ti.sl=true){d:Nat}{e1:TypeId}{el:List LT}{m:Nat}{a2:A}{yv:Value}{l:List A}{y:St}
  (c7:dO w G st a2 yv)(c5:LO st el a2=some (.cells m l))(L:yP st d e1 C el [] (.cells m l)=some y):
  ∃nv w' G',(Builtin.append_ #[t,t] ty #[.slice none 0 0,yv]).run P w=.ok nv w'/\Fr w G w' G'/\Le w G st w' G' (y.view d)/\dI w' G' (y.view d) (yY sl d nv):=by
 obtain⟨e0,e2,news,y1,y2,y3,y4,y5,y6⟩:=Dr c c7 c5;subst y1;have J:=JN c y6 y4;simp only[yP]at L;obtain⟨g,h⟩:=aW L;simp only[Bool.and_eq_true]at g;obtain⟨Y,a1⟩:=PX g.1;have c2:=Nat.eq_of_beq_eq_true g.2;obtain⟨i0,a4,e7,e9⟩:=b6.sl c6;obtain⟨e5,i,z,f0,b0,H,b1,b2,b3,f1,f2⟩:=b7.ex;have c8:z.cells.size=i.size:=by
  have:z.cells.toList.length=C.lv.length:=by rw[b3];simp
  rw[H];simpa using this
 simp only[List.length_nil]at Y a1;have U:yV w G [] d e1 el [] (.slice none 0 0) []:=⟨none,0,0,rfl,rfl,Nat.le_refl _,Nat.zero_le _,λ_=>rfl,by simp⟩;rcases JR (P:=P) c (ty:=ty) (cy:=m) (a:=some ⟨e0,e2,none⟩) a4 b0 b2 c8 (H.trans c2.symm) U rfl (Nat.le_refl 0) (by simp) y2 (λ_ a0 u j v hv=>by injection u with u;subst u;rw[kE];exact y5 j v hv) J Y (by rw[b1];exact a1)with⟨q1,q2,q3,q4⟩ |⟨nv,w',b',o',c',q1,q2⟩
 ·subst q2;simp[appElems,ok]at h;subst h;obtain⟨a5,a6,a7,a9⟩:=DG c (r:=d) (d:=d) (l:=0) (p:=[]) (v:=.slice none 0 0);obtain⟨b4,b5⟩:=iP c (stg:=st) (G':=G.ren d [] d 0 (.slice none 0 0)) (w':=w) (d:=d) (e:=e1) (el:=el) (data:=[]) ⟨rfl,rfl,Nat.le_refl _⟩
   (λr' T a' c0=>.inl ⟨c0,λs=>by simp[Gh.ren,T],λb p c1=>⟨PW b T c1,rfl⟩⟩) a5 (λ_=>rfl) a6 ⟨none,0,0,by simp[Gh.ren],rfl,Nat.le_refl _,Nat.zero_le _,λ_=>rfl,by simp⟩ a7 (GE c ⟨_,_,_,rfl⟩)
  obtain⟨f,F⟩:=b5.view (jO (stg:=st) (d:=d) (e:=e1) (el:=el) (data:=[]));have c3:(G.ren d [] d 0 (.slice none 0 0)).H d []=.slice none 0 0:=by simp[Gh.ren]
  rw[c3]at f;exact⟨_,w,_,q4,a9,b4.trans F,f⟩
 ·have V:(sE (el.map fZ) m).length=m*el.length:=by rw[uZ];simp
  obtain⟨e4,e6,d1,d2,d3,K⟩:=q2.zero V;have Q:=WP (d:=d) (e1:=e1) c U (Nat.le_refl 0) K (ys:=[]) rfl (λi f3=>by omega);simp only[List.take_nil,List.append_nil]at Q;obtain⟨c9,W,d0⟩:=Io c K Q;have c4:look (st.newArr d e1 el []).ar d=some {e:=e1,el:=el,data:=[],uid:=st.ctr,hv:=ZI st.ctr,dv:=st.ctr}:=by simp[St.newArr,bQ]
  obtain⟨a3,e3,z2,z3,z4,z5⟩:=SX (n0:=0) (c':=c') d1 (by rw[<-V];exact d2) d3 y2 d0 c4 rfl rfl rfl (by simp[Gh.app,Gh.tag,Gh.ren]) q2.le (pZ W _ _ y4) y3 J h P;obtain⟨f,F⟩:=z3.viewOf (z4.trans q2.nv.symm) z5;exact⟨nv,w',a3,q1,c9.trans e3,(W.trans z2).trans F,f⟩
end
section
variable{P:Program}{w:World}{G:Gh}{st:St}{sl:Nat->Option Value}
theorem Fx(t u ty e:TypeId)(i:TypeInfo)(z:Value)(C:IntKind)(ht:P.underlying t=some (.slice e))(s:P.underlying u=some (.int C))(l:P.info? e=some i)(y:i.zero=some z)
  (n:Nat)(H:0<i.size)(f:0<n)(G:(n:Int)<=9223372036854775807)(F:n*i.bytes<=281474976710656):
  (Builtin.append_ #[t,u] ty #[.slice none 0 0,.int .i64 (n:Int)]).run P w=
   .ok (.slice (some ⟨w.heap.size,0,none⟩) n (grownCap w n 0 e)) (w.drew.alloc (.cells (Builtin.zeroCells z.cells n++Builtin.zeroCells z.cells (grownCap w n 0 e-n)) e)):=by
 have c:n≠0:=by omega
 have d:i.size≠0:=by omega
 have v:IntKind.i64.wrap (n:Int)=n:=by simp[IntKind.wrap,IntKind.bits,IntKind.signed];omega
 have j:¬(9223372036854775807<(n:Int)):=by omega
 have g:¬(281474976710656<Builtin.nextslicecap n 0*i.bytes):=by rw[nextslicecap_zero f];omega
 have h:¬(281474976710656<(n:Int)*(i.bytes:Int)):=by
  have:((n*i.bytes:Nat):Int)<=281474976710656:=by omega
  rw[Int.natCast_mul]at this;omega
 have m:¬((n:Int)<0):=by omega
 have r:n*i.size≠0:=Nat.mul_ne_zero c d;simp[Builtin.append_,asInt,asIntOf,run_underlying ht,run_underlying s,sizeOf,typeInfo,zeroValue,l,y,Builtin.lenOf,c,d,v,j,g,h,m,r,Question.forced,run_firstCells_none,newRow,grownCap]
theorem PY:∀{ts:List LT},VN ts=true->∀(j:Nat)(t:LT),ts[j]?=some t->∃k,t=.int k
 |[],_,_,_,h=>by simp at h
 |.int k::ts,_,0,t,ht=>by simp at ht;exact⟨k,ht.symm⟩
 |.int k::ts,h,j+1,t,ht=>PY (ts:=ts) h j t (by simpa using ht)
 |.bool::ts,h,_,_,_=>by simp[VN]at h
 |.str::ts,h,_,_,_=>by simp[VN]at h
 |.sl ..::ts,h,_,_,_=>by simp[VN]at h
theorem J4{okb:Nat->Prop}{lv:List LT}(d:VN lv=true)(j:Nat)(t:LT)(ht:lv[j]?=some t):sA t=false/\yQ w okb t (fZ t) (lf lv.length (zS (fW lv)) j):=by have c:j<lv.length:=(List.getElem?_eq_some_iff.1 ht).1;rw[JL (zV lv) j c,JQ lv j t ht];obtain⟨k,rfl⟩:=PY d j t ht;exact⟨rfl,rfl,tZ k,uA k⟩
theorem WS(T:dI w G st sl){t u ty:TypeId}{ti c Y:TI}(a6:lW P t ti)(a7:lW P ti.e c)(a9:lW P u Y){n:Int}{d:Nat}{s:St}(h:Rw st d n ti c Y=some s):
  ∃nv w' G',(Builtin.append_ #[t,u] ty #[.slice none 0 0,.int .i64 n]).run P w=.ok nv w'/\Fr w G w' G'/\Le w G st w' G' s/\dI w' G' s (yY sl d nv):=by
 unfold Rw at h;obtain⟨K,L⟩:=aW h;simp[ok]at L;subst L;simp only[Bool.and_eq_true]at K;obtain⟨c7,v,b5,W,l,V⟩:=K;have W:=Nat.le_of_ble_eq_true W;have l:0<n:=by rw[ZW]at l;simpa using l
 obtain⟨m,rfl⟩:∃m:Nat,n=(m:Int):=⟨n.toNat,by omega⟩;have c1:(m:Int).toNat=m:=rfl;rw[c1]at V⊢;obtain⟨f0,f1⟩:=PX V;obtain⟨i0,e1,e2,e3⟩:=a6.sl c7;obtain⟨e0,i,z,e4,a2,H,a3,a4,J,e5,e6⟩:=a7.ex;have c8:P.underlying u=some (.int .i64):=by
  unfold aBs at v;split at v
  ·rename_i y C;exact a9.int y _ C
  ·cases v
 have c9:z.cells.size=i.size:=by
  have:z.cells.toList.length=c.lv.length:=by rw[J];simp
  rw[H];simpa using this
 have c6:=Fx (P:=P) (w:=w) t u ty ti.e i z .i64 e1 c8 a2 a4 m (by omega) (by omega) (by omega) (by rw[a3];omega);have e7:=grownCap_ge w m 0 ti.e;have b3:grownCap w m 0 ti.e<=maxLen:=grownCap_le_maxLen w m 0 ti.e (by unfold maxLen;omega);have g:z.cells.size=c.lv.length:=c9.trans H;have Q:BW w c.lv.length none 0 m (Builtin.zeroCells z.cells m).toList (.slice (some ⟨w.heap.size,0,none⟩) m (grownCap w m 0 ti.e)) (w.drew.alloc (.cells (Builtin.zeroCells z.cells m++Builtin.zeroCells z.cells (grownCap w m 0 ti.e-m)) ti.e)) w.heap.size 0 (grownCap w m 0 ti.e):=by
  refine⟨by rw[Nat.zero_add],⟨_,ti.e,heap_alloc_new w.drew _,?_,λq c4 a0 b0=>(by cases b0),λq c4=>?_⟩,by omega,b3,⟨rfl,rfl,rfl,by simp⟩,λb b1 _=>heap_alloc_old w.drew _ b b1,.inl ⟨rfl,by simp⟩⟩
  ·rw[Array.size_append,size_zeroCells,size_zeroCells,g,<-Nat.add_mul,Nat.zero_add];exact Nat.mul_le_mul_right _ (by omega)
  ·have e9:(Builtin.zeroCells z.cells m).size=m*c.lv.length:=by rw[size_zeroCells,g]
   rw[Nat.zero_mul,Nat.zero_add,Array.getElem?_append_left (by omega)];simp
 have c5:yV w G [] d ti.e c.lv [] (.slice none 0 0) []:=⟨none,0,0,rfl,rfl,Nat.le_refl _,Nat.zero_le _,λ_=>rfl,by simp⟩;have c3:=WP (d:=d) (e1:=ti.e) (ys:=List.replicate m (zS (fW c.lv))) T c5 (Nat.le_refl 0) Q (by simp) (λf U j F r=>by
  obtain⟨y,C⟩:=J4 (w:=w) (okb:=λb=>G.own b=.fz) b5 j F r;have b6:j<c.lv.length:=(List.getElem?_eq_some_iff.1 r).1;have b7:f*c.lv.length+j<m*c.lv.length:=by have:(f+1)*c.lv.length<=m*c.lv.length:=Nat.mul_le_mul_right _ U;rw[Nat.add_mul,Nat.one_mul]at this;omega
  have b4:(List.replicate m (zS (fW c.lv))).getD f (.i 0)=zS (fW c.lv):=by simp[List.getD,U]
  refine⟨y,fZ F,?_,by rw[b4];exact C⟩;have c2:(f*c.lv.length+j)%z.cells.size=j:=by rw[g,Nat.mul_comm,Nat.mul_add_mod,Nat.mod_eq_of_lt b6]
  have b2:z.cells[j]?=some (fZ F):=by rw[<-Array.getElem?_toList,J,List.getElem?_map,r];rfl
  have c0:f*c.lv.length+j<m*z.cells.size:=by rw[g];exact b7
  rw[Array.getElem?_toList];unfold Builtin.zeroCells;rw[Array.getElem?_map,Array.getElem?_range,if_pos c0];simp only[Option.map_some,c2];rw[getElem!_def,b2])
 obtain⟨d0,d1,d2⟩:=Io T Q c3;obtain⟨a1,d3⟩:=d2.view (jO (stg:=st) (d:=d) (e:=ti.e) (el:=c.lv) (data:=[].take 0++List.replicate m (zS (fW c.lv))));have a5:(G.app d [] d w.heap.size (.slice (some ⟨w.heap.size,0,none⟩) m (grownCap w m 0 ti.e))).H d []=.slice (some ⟨w.heap.size,0,none⟩) m (grownCap w m 0 ti.e):=by simp[Gh.app,Gh.tag,Gh.ren]
 rw[a5]at a1;exact⟨_,_,_,c6,d0,by simpa using d1.trans d3,by simpa using a1⟩
end
section
variable{P:Program}{w w':World}{G:Gh}{st:St}{sl:Nat->Option Value}{act:Act}
theorem NB{t:LT}{a:A}{v:Value}(hf:uY t a=true)(h:dO w G st a v):WC a v:=by cases t<;>cases a<;>simp[uY]at hf<;>exact h
theorem Xo{a:A}{v:Value}(h:WC a v):dO w G st a v:=by cases a<;>first|exact h |exact absurd h (by simp[WC])
theorem WT{t:LT}{d:TypeDesc}{a:A}{v:Value}(c:LQ t=true)(hd:GB t=some d)(hf:uY t a=true)(h:WC a v):MapKept.IsKey d v:=by
 cases t<;>simp[LQ]at c<;>cases a<;>simp[uY]at hf<;>simp[GB]at hd<;>subst hd
 ·rw[h.1];exact((fF _ _).1 hf).symm
 ·rw[h.1];trivial
theorem J5{t:LT}{d:TypeDesc}{k f:A}{v l:Value}(C:LQ t=true)(hd:GB t=some d)(hf:uY t k=true)(h:WC k v)(m:WC f l){q:Bool}(c:FZ k f=some q):
  Instr.sameNow d v l=some q/\(q=true->l=v):=by
 cases t<;>simp[LQ]at C<;>cases k<;>simp[uY]at hf<;>simp[GB]at hd<;>subst hd<;>cases f<;>(first|(exfalso;simp[FZ,aG]at c;done) |skip)
 ·rename_i kk k n f n';simp only[FZ]at c;obtain⟨e1,g⟩:=aW c;simp[ok]at g;have u:=(fF _ _).1 e1;have y:=(fF _ _).1 hf;subst u;subst y;rw[h.1,m.1];simp only[Instr.sameNow,if_true];rw[ZX]at g;subst g;exact⟨rfl,λj=>by rw[eq_of_beq j]⟩
 ·rename_i s r;rw[h.1,m.1];simp[FZ,ok]at c;subst c;have e:(s==r)=DM s r:=by rw[Bool.eq_iff_iff,yW];simp
  refine⟨?_,λj=>by rw[(yW _ _).1 j]⟩;simp only[Instr.sameNow];congr 1;rw[Bool.eq_iff_iff,MapKept.bytes_beq,yW];simp
theorem SY{t:LT}{d:TypeDesc}{k:A}{v:Value}(y:LQ t=true)(hd:GB t=some d)(hf:uY t k=true)(h:WC k v):∀(m:List (A×A))(c:List MapEntry)(i:Nat){q:Option (Nat×A)},RP m c->On k i m=some q->
  (q=none/\Instr.findNow d v c i=some none)\/∃j a e,q=some (i+j,a)/\c[j]?=some e/\WC a e.val/\e.key=v/\Instr.findNow d v c i=some (some (i+j,e.val))
 |[],c,i,q,r,f=>by have:c=[]:=r;subst this;simp[On,ok]at f;exact .inl ⟨f.symm,rfl⟩
 |(T,x)::m,c,i,q,r,f=>by
  obtain⟨e,es',rfl,G,H,J⟩:=r;simp only[On]at f;obtain⟨p,K,g⟩:=bind_some f;obtain⟨l,F⟩:=J5 y hd hf h G K;cases p with
  |true=>simp[ok]at g;exact .inr ⟨0,x,e,g.symm,rfl,H,F rfl,by simp[Instr.findNow,l]⟩
  |false=>
   simp only[cond_false]at g;rcases SY y hd hf h m es' (i+1) J g with⟨s,u⟩ |⟨j,a,C,s,u,L,P,Q⟩
   ·exact .inl ⟨s,by simp[Instr.findNow,l,u]⟩
   ·refine .inr ⟨j+1,a,C,by rw[s];congr 2;omega,by simpa using u,L,P,?_⟩;simp only[Instr.findNow,l,Q];congr 3;omega
theorem aBQ(t:dI w G st sl){b u:Nat}{m:MV}{l:Value}(hx:dO w G st (.mp b u) l)(h:Cz st b u=some m):
  ∃x c d,look st.bx b=some x/\x.uid=u/\x.mp=some m/\l=.map (some (G.B b).1)/\w.heap[(G.B b).1]?=some (.map c d)/\RP m.dec c.toList:=by
 obtain⟨x,e,g,j⟩:=Ia h;have f:=(t.boxes b x e).2.2;unfold lG at f;rw[j]at f;obtain⟨_,c,d,r,s⟩:=f;exact⟨x,c,d,e,g,j,hx.2 x e g,r,s⟩
theorem Xp{kk:LT}{k:A}(c:LQ kk=true)(hf:uY kk k=true)(x:D):FZ k (DL [] kk x)=ok (eqD kk (yL k) x):=by
 cases kk<;>simp[LQ]at c<;>cases k<;>simp[uY]at hf
 ·have e:=(fF _ _).1 hf;subst e;simp[DL,FZ,(fF _ _).2 rfl,yL,eqD,D.toI]
 ·simp[DL,FZ,yL,eqD,D.toS]
theorem Ac{kk ek:LT}{k:A}(c:LQ kk=true)(hf:uY kk k=true):∀(m:LD)(i:Nat),On k i (MV.dec ⟨kk,ek,m⟩)=ok ((iM kk (yL k) i m).map λq=>(q.1,DL [] ek q.2))
 |[],i=>rfl
 |x::m,i=>by
  have d:=Ac (ek:=ek) c hf m (i+1);simp only[MV.dec,aBk,On]at d⊢;rw[Xp c hf];simp only[ok,Option.bind_some,iM];cases eqD kk (yL k) (x.fld 0)with
  |true=>rfl
  |false=>simpa[ok]using d
theorem aBR{ek:LT}(h:F9 ek=true):DL [] ek ek.zero=aBu ek:=by cases ek<;>first|rfl |simp[F9]at h
theorem X5{t:LT}{a:A}(h:uY t a=true):DL [] t (yL a)=a:=by
 cases t<;>cases a<;>simp[uY]at h
 ·have e:=(fF _ _).1 h;subst e;rfl
 ·rfl
 ·rfl
theorem aBS{kk ek:LT}{k v:A}(c:uY kk k=true)(hv:uY ek v=true)(m:LD)(q:Option (Nat×D)):
  MV.dec ⟨kk,ek,DQ (yL k) (yL v) m q⟩=(match q with|some q=>(MV.dec ⟨kk,ek,m⟩).set q.1 (k,v) |none=>MV.dec ⟨kk,ek,m⟩++[(k,v)]):=by
 have e:(DL [] kk ((D.l [yL k,yL v]).fld 0),DL [] ek ((D.l [yL k,yL v]).fld 1))=(k,v):=by simp only[D.fld,D.els,List.getD_cons_zero,List.getD_cons_succ,X5 c,X5 hv]
 have d:∀l:LD,aBk (λx:D=>(DL [] kk (x.fld 0),DL [] ek (x.fld 1))) l=l.map (λx:D=>(DL [] kk (x.fld 0),DL [] ek (x.fld 1))):=λl=>by
  induction l with
  |nil=>rfl
  |cons g l f=>simp[aBk,f]
 simp only[MV.dec,d];cases q with
 |some q=>simp only[DQ,List.map_set];rw[e]
 |none=>simp only[DQ,List.map_append,List.map_cons,List.map_nil];rw[e]
theorem MV.dec_eq{v:MV}{kk ek:LT}(d:v.kk.beq kk=true)(e:v.ek.beq ek=true):v.dec=MV.dec ⟨kk,ek,v.m⟩:=by have e1:=LT.beq_eq _ _ d;have c:=LT.beq_eq _ _ e;obtain⟨a,b,m⟩:=v;simp only at e1 c;subst e1;subst c;rfl
theorem Sp{E:fM}(b3:gY P E)(b4:dI w G st sl){t:TypeId}{c:Bool}{k m r:A}{a1 a2:Value}(b7:dO w G st k a1)(c0:dO w G st m a2)(h:Hr E st t c k m=some r):
  ∃u,(Instr.lookup t a2 a1 c).run P w=.ok u w/\dO w G st r u:=by
 unfold Hr at h;split at h
 ·rename_i b u;obtain⟨f,L,a6⟩:=bind_some h;obtain⟨l,a7,a9⟩:=bind_some a6;obtain⟨g,v⟩:=aW a9;simp only[ok,Option.some.injEq]at v;simp only[Bool.and_eq_true]at g;obtain⟨T,Q,b2,b0,b1⟩:=g;have J:=Ac (ek:=f.ek) T Q l.m 0;rw[<-MV.dec_eq b0 b1]at J;generalize c7:iM f.kk (yL k) 0 l.m=fq at J v;have g:LQ f.kk=true/\uY f.kk k=true:=⟨T,Q⟩;simp only[oR]at L;obtain⟨d,F,U,s,i,b5,b6⟩:=b3.maps t f L;obtain⟨x,a3,c2,c3,c4,c5,a4,C,a5⟩:=aBQ b4 c0 a7;have hv:=NB g.2 b7;have H:=WT g.1 U g.2 hv;have W:∀w:World,(zeroValue f.el).run P w=.ok (fZ f.ek) w:=λw=>by simp[zeroValue,typeInfo,b5,b6]
  have Y:dO w G st (aBu f.ek) (fZ f.ek):=by
   cases c6:f.ek with
   |int kk=>exact⟨rfl,tZ kk,uA kk⟩
   |bool=>rfl
   |str=>exact⟨rfl,Nat.zero_le _⟩
   |sl o e el=>rfl
  subst a4;rcases SY g.1 U g.2 hv l.dec a3.toList 0 a5 J with⟨y,K⟩ |⟨j,a,e,y,K,c1,c8,a0⟩
  ·cases fq with
   |some q=>simp at y
   |none=>
   simp only[yT,aBv,aBR b2]at v;subst v;cases c with
   |false=>exact⟨fZ f.ek,by simp[Instr.lookup,run_underlying F,MapKept.run_getObj_map C,MapKept.run_checkKey s H,MapKept.run_findKey s K,W,Result.andThen],Y⟩
   |true=>exact⟨.tuple #[fZ f.ek,.bool false],by simp[Instr.lookup,run_underlying F,MapKept.run_getObj_map C,MapKept.run_checkKey s H,MapKept.run_findKey s K,W,Result.andThen],⟨[fZ f.ek,.bool false],rfl,_,_,rfl,Y,_,_,rfl,rfl,rfl⟩⟩
  ·cases fq with
   |none=>simp at y
   |some q=>
   simp only[Option.map_some,Option.some.injEq,Prod.mk.injEq]at y;simp only[yT,aBv,y.2]at v;subst v;have V:dO w G st a e.val:=Xo c1;cases c with
   |false=>exact⟨e.val,by simp[Instr.lookup,run_underlying F,MapKept.run_getObj_map C,MapKept.run_checkKey s H,MapKept.run_findKey s a0,Result.andThen],V⟩
   |true=>exact⟨.tuple #[e.val,.bool true],by simp[Instr.lookup,run_underlying F,MapKept.run_getObj_map C,MapKept.run_checkKey s H,MapKept.run_findKey s a0,Result.andThen],⟨[e.val,.bool true],rfl,_,_,rfl,V,_,_,rfl,rfl,rfl⟩⟩
 ·simp[aG]at h
theorem Pe:∀{m:List (A×A)}{c:List MapEntry}(i:Nat){k v:A}{r s:Value},RP m c->WC k r->WC v s->RP (m.set i (k,v)) (c.modify i λe=>{e with key:=r,val:=s})
 |[],c,i,_,_,_,_,h,_,_=>by have:c=[]:=h;subst this;simp[RP]
 |p::m,c,0,_,_,_,_,⟨e,es',d,j,l,f⟩,g,hv=>by subst d;exact⟨_,_,rfl,g,hv,f⟩
 |p::m,c,i+1,_,_,_,_,⟨e,es',d,j,l,f⟩,g,hv=>by subst d;exact⟨_,_,rfl,j,l,Pe i f g hv⟩
theorem Ip:∀{m:List (A×A)}{c:List MapEntry}{k v:A}{e:MapEntry},RP m c->WC k e.key->WC v e.val->RP (m++[(k,v)]) (c++[e])
 |[],c,_,_,_,h,d,hv=>by have:c=[]:=h;subst this;exact⟨_,_,rfl,d,hv,rfl⟩
 |p::m,c,_,_,_,⟨e,es',f,g,j,l⟩,d,hv=>by subst f;exact⟨_,_,rfl,g,j,Ip l d hv⟩
theorem WU(f:dI w G st sl){b:Nat}{x:Bx}{K es':Array MapEntry}{J clk':Nat}{m':MV}(hx:look st.bx b=some x)(T:w.heap[(G.B b).1]?=some (.map K J))(U:RP m'.dec es'.toList):
  Fr w G {w with heap:=w.heap.setIfInBounds (G.B b).1 (.map es' clk')} G/\Le w G st {w with heap:=w.heap.setIfInBounds (G.B b).1 (.map es' clk')} G {st with bx:=qD st.bx b {uid:=x.uid,lv:=[],mp:=some m'}}/\
   dI {w with heap:=w.heap.setIfInBounds (G.B b).1 (.map es' clk')} G {st with bx:=qD st.bx b {uid:=x.uid,lv:=[],mp:=some m'}} sl:=by
 obtain⟨W,l⟩:=MapKept.heap_set (o':=.map es' clk') T;obtain⟨a0,H,_⟩:=f.boxes b x hx;have y:∀k,G.own k≠.box->k≠(G.B b).1 :=λk c e=>c (by rw[e];exact H);let w':World:={w with heap:=w.heap.setIfInBounds (G.B b).1 (.map es' clk')}
 have L:Le w G st w' G st:=Le.heap (λk c=>l k (y k (by rcases c with c |⟨r,p,c⟩<;>rw[c]<;>simp)));have P:Le w' G st w' G {st with bx:=qD st.bx b {uid:=x.uid,lv:=[],mp:=some m'}}:=by
  refine⟨Nat.le_refl _,λr u p a' _ h=>⟨a',h,rfl,rfl,rfl,λh=>h⟩,λb' g _ h=>?_,λr a' _ h=>⟨a',h,rfl,λb p m=>⟨⟨p,m⟩,rfl⟩⟩,λb Y=>⟨Y,rfl⟩⟩;simp only[bQ]at h;split at h
  ·rename_i e;injection h with h;subst h;subst e;exact⟨x,hx,rfl,rfl⟩
  ·exact⟨g,h,rfl,rfl⟩
 have s:=L.trans P;refine⟨⟨rfl,rfl,rfl,by simp,λk _ c=>⟨l k (y k (by rcases c with c |c<;>rw[c]<;>simp)),rfl⟩,λ_ _ _=>rfl⟩,s,?_⟩;refine f.step s (λt v hv=>dS s _ _ (f.slots t v hv)) (λb' g d=>?_) (λb1 b2 a4 a5 e1 C V=>?_)
   (λr a Q=>.inl ⟨Q,λ_=>rfl,λk p m=>⟨m,l k (y k (by rw[m];simp))⟩⟩) (λk c=>by simp;exact f.live k c) f.hdr
 ·simp only[bQ]at d;split at d
  ·rename_i j;subst j;injection d with d;subst d;exact .inr ⟨a0,H,rfl,es',clk',W,U⟩
  ·rename_i j;obtain⟨a7,a3,_⟩:=f.boxes b' g d;exact .inl ⟨d,rfl,l _ (f.apartB b' b g x d hx j),a3⟩
 ·simp only[bQ]at e1 C;have F:∀(b':Nat)(g:Bx),(if b'=b then some {uid:=x.uid,lv:=[],mp:=some m'}else look st.bx b')=some g->∃a6,look st.bx b'=some a6:=λb' g d=>by
   split at d
   ·rename_i j;exact⟨x,by rw[j];exact hx⟩
   ·exact⟨g,d⟩
  obtain⟨y1,a1⟩:=F b1 a4 e1;obtain⟨y2,a2⟩:=F b2 a5 C;exact f.apartB b1 b2 y1 y2 a1 a2 V
theorem Sq{E:fM}(c3:gY P E)(a0:dI w G st sl){t:TypeId}{k v m:A}{g F b5:Value}{s:St}(c4:dO w G st k g)(hv:dO w G st v F)(c5:dO w G st m b5)(h:Hs E st t k v m=some s):
  ∃w',(Instr.mapUpdate t b5 g F).run P w=.ok () w'/\Fr w G w' G/\Le w G st w' G s/\dI w' G s sl:=by
 unfold Hs at h;split at h
 ·rename_i b u;obtain⟨f,a7,c0⟩:=bind_some h;obtain⟨l,c1,c2⟩:=bind_some c0;obtain⟨c,Y⟩:=aW c2;simp only[ok,Option.some.injEq]at Y;simp only[Bool.and_eq_true]at c;obtain⟨a9,V,b0,T,U⟩:=c;have W:=Ac (ek:=f.ek) a9 V l.m 0;rw[<-MV.dec_eq T U]at W;have y:=aBS V b0 l.m (iM f.kk (yL k) 0 l.m);rw[<-MV.dec_eq (v:=⟨l.kk,l.ek,DQ (yL k) (yL v) l.m (iM f.kk (yL k) 0 l.m)⟩) T U,<-MV.dec_eq (v:=l) T U]at y;generalize d0:iM f.kk (yL k) 0 l.m=fq at W Y y;subst Y;have c:LQ f.kk=true/\uY f.kk k=true/\uY f.ek v=true:=⟨a9,V,b0⟩;simp only[oR]at a7;obtain⟨d,b1,b2,K,_⟩:=c3.maps t f a7;obtain⟨x,J,H,a6,b6,c9,b7,r,Q⟩:=aBQ a0 c5 c1;have L:=NB c.2.1 c4;have b3:=NB c.2.2 hv;have a1:=WT c.1 b2 c.2.1 L;subst b7;subst b6;rcases SY c.1 b2 c.2.1 L l.dec J.toList 0 Q W with⟨C,a2⟩ |⟨j,a,e,C,a2,d1,c8,b4⟩
  ·cases fq with
   |some q=>simp at C
   |none=>
   simp only at y;obtain⟨a3,a4,a5⟩:=WU (es':=J.push {key:=g,val:=F,born:=H}) (clk':=H+1) (m':={l with m:=DQ (yL k) (yL v) l.m none}) a0 a6 r (by rw[y];simpa using Ip (e:={key:=g,val:=F,born:=H}) Q L b3);exact⟨_,by simp[Instr.mapUpdate,run_underlying b1,MapKept.run_getObj_map r,MapKept.run_checkKey K a1,MapKept.run_findKey K a2,MapKept.run_setObj_map _ r,Result.andThen],a3,a4,a5⟩
  ·cases fq with
   |none=>simp at C
   |some q=>
   simp only[Option.map_some,Option.some.injEq,Prod.mk.injEq,Nat.zero_add]at C;simp only[C.1]at y;obtain⟨a3,a4,a5⟩:=WU (es':=J.modify j λe=>{e with key:=g,val:=F}) (clk':=H) (m':={l with m:=DQ (yL k) (yL v) l.m (some q)}) a0 a6 r (by rw[y];simpa using Pe j Q L b3);have c7:J[j]?=some e:=by simpa using a2
   have c6:(Instr.keyThatStays e.key g).run P w=.ok g w:=by rw[c8];exact MapKept.run_keyThatStays a1
   simp only[Nat.zero_add]at b4⊢;exact⟨_,by simp[Instr.mapUpdate,run_underlying b1,MapKept.run_getObj_map r,MapKept.run_checkKey K a1,MapKept.run_findKey K b4,c7,c6,MapKept.run_setObj_map _ r,Result.andThen],a3,a4,a5⟩
 ·simp[aG]at h
theorem Sr(C:dI w G st sl){t:TypeId}{d:Nat}{L:MI}(a3:d<500\/600<=d){s:St}(h:ZP st d L=some s):
  ∃w' G',(Instr.makeMap t none).run P w=.ok (.map (some w.heap.size)) w'/\Fr w G w' G'/\Le w G st w' G' s/\dI w' G' s (yY sl d (.map (some w.heap.size))):=by
 simp[ZP,ok]at h;subst h;let o:Obj:=.map #[] 0
 let w':=w.alloc o
 let e:=G.tag w.heap.size .box
 let G':=e.box d (w.heap.size,0)
 let s1:St:={st with bx:=qD st.bx d {uid:=st.ctr,lv:=[],mp:=some {kk:=L.kk,ek:=L.ek,m:=[]}},ctr:=st.ctr+1}
 have W:=Le.alloc C o .box;have f:=C.alloc o .box;have F:Le w' e st w' G' s1:=by
  refine⟨Nat.le_succ _,λr u p a' K h=>⟨a',h,rfl,rfl,rfl,λh=>h⟩,λb y K hx=>?_,λr a' _ h=>⟨a',h,rfl,λb p H=>⟨⟨p,H⟩,rfl⟩⟩,λb H=>⟨H,rfl⟩⟩;simp only[s1,bQ]at hx;split at hx
  ·injection hx with hx;subst hx;exact absurd K (Nat.lt_irrefl _)
  ·rename_i l;exact⟨y,hx,rfl,by simp[G',Gh.box,l]⟩
 have Q:∀b' y,look st.bx b'=some y->b'≠d->(e.B b').1 ≠w.heap.size:=λb' y a1 J=>by have:=C.live (G.B b').1 (by rw[(C.boxes b' y a1).2.1];simp);simp only[e,Gh.tag];omega
 have Y:dI w' G' s1 sl:=by
  refine f.step F (λt v hv=>dS F _ _ (f.slots t v hv)) (λb' x hx=>?_) (λb1 b2 T U e1 j J=>?_) (λr a a0=>.inl ⟨a0,λ_=>rfl,λb p h=>⟨h,rfl⟩⟩) f.live f.hdr
  ·simp only[s1,bQ]at hx;split at hx
   ·rename_i l;subst l;injection hx with hx;subst hx;have V:G'.B b'=(w.heap.size,0):=by simp[G',Gh.box]
    refine .inr ⟨Nat.lt_succ_self _,?_⟩;rw[V];exact⟨by simp[G',e,Gh.box,Gh.tag],rfl,#[],0,heap_alloc_new w o,rfl⟩
   ·rename_i l;exact .inl ⟨hx,by simp[G',e,Gh.box,l],rfl,(f.boxes b' x hx).2.1⟩
  ·simp only[s1,bQ]at e1 j;simp only[G',Gh.box];by_cases g:b1=d
   ·by_cases c:b2=d
    ·exact absurd (g.trans c.symm) J
    ·rw[if_neg c]at j;rw[if_pos g,if_neg c];exact Ne.symm (Q b2 U j c)
   ·rw[if_neg g]at e1;by_cases c:b2=d
    ·rw[if_neg g,if_pos c];exact Q b1 T e1 g
    ·rw[if_neg c]at j;rw[if_neg g,if_neg c];exact f.apartB b1 b2 T U e1 j J
 refine⟨w',G',rfl,Fr.trans (Fr.alloc w G o .box) ⟨rfl,rfl,rfl,Nat.le_refl _,λ_ _ _=>⟨rfl,rfl⟩,λb f a2=>by simp[G',e,Gh.box,show b≠d by omega]⟩,(W.trans F).trans (Le.put _ _ _ _ _),Y.put ⟨Nat.lt_succ_self _,λx hx K=>?_⟩⟩;simp[G',Gh.box]
end
inductive Kd where
 |pure |load |grow |other
def kd:Op->Kd
 |.move _=>.pure
 |.assign _=>.pure
 |.fieldAddr ..=>.pure
 |.indexAddr ..=>.pure
 |.binOp ..=>.pure
 |.pick ..=>.pure
 |.unOp ..=>.pure
 |.nilCheck _=>.pure
 |.extract ..=>.pure
 |.build ..=>.pure
 |.slice ..=>.pure
 |.field ..=>.pure
 |.index ..=>.pure
 |.convert ..=>.pure
 |.makeFunc ..=>.pure
 |.load ..=>.load
 |.alloc ..=>.grow
 |.box ..=>.grow
 |.buildSlice ..=>.grow
 |.makeSlice ..=>.grow
 |.call c=>match c.callee with
  |.builtin .len=>.pure
  |.builtin .min=>.pure
  |.builtin .cap=>.pure
  |_=>.other
 |_=>.other
def FR(g:Oper->Bool)(o:Oper):Kd:=
 match kd o.op with
 |.other=>match o.op with
  |.call c=>bif g o then .grow else .other
  |_=>.other
 |k=>k
section
variable{P:Program}{ops:Array Oper}{Q:Exit->Act->World->Prop}{md:Region.Mode}{g:Oper->Bool}{ck:Nat->Nat->Bool}
def Yl(P:Program)(ops:Array Oper)(o:Oper)(v:Value)(a:Act)(w:World):Prop:=
 (Region.wanted o (yielded ops a.tmps)=true/\∀w',HQ w w'->(execOp a.eval o).run P w'=.ok (.value v) w')\/(Region.wanted o (yielded ops a.tmps)=false/\v=undef)
def NC(g:Oper->Bool)(P:Program)(ops:Array Oper)(Q:Exit->Act->World->Prop)(i:Nat)(K:Act->World->Prop)(a:Act)(w:World):Prop:=
 match ops[i]?with
 |none=>K a w
 |some o=>match FR g o with
  |.pure=>∃v,Yields P ops o v a/\K (a.put o.dst v) w
  |.load=>∃v,Yl P ops o v a w/\K (a.put o.dst v) w
  |.grow=>wpOp P ops Q i (λa' w'=>HQ w w'/\K a' w') a w
  |.other=>wpOp P ops Q i K a w
abbrev FU:=List (Nat×(World->Prop))
def EE(g:Oper->Bool)(ck:Nat->Nat->Bool)(P:Program)(ops:Array Oper)(Q:Exit->Act->World->Prop)(i:Nat)(c:FU)(K:FU->Act->World->Prop)(a:Act)(w:World):Prop:=
 match ops[i]?with
 |none=>K c a w
 |some o=>match FR g o with
  |.pure=>∃v,Yields P ops o v a/\K c (a.put o.dst v) w
  |.load=>∃v,Yl P ops o v a w/\K ((i,λw=>Yl P ops o v a w)::c) (a.put o.dst v) w
  |.grow=>wpOp P ops Q i (λa' w'=>HQ w w'/\K c a' w') a w
  |.other=>wpOp P ops Q i (λa' w'=>(∀p∈c,ck p.1 i=true->p.2 w')/\K c a' w') a w
def SZ(g:Oper->Bool)(ck:Nat->Nat->Bool)(P:Program)(ops:Array Oper)(Q:Exit->Act->World->Prop):List Nat->FU->Act->World->Prop
 |[],_,a,w=>Q .normal a w
 |i::l,p,a,w=>EE g ck P ops Q i p (SZ g ck P ops Q l) a w
theorem Yields.yl{o:Oper}{v:Value}{a:Act}(h:Yields P ops o v a)(w:World):Yl P ops o v a w:=by
 rcases h with⟨c,d⟩ |h
 ·exact .inl ⟨c,λw' _=>d w'⟩
 ·exact .inr h
theorem Yl.of_same{o:Oper}{v:Value}{a a':Act}{w:World}(e:Yl P ops o v a w)(c:execOp a'.eval o=execOp a.eval o)
  (d:Region.wanted o (yielded ops a'.tmps)=Region.wanted o (yielded ops a.tmps)):Yl P ops o v a' w:=by
 unfold Yl at*;rw[c,d];exact e
theorem Yl.wpOp{i:Nat}{o:Oper}{v:Value}{a:Act}{w:World}(d:ops[i]?=some o)(e:Yl P ops o v a w){K:Act->World->Prop}(h:K (a.put o.dst v) w):wpOp P ops Q i K a w:=by
 unfold Go.wpOp;simp only[d];rcases e with⟨c,hv⟩ |⟨c,rfl⟩
 ·simp only[c,if_true,Oper.wp,hv w (HQ.refl w),Oper.upon];exact .inl h
 ·simp only[c,Bool.false_eq_true,if_false];exact h
theorem Yl.ext{o:Oper}{v:Value}{a:Act}{w w':World}(g:Yl P ops o v a w)(f:HQ w w'):Yl P ops o v a w':=by
 rcases g with⟨c,d⟩ |h
 ·exact .inl ⟨c,λj e=>d j (f.trans e)⟩
 ·exact .inr h
def F1(p q:FU):Prop:=∀e∈q,∃c∈p,c.1=e.1/\∀w,c.2 w->e.2 w
theorem F1.refl(p:FU):F1 p p:=λe c=>⟨e,c,rfl,λ_ h=>h⟩
theorem F1.cons{p q:FU}(h:F1 p q){i:Nat}{F d:World->Prop}(l:∀w,F w->d w):F1 ((i,F)::p) ((i,d)::q):=λe c=>by
 rcases List.mem_cons.1 c with rfl |c
 ·exact⟨_,List.mem_cons_self,rfl,l⟩
 ·obtain⟨f,g,j⟩:=h e c;exact⟨f,List.mem_cons_of_mem _ g,j⟩
theorem F1.swap{p:FU}{i j:Nat}{F d H f:World->Prop}(g:∀w,F w->d w)(l:∀w,H w->f w):F1 ((i,F)::(j,H)::p) ((j,f)::(i,d)::p):=λe c=>by
 rcases List.mem_cons.1 c with rfl |c
 ·exact⟨(j,H),by simp,rfl,l⟩
 ·rcases List.mem_cons.1 c with rfl |c
  ·exact⟨(i,F),by simp,rfl,g⟩
  ·exact⟨e,by simp[c],rfl,λ_ h=>h⟩
def Mn(K:FU->Act->World->Prop):Prop:=∀p q a w,F1 p q->K p a w->K q a w
theorem TA{i:Nat}{p q:FU}{a:Act}{w:World}{K r:FU->Act->World->Prop}(d:F1 p q)(h:∀p q a w,F1 p q->K p a w->r q a w)(c:EE g ck P ops Q i p K a w):EE g ck P ops Q i q r a w:=by
 unfold EE at*;split
 ·rename_i m;simp only[m]at c;exact h _ _ _ _ d c
 ·rename_i o m;simp only[m]at c;split<;>rename_i C<;>simp only[C]at c
  ·obtain⟨v,f,j⟩:=c;exact⟨v,f,h _ _ _ _ d j⟩
  ·obtain⟨v,f,j⟩:=c;exact⟨v,f,h _ _ _ _ (d.cons λ_ h=>h) j⟩
  ·exact wpOp_mono (λa w l=>⟨l.1,h _ _ a w d l.2⟩) c
  ·refine wpOp_mono (λa w l=>⟨λe y u=>?_,h _ _ a w d l.2⟩) c;obtain⟨s,f,j,t⟩:=d e y;exact t w (l.1 s f (by rw[j];exact u))
theorem Ad:∀(l:List Nat),Mn (SZ g ck P ops Q l)
 |[],_,_,_,_,_,h=>h
 |i::l,p,q,a,w,c,h=>TA (K:=SZ g ck P ops Q l) c (Ad l) h
theorem GZ{i:Nat}{p:FU}{a:Act}{w:World}{K:FU->Act->World->Prop}(c:EE g ck P ops Q i p K a w):wpOp P ops Q i (λa w=>∃p,K p a w) a w:=by
 unfold EE at c;cases d:ops[i]?with
 |none=>simp only[d]at c;simp only[wpOp,d];exact⟨_,c⟩
 |some o=>
  simp only[d]at c;split at c
  ·obtain⟨v,e,f⟩:=c;exact e.wpOp d ⟨_,f⟩
  ·obtain⟨v,e,f⟩:=c;exact e.wpOp d ⟨_,f⟩
  ·exact wpOp_mono (λa w h=>⟨_,h.2⟩) c
  ·exact wpOp_mono (λa w h=>⟨_,h.2⟩) c
theorem RX:∀(l:List Nat){p:FU}{a:Act}{w:World},SZ g ck P ops Q l p a w->wpOps P ops Q l a w
 |[],_,_,_,h=>h
 |i::l,p,a,w,h=>by rw[wpOps_cons];exact wpOp_mono (λa w⟨p,h⟩=>RX l h) (GZ h)
def Ss(g:Oper->Bool)(ops:Array Oper)(c:Bool)(x j:Oper):Bool:=
 x.apart ops j&&(match FR g x,FR g j with
  |.pure,_=>true
  |.load,.pure=>true
  |.load,.load=>true
  |.load,.grow=>true
  |.load,.other=>c
  |_,_=>false)
theorem RY{j:Nat}{g l:Oper}{v:Value}(U:ops[j]?=some l)(T:g.apart ops l=true)
  (J:∀cs b,g.op≠.select cs b)(L:∀cs b,l.op≠.select cs b)
  (G:∀c a a' w,Q (.panic c) a w->Q (.panic c) a' w){K:Act->World->Prop}{a:Act}{w:World}
  (h:wpOp P ops Q j K (a.put g.dst v) w):
  wpOp P ops Q j (λa' w'=>(∀w,Yl P ops g v a w->Yl P ops g v a' w)/\K (a'.put g.dst v) w') a w:=by
 obtain⟨y,m,t⟩:=Oper.apart_spec T;have keep:∀u w',Yl P ops g v a w'->Yl P ops g v (a.put l.dst u) w':=λu w' F=>
  F.of_same (execOp_put g J a l.dst u t) (wanted_put g a l.dst u t)
 have W:∀d u w',Yl P ops g v a w'->Yl P ops g v ({a with defers:=d::a.defers}.put l.dst u) w':=λd u w' F=>
  Yl.of_same (a:={a with defers:=d::a.defers}) (F.of_same rfl rfl) (execOp_put g J _ l.dst u t) (wanted_put g _ l.dst u t)
 unfold wpOp at*;simp only[U]at*;rw[wanted_put l a g.dst v y]at h;split
 ·rename_i C;simp only[C,if_true]at h;rcases h with h |⟨H,V⟩;case inr=>exact .inr ⟨by unfold Oper.asks at*;rw[execOp_put l L a g.dst v y]at H;exact H,V⟩
  refine .inl ?_;unfold Oper.wp at*;rw[execOp_put l L a g.dst v y]at h;generalize(execOp a.eval l).run P w=r at*;cases r with
  |ok n w'=>
   cases n<;>simp only[Oper.upon]at h⊢;case value u=>exact⟨keep u,by rw[<-Act.put_comm a v u m];exact h⟩
   case skip=>exact⟨keep _,by rw[<-Act.put_comm a v undef m];exact h⟩
   case defer d=>
    refine⟨W d _,?_⟩;rw[<-Act.put_comm _ v undef m,<-Act.put_defers];exact h
   case enter f args=>
    refine Calls.mono h λe Y s=>?_;cases e with
    |returned u=>exact⟨keep u,by rw[<-Act.put_comm a v u m];exact s⟩
    |panicked c=>exact G _ _ _ _ s
    |outgrown=>exact s
   case row row args=>exact Rows.mono h λu Y s=>⟨keep u,by rw[<-Act.put_comm a v u m];exact s⟩
  |halt x w'=>cases x<;>simp only[Oper.upon]at h⊢;case panic u=>exact G _ _ _ _ h
 ·rename_i C;simp only[C]at h;exact⟨keep _,by rw[<-Act.put_comm a v undef m];exact h⟩
theorem aGw{o:Op}(cs:Array SelectCase)(b:Bool)(h:o=.select cs b):kd o=.other:=by subst h;rfl
theorem J6{x j:Nat}{d l:Oper}(hx:ops[x]?=some d)(r:ops[j]?=some l)(Y:Ss g ops (ck x j) d l=true)
  (a0:∀(j:Nat)(o:Oper)cs b,ops[j]?=some o->o.op≠.select cs b)(U:∀c a a' w,Q (.panic c) a w->Q (.panic c) a' w){K:FU->Act->World->Prop}(F:Mn K){p:FU}{a:Act}{w:World}
  (h:EE g ck P ops Q x p (λp=>EE g ck P ops Q j p K) a w):EE g ck P ops Q j p (λp=>EE g ck P ops Q x p K) a w:=by
 simp only[Ss,Bool.and_eq_true]at Y;obtain⟨G,V⟩:=Y;obtain⟨J,L,T⟩:=Oper.apart_spec G;have y:=λcs b=>a0 x d cs b hx;have t:=λcs b=>a0 j l cs b r;have keep:∀(a:Act)(w:World)(v u:Value),Yl P ops d v a w->Yl P ops d v (a.put l.dst u) w:=λa w v u s=>
  s.of_same (execOp_put d y a l.dst u T) (wanted_put d a l.dst u T)
 have a1:∀(a:Act)(v u:Value),Yields P ops d v a->Yields P ops d v (a.put l.dst u):=λa v u s=>
  s.of_same (execOp_put d y a l.dst u T) (wanted_put d a l.dst u T)
 have H:∀(a:Act)(w:World)(v u:Value),Yl P ops l u (a.put d.dst v) w->Yl P ops l u a w:=λa w v u s=>
  s.of_same (execOp_put l t a d.dst v J).symm (wanted_put l a d.dst v J).symm
 have W:∀(a:Act)(v u:Value),Yields P ops l u (a.put d.dst v)->Yields P ops l u a:=λa v u s=>
  s.of_same (execOp_put l t a d.dst v J).symm (wanted_put l a d.dst v J).symm
 cases C:FR g d with
 |other=>simp[C]at V
 |grow=>simp[C]at V
 |pure=>
  simp only[EE,hx,C]at h⊢;obtain⟨v,y1,h⟩:=h;simp only[r]at h⊢;cases m:FR g l with
  |pure=>simp only[m]at h⊢;obtain⟨u,y2,h⟩:=h;exact⟨u,W _ _ _ y2,v,a1 _ _ _ y1,by rw[<-Act.put_comm a v u L];exact h⟩
  |load=>simp only[m]at h⊢;obtain⟨u,y2,h⟩:=h;exact⟨u,H _ _ _ _ y2,v,a1 _ _ _ y1,by rw[<-Act.put_comm a v u L];exact F _ _ _ _ ((F1.refl p).cons λw=>H a w v u) h⟩
  |grow=>simp only[m]at h⊢;exact wpOp_mono (λa' w' f=>⟨f.2.1,⟨v,f.1,f.2.2⟩⟩) (wpOp_put (K:=λa' w'=>HQ w w'/\K p a' w') r G y t (λc a w=>U c _ _ w) y1 h)
  |other=>simp only[m]at h⊢;exact wpOp_mono (λa' w' f=>⟨f.2.1,⟨v,f.1,f.2.2⟩⟩) (wpOp_put (K:=λa' w'=>(∀e∈p,ck e.1 j=true->e.2 w')/\K p a' w') r G y t (λc a w=>U c _ _ w) y1 h)
 |load=>
  simp only[EE,hx,C]at h⊢;obtain⟨v,y1,h⟩:=h;simp only[r]at h⊢;cases m:FR g l with
  |pure=>simp only[m]at h⊢;obtain⟨u,y2,h⟩:=h;exact⟨u,W _ _ _ y2,v,keep _ _ _ _ y1,by rw[<-Act.put_comm a v u L];exact F _ _ _ _ ((F1.refl p).cons λw=>keep a w v u) h⟩
  |load=>simp only[m]at h⊢;obtain⟨u,y2,h⟩:=h;exact⟨u,H _ _ _ _ y2,v,keep _ _ _ _ y1,by rw[<-Act.put_comm a v u L];exact F _ _ _ _ (F1.swap (λw=>H a w v u) (λw=>keep a w v u)) h⟩
  |grow=>simp only[m]at h⊢;refine wpOp_mono (λa' w' f=>⟨f.2.1,v,f.1 _ (y1.ext f.2.1),F _ _ _ _ ((F1.refl p).cons f.1) f.2.2⟩) (RY (K:=λa' w'=>HQ w w'/\K ((x,λw=>Yl P ops d v a w)::p) a' w') r G y t U h)
  |other=>
   simp only[C,m]at V;simp only[m]at h⊢;refine wpOp_mono (λa' w' f=>⟨λe a2=>f.2.1 e (List.mem_cons_of_mem _ a2),v,f.1 _ (f.2.1 _ List.mem_cons_self V),F _ _ _ _ ((F1.refl p).cons f.1) f.2.2⟩)
    (RY (K:=λa' w'=>(∀e∈(x,λw=>Yl P ops d v a w)::p,ck e.1 j=true->e.2 w')/\K ((x,λw=>Yl P ops d v a w)::p) a' w') r G y t U h)
theorem aBT{i:Nat}{o:Oper}(r:ops[i]?=some o){p:FU}{a:Act}{w:World}{j:Act->World->Prop}{K:FU->Act->World->Prop}(h:NC g P ops Q i j a w)
  (m:FR g o=.load->∀v w',j (a.put o.dst v) w'->K ((i,λw=>Yl P ops o v a w)::p) (a.put o.dst v) w')
  (f:FR g o≠.load->∀a' w',j a' w'->(FR g o=.other->∀e∈p,ck e.1 i=true->e.2 w')/\K p a' w'):EE g ck P ops Q i p K a w:=by
 unfold NC at h;unfold EE;simp only[r]at h⊢;cases c:FR g o with
 |pure=>simp only[c]at h⊢;obtain⟨v,l,d⟩:=h;exact⟨v,l,(f (by simp[c]) _ _ d).2⟩
 |load=>simp only[c]at h⊢;obtain⟨v,l,d⟩:=h;exact⟨v,l,m c _ _ d⟩
 |grow=>simp only[c]at h⊢;exact wpOp_mono (λa' w' d=>⟨d.1,(f (by simp[c]) _ _ d.2).2⟩) h
 |other=>simp only[c]at h⊢;exact wpOp_mono (λa' w' d=>⟨(f (by simp[c]) _ _ d).1 c,(f (by simp[c]) _ _ d).2⟩) h
def Com(g:Oper->Bool)(ck:Nat->Nat->Bool)(ops:Array Oper)(x j:Nat):Prop:=∃d c,ops[x]?=some d/\ops[j]?=some c/\Ss g ops (ck x j) d c=true
theorem TB{j:Nat}{e:List Nat}(m:∀(j:Nat)(o:Oper)cs b,ops[j]?=some o->o.op≠.select cs b)(f:∀c a a' w,Q (.panic c) a w->Q (.panic c) a' w):
  ∀(d:List Nat){p:FU}{a:Act}{w:World},(∀x∈d,Com g ck ops x j)->SZ g ck P ops Q (d++j::e) p a w->EE g ck P ops Q j p (SZ g ck P ops Q (d++e)) a w
 |[],_,_,_,_,h=>h
 |x::d,p,a,w,l,h=>by obtain⟨y,v,r,s,t⟩:=l x (by simp);refine J6 r s t m f (Ad (d++e)) (TA (K:=SZ g ck P ops Q (d++j::e)) (F1.refl p) (λp q a w u h=>?_) h);exact TA u (Ad (d++e)) (TB m f d (λx hx=>l x (by simp[hx])) h)
inductive Nk(md:Region.Mode)(ops:Array Oper)(x:Nat):Nat->Prop where
 |one {j:Nat} {o:Oper} {e:Edge}:ops[j]?=some o->e∈o.after->Region.binds md e=true->e.on=x->Nk md ops x j
 |far {j k:Nat} {o:Oper} {e:Edge}:Nk md ops x k->ops[j]?=some o->e∈o.after->Region.binds md e=true->e.on=k->Nk md ops x j
def TC(md:Region.Mode)(ops:Array Oper)(c:Array Bool):Prop:=
 ∀j o,ops[j]?=some o->c.getD j false=true->∀e∈o.after,Region.binds md e=true->c.getD e.on false=true
theorem Nk.listed{g:Array Bool}(l:TC md ops g){x j:Nat}(h:Nk md ops x j)(m:g.getD j false=true):g.getD x false=true:=by
 induction h with
 |one c d e f=>subst f;exact l _ _ c m _ d e
 |far _ c d e f r=>subst f;exact r (l _ _ c m _ d e)
theorem Nk.ready{g:Array Bool}(s:TC md ops g){x j:Nat}(h:Nk md ops x j)(t:j∈Region.ready md ops g):g.getD x false=true:=by
 obtain⟨_,o,m,l⟩:=mem_ready.1 t;cases h with
 |one c d e f=>rw[m]at c;injection c with c;subst c;subst f;exact l _ d e
 |far r c d e f=>rw[m]at c;injection c with c;subst c;subst f;exact r.listed s (l _ d e)
theorem ND(m:∀(j:Nat)(o:Oper)(e:Edge),ops[j]?=some o->e∈o.after->Region.binds md e=true->e.on<j){c:Array Bool}(y:c.size=ops.size):
  ∀n,(∃j,j<n/\j<ops.size/\c.getD j true=false)->∃j,j∈Region.ready md ops c:=by
 intro n;induction n with
 |zero=>rintro⟨j,h,_⟩;omega
 |succ n u=>
  rintro⟨j,v,d,g⟩;by_cases f:∃j,j<n/\j<ops.size/\c.getD j true=false
  ·exact u f
  ·have:j=n:=by
    rcases Nat.lt_or_ge j n with h |h
    ·exact absurd ⟨j,h,d,g⟩ f
    ·omega
   subst this;refine⟨j,mem_ready.2 ⟨g,ops[j],by simp[d],λe r l=>?_⟩⟩;have s:=m j ops[j] e (by simp[d]) r l;have t:e.on<c.size:=by omega
   have:=λhf=>f ⟨e.on,s,by omega,hf⟩;simp[t]at this⊢;exact this
theorem TC.set{d:Array Bool}(r:TC md ops d){i:Nat}(t:i∈Region.ready md ops d):TC md ops (d.setIfInBounds i true):=by
 intro j o m h e g f;refine getD_set_true ?_;by_cases l:j=i
 ·subst l;obtain⟨_,o',c,s⟩:=mem_ready.1 t;rw[m]at c;injection c with c;subst c;exact s e g f
 ·rw[getD_set_ne false (Ne.symm l)]at h;exact r j o m h e g f
theorem aBU(a6:∀(j:Nat)(o:Oper)cs b,ops[j]?=some o->o.op≠.select cs b)(Y:∀c a a' w,Q (.panic c) a w->Q (.panic c) a' w)
  (a1:∀(j:Nat)(o:Oper)(e:Edge),ops[j]?=some o->e∈o.after->Region.binds md e=true->e.on<j):
  ∀(r:Nat)(L:List Nat)(d:Array Bool)(p:FU)(a:Act)(w:World),L.length<=r->d.size=ops.size->TC md ops d->(∀j,j∈L<->j<ops.size/\d.getD j true=false)->L.Nodup->
   L.Pairwise (λx j=>Nk md ops x j\/Com g ck ops x j)->SZ g ck P ops Q L p a w->wpAny P md ops Q r d a w:=by
 intro r;induction r with
 |zero=>intro L d p a w U K F l G J h;have:L=[]:=List.eq_nil_of_length_eq_zero (by omega);subst this;refine⟨List.eq_nil_iff_forall_not_mem.2 λj f=>?_,h⟩;obtain⟨y,o,H,_⟩:=mem_ready.1 f;exact absurd ((l j).2 ⟨(Array.getElem?_eq_some_iff.1 H).1,y⟩) (by simp)
 |succ r a7=>
  intro L d p a w U K F l G J h;refine⟨λa5=>?_,λj f=>?_⟩
  ·cases L with
   |nil=>exact h
   |cons i L=>obtain⟨t,T⟩:=(l i).1 (by simp);obtain⟨j,f⟩:=ND (md:=md) a1 K (i+1) ⟨i,Nat.lt_succ_self _,t,T⟩;rw[a5]at f;cases f
  ·obtain⟨y,o,H,a9⟩:=mem_ready.1 f;have a3:=(Array.getElem?_eq_some_iff.1 H).1;have a2:=(l j).2 ⟨a3,y⟩;obtain⟨m,u,rfl⟩:=List.append_of_mem a2;have a4:∀x∈m++u,x≠j:=by
    intro x hx e;subst e;have:=List.nodup_append.1 G;rcases List.mem_append.1 hx with hx |hx
    ·exact this.2.2 x hx x (by simp) rfl
    ·exact(List.nodup_cons.1 this.2.1).1 hx
   have V:(m++u).Sublist (m++j::u):=List.Sublist.append (List.Sublist.refl _) (List.sublist_cons_self _ _);have a0:∀x∈m,Com g ck ops x j:=by
    intro x hx;rcases(List.pairwise_append.1 J).2.2 x hx j (by simp)with hd |hd
    ·have t:=hd.ready F f;obtain⟨T,C⟩:=(l x).1 (by simp[hx]);have:x<d.size:=by omega
     simp[this]at t C;rw[t]at C;cases C
    ·exact hd
   refine wpOp_mono (λa' w'⟨p',W⟩=>?_) (GZ (TB a6 Y m a0 h));refine a7 (m++u) (d.setIfInBounds j true) p' a' w' (by simp at U⊢;omega) (by simp[K]) (F.set f) (λx=>?_) (G.sublist V) (J.sublist V) W;constructor
   ·intro hx;obtain⟨v,s⟩:=(l x).1 (by
     rcases List.mem_append.1 hx with hx |hx
     ·simp[hx]
     ·simp[hx])
    exact⟨v,by rw[getD_set_ne true (Ne.symm (a4 x hx))];exact s⟩
   ·rintro⟨v,s⟩;by_cases e:x=j
    ·subst e;have:x<d.size:=by omega
     simp[this]at s
    ·rw[getD_set_ne true (Ne.symm e)]at s;have:=(l x).2 ⟨v,s⟩;simp[e]at this;simpa using this
def Ds(md:Region.Mode)(c:List Nat):List Edge->Nat
 |[]=>0
 |e::l=>bif Region.binds md e then Nat.lor (Nat.lor (Nat.shiftLeft 1 e.on) (c.getD e.on 0)) (Ds md c l)else Ds md c l
def aBV(md:Region.Mode):List Oper->List Nat->List Nat
 |[],c=>c
 |o::l,c=>aBV md l (c++[Ds md c o.after.toList])
def Xq(m x:Nat):Bool:=Nat.beq (Nat.land (Nat.shiftRight m x) 1) 1
def aDT(g:Oper->Bool)(ck:Nat->Nat->Bool)(ops:Array Oper)(x j:Nat):Bool:=match ops[x]?,ops[j]?with
 |some d,some c=>Ss g ops (ck x j) d c
 |_,_=>false
def allB{α:Type}(f:α->Bool):List α->Bool
 |[]=>true
 |a::l=>f a&&allB f l
def X6(g:Oper->Bool)(ck:Nat->Nat->Bool)(ops:Array Oper)(c:List Nat):List Nat->Bool
 |[]=>true
 |x::l=>allB (λj=>Xq (c.getD j 0) x||aDT g ck ops x j) l&&X6 g ck ops c l
def WV(l:List Nat)(n:Nat):Bool:=match l with
 |[]=>false
 |m::l=>Nat.beq m n||WV l n
def TD:List Nat->Bool
 |[]=>true
 |m::l=>!WV l m&&TD l
def Xr(md:Region.Mode):Nat->List Oper->Bool
 |_,[]=>true
 |n,o::l=>allB (λe=>!Region.binds md e||Nat.ble (e.on+1) n) o.after.toList&&Xr md (n+1) l
def aBW:List Oper->Bool
 |[]=>true
 |o::l=>(match o.op with|.select ..=>false |_=>true)&&aBW l
def X7(g:Oper->Bool)(ck:Nat->Nat->Bool)(md:Region.Mode)(ops:Array Oper)(ord:List Nat):Bool:=
 aBW ops.toList&&(Xr md 0 ops.toList&&(TD ord&&(Nat.beq ord.length ops.size&&(allB (λj=>Nat.ble (j+1) ops.size) ord&&(allB (λj=>WV ord j) (List.range ops.size)&&X6 g ck ops (aBV md ops.toList []) ord)))))
theorem jC{α:Type}{f:α->Bool}:∀{l:List α},allB f l=true->∀a∈l,f a=true
 |[],_,_,h=>absurd h (by simp)
 |b::l,h,a,c=>by
  simp only[allB,Bool.and_eq_true]at h;rcases List.mem_cons.1 c with rfl |c
  ·exact h.1
  ·exact jC h.2 a c
theorem NE{n:Nat}:∀{l:List Nat},WV l n=true<->n∈l
 |[]=>by simp[WV]
 |m::l=>by
  simp only[WV,Bool.or_eq_true,NE (l:=l),List.mem_cons];constructor
  ·rintro(h |h)
   ·exact .inl (Nat.eq_of_beq_eq_true h).symm
   ·exact .inr h
  ·rintro(h |h)
   ·subst h;exact .inl (Nat.beq_refl _)
   ·exact .inr h
theorem oZ:∀{l:List Nat},TD l=true->l.Nodup
 |[],_=>List.nodup_nil
 |m::l,h=>by simp only[TD,Bool.and_eq_true,Bool.not_eq_true']at h;refine List.nodup_cons.2 ⟨λc=>?_,oZ h.2⟩;rw[NE.2 c]at h;exact absurd h.1 (by simp)
theorem Ae{m x:Nat}:Xq m x=true<->m.testBit x=true:=by
 unfold Xq;rw[Nat.testBit];show Nat.beq ((m>>>x)&&&1) 1=true<->(1&&&(m>>>x)!=0)=true;rw[Nat.and_comm];have h:=Nat.and_one_is_mod (m>>>x);rw[Nat.and_comm]at h;rw[h];have:m>>>x%2=0\/m>>>x%2=1:=by omega
 rcases this with h |h<;>rw[h]<;>simp
theorem NF{j:Nat}{o:Oper}(f:ops[j]?=some o){m:List Nat}(s:∀k x,(m.getD k 0).testBit x=true->Nk md ops x k){x:Nat}:
  ∀{l:List Edge},(∀e∈l,e∈o.after)->(Ds md m l).testBit x=true->Nk md ops x j
 |[],_,h=>by simp[Ds]at h
 |e::l,g,h=>by
  simp only[Ds]at h;cases d:Region.binds md e with
  |false=>simp only[d,cond_false]at h;exact NF f s (λe r=>g e (by simp[r])) h
  |true=>
   simp only[d,cond_true]at h;have c:((1<<<e.on)|||(m.getD e.on 0)|||(Ds md m l)).testBit x=true:=h;simp only[Nat.testBit_or,Bool.or_eq_true]at c;rcases c with(c |c) |c
   ·have:e.on=x:=by
     rw[Nat.shiftLeft_eq,Nat.one_mul,Nat.testBit_two_pow]at c;simpa using c
    exact .one f (g e (by simp)) d this
   ·exact .far (s _ _ c) f (g e (by simp)) d rfl
   ·exact NF f s (λe r=>g e (by simp[r])) c
theorem TE:∀(l:List Oper)(d:List Oper)(c:List Nat),ops.toList=d++l->c.length=d.length->(∀k x,(c.getD k 0).testBit x=true->Nk md ops x k)->
  ∀k x,((aBV md l c).getD k 0).testBit x=true->Nk md ops x k
 |[],_,_,_,_,h=>h
 |o::l,d,c,f,g,h=>by
  refine TE l (d++[o]) _ (by simp[f]) (by simp[g]) (λk x hx=>?_);have r:ops[d.length]?=some o:=by
   have:ops.toList[d.length]?=some o:=by rw[f];simp
   simpa using this
  by_cases j:k<c.length
  ·refine h k x ?_;simp only[List.getD]at hx⊢;rwa [List.getElem?_append_left j]at hx
  ·by_cases m:k=c.length
   ·subst m;simp[List.getD]at hx;rw[g];exact NF r h (λe f=>by simpa using f) hx
   ·have:(c++[Ds md c o.after.toList]).getD k 0=0:=by
     simp only[List.getD];rw[List.getElem?_eq_none (by simp;omega)];rfl
    rw[this]at hx;simp at hx
theorem Dt{e:List Nat}(d:∀k x,(e.getD k 0).testBit x=true->Nk md ops x k):∀{l:List Nat},X6 g ck ops e l=true->l.Pairwise (λx j=>Nk md ops x j\/Com g ck ops x j)
 |[],_=>List.Pairwise.nil
 |x::l,h=>by
  simp only[X6,Bool.and_eq_true]at h;refine List.pairwise_cons.2 ⟨λj m=>?_,Dt d h.2⟩;have:=jC h.1 j m;simp only[Bool.or_eq_true,Ae]at this;rcases this with c |c
  ·exact .inl (d _ _ c)
  ·unfold aDT at c;split at c
   ·rename_i s r e1 f;exact .inr ⟨s,r,e1,f,c⟩
   ·simp at c
theorem NG:∀(l:List Oper)(n:Nat),Xr md n l=true->∀(k:Nat)(o:Oper),l[k]?=some o->∀e∈o.after,Region.binds md e=true->e.on<n+k
 |[],_,_,k,o,h=>by simp at h
 |o::l,n,h,k,o',f=>by
  simp only[Xr,Bool.and_eq_true]at h;cases k with
  |zero=>simp at f;subst f;intro e d c;have:=jC h.1 e (by simpa using d);simp only[c,Bool.not_true,Bool.false_or]at this;have:=Nat.le_of_ble_eq_true this;omega
  |succ k=>have:=NG l (n+1) h.2 k o' (by simpa using f);intro e d c;have:=this e d c;omega
theorem TF:∀(l:List Oper),aBW l=true->∀o∈l,∀cs b,o.op≠.select cs b
 |[],_,_,h=>absurd h (by simp)
 |o::l,h,o',c=>by
  simp only[aBW,Bool.and_eq_true]at h;rcases List.mem_cons.1 c with rfl |c
  ·intro cs b e;rw[e]at h;simp at h
  ·exact TF l h.2 o' c
theorem Su{id:Nat}{ord:List Nat}{a:Act}{w:World}(J:P.follows .mixedOrders=true)(l:X7 g ck .any ops ord=true)(C:∀c a a' w,Q (.panic c) a w->Q (.panic c) a' w)
  (h:SZ g ck P ops Q ord [] a {w with drawn:=w.drawn+1}):(Code.region id ops true).wp P Q a w:=by
 simp only[X7,Bool.and_eq_true]at l;obtain⟨m,r,s,t,u,y,v⟩:=l;have L:=Nat.eq_of_beq_eq_true t;have K:=oZ s;refine wp_region_any J (aBU (λj o cs b f=>?_) C (λj o e f G F=>?_) ops.size ord _ [] a _ (by omega) (by simp) ?_ (λj=>?_) K (Dt (TE ops.toList [] [] rfl rfl (λk x hx=>by simp at hx)) v) h)
 ·exact TF _ m o (by simpa using Array.mem_of_getElem? f) cs b
 ·have:=NG _ 0 r j o (by simpa using f) e G F;omega
 ·intro j o f d;have H:=(Array.getElem?_eq_some_iff.1 f).1;simp[H]at d
 ·constructor
  ·intro d;have:=Nat.le_of_ble_eq_true (jC u j d);exact⟨by omega,by simp[show j<ops.size by omega]⟩
  ·rintro⟨d,_⟩;exact NE.1 (jC y j (by simp[d]))
theorem Sv{id:Nat}{a:Act}{w:World}(h:SZ g ck P ops Q (List.range ops.size) [] a w):(Code.region id ops false).wp P Q a w:=
 wp_region (RX _ h)
end
theorem qN{a b:Nat}(h:Nat.beq a b=true):a=b:=Nat.eq_of_beq_eq_true h
theorem aBX{a b:Bool}(h:FS a b=true):a=b:=by rw[WE,beq_iff_eq]at h;exact h
mutual
theorem aBY:∀(x c:D),G7 x c=true->x=c
 |.i a,c,h=>by cases c<;>simp only[G7,Bool.false_eq_true]at h;rw[(bT _ _).1 h]
 |.b a,c,h=>by cases c<;>simp only[G7,Bool.false_eq_true]at h;rw[aBX h]
 |.s a,c,h=>by cases c<;>simp only[G7,Bool.false_eq_true]at h;rw[(yW _ _).1 h]
 |.l a,c,h=>by cases c<;>simp only[G7,Bool.false_eq_true]at h;rw[WW a _ h]
theorem WW:∀(x c:LD),VX x c=true->x=c
 |[],c,h=>by cases c<;>simp only[VX,Bool.false_eq_true]at h;rfl
 |a::x,c,h=>by
  cases c with
  |nil=>simp[VX]at h
  |cons b c=>simp only[VX,Bool.and_eq_true]at h;rw[aBY a b h.1,WW x c h.2]
end
theorem Af:∀{x e:List (Nat×Nat)},No x e=true->x=e
 |[],[],_=>rfl
 |(a,b)::x,(c,d)::e,h=>by simp only[No,Bool.and_eq_true]at h;rw[qN h.1,qN h.2.1,Af h.2.2]
 |[],_::_,h=>by simp[No]at h
 |_::_,[],h=>by simp[No]at h
theorem X8:∀{x c:List (List (Nat×Nat))},Or x c=true->x=c
 |[],[],_=>rfl
 |a::x,b::c,h=>by simp only[Or,Bool.and_eq_true]at h;rw[Af h.1,X8 h.2]
 |[],_::_,h=>by simp[Or]at h
 |_::_,[],h=>by simp[Or]at h
theorem Sw:∀{l m:List Nat},G8 l m=true->l=m
 |[],[],_=>rfl
 |a::l,b::m,h=>by simp only[G8,Bool.and_eq_true]at h;rw[Nat.eq_of_beq_eq_true h.1,Sw h.2]
 |[],_::_,h=>by simp[G8]at h
 |_::_,[],h=>by simp[G8]at h
mutual
theorem aBZ:∀(x c:A),aDN x c=true->x=c:=by
 intro x c h;cases x<;>cases c<;>simp only[aDN,Bool.and_eq_true,Bool.false_eq_true]at h;case int.int=>rw[(fF _ _).1 h.1,(bT _ _).1 h.2]
 case bool.bool=>rw[aBX h]
 case str.str=>rw[(yW _ _).1 h]
 case nils.nils=>rfl
 case fz.fz=>rw[Af h.1,qN h.2.1,iK _ _ h.2.2.1,WW _ _ h.2.2.2]
 case vw.vw=>rw[qN h.1,qN h.2.1,Af h.2.2]
 case px.px=>rw[qN h.1,qN h.2.1,qN h.2.2]
 case sx.sx=>rw[qN h.1,qN h.2.1,qN h.2.2.1,qN h.2.2.2.1,qN h.2.2.2.2]
 case sb.sb=>rw[qN h.1,qN h.2.1,qN h.2.2.1,qN h.2.2.2]
 case pa.pa=>rw[qN h.1,qN h.2.1,Af h.2.2.1,qN h.2.2.2.1,qN h.2.2.2.2.1,qN h.2.2.2.2.2]
 case pb.pb=>rw[qN h.1,qN h.2.1,qN h.2.2]
 case mp.mp=>rw[qN h.1,qN h.2]
 case ez.ez=>rfl
 case pz.pz=>rw[Af h.1,iK _ _ h.2.1,aBY _ _ h.2.2.1,qN h.2.2.2]
 case agg.agg=>rw[WX _ _ h]
 case tup.tup=>rw[WX _ _ h]
 case nilp.nilp=>rfl
 case fn.fn=>rw[qN h.1,WX _ _ h.2]
 case undef.undef=>rfl
theorem WX:∀(x c:List A),VY x c=true->x=c:=by
 intro x c h;cases x with
 |nil=>cases c<;>simp only[VY,Bool.false_eq_true]at h;rfl
 |cons a x=>
  cases c with
  |nil=>simp[VY]at h
  |cons b c=>simp only[VY,Bool.and_eq_true]at h;rw[aBZ a b h.1,WX x c h.2]
end
theorem Sx:∀{x c:Tr},Hy x c=true->x=c
 |.nil,.nil,_=>rfl
 |.node a l r,.node a' d r',h=>by simp only[Hy,Bool.and_eq_true]at h;rw[aBZ _ _ h.1,Sx h.2.1,Sx h.2.2]
 |.nil,.node ..,h=>by simp[Hy]at h
 |.node ..,.nil,h=>by simp[Hy]at h
theorem aDU:∀{x c:Option MV},Wx x c=true->x=c
 |none,none,_=>rfl
 |some ⟨k,e,m⟩,some ⟨f,d,m'⟩,h=>by simp only[Wx,Bool.and_eq_true]at h;rw[LT.beq_eq _ _ h.1,LT.beq_eq _ _ h.2.1,WW _ _ h.2.2]
 |none,some _,h=>by simp[Wx]at h
 |some _,none,h=>by simp[Wx]at h
theorem X9:∀{x c:List (Nat×Bx)},Ot x c=true->x=c
 |[],[],_=>rfl
 |(n,⟨u,lv,mp⟩)::l,(n',⟨f,d,e⟩)::m,h=>by simp only[Ot,Bool.and_eq_true]at h;rw[qN h.1,qN h.2.1,WX _ _ h.2.2.1,aDU h.2.2.2.1,X9 h.2.2.2.2]
 |[],_::_,h=>by simp[Ot]at h
 |_::_,[],h=>by simp[Ot]at h
theorem Y0:∀{x c:List (Nat×yN)},Ou x c=true->x=c
 |[],[],_=>rfl
 |(n,⟨a1,a2,a3,a4,a5,v,y⟩)::l,(n',⟨b1,b2,C,F,G,H,J⟩)::m,h=>by simp only[Ou,Bool.and_eq_true]at h;obtain⟨d,e,f,g,j,r,s,t,u⟩:=h;rw[qN d,qN e,iK _ _ f,WW _ _ g,X8 j,qN r,Sw s,qN t,Y0 u]
 |[],_::_,h=>by simp[Ou]at h
 |_::_,[],h=>by simp[Ou]at h
theorem aDV{s t:St}(h:aBC s t=true):s=t:=by obtain⟨a1,a2,a3,a4⟩:=s;obtain⟨b1,b2,c,d⟩:=t;simp only[aBC,Bool.and_eq_true]at h;rw[Sx h.1,X9 h.2.1,Y0 h.2.2.1,qN h.2.2.2]
theorem aDW{r q:Ex×St}(h:V4 r q=true):r=q:=by
 obtain⟨e,s⟩:=r;obtain⟨f,t⟩:=q;unfold V4 at h;split at h
 ·rename_i c d;simp only at c d h;subst c;subst d;rw[aDV h]
 ·simp at h
section
variable{P:Program}{ops:Array Oper}{Q:Exit->Act->World->Prop}{md:Region.Mode}{g:Oper->Bool}{ck:Nat->Nat->Bool}
theorem aB0(Q:∀(j:Nat)(o:Oper)(e:Edge),ops[j]?=some o->e∈o.after->Region.binds md e=true->e.on<j):
  ∀(g t:Nat)(c:Array Bool)(d:List Nat),d.length<=g->c.size=ops.size->TC md ops c->(∀j,j∈d<->j<ops.size/\c.getD j true=false)->d.Nodup->
   (Region.linearise.go md ops g t c []).Perm d/\(Region.linearise.go md ops g t c []).Pairwise (λa b=>¬Nk md ops b a):=by
 intro g;induction g with
 |zero=>intro t c d U r u h C;have:d=[]:=List.eq_nil_of_length_eq_zero (by omega);subst this;simp[Region.linearise.go]
 |succ g a1=>
  intro t c d U r u h C;simp only[Region.linearise.go];change (match(Region.ready md ops c)[t%(Region.ready md ops c).length]?with
   |some i=>Region.linearise.go md ops g (t/(Region.ready md ops c).length) (c.setIfInBounds i true) [i]
   |none=>[].reverse).Perm d/\(match(Region.ready md ops c)[t%(Region.ready md ops c).length]?with
   |some i=>Region.linearise.go md ops g (t/(Region.ready md ops c).length) (c.setIfInBounds i true) [i]
   |none=>[].reverse).Pairwise (λa b=>¬Nk md ops b a)
  cases v:(Region.ready md ops c)[t%(Region.ready md ops c).length]?with
  |none=>
   have V:Region.ready md ops c=[]:=by
    cases Y:Region.ready md ops c with
    |nil=>rfl
    |cons x xs=>rw[Y]at v;have y:t%(x::xs).length<(x::xs).length:=Nat.mod_lt _ (by simp);simp at v;simp at y;omega
   have L:d=[]:=by
    cases d with
    |nil=>rfl
    |cons i d=>obtain⟨m,K⟩:=(h i).1 (by simp);obtain⟨j,l⟩:=ND (md:=md) Q r (i+1) ⟨i,Nat.lt_succ_self _,m,K⟩;rw[V]at l;cases l
   subst L;simp
  |some j=>
   simp only[];rw[linearise_go_acc,List.reverse_singleton,List.singleton_append];have l:=List.mem_of_getElem? v;obtain⟨J,o,W,a3⟩:=mem_ready.1 l;have T:=(Array.getElem?_eq_some_iff.1 W).1;have G:=(h j).2 ⟨T,J⟩;obtain⟨H,a2⟩:=a1 (t/(Region.ready md ops c).length) (c.setIfInBounds j true) (d.erase j) (by rw[List.length_erase_of_mem G];omega) (by simp[r]) (u.set l) (λx=>by
    rw[C.mem_erase_iff];constructor
    ·rintro⟨hx,a0⟩;obtain⟨s,f⟩:=(h x).1 a0;exact⟨s,by rw[getD_set_ne true (Ne.symm hx)];exact f⟩
    ·rintro⟨s,f⟩;by_cases e:x=j
     ·subst e;have:x<c.size:=by omega
      simp[this]at f
     ·rw[getD_set_ne true (Ne.symm e)]at f;exact⟨e,(h x).2 ⟨s,f⟩⟩) (C.erase j)
   refine⟨(H.cons j).trans (List.perm_cons_erase G).symm,List.pairwise_cons.2 ⟨λb P hd=>?_,a2⟩⟩;have F:=List.mem_of_mem_erase (H.subset P);obtain⟨_,f⟩:=(h b).1 F;have m:=hd.ready u l;have y:b<c.size:=by rw[r];exact((h b).1 F).1
   simp[y]at m f;rw[m]at f;cases f
theorem Xs(J:∀(j:Nat)(o:Oper)cs b,ops[j]?=some o->o.op≠.select cs b)(y:∀c a a' w,Q (.panic c) a w->Q (.panic c) a' w){H:Nat->Bool}:
  ∀(L o:List Nat){p:FU}{a:Act}{w:World},L.Perm o->o.Nodup->L.Pairwise (λa b=>¬Nk md ops b a)->o.Pairwise (λx j=>Nk md ops x j\/Com g ck ops x j\/(H x=true/\H j=true))->L.filter H=o.filter H->
   SZ g ck P ops Q o p a w->wpOps P ops Q L a w
 |[],o,p,a,w,r,_,_,_,_,h=>by have:o=[]:=List.perm_nil.1 r.symm;subst this;exact h
 |j::L,o,p,a,w,r,C,v,F,hf,h=>by
  have W:j∈o:=r.subset (by simp);obtain⟨d,s,rfl⟩:=List.append_of_mem W;have Y:∀x∈d,x≠j:=by intro x hx e;subst e;exact(List.nodup_append.1 C).2.2 x hx x (by simp) rfl
  have G:L.Perm (d++s):=(List.perm_cons j).1 (r.trans List.perm_middle);have u:∀x∈d,H x=true->H j=true->False:=by
   intro x hx l t;rw[List.filter_cons_of_pos t,List.filter_append]at hf;cases f:d.filter H with
   |nil=>have:x∈d.filter H:=List.mem_filter.2 ⟨hx,l⟩;rw[f]at this;cases this
   |cons T ys=>
    rw[f,List.cons_append]at hf;injection hf with e1 a0;have:T∈d.filter H:=by rw[f];simp
    exact Y T (List.mem_filter.1 this).1 e1.symm
  have V:∀x∈d,Com g ck ops x j:=by
   intro x hx;rcases(List.pairwise_append.1 F).2.2 x hx j (by simp)with hd |hd |⟨l,t⟩
   ·exact absurd hd ((List.pairwise_cons.1 v).1 x (G.symm.subset (by simp[hx])))
   ·exact hd
   ·exact(u x hx l t).elim
  have K:(d++s).Sublist (d++j::s):=List.Sublist.append (List.Sublist.refl _) (List.sublist_cons_self _ _);rw[wpOps_cons];refine wpOp_mono (λa' w'⟨p',U⟩=>?_) (GZ (TB J y d V h));refine Xs J y L (d++s) G (C.sublist K) (List.pairwise_cons.1 v).2 (F.sublist K) ?_ U;rw[List.filter_append]at hf⊢;cases m:H j with
  |false=>rw[List.filter_cons_of_neg (by simp[m]),List.filter_cons_of_neg (by simp[m])]at hf;exact hf
  |true=>have f:d.filter H=[]:=List.filter_eq_nil_iff.2 λx hx l=>u x hx l m;rw[List.filter_cons_of_pos m,List.filter_cons_of_pos m,f]at hf;rw[f];exact(List.cons.inj hf).2
def Ag(x:Nat):List Nat->List (List Nat)
 |[]=>[[x]]
 |y::l=>(x::y::l)::(Ag x l).map (y::·)
def Xt:List Nat->List (List Nat)
 |[]=>[[]]
 |x::l=>(Xt l).flatMap (Ag x)
theorem Iq(x:Nat):∀(d c:List Nat),d++x::c∈Ag x (d++c)
 |[],[]=>by simp[Ag]
 |[],e::c=>by simp[Ag]
 |e::d,c=>by simp only[List.cons_append,Ag,List.mem_cons,List.mem_map];exact .inr ⟨_,Iq x d c,rfl⟩
theorem Pf:∀(l L:List Nat),L.Perm l->L∈Xt l
 |[],L,h=>by rw[List.perm_nil.1 h];simp[Xt]
 |x::l,L,h=>by have hx:x∈L:=h.symm.subset (by simp);obtain⟨d,c,rfl⟩:=List.append_of_mem hx;have:(d++c).Perm l:=(List.perm_cons x).1 (List.perm_middle.symm.trans h);simp only[Xt,List.mem_flatMap];exact⟨_,Pf l _ this,Iq x d c⟩
def Pg{α:Type}(f:α->Bool):List α->Bool
 |[]=>false
 |a::l=>f a||Pg f l
theorem Ah{α:Type}{f:α->Bool}:∀{l:List α},Pg f l=true->∃a∈l,f a=true
 |[],h=>by simp[Pg]at h
 |a::l,h=>by
  simp only[Pg,Bool.or_eq_true]at h;rcases h with h |h
  ·exact⟨a,by simp,h⟩
  ·obtain⟨b,c,d⟩:=Ah h;exact⟨b,by simp[c],d⟩
def TG(c:List Nat):List Nat->Bool
 |[]=>false
 |x::l=>Pg (λj=>Xq (c.getD x 0) j) l||TG c l
theorem Ir{e:List Nat}(c:∀k x,(e.getD k 0).testBit x=true->Nk md ops x k):∀{l:List Nat},TG e l=true->¬l.Pairwise (λa b=>¬Nk md ops b a)
 |[],h=>by simp[TG]at h
 |x::l,h=>λd=>by
  simp only[TG,Bool.or_eq_true]at h;rcases h with h |h
  ·obtain⟨j,f,g⟩:=Ah h;exact(List.pairwise_cons.1 d).1 j f (c _ _ (Ae.1 g))
  ·exact Ir c h (List.pairwise_cons.1 d).2
def Y1(g:Oper->Bool)(ck:Nat->Nat->Bool)(ops:Array Oper)(c d:List Nat):List Nat->Bool
 |[]=>true
 |x::l=>allB (λj=>Xq (d.getD j 0) x||(aDT g ck ops x j||(WV c x&&WV c j))) l&&Y1 g ck ops c d l
theorem Du{d f:List Nat}(e:∀k x,(f.getD k 0).testBit x=true->Nk md ops x k):∀{l:List Nat},Y1 g ck ops d f l=true->l.Pairwise (λx j=>Nk md ops x j\/Com g ck ops x j\/(WV d x=true/\WV d j=true))
 |[],_=>List.Pairwise.nil
 |x::l,h=>by
  simp only[Y1,Bool.and_eq_true]at h;refine List.pairwise_cons.2 ⟨λj r=>?_,Du e h.2⟩;have:=jC h.1 j r;simp only[Bool.or_eq_true,Bool.and_eq_true,Ae]at this;rcases this with c |c |c
  ·exact .inl (e _ _ c)
  ·unfold aDT at c;split at c
   ·rename_i t s e1 m;exact .inr (.inl ⟨t,s,e1,m,c⟩)
   ·simp at c
  ·exact .inr (.inr c)
def aB1(g:Oper->Bool)(ck:Nat->Nat->Bool)(ops:Array Oper)(c d:List Nat)(ord:List Nat):Bool:=
 TD ord&&(Nat.beq ord.length ops.size&&(allB (λj=>Nat.ble (j+1) ops.size) ord&&(allB (λj=>WV ord j) (List.range ops.size)&&Y1 g ck ops c d ord)))
def Sy(g:Oper->Bool)(ck:Nat->Nat->Bool)(md:Region.Mode)(ops:Array Oper)(c:List Nat)(os:List (List Nat)):Bool:=
 aBW ops.toList&&(Xr md 0 ops.toList&&(TD c&&(allB (λj=>Nat.ble (j+1) ops.size) c&&(allB (aB1 g ck ops c (aBV md ops.toList [])) os&&allB (λd=>TG (aBV md ops.toList []) d||Pg (λo=>G8 (o.filter (WV c)) d) os) (Xt c)))))
theorem Xu{id:Nat}{r:List Nat}{os:List (List Nat)}{a:Act}{w:World}(a6:P.follows .mixedOrders=true)(F:Sy g ck .any ops r os=true)(a3:∀c a a' w,Q (.panic c) a w->Q (.panic c) a' w)
  (h:∀o∈os,SZ g ck P ops Q o [] a {w with drawn:=w.drawn+1}):(Code.region id ops true).wp P Q a w:=by
 simp only[Sy,Bool.and_eq_true]at F;obtain⟨V,W,Y,a0,a1,a2⟩:=F;have C:=TE (md:=.any) ops.toList [] [] rfl rfl (λk x hx=>by simp at hx);have a9:∀(j:Nat)(o:Oper)cs b,ops[j]?=some o->o.op≠.select cs b:=λj o cs b d=>TF _ V o (by simpa using Array.mem_of_getElem? d) cs b;refine wp_region_draw λt=>?_;simp only[Region.schedule,a6,Bool.true_or,if_true];obtain⟨m,u⟩:=aB0 (md:=.any) (ops:=ops) (λj o e d s a4=>by have:=NG _ 0 W j o (by simpa using d) e s a4;omega) ops.size t (Array.replicate ops.size false) (List.range ops.size) (by simp) (by simp) (by
  intro j o d l;have a5:=(Array.getElem?_eq_some_iff.1 d).1;simp[a5]at l) (λj=>by
   constructor
   ·intro l;have:=List.mem_range.1 l;exact⟨this,by simp[this]⟩
   ·rintro⟨l,_⟩;exact List.mem_range.2 l) List.nodup_range
 show wpOps P ops Q (Region.linearise.go .any ops ops.size t (Array.replicate ops.size false) []) a _;generalize Region.linearise.go .any ops ops.size t (Array.replicate ops.size false) []=L at m u;have y:L.Nodup:=m.nodup_iff.2 List.nodup_range;have b0:(L.filter (WV r)).Perm r:=by
  refine(List.perm_ext_iff_of_nodup (y.sublist List.filter_sublist) (oZ Y)).2 λx=>?_;rw[List.mem_filter,NE];constructor
  ·exactλhx=>hx.2
  ·intro hx;exact⟨m.symm.subset (List.mem_range.2 (by have:=Nat.le_of_ble_eq_true (jC a0 x hx);omega)),hx⟩
 have f:=jC a2 _ (Pf _ _ b0);simp only[Bool.or_eq_true]at f;rcases f with f |f
 ·exact absurd (u.sublist List.filter_sublist) (Ir C f)
 ·obtain⟨o,d,s⟩:=Ah f;have v:=jC a1 o d;simp only[aB1,Bool.and_eq_true]at v;obtain⟨J,b1,K,T,U⟩:=v;have G:=oZ J;have a7:L.Perm o:=(List.perm_ext_iff_of_nodup y G).2 λx=>by
   constructor
   ·intro hx;exact NE.1 (jC T x (m.subset hx))
   ·intro hx;exact m.symm.subset (List.mem_range.2 (by have:=Nat.le_of_ble_eq_true (jC K x hx);omega))
  exact Xs (md:=.any) (H:=WV r) a9 a3 L o a7 G u (Du C U) (Sw s).symm (h o d)
end
section
variable{P:Program}{w:World}{G:Gh}{st:St}{sl:Nat->Option Value}{act:Act}
theorem J7(f:dI w G st sl){r u:Nat}{a:yN}(g:lP st r u [] a):dO w G st (.vw r u []) (G.H r []):=by obtain⟨c,h,d⟩:=g;have e:a.uid=u:=d;refine⟨by rw[<-e];exact(f.arrs r a c).1,λa' j=>⟨rfl,⟨_,rfl⟩,trivial⟩⟩
theorem Sz(e:dI w G st sl){t ty:TypeId}{ti a3:TI}(C:lW P t ti)(F:lW P ti.e a3)(H:ti.sl=true){d:Nat}{b5:Option (List LT)}{x b0:A}{a4 yv:Value}{s:St}
  (hx:dO w G st x a4)(J:dO w G st b0 yv)(h:JC st d a3 ti.e b5 x b0=some s):
  ∃nv w' G',(Builtin.append_ #[t,t] ty #[a4,yv]).run P w=.ok nv w'/\Fr w G w' G'/\Le w G st w' G' s/\dI w' G' s (yY sl d nv):=by
 unfold JC at h;split at h
 ·obtain⟨ns,g,Q⟩:=bind_some h;obtain⟨a2,v,y⟩:=bind_some Q;simp[ok]at y;subst y;have b6:a4=.slice none 0 0:=hx;subst b6;cases ns with
  |flat ys=>exact WQ e C F H (SW e J g) v
  |cells n l=>exact HW e C F H J g v
 ·rename_i r u p;obtain⟨q,g,Q⟩:=bind_some h;obtain⟨ns,v,y⟩:=bind_some Q;obtain⟨s1,T,Y⟩:=bind_some y;obtain⟨a2,U,V⟩:=bind_some Y;simp[ok]at V;subst V;obtain⟨a,j,K,b1,b2,b3,L,b4,f⟩:=mX e hx g;obtain⟨ad,n,c,a1,W,a9⟩:=id f;rw[a1]at f⊢;have a6:yP s1 d q.2.1 a3 q.2.2.1 (q.2.2.2.take n) ns=some a2:=by rw[<-W,List.take_length];exact U
  cases ns with
  |flat ys=>exact GF e C F H j K L T f (Nat.le_refl n) (SW e J v) a6
  |cells m l=>exact ED e C F H j K L T f (Nat.le_refl n) J v a6
 ·rename_i r u n;obtain⟨q,g,Q⟩:=bind_some h;obtain⟨v,y⟩:=aW Q;obtain⟨ns,T,Y⟩:=bind_some y;obtain⟨s1,U,V⟩:=bind_some Y;obtain⟨a2,a7,a5⟩:=bind_some V;simp[ok]at a5;subst a5;obtain⟨a0,v0,_,_,_⟩:=JJ g;obtain⟨a,j,K,b1,b2,b3,L,b4,f⟩:=mX e (J7 e v0) g;obtain⟨ad,m,c,a1,W,a9⟩:=hx.2 a j;rw[a1]at f;subst a9;cases ns with
  |flat ys=>exact GF e C F H j K L U f W (SW e J T) a7
  |cells b7 l=>exact ED e C F H j K L U f W J T a7
 ·simp[aG]at h
theorem aDX(g:dI w G st sl){t:TypeId}{ti f:TI}(v:lW P t ti)(y:lW P ti.e f)(K:ti.sl=true){c:Nat}{parts:Array (Nat×Operand)}(hx:∀p∈parts.toList,dO w G st (eR st.sl p.2) (act.eval p.2))
  (H:c*f.lv.length<=16777216)(T:c<=16777216){l:List A}(F:cellsOf st c parts f=some l){d:Nat}(C:d<500\/600<=d):
  I3 P w G st sl act d (.buildSlice t c parts) (.st ((st.newBox d l).put d (.sb d st.ctr f.lv.length c))):=by
 intro ot J;obtain⟨Q,h,j,L⟩:=DZ g v y K hx H F;obtain⟨w',G',e,r,s,u,m⟩:=CO g C ti.e j;refine⟨.value (.slice (some ⟨w.heap.size,0,none⟩) c c),_,w',G',?_,.inl rfl,by rw[e];exact HQ.alloc _ _,r,s.trans (Le.put _ _ _ _ _),u.put ?_⟩
 ·rw[e];simp[execOp,J,h]
 ·refine⟨Nat.lt_succ_self _,λx hx U=>?_⟩;rw[m];exact⟨rfl,by unfold maxLen;omega⟩
theorem Ta{w:World}{G:Gh}{d:Nat}{e:TypeId}{el:List LT}{f:Array Value}{h:TypeId}(o:Obj)(l:o=.cells f h)(c:Nat)(j:c<=maxLen)(m:c*el.length<=f.size):
  yV (w.alloc o) (G.fresh w.heap.size d (.slice (some ⟨w.heap.size,0,none⟩) 0 c)) [] d e el [] (.slice (some ⟨w.heap.size,0,none⟩) 0 c) []:=by
 refine⟨_,_,_,rfl,rfl,Nat.zero_le _,j,by simp,λad g=>?_⟩;injection g with g;subst g;subst l;exact⟨rfl,by simp[Gh.fresh],f,h,heap_alloc_new w _,by simpa using m,λi r=>by omega⟩
theorem aB2(m:dI w G st sl){t:TypeId}{ti C:TI}(a5:lW P t ti)(a6:lW P ti.e C)(c0:ti.sl=true){c:Nat}{parts:Array (Nat×Operand)}(hx:∀p∈parts.toList,dO w G st (eR st.sl p.2) (act.eval p.2))
  (b3:c*C.lv.length<=16777216)(c6:c<=16777216){l:List A}(b1:cellsOf st c parts C=some l)(c1:jT st l=true){d b:Nat}{el:List LT}{s:St}
  (h:yP st b ti.e C el [] (.cells c l)=some s):I3 P w G st sl act d (.buildSlice t c parts) (.st (s.put d (.vw b (jA s b []) []))):=by
 intro ot b5;obtain⟨g,a1,F,Q⟩:=DZ m a5 a6 c0 hx b3 b1;simp only[yP]at h;obtain⟨T,a3⟩:=aW h;simp only[Bool.and_eq_true]at T;have W:=Nat.eq_of_beq_eq_true T.2;have a2:=JN m c1 F;have b0:=(dG.1 F).1;have y:g.toList.length=c*el.length:=by rw[b0,Q,W]
 let o:Obj:=.cells g ti.e
 obtain⟨c9,d0,d1⟩:=Im m o ⟨_,_,_,rfl⟩ (Ta (w:=w) (G:=G) (d:=b) (e:=ti.e) (el:=el) o rfl c (by unfold maxLen;omega) (by simpa using Nat.le_of_eq y.symm));have c2:(sE (el.map fZ) c).length=c*el.length:=by rw[uZ];simp
 have f:=heap_alloc_new w o;have c7:∀b',(G.fresh w.heap.size b (.slice (some ⟨w.heap.size,0,none⟩) 0 c)).own b'≠.out->b'≠w.heap.size->((w.alloc o).setRow w.heap.size (qM g.toList (0+0*el.length) (sE (el.map fZ) c)).toArray).heap[b']?=(w.alloc o).heap[b']?:=λb' _ b4=>setRow_other _ _ _ _ b4;have a9:=setRow_heap (w.alloc o) w.heap.size g (qM g.toList (0+0*el.length) (sE (el.map fZ) c)).toArray ti.e (0,0) f;have b7:yV ((w.alloc o).setRow w.heap.size (qM g.toList (0+0*el.length) (sE (el.map fZ) c)).toArray) (G.fresh w.heap.size b (.slice (some ⟨w.heap.size,0,none⟩) 0 c)) [] b ti.e el [] (.slice (some ⟨w.heap.size,0,none⟩) 0 c) []:=by refine⟨_,_,_,rfl,rfl,Nat.zero_le _,by unfold maxLen;omega,by simp,λad H=>?_⟩;injection H with H;subst H;refine⟨rfl,by simp[Gh.fresh],_,ti.e,a9,?_,λi c5=>by omega⟩;show _<=(qM g.toList (0+0*el.length) (sE (el.map fZ) c)).length;rw[vA (by rw[c2];omega),y];show 0+c*el.length<=_;omega
 have K:∀b',G.own b'≠.out->(G.fresh w.heap.size b (.slice (some ⟨w.heap.size,0,none⟩) 0 c)).own b'=G.own b'/\((w.alloc o).setRow w.heap.size (qM g.toList (0+0*el.length) (sE (el.map fZ) c)).toArray).heap[b']?=w.heap[b']?:=λb' j=>by have J:=m.live b' j;refine⟨by simp[Gh.fresh,Nat.ne_of_lt J],?_⟩;rw[setRow_other _ _ _ _ (Nat.ne_of_lt J),heap_alloc_old w o b' J]
 have U:(G.fresh w.heap.size b (.slice (some ⟨w.heap.size,0,none⟩) 0 c)).H b []=.slice (some ⟨w.heap.size,0,none⟩) 0 c:=by simp[Gh.fresh]
 obtain⟨a0,c3⟩:=iP m (stg:=st) (d:=b) (e:=ti.e) (el:=el) (data:=[]) (w':=(w.alloc o).setRow w.heap.size (qM g.toList (0+0*el.length) (sE (el.map fZ) c)).toArray) (G':=G.fresh w.heap.size b (.slice (some ⟨w.heap.size,0,none⟩) 0 c)) ⟨rfl,rfl,Nat.le_refl _⟩
  (λr b6 a a7=>.inl ⟨a7,λp=>by simp[Gh.fresh,b6],λb p f=>by obtain⟨u,v⟩:=K b (by rw[f];simp);exact⟨u.trans f,v⟩⟩)
  (λb f=>by obtain⟨u,v⟩:=K b (by rw[f];simp);exact⟨u.trans f,v⟩) (λ_=>rfl) (λb f=>by obtain⟨u,v⟩:=K b (by rw[f];simp);exact⟨u.trans f,v⟩)
  (by rw[U];exact b7) (λb' j=>by
   rw[setRow_size,World.size_alloc];simp only[Gh.fresh]at j;split at j
   ·omega
   ·have:=m.live b' j;omega) (Pc m ⟨_,_,_,rfl⟩)
 have b2:look (st.newArr b ti.e el []).ar b=some {e:=ti.e,el:=el,data:=[],uid:=st.ctr,hv:=ZI st.ctr,dv:=st.ctr}:=by simp[St.newArr,bQ]
 obtain⟨L,c4,z2,z3,z4,z5⟩:=SX (n0:=0) (c':=c) f (by simp at y⊢;omega) (λq c8=>by simp) y c3 b2 rfl rfl rfl U (by omega) (pZ a0 _ _ F) (by rw[Q,W]) a2 a3 P;obtain⟨a',V⟩:=z5;have Y:=Gw (w:=w.alloc o) (G:=L) (stg:=s) V (z3.arrs b a' V).1;rw[z4,Nat.zero_add]at Y;refine⟨.value (.slice (some ⟨w.heap.size,0,none⟩) c c),_,w.alloc o,L,?_,.inl rfl,HQ.alloc _ _,?_,(a0.trans z2).trans (Le.put _ _ _ _ _),z3.put Y⟩
 ·simp[execOp,b5,a1];rfl
 ·have a4:Fr w G ((w.alloc o).setRow w.heap.size (qM g.toList (0+0*el.length) (sE (el.map fZ) c)).toArray) (G.fresh w.heap.size b (.slice (some ⟨w.heap.size,0,none⟩) 0 c)):=by
   refine⟨rfl,rfl,rfl,by rw[setRow_size,World.size_alloc];omega,λb' j _=>⟨?_,by simp[Gh.fresh,Nat.ne_of_lt j]⟩,λ_ _ _=>rfl⟩;rw[setRow_other _ _ _ _ (Nat.ne_of_lt j),heap_alloc_old w o b' j]
  exact a4.trans c4
end
section
variable{P:Program}{w w':World}{G:Gh}{st:St}{sl:Nat->Option Value}
theorem JS(g:dI w G st sl){r:Nat}{a:yN}{data:LD}(K:look st.ar r=some a)(a0:a.stale=[])(H:w'.os=w.os/\w'.tape=w.tape/\w'.output=w.output)(P:w.heap.size<=w'.heap.size)
  (L:∀b,b<w.heap.size->G.own b≠.arr r []->w'.heap[b]?=w.heap[b]?)(Y:yV w' G [] r a.e a.el [] (G.H r []) data):Fr w G w' G/\Le w G st w' G (MG st r a data)/\dI w' G (MG st r a data) sl:=by
 have s:∀b,G.own b≠.out->(∀p,G.own b≠.arr r p)->w'.heap[b]?=w.heap[b]?:=λb f l=>L b (g.live b f) (l []);have U:∀b,G.own b=.fz->G.own b=.fz/\w'.heap[b]?=w.heap[b]?:=λb h=>⟨h,s b (by rw[h];simp) (λp=>by rw[h];simp)⟩;obtain⟨a1,a2,a3,a4⟩:=g.arrs r a K;have F:Le w G st w' G (MG st r a data):=by
  refine⟨Nat.le_succ _,λr' u p a' m T=>?_,λb J _ hx=>⟨J,hx,rfl,rfl⟩,λr' a' m d=>?_,U⟩
  ·obtain⟨f,l,C⟩:=T;simp only[MG,bQ]at f;by_cases e:r'=r
   ·subst e;rw[if_pos rfl]at f;injection f with f;subst f;cases p with
    |nil=>exact⟨a,⟨K,l,C⟩,rfl,rfl,rfl,λ_=>trivial⟩
    |cons c p=>exfalso;simp only[jP]at C;have:=X2 st.ctr p.length (by simp only[List.length_cons]at l;omega);omega
   ·rw[if_neg e]at f;exact⟨a',⟨f,l,C⟩,rfl,rfl,rfl,λh=>h⟩
  ·simp only[MG,bQ]at d;by_cases e:r'=r
   ·subst e;rw[if_pos rfl]at d;injection d with d;subst d;exact absurd m (Nat.lt_irrefl _)
   ·rw[if_neg e]at d;exact⟨a',d,rfl,λb p j=>⟨⟨p,j⟩,s b (by rw[j];simp) (λp'=>by rw[j];intro h;injection h with h;exact e h)⟩⟩
 refine⟨⟨H.1,H.2.1,H.2.2,P,λb V y=>⟨L b V (by rcases y with y |y<;>rw[y]<;>simp),rfl⟩,λ_ _ _=>rfl⟩,F,?_⟩;refine g.step F (λt v hv=>dS F _ _ (g.slots t v hv)) (λb x hx=>.inl ⟨hx,rfl,?_,(g.boxes b x hx).2.1⟩) (λb b' x J h Q W=>g.apartB b b' x J h Q W) (λr' a' d=>?_) (λb h=>Nat.lt_of_lt_of_le (g.live b h) P) g.hdr
 ·have:=(g.boxes b x hx).2.1;exact s _ (by rw[this];simp) (λp=>by rw[this];simp)
 ·simp only[MG,bQ]at d;by_cases e:r'=r
  ·subst e;rw[if_pos rfl]at d;injection d with d;subst d;refine .inr ⟨Nat.lt_succ_of_lt a1,Nat.lt_succ_self _,⟨rfl,λu m=>by simp[ZI]at m;subst m;exact Nat.lt_succ_self _⟩,?_⟩;simp only[a0];exact Y
  ·rw[if_neg e]at d;exact .inl ⟨d,λ_=>rfl,λb p j=>⟨j,s b (by rw[j];simp) (λp'=>by rw[j];intro h;injection h with h;exact e h)⟩⟩
theorem RZ{z:Array Value}{n i j:Nat}(c:j<z.size)(d:i<n):(Builtin.zeroCells z n).toList[i*z.size+j]?=z[j]?:=by
 have e:i*z.size+j<n*z.size:=by have:(i+1)*z.size<=n*z.size:=Nat.mul_le_mul_right _ d;rw[Nat.add_mul,Nat.one_mul]at this;omega
 have f:(i*z.size+j)%z.size=j:=by rw[Nat.mul_comm,Nat.mul_add_mod,Nat.mod_eq_of_lt c]
 rw[Array.getElem?_toList];unfold Builtin.zeroCells;rw[Array.getElem?_map,Array.getElem?_range,if_pos e];simp only[Option.map_some,f];rw[getElem!_def,Array.getElem?_eq_getElem c]
theorem Xv(W:dI w G st sl){t ty:TypeId}{ti b4:TI}(e0:lW P t ti)(e2:lW P ti.e b4)(f4:ti.sl=true){b5:Array TypeId}(c1:b5[0]?=some t){x:A}{v:Value}(hx:dO w G st x v){s:St}(h:F8 st b4.lv x=some s):
  ∃w',(Builtin.clear_ b5 ty #[v]).run P w=.ok (.tuple #[]) w'/\Fr w G w' G/\Le w G st w' G s/\dI w' G s sl:=by
 unfold F8 at h;split at h
 ·rename_i r u k n d;obtain⟨a,f,l⟩:=bind_some h;have Q:=eM f;split at l
  ·rename_i t1 h0 t2 h7 a7 a1 e6;obtain⟨L,c0⟩:=aW l;simp[ok]at c0;subst c0;simp only[Bool.and_eq_true]at L;have e7:b4.lv=a.el:=by rw[e6,a1];exact(iK _ _ L.2).symm
   rw[<-a1]at L⊢;have c2:=L.1;obtain⟨f0,ad,m,c,c6,h8,U⟩:=hx.2 a Q;obtain⟨_,_,_,Y⟩:=W.arrs _ a Q.1;rw[a7]at Y;have d3:=Y;obtain⟨g6,m',c',V,h9,g2,g3,g4,g5⟩:=Y;rw[c6]at V;injection V with V g0 g1;subst V;subst g0;subst g1;subst f0;have f2:0<a.el.length:=by rw[a1];simp
   obtain⟨i0,e1,g8,g9⟩:=e0.sl f4;obtain⟨g7,i,z,h1,d1,h2,h3,d2,K,h4,h5⟩:=e2.ex;rw[e7]at K;have T:z.cells.size=a.el.length:=by
    have:z.cells.toList.length=a.el.length:=by rw[K];simp
    simpa using this
   have f9:∀w,(zeroValue ti.e).run P w=.ok z w:=λw=>by simp[zeroValue,typeInfo,d1,d2]
   by_cases e9:n=0
   ·subst e9;have hd:a.data.take d++List.replicate 0 (zS (fW a.el))=a.data:=by
     rw[List.replicate_zero,List.append_nil];exact List.take_of_length_le (by omega)
    rw[hd];obtain⟨b0,b1,b2⟩:=JS (w':=w) W Q.1 a7 ⟨rfl,rfl,rfl⟩ (Nat.le_refl _) (λ_ _ _=>rfl) d3;refine⟨w,?_,b0,b1,b2⟩;rw[U];generalize(if c=d then ad else ad.map (·.add (d*a.el.length)))=y;cases y<;>simp[Builtin.clear_,c1,run_underlying e1]
   ·cases ad with
    |none=>have:=g4 rfl;omega
    |some ad=>
     obtain⟨b6,b7,cs,H,J,c9,d0⟩:=g5 ad rfl;obtain⟨b,o,i1⟩:=ad;simp only at b6;subst b6;have f1:¬c=d:=by omega
     rw[if_neg f1]at U;simp only[Option.map_some,kE]at U;have a6:(Builtin.zeroCells z.cells n).toList.length=n*a.el.length:=by simp[size_zeroCells,T]
     have h6:d*a.el.length+n*a.el.length<=c*a.el.length:=by rw[<-Nat.add_mul];exact Nat.mul_le_mul_right _ (by omega)
     simp only at c9;have a5:o+d*a.el.length+(Builtin.zeroCells z.cells n).toList.length<=cs.toList.length:=by rw[a6];simp;omega
     have f8:∀u∈(Builtin.zeroCells z.cells n).toList,u.oneCell'=true:=λu f7=>by
      obtain⟨q,a4,rfl⟩:=List.mem_iff_getElem.1 f7;have e4:q=q/a.el.length*z.cells.size+q%a.el.length:=by rw[T,Nat.mul_comm];exact(Nat.div_add_mod q a.el.length).symm
      have a3:q%a.el.length<z.cells.size:=by rw[T];exact Nat.mod_lt _ f2
      have a2:q/a.el.length<n:=by rw[a6]at a4;exact Nat.div_lt_of_lt_mul (by rw[Nat.mul_comm];exact a4)
      have f:=RZ (z:=z.cells) a3 a2;rw[<-e4,List.getElem?_eq_getElem a4]at f;have l:z.cells[q%a.el.length]?=(a.el.map fZ)[q%a.el.length]?:=by rw[<-Array.getElem?_toList,K]
      rw[l,List.getElem?_map]at f;cases ht:a.el[q%a.el.length]?with
      |none=>rw[ht]at f;cases f
      |some b3=>rw[ht]at f;injection f with f;rw[f];obtain⟨a9,rfl⟩:=PY c2 _ b3 ht;rfl
     have c5:=run_storeCells_at (P:=P) b (o+d*a.el.length) H (Builtin.zeroCells z.cells n).toList 0 cs w J (by simpa using a5) f8;simp only[Nat.add_zero]at c5;let g:Array Value:=(qM cs.toList (o+d*a.el.length) (Builtin.zeroCells z.cells n).toList).toArray
     have f5:(storeCells ⟨b,o+d*a.el.length,none⟩ (Builtin.zeroCells z.cells n).toList 0).run P w=.ok () (w.setRow b g):=by rw[c5];rfl
     have f3:yV (w.setRow b g) G [] r a.e a.el [] (G.H r []) (a.data.take d++List.replicate n (zS (fW a.el))):=by
      rw[c6];refine⟨_,_,_,rfl,by simp;omega,g2,g3,by simp,λad a0=>?_⟩;injection a0 with a0;subst a0;refine⟨rfl,b7,g,H,setRow_heap w b cs g H (0,0) J,?_,λi a2=>?_⟩
      ·show _<=(qM cs.toList (o+d*a.el.length) (Builtin.zeroCells z.cells n).toList).length;rw[vA a5];simp;omega
      ·refine JO a.el 0 (λj b3 F=>?_);have a3:j<a.el.length:=(List.getElem?_eq_some_iff.1 F).1;have C:(w.setRow b g).cell? ⟨b,o+i*a.el.length+j,none⟩=(qM cs.toList (o+d*a.el.length) (Builtin.zeroCells z.cells n).toList)[o+i*a.el.length+j]?:=by
        simp[World.cell?,setRow_heap w b cs g H (0,0) J,g]
       rw[vY a5,a6]at C;obtain⟨a9,rfl⟩:=PY c2 j b3 F;simp only[Nat.zero_add];by_cases c4:i<d
       ·have c3:(i+1)*a.el.length<=d*a.el.length:=Nat.mul_le_mul_right _ c4;rw[Nat.add_mul,Nat.one_mul]at c3;rw[if_neg (by omega)]at C;obtain⟨v0,c7,c8⟩:=CM (d0 i a2) j _ F;simp only[Nat.zero_add]at c7 c8;have hg:(a.data.take d++List.replicate n (zS (fW a.el))).getD i (.i 0)=a.data.getD i (.i 0):=by
         simp only[List.getD];rw[List.getElem?_append_left (by simp;omega),List.getElem?_take,if_pos c4]
        rw[hg];exact⟨v0,by rw[C];simpa[World.cell?,J]using c7,c8⟩
       ·have c3:d*a.el.length<=i*a.el.length:=Nat.mul_le_mul_right _ (by omega);have e5:(i+1)*a.el.length<=(d+n)*a.el.length:=Nat.mul_le_mul_right _ (by omega);rw[Nat.add_mul,Nat.one_mul,Nat.add_mul]at e5;rw[if_pos (by omega)]at C;have f6:o+i*a.el.length+j-(o+d*a.el.length)=(i-d)*z.cells.size+j:=by rw[T,Nat.sub_mul];omega
        have f:=RZ (z:=z.cells) (n:=n) (i:=i-d) (j:=j) (by omega) (by omega);have l:z.cells[j]?=(a.el.map fZ)[j]?:=by rw[<-Array.getElem?_toList,K]
        rw[f6,f,l,List.getElem?_map,F]at C;have hg:(a.data.take d++List.replicate n (zS (fW a.el))).getD i (.i 0)=zS (fW a.el):=by simp only[List.getD];rw[List.getElem?_append_right (by simp;omega),List.getElem?_replicate,if_pos (by simp;omega)];rfl
        rw[hg,JL (zV a.el) j a3,JQ a.el j _ F];exact⟨_,C,⟨rfl,tZ a9,uA a9⟩⟩
     obtain⟨b0,b1,b2⟩:=JS (w':=w.setRow b g) W Q.1 a7 ⟨rfl,rfl,rfl⟩ (by simp) (λb' _ e3=>setRow_other w b b' g (λe=>e3 (by rw[e];exact b7))) f3;refine⟨_,?_,b0,b1,b2⟩;rw[U];obtain⟨n',rfl⟩:∃n',n=n'+1:=⟨n-1,by omega⟩;simp[Builtin.clear_,c1,run_underlying e1,f9,f5]
  ·simp[aG]at l
 ·simp[aG]at h
end
section
variable{P:Program}{w:World}{G:Gh}{st:St}{sl:Nat->Option Value}{act:Act}{g:Oper->Bool}
def Is(g:Oper->Bool)(P:Program)(w:World)(G:Gh)(st:St)(sl:Nat->Option Value)(act:Act)(d:Nat)(ot:Oper)(r:uX):Prop:=
 match FR g ot with
 |.pure=>∃u,(∀w',(execOp act.eval ot).run P w'=.ok (.value u) w')/\∃G',Fr w G w G'/\RV w G st sl d u w G' r
 |.load=>∃u,(∀w',HQ w w'->(execOp act.eval ot).run P w'=.ok (.value u) w')/\∃G',Fr w G w G'/\RV w G st sl d u w G' r
 |.grow=>∀(K:Act->World->Prop)(Q:Exit->Act->World->Prop),(∀v w' G',HQ w w'->Fr w G w' G'->RV w G st sl d v w' G' r->K (act.put ot.dst v) w')->ot.wp P act w K Q
 |.other=>∀(K:Act->World->Prop)(Q:Exit->Act->World->Prop),(∀v w' G',Fr w G w' G'->RV w G st sl d v w' G' r->K (act.put ot.dst v) w')->ot.wp P act w K Q
theorem lX(f:dI w G st sl){ot:Oper}{a:A}{d:Nat}(j:FR g ot=.pure)(h:DX P w G st act ot.op a):Is g P w G st sl act d ot (.val a):=by unfold Is;rw[j];obtain⟨u,c,e⟩:=h ot rfl;exact⟨u,c,G,Fr.refl w G,Le.refl w G st,f,e⟩
theorem aFJ(f:dI w G st sl){ot:Oper}{a:A}{d:Nat}(j:FR g ot=.load)(h:Gv P w G st act ot.op a):Is g P w G st sl act d ot (.val a):=by unfold Is;rw[j];obtain⟨u,c,e⟩:=h ot rfl;exact⟨u,c,G,Fr.refl w G,Le.refl w G st,f,e⟩
theorem AJ{ot:Oper}{d:Nat}{r:uX}(h:FR g ot=.pure){u:Value}{G':Gh}(c:∀w',(execOp act.eval ot).run P w'=.ok (.value u) w')(e:Fr w G w G')(f:RV w G st sl d u w G' r):Is g P w G st sl act d ot r:=by unfold Is;rw[h];exact⟨u,c,G',e,f⟩
theorem Ph{ot:Oper}{nx:Next}{u:Value}{w':World}{K:Act->World->Prop}{Q:Exit->Act->World->Prop}(h:(execOp act.eval ot).run P w=.ok nx w')(d:MW nx u)(c:K (act.put ot.dst u) w'):ot.wp P act w K Q:=by
 unfold Oper.wp;rw[h];rcases d with rfl |⟨rfl,rfl⟩
 ·exact c
 ·exact c
theorem EF{ot:Oper}{d:Nat}{r:uX}(s:FR g ot=.grow)(h:I3 P w G st sl act d ot.op r):Is g P w G st sl act d ot r:=by unfold Is;rw[s];obtain⟨nx,u,w',G',c,e,f,j,l⟩:=h ot rfl;exactλK Q m=>Ph c e (m u w' G' f j l)
theorem yZ{ot:Oper}{d:Nat}{r:uX}(l:FR g ot=.other){nx:Next}{u:Value}{w':World}{G':Gh}(c:(execOp act.eval ot).run P w=.ok nx w')(e:MW nx u)(f:Fr w G w' G')(h:RV w G st sl d u w' G' r):Is g P w G st sl act d ot r:=by unfold Is;rw[l];exactλK Q j=>Ph c e (j u w' G' f h)
def Tc(w:World)(G:Gh)(st:St)(act:Act):Op->Prop
 |.pick c a b=>dO w G st (eR st.sl c) (act.eval c)/\(eR st.sl c=.bool true->dO w G st (eR st.sl a) (act.eval a))/\(eR st.sl c=.bool false->dO w G st (eR st.sl b) (act.eval b))
 |op=>∀x∈op.operands,dO w G st (eR st.sl x) (act.eval x)
structure aB3(P:Program)(g:Ifn):Prop where
 fn:∃f,P.funcs[g.fn]?=some f/\f.name≠ "runtime.NumGoroutine"/\f.body.isNone=false
 run:∀{w:World}{G:Gh}{st st':St}{a:A}{vs:List Value}{ext:Nat->Value},g.run st=some (a,st')->vs.length=g.np->g.np<=500->dI w G st (λ_=>none)->(∀t,t<1000->dO w G st (st.sl.get t) ((vs[t]?).getD undef))->(∀t,1000<=t->dO w G st (st.sl.get t) (ext t))->
  Calls P g.fn ⟨vs⟩ w (λe w'=>∃v G',e=.returned v/\Fr w G w' G'/\dI w' G' st' (λ_=>none)/\dO w' G' st' a v/\∀t,1000<=t->dO w' G' st' (st'.sl.get t) (ext t))
structure jY(P:Program)(E:fM)(ctx:tU):Prop where
 fn:∀m s,E.sg.look m=some s->∃f,P.funcs[s.fn]?=some f/\f.name≠ "runtime.NumGoroutine"/\f.body.isNone=false
 call:∀{w:World}{G:Gh}{st st':St}{sl:Nat->Option Value}{d m:Nat}{s:FY}{as:List A}{vs:List Value},(d<500\/600<=d)->E.sg.look m=some s->dI w G st sl->eZ w G st as vs->RO E ctx st d m s as=some st'->
  Calls P s.fn ⟨vs⟩ w (λe w'=>∃v G',e=.returned v/\(gM s.ps=true->HQ w w')/\Fr w G w' G'/\Le w G st w' G' st'/\dI w' G' st' (yY sl d v))
 gd:∀{w:World}{G:Gh}{st:St}{sl:Nat->Option Value}{m:Nat}{s:FY}{as:List A}{vs:List Value}{agg:Bool}{lv:List LT}{ds:List (Nat×Nat)}{gs:List Nat}{xs:LD}{r:uX},E.sg.look m=some s->s.rs=[.val agg lv]->dI w G st sl->eZ w G st as vs->
  sP E st as s.ps as=some ([],gs,ds,xs)->iY s.ps=true->(rK ds=false\/sC lv=true)->ZN ctx true m agg lv ds xs=some r->
  ∃a,r=.val a/\Calls P s.fn ⟨vs⟩ w (λe w'=>∃v G',e=.returned v/\HQ w w'/\Fr w G w' G'/\Le w G st w' G' st/\dI w' G' st sl/\dO w' G' st a v)
 inl:∀q g,E.ic ctx q=some g->aB3 P g
theorem J8{P:Program}{E:fM}{ctx:tU}(l:jY P E ctx){m:Nat}{s:FY}(v:E.sg.look m=some s){ot:Oper}{c:Call}{f:Operand}{vs caps:List Value}(u:ot.op=.call c)(hf:c.callee=.value f)(hv:act.eval f=.func (.func s.fn) #[] ⟨caps⟩)
  (r:c.args.toList.map act.eval=vs):(execOp act.eval ot).run P w=.ok (.enter s.fn ⟨vs++caps⟩) w:=by
 obtain⟨fn,d,g,h⟩:=l.fn m s v;have t:c.args.map act.eval=⟨vs⟩:=by apply Array.ext';simpa using r
 have j:fn.body≠none:=λe=>by simp[e]at h
 simp[execOp,u,resolve,hf,hv,Deferred.ofValue,invoke,callFunc,d,g,j,t]
theorem aGN{P:Program}{w:World}{act:Act}{t:TypeId}{x i:Operand}{ot:Oper}{u:Value}(c:ot.op=.indexAddr t x i)(h:(Instr.indexAt t (act.eval x) (act.eval i)).run P w=.ok u w):(execOp act.eval ot).run P w=.ok (.value u) w:=by simp[execOp,c,h]
theorem w8{E:fM}{m:fR}{ctx:tU}(c8:gY P E)(W:jY P E ctx)(a1:dI w G st sl){ot:Oper}{d:Nat}(a5:d<500\/600<=d)(hd:d=HN m.nb+ot.dst.getD 4000)(b7:LR m ot=none){c:Call}(L:ot.op=.call c)(hx:∀x∈c.operands,dO w G st (eR st.sl x) (act.eval x)){gd:Bool}{f:Operand}(hf:c.callee=.value f){r:uX}
  (h:SS E m ctx true gd st d c.args (eR st.sl f)=some r):Is (jW E m) P w G st sl act d ot r:=by
 have a6:=hx f (by simp[Call.operands,hf]);cases Y:eR st.sl f with
 |fn n caps=>
  rw[Y]at h a6;simp only[SS]at h;obtain⟨s,F,b1⟩:=bind_some h;obtain⟨b2,y⟩:=aW b1;have c1:=Nat.eq_of_beq_eq_true b2;obtain⟨a4,b6,b5⟩:=a6;have b4:=PT (w:=w) (G:=G) (st:=st) (act:=act) c.args.toList (λx c4=>hx x (by simp only[Call.operands,Array.mem_append];exact .inr (by simpa using c4)));have a2:=MX b4 b5;have c3:=J8 (w:=w) (act:=act) W F L hf (caps:=a4) (by rw[c1];exact b6) rfl;have key:∀(R:Prop),(Calls P s.fn ⟨c.args.toList.map act.eval++a4⟩ w (λe w'=>∃v G',e=.returned v/\(R->HQ w w')/\Fr w G w' G'/\RV w G st sl d v w' G' r))->(gM s.ps=true->R)->Is (jW E m) P w G st sl act d ot r:=by
   intro R a3 b3;have a9:∀(K:Act->World->Prop)(Q:Exit->Act->World->Prop),(∀v w' G',(R->HQ w w')->Fr w G w' G'->RV w G st sl d v w' G' r->K (act.put ot.dst v) w')->ot.wp P act w K Q:=by intro K Q J;unfold Oper.wp;rw[c3];refine Calls.mono a3 λe w' C=>?_;obtain⟨v,G',rfl,t,j,l⟩:=C;exact J v w' G' t j l
   unfold Is;have a7:kd ot.op=.other:=by rw[L];simp[kd,hf]
   cases hg:jW E m ot with
   |false=>
    have:FR (jW E m) ot=.other:=by unfold FR;rw[a7];simp only[L,hg,cond_false]
    rw[this];exactλK Q J=>a9 K Q λv w' G' _ j l=>J v w' G' j l
   |true=>
    have:FR (jW E m) ot=.grow:=by unfold FR;rw[a7];simp only[L,hg,cond_true]
    rw[this];have c0:gM s.ps=true:=by
     unfold jW at hg;rw[b7,L]at hg;simp only[hf]at hg;cases f with
     |func n'=>
      have:n'=n:=by simp[eR]at Y;exact Y.1
      subst this;simp only[<-hd]at hg;simp only[oR]at F;rw[F]at hg;exact hg
     |_=>simp at hg
    exactλK Q J=>a9 K Q λv w' G' t j l=>J v w' G' (t (b3 c0)) j l
  cases gd with
  |false=>simp only[cond_false]at y;obtain⟨c6,a0,g⟩:=bind_some y;simp[ok]at g;subst g;have:=W.call a5 F a1 a2 a0;exact key _ (Calls.mono this λe w' C=>by obtain⟨v,G',T,t,j,l,U⟩:=C;exact⟨v,G',T,t,j,l,U⟩) id
  |true=>
   simp only[cond_true]at y;unfold HO at y;split at y
   ·rename_i agg lv c2;obtain⟨u,a0,g⟩:=bind_some y;obtain⟨c9,gs,ds,xs⟩:=u;simp only at g;split at g
    ·obtain⟨H,V⟩:=aW g;simp only[Bool.and_eq_true,Bool.or_eq_true,Bool.not_eq_true']at H;obtain⟨a,rfl,a3⟩:=W.gd F c2 a1 a2 a0 H.1 H.2 V;exact key True (Calls.mono a3 λe w' C=>by obtain⟨v,G',T,t,j,l,U,c5⟩:=C;exact⟨v,G',T,λ_=>t,j,l,U,c5⟩) (λ_=>trivial)
    ·unfold ZO at g;split at g
     ·obtain⟨c7,b0⟩:agg=false/\rs (RO E ctx st d (MK m d n) s (F5 st.sl c.args.toList++caps))=some r:=by
       cases agg with
       |true=>simp[aG]at g
       |false=>exact⟨rfl,by simpa using g⟩
      obtain⟨c6,H,V⟩:=bind_some b0;simp[ok]at V;subst V;have:=W.call a5 F a1 a2 H;exact key _ (Calls.mono this λe w' C=>by obtain⟨v,G',T,t,j,l,U⟩:=C;exact⟨v,G',T,t,j,l,U⟩) id
     ·simp[aG]at g
   ·simp[aG]at y
 |_=>rw[Y]at h;simp[SS,aG]at h
theorem Gy{x:M St}{r:uX}(h:rs x=some r):∃s,x=some s/\r=.st s:=by obtain⟨a,d,c⟩:=bind_some h;simp[ok]at c;exact⟨a,d,c.symm⟩
theorem oU{gd:Bool}{x:M St}{r:uX}(h:tW gd x=some r):∃s,x=some s/\r=.st s:=by
 cases gd with
 |true=>simp[tW,aG]at h
 |false=>exact Gy h
theorem AK{α:Type}{E:fM}{t:TypeId}{f:TI->TI->M α}{a:α}(h:tyE E t f=some a):∃ti c,E.tt.look t=some ti/\E.tt.look ti.e=some c/\f ti c=some a:=by obtain⟨ti,d,e⟩:=bind_some h;obtain⟨c,g,j⟩:=bind_some e;exact⟨ti,c,d,g,j⟩
theorem Xw{E:fM}{y:fR}(l:gY P E)(a1:dI w G st sl){ot:Oper}{d:Nat}{c:Call}(m:ot.op=.call c)(hx:∀x∈c.operands,dO w G st (eR st.sl x) (act.eval x)){gd:Bool}(hf:c.callee=.builtin .append){r:uX}
  (h:jI E y gd st d c.args c.argTypes .append=some r):Is (jW E y) P w G st sl act d ot r:=by
 have a3:FR (jW E y) ot=.other:=by
  have a9:kd ot.op=.other:=by rw[m];simp[kd,hf]
  have hg:jW E y ot=false:=by
   unfold jW;split
   ·rfl
   ·rw[m];simp only[hf]
  unfold FR;rw[a9];simp only[m,hg,cond_false]
 simp only[jI]at h;cases gd with
 |true=>simp[aG]at h
 |false=>
  simp only[cond_false]at h;split at h
  ·rename_i t a6 a2;cases C:Nat.beq t a6 with
   |true=>
    rw[C]at h;have:=Nat.eq_of_beq_eq_true C;subst this;obtain⟨s,e,rfl⟩:=Gy h;unfold VM at e;split at e
    ·rename_i x f g;obtain⟨ti,b2,F,H,J⟩:=AK e;obtain⟨K,j⟩:=aW J;have T:x∈c.operands:=by simp only[Call.operands,Array.mem_append];right;rw[<-Array.mem_toList_iff,g];simp
     have U:f∈c.operands:=by simp only[Call.operands,Array.mem_append];right;rw[<-Array.mem_toList_iff,g];simp
     obtain⟨nv,w',G',V,W,Y,a0⟩:=Sz (P:=P) a1 (ty:=ot.type) (l.types _ _ F) (l.types _ _ H) K (hx x T) (hx f U) j;refine yZ a3 (nx:=.value nv) (u:=nv) ?_ (.inl rfl) W ⟨Y,a0⟩;have v:c.argTypes=#[t,t]:=by apply Array.ext';simpa using a2
     have L:c.args=#[x,f]:=by apply Array.ext';simpa using g
     have b3:c.argTypes.toList=[t,t]:=by rw[v]
     have Q:c.args.map act.eval=#[act.eval x,act.eval f]:=by rw[L];simp
     simp[execOp,m,resolve,hf,invoke,Q,v,builtin,V]
    ·simp[aG]at e
   |false=>
    rw[C]at h;obtain⟨s,e,rfl⟩:=Gy h;unfold PQ at e;split at e
    ·rename_i x f g;obtain⟨ti,b2,F,H,J⟩:=AK e;obtain⟨b4,K,j⟩:=bind_some J;have T:x∈c.operands:=by simp only[Call.operands,Array.mem_append];right;rw[<-Array.mem_toList_iff,g];simp
     have U:f∈c.operands:=by simp only[Call.operands,Array.mem_append];right;rw[<-Array.mem_toList_iff,g];simp
     have a4:=hx x T;have a5:=hx f U;unfold Rx at j;split at j
     ·rename_i n e1 a7;rw[e1]at a4;rw[a7]at a5;have b0:act.eval x=.slice none 0 0:=a4;have b1:act.eval f=.int .i64 n:=a5.1;obtain⟨nv,w',G',V,W,Y,a0⟩:=WS (P:=P) a1 (ty:=ot.type) (l.types _ _ F) (l.types _ _ H) (l.types _ _ K) j;refine yZ a3 (nx:=.value nv) (u:=nv) ?_ (.inl rfl) W ⟨Y,a0⟩;have v:c.argTypes=#[t,a6]:=by apply Array.ext';simpa using a2
      have L:c.args=#[x,f]:=by apply Array.ext';simpa using g
      have Q:c.args.map act.eval=#[.slice none 0 0,.int .i64 n]:=by rw[L];simp[b0,b1]
      simp[execOp,m,resolve,hf,invoke,Q,v,builtin,V]
     ·simp[aG]at j
    ·simp[aG]at e
  ·simp[aG]at h
theorem aB4{E:fM}{C:fR}(s:gY P E)(j:dI w G st sl){ot:Oper}{d:Nat}{c:Call}(m:ot.op=.call c)(hx:∀x∈c.operands,dO w G st (eR st.sl x) (act.eval x)){gd:Bool}(hf:c.callee=.builtin .len){r:uX}
  (h:jI E C gd st d c.args c.argTypes .len=some r):Is g P w G st sl act d ot r:=by
 have F:FR g ot=.pure:=by
  have H:kd ot.op=.pure:=by rw[m];simp[kd,hf]
  unfold FR;rw[H]
 simp only[jI]at h;split at h
 ·rename_i t ts y;obtain⟨a,e,rfl⟩:=jB h;cases f:c.args.toList with
  |nil=>rw[f]at e;simp[Wi,aG]at e
  |cons x l=>
   cases l with
   |cons _ _=>rw[f]at e;simp[Wi,aG]at e
   |nil=>
    rw[f]at e;have K:x∈c.operands:=by simp only[Call.operands,Array.mem_append];right;rw[<-Array.mem_toList_iff,f];simp
    have ht:c.argTypes[0]?=some t:=by rw[<-Array.getElem?_toList,y];rfl
    obtain⟨u,L,Q⟩:=u6 (P:=P) s j (hx x K) e ot.type c.argTypes ht;have v:c.args=#[x]:=by apply Array.ext';simpa using f
    have J:c.args.map act.eval=#[act.eval x]:=by rw[v];simp
    refine AJ F (u:=u) (λw'=>?_) (Fr.refl w G) ⟨Le.refl w G st,j,Q⟩;simp[execOp,m,resolve,hf,invoke,J,builtin,L w']
 ·simp[aG]at h
theorem J9{E:fM}{f:fR}(l:gY P E)(K:dI w G st sl){ot:Oper}{d:Nat}{c:Call}(g:ot.op=.call c)(hx:∀x∈c.operands,dO w G st (eR st.sl x) (act.eval x)){gd:Bool}(hf:c.callee=.builtin .clear){r:uX}
  (h:jI E f gd st d c.args c.argTypes .clear=some r):Is (jW E f) P w G st sl act d ot r:=by
 have T:FR (jW E f) ot=.other:=by
  have U:kd ot.op=.other:=by rw[g];simp[kd,hf]
  have hg:jW E f ot=false:=by
   unfold jW;split
   ·rfl
   ·rw[g];simp only[hf]
  unfold FR;rw[U];simp only[g,hg,cond_false]
 simp only[jI]at h;cases gd with
 |true=>simp[aG]at h
 |false=>
  simp only[cond_false]at h;split at h
  ·rename_i t ts Q;obtain⟨s,e,j⟩:=bind_some h;simp[ok]at j;subst j;unfold V1 at e;split at e
   ·rename_i x m;obtain⟨ti,a3,v,y,C⟩:=AK e;obtain⟨F,H⟩:=aW C;obtain⟨_,J⟩:=qQ H;have W:x∈c.operands:=by simp only[Call.operands,Array.mem_append];right;rw[<-Array.mem_toList_iff,m];simp
    have ht:c.argTypes[0]?=some t:=by rw[<-Array.getElem?_toList,Q];rfl
    obtain⟨w',Y,a0,a1,a2⟩:=Xv (P:=P) K (ty:=ot.type) (l.types _ _ v) (l.types _ _ y) F ht (hx x W) J;have L:c.args=#[x]:=by apply Array.ext';simpa using m
    have V:c.args.map act.eval=#[act.eval x]:=by rw[L];simp
    refine yZ T (nx:=.value (.tuple #[])) (u:=.tuple #[]) ?_ (.inl rfl) a0 ⟨a1.trans (Le.put _ _ _ _ _),a2.put ⟨[],rfl,rfl⟩⟩;simp[execOp,g,resolve,hf,invoke,V,builtin,Y]
   ·simp[aG]at e
  ·simp[aG]at h
theorem aB5{E:fM}{J:fR}(y:gY P E)(C:dI w G st sl){ot:Oper}{d:Nat}{c:Call}(m:ot.op=.call c)(hx:∀x∈c.operands,dO w G st (eR st.sl x) (act.eval x)){gd:Bool}(hf:c.callee=.builtin .cap){r:uX}
  (h:jI E J gd st d c.args c.argTypes .cap=some r):Is g P w G st sl act d ot r:=by
 have K:FR g ot=.pure:=by
  have L:kd ot.op=.pure:=by rw[m];simp[kd,hf]
  unfold FR;rw[L]
 simp only[jI]at h;split at h
 ·rename_i t ts H;obtain⟨a,e,rfl⟩:=jB h;unfold aE6 at e;split at e
  ·rename_i x l;obtain⟨ti,j,s⟩:=bind_some e;obtain⟨v,f⟩:=aW s;split at f
   ·rename_i T;simp[ok]at f;subst f;have V:x∈c.operands:=by simp only[Call.operands,Array.mem_append];right;rw[<-Array.mem_toList_iff,l];simp
    have ht:c.argTypes[0]?=some t:=by rw[<-Array.getElem?_toList,H];rfl
    have hv:=hx x V;rw[T]at hv;have hv:act.eval x=.slice none 0 0:=hv;unfold sD at j;obtain⟨i0,e1,W,Y⟩:=(y.types _ _ j).sl v;have F:c.args=#[x]:=by apply Array.ext';simpa using l
    have Q:c.args.map act.eval=#[act.eval x]:=by rw[F];simp
    have U:∀w',(Builtin.cap_ c.argTypes ot.type #[act.eval x]).run P w'=.ok (.int .i64 0) w':=λw'=>by rw[hv];simp[Builtin.cap_,ht,run_underlying e1,goInt]
    refine AJ K (u:=.int .i64 0) (λw'=>?_) (Fr.refl w G) ⟨Le.refl w G st,C,⟨rfl,by decide,by decide⟩⟩;simp[execOp,m,resolve,hf,invoke,Q,builtin,U w']
   ·simp[aG]at f
  ·simp[aG]at e
 ·simp[aG]at h
theorem aB6{E:fM}{H:fR}(C:dI w G st sl){ot:Oper}{d:Nat}{c:Call}(m:ot.op=.call c)(hx:∀x∈c.operands,dO w G st (eR st.sl x) (act.eval x)){gd:Bool}(hf:c.callee=.builtin .min){r:uX}
  (h:jI E H gd st d c.args c.argTypes .min=some r):Is g P w G st sl act d ot r:=by
 have K:FR g ot=.pure:=by
  have L:kd ot.op=.pure:=by rw[m];simp[kd,hf]
  unfold FR;rw[L]
 simp only[jI]at h;obtain⟨a,e,rfl⟩:=jB h;unfold aBt at e;split at e
 ·rename_i x f j;have a1:x∈c.operands:=by simp only[Call.operands,Array.mem_append];right;rw[<-Array.mem_toList_iff,j];simp
  have a2:f∈c.operands:=by simp only[Call.operands,Array.mem_append];right;rw[<-Array.mem_toList_iff,j];simp
  have s:=hx x a1;have t:=hx f a2;unfold aE7 at e;split at e
  ·rename_i k p a3 q e1 v;rw[e1]at s;rw[v]at t;obtain⟨W,U⟩:=s;obtain⟨Y,V⟩:=t;obtain⟨y,l⟩:=aW e;have:=(fF k a3).1 y;subst this;simp[ok]at l;subst l;have F:c.args=#[x,f]:=by apply Array.ext';simpa using j
   have T:c.args.map act.eval=#[act.eval x,act.eval f]:=by rw[F];simp
   have a0:∀w',(Builtin.min_ c.argTypes ot.type #[act.eval x,act.eval f]).run P w'=.ok (.int k (if q<p then q else p)) w':=λw'=>by rw[W,Y];simp[Builtin.min_,Builtin.min2]
   have J:(bif aT q p then q else p)=if q<p then q else p:=by rw[ZW];by_cases Q:q<p<;>simp[Q]
   refine AJ K (u:=.int k (if q<p then q else p)) (λw'=>?_) (Fr.refl w G) ⟨Le.refl w G st,C,?_⟩
   ·simp[execOp,m,resolve,hf,invoke,T,builtin,a0 w']
   ·rw[J];refine⟨rfl,?_⟩;split
    ·exact V
    ·exact U
  ·simp[aG]at e
 ·simp[aG]at e
theorem K1{E:fM}{T:fR}(a7:gY P E)(v:dI w G st sl){ot:Oper}{d:Nat}{t:TypeId}{x:Operand}{Q J:Option Operand}(U:ot.op=.slice t x Q J none)(hx:∀c∈ot.op.operands,dO w G st (eR st.sl c) (act.eval c)){gd:Bool}{r:uX}
  (h:VL E T true gd st d t (eR st.sl x) (Q.map (eR st.sl)) (J.map (eR st.sl))=some r):Is g P w G st sl act d ot r:=by
 have K:FR g ot=.pure:=by unfold FR;rw[U];rfl
 rw[U]at hx;simp only[Op.operands]at hx;have y:=hx x (by simp);have b1:∀c,Q=some c->dO w G st (eR st.sl c) (act.eval c):=λc W=>hx c (by subst W;simp);have b0:∀c,J=some c->dO w G st (eR st.sl c) (act.eval c):=λc W=>hx c (by subst W;simp);unfold VL at h;obtain⟨hv,a1⟩:=qQ h;obtain⟨ti,a2,a3⟩:=bind_some a1;obtain⟨l,a4,a5⟩:=bind_some a3;obtain⟨b5,a6,C⟩:=bind_some a5;have F:=a7.types _ _ a2;have L:=WF (act:=act) b1 a4;have H:=WF (act:=act) b0 a6;have run:∀u,(∀w',(Instr.sliceAt t (act.eval x) (Q.map act.eval) (J.map act.eval) none).run P w'=.ok u w')->∀w',(execOp act.eval ot).run P w'=.ok (.value u) w':=λu b2 w'=>by simp[execOp,U,b2 w']
 unfold AH at C;split at C
 ·rename_i b7 c0 b6 a9;rw[a9]at y hv;obtain⟨V,e⟩:=aW C;cases Y:has T.pfx d with
  |true=>simp only[Y,cond_true]at e;obtain⟨a,f,rfl⟩:=jB e;obtain⟨u,j,m⟩:=u9 F V v L H y f;exact AJ K (run u j) (Fr.refl w G) ⟨Le.refl w G st,v,m⟩
  |false=>
   simp only[Y,cond_false]at e;cases a0:has T.snap d with
   |true=>simp only[a0,cond_true]at e;obtain⟨a,f,rfl⟩:=jB e;obtain⟨u,j,m⟩:=I2 F V v L H y f;exact AJ K (run u j) (Fr.refl w G) ⟨Le.refl w G st,v,m⟩
   |false=>
    simp only[a0,cond_false]at e;cases gd with
    |true=>simp[aG]at e
    |false=>simp only[cond_false]at e;obtain⟨s,f,rfl⟩:=Gy e;obtain⟨nv,G',j,m,b3,b4⟩:=w5 v F V L H y f;exact AJ K (run nv j) m ⟨b3,b4⟩
 ·obtain⟨a,f,rfl⟩:=jB C;obtain⟨u,j,m⟩:=Sg (P:=P) F L H y hv f;exact AJ K (run u j) (Fr.refl w G) ⟨Le.refl w G st,v,m⟩
theorem It{E:fM}{L:fR}{ctx:tU}(F:gY P E)(c7:jY P E ctx)(j:dI w G st sl){ot:Oper}{d:Nat}(a2:d<500\/600<=d)(hd:d=HN L.nb+ot.dst.getD 4000)(c8:LR L ot=none)(hx:Tc w G st act ot.op){gd:Bool}{r:uX}
  (h:rL E L ctx true gd st d ot.op=some r):Is (jW E L) P w G st sl act d ot r:=by
 have J:∀{k:Kd},kd ot.op=k->k≠.other->FR (jW E L) ot=k:=λ{k}e c9=>by unfold FR;rw[e];cases k<;>first|rfl |exact absurd rfl c9
 generalize y:ot.op=o at*;cases o<;>simp only[rL,aG]at h<;>(try cases h);case move x=>
  have b0:=hx x (by simp[Op.operands]);obtain⟨a,rfl,K,_⟩:=Id (P:=P) x b0 h;exact lX j (J (by rfl) (by simp)) (by rw[y];exact K)
 case assign x=>
  have b0:=hx x (by simp[Op.operands]);obtain⟨a,rfl,_,K⟩:=Id (P:=P) x b0 h;exact lX j (J (by rfl) (by simp)) (by rw[y];exact K)
 case pick c a b=>
  obtain⟨a4,a5,c5⟩:=hx;obtain⟨a',g,rfl⟩:=jB h;exact lX j (J (by rfl) (by simp)) (by rw[y];exact H4 c a b a4 a5 c5 g)
 case load t x=>
  have b4:∀{a'},V2 E st t (eR st.sl x)=some a'->Gv P w G st act (.load t x) a':=λ{a'}g=>by
   unfold V2 at g;cases a0:E.tt.look t with
   |some ti=>rw[a0]at g;exact Ie (F.types _ _ a0) j (hx x (by simp[Op.operands])) g
   |none=>rw[a0]at g;obtain⟨e,C,H⟩:=bind_some g;exact Xe (F.ptrs _ _ C) j (hx x (by simp[Op.operands])) H
  cases ht:has L.take d with
  |true=>simp only[ht,cond_true]at h;obtain⟨s,g,rfl⟩:=oU h;obtain⟨a',C,H⟩:=bind_some g;obtain⟨u,K,Q⟩:=b4 C ot y;obtain⟨G',V,W,e0⟩:=J1 (d:=d) j Q H;have U:FR (jW E L) ot=.load:=J (by rfl) (by simp);unfold Is;rw[U];exact⟨u,K,G',V,W,e0⟩
  |false=>simp only[ht,cond_false]at h;obtain⟨a',g,rfl⟩:=jB h;exact aFJ j (J (by rfl) (by simp)) (by rw[y];exact b4 g)
 case store t p x=>
  obtain⟨s,g,rfl⟩:=oU h;obtain⟨s1,C,H⟩:=bind_some g;simp[ok]at H;subst H;obtain⟨w',G',K,Q,V,W⟩:=I8 (P:=P) (d:=d) F j (hx p (by simp[Op.operands])) (hx x (by simp[Op.operands])) C ot y;have U:FR (jW E L) ot=.other:=by unfold FR;rw[y];rfl
  exact yZ U K (.inr ⟨rfl,rfl⟩) Q ⟨V.trans (Le.put _ _ _ _ _),W.put trivial⟩
 case lookup t x k c=>
  obtain⟨a',g,rfl⟩:=jB h;obtain⟨u,K,Q⟩:=Sp (P:=P) F j (hx k (by simp[Op.operands])) (hx x (by simp[Op.operands])) g;have U:FR (jW E L) ot=.other:=by unfold FR;rw[y];rfl
  exact yZ U (by simp[execOp,y,K]) (.inl rfl) (Fr.refl w G) ⟨Le.refl w G st,j,Q⟩
 case makeMap t q=>
  cases q with
  |some q=>simp[rL,aG]at h
  |none=>
   simp only[rL]at h;obtain⟨s,g,rfl⟩:=oU h;obtain⟨e3,_,g⟩:=bind_some g;obtain⟨w',G',K,Q,V,W⟩:=Sr (P:=P) (t:=t) j a2 g;have U:FR (jW E L) ot=.other:=by unfold FR;rw[y];rfl
   exact yZ U (by simp[execOp,y,K]) (.inl rfl) Q ⟨V,W⟩
 case mapUpdate t x k v=>
  obtain⟨s,g,rfl⟩:=oU h;obtain⟨s1,C,H⟩:=bind_some g;simp[ok]at H;subst H;obtain⟨w',K,Q,V,W⟩:=Sq (P:=P) F j (hx k (by simp[Op.operands])) (hx v (by simp[Op.operands])) (hx x (by simp[Op.operands])) C;have U:FR (jW E L) ot=.other:=by unfold FR;rw[y];rfl
  exact yZ U (nx:=.skip) (by simp[execOp,y,K]) (.inr ⟨rfl,rfl⟩) Q ⟨V.trans (Le.put _ _ _ _ _),W.put trivial⟩
 case alloc t=>
  obtain⟨s,g,rfl⟩:=oU h;unfold Wk at g;cases a0:E.tt.look t with
  |some ti=>rw[a0]at g;exact EF (J (by rfl) (by simp)) (by rw[y];exact I4 j (F.types _ _ a0) a2 g)
  |none=>rw[a0]at g;obtain⟨e,C,H⟩:=bind_some g;exact EF (J (by rfl) (by simp)) (by rw[y];exact Xl j (F.ptrs _ _ C) a2 H)
 case box t x=>
  obtain⟨s,g,rfl⟩:=oU h;exact EF (J (by rfl) (by simp)) (by rw[y];exact aBI j (hx x (by simp[Op.operands])) a2 g)
 case build t parts=>
  obtain⟨a',g,rfl⟩:=jB h;obtain⟨ti,C,H⟩:=bind_some g;exact lX j (J (by rfl) (by simp)) (by rw[y];exact Xk F j (F.types _ _ C) (λp a7=>hx p.2 (by simp[Op.operands];exact⟨p.1,by simpa using a7⟩)) H)
 case buildSlice t len parts=>
  have a9:∀p∈parts.toList,dO w G st (eR st.sl p.2) (act.eval p.2):=λp a7=>hx p.2 (by simp[Op.operands];exact⟨p.1,by simpa using a7⟩);cases hf:has L.fzl d with
  |true=>simp only[hf,cond_true]at h;obtain⟨a',g,rfl⟩:=jB h;obtain⟨ti,b7,C,H,T⟩:=AK g;exact EF (J (by rfl) (by simp)) (by rw[y];exact aBK j (F.types _ _ C) (F.types _ _ H) a9 T)
  |false=>
   simp only[hf,cond_false]at h;obtain⟨s,g,rfl⟩:=oU h;obtain⟨ti,b7,C,H,T⟩:=AK g;unfold Hq at T;obtain⟨Y,c6⟩:=aW T;obtain⟨l,b1,c2⟩:=bind_some c6;obtain⟨c3,a1⟩:=aW c2;simp only[Bool.and_eq_true]at Y;have b6:=Nat.le_of_ble_eq_true Y.2.2;have b5:=Nat.le_of_ble_eq_true Y.2.1;unfold Db at a1;cases b3:has L.arr d with
   |true=>simp only[b3,cond_true]at a1;obtain⟨e6,c4,b2⟩:=bind_some a1;simp[ok]at b2;subst b2;exact EF (J (by rfl) (by simp)) (by rw[y];exact aB2 j (F.types _ _ C) (F.types _ _ H) Y.1 a9 b6 b5 b1 c3 c4)
   |false=>simp only[b3,cond_false]at a1;simp[ok]at a1;subst a1;exact EF (J (by rfl) (by simp)) (by rw[y];exact aDX j (F.types _ _ C) (F.types _ _ H) Y.1 a9 b6 b5 b1 a2)
 case nilCheck x=>
  obtain⟨a',g,rfl⟩:=jB h;obtain⟨hv,C⟩:=qQ g;exact lX j (J (by rfl) (by simp)) (by rw[y];exact If (hx x (by simp[Op.operands])) hv C)
 case binOp op t x a6 xt=>
  obtain⟨a',g,rfl⟩:=jB h;obtain⟨hv,C⟩:=qQ g;obtain⟨d1,H⟩:=qQ C;exact lX j (J (by rfl) (by simp)) (by rw[y];exact u5 F op t xt x a6 hv d1 (hx x (by simp[Op.operands])) (hx a6 (by simp[Op.operands])) H)
 case unOp op t x=>
  obtain⟨a',g,rfl⟩:=jB h;exact lX j (J (by rfl) (by simp)) (by rw[y];exact aBE op t x (hx x (by simp[Op.operands])) g)
 case convert src t x=>
  obtain⟨a',g,rfl⟩:=jB h;obtain⟨ts,C,H⟩:=bind_some g;obtain⟨ti,T,Y⟩:=bind_some H;obtain⟨e2,i,z,c1,_⟩:=(F.types _ _ C).ex;exact lX j (J (by rfl) (by simp)) (by rw[y];exact Np src t x (F.types _ _ T) ⟨_,c1⟩ (hx x (by simp[Op.operands])) Y)
 case makeFunc f first captured=>
  obtain⟨a',g,rfl⟩:=jB h;exact lX j (J (by rfl) (by simp)) (by rw[y];exact Ig (λa6 d2=>hx a6 (by simp[Op.operands,d2])) g)
 case makeSlice t n m=>
  obtain⟨s,g,rfl⟩:=oU h;have a4:=hx n (by simp[Op.operands]);have a5:=hx m (by simp[Op.operands]);unfold Rv at g;split at g
  ·rename_i nn e4 e1 c0;obtain⟨ti,b7,C,H,T⟩:=AK g;rw[e1]at a4;rw[c0]at a5;obtain⟨nv,w',G',K,d3,Q,V,W⟩:=J2 (P:=P) j (F.types _ _ C) (F.types _ _ H) T;refine EF (J (by rfl) (by simp)) ?_;rw[y];intro e5 d0;refine⟨.value nv,nv,w',G',?_,.inl rfl,d3,Q,V,W⟩;simp[execOp,d0,a4.1,a5.1,K]
  ·simp[aG]at g
 case slice t x lo hi mx=>
  cases mx with
  |some m=>simp[rL,aG]at h
  |none=>exact K1 F j y (by rw[y];exact hx) h
 case fieldAddr t x f=>
  obtain⟨a',g,rfl⟩:=jB h;obtain⟨ti,C,H⟩:=bind_some g;obtain⟨hv,T⟩:=qQ H;exact lX j (J (by rfl) (by simp)) (by rw[y];exact Fv (F.types _ _ C) (hx x (by simp[Op.operands])) hv T)
 case field t x f=>
  obtain⟨a',g,rfl⟩:=jB h;obtain⟨ti,C,H⟩:=bind_some g;exact lX j (J (by rfl) (by simp)) (by rw[y];exact Xg F (F.types _ _ C) (hx x (by simp[Op.operands])) H)
 case indexAddr t x i=>
  obtain⟨a',g,rfl⟩:=jB h;obtain⟨hv,C⟩:=qQ g;obtain⟨u,K,Q⟩:=Fw (P:=P) F j (hx x (by simp[Op.operands])) (hx i (by simp[Op.operands])) hv C;exact AJ (J (by rfl) (by simp)) (λw'=>aGN y (K w')) (Fr.refl w G) ⟨Le.refl w G st,j,Q⟩
 case index t x i=>
  obtain⟨a',g,rfl⟩:=jB h;obtain⟨ti,C,H⟩:=bind_some g;exact lX j (J (by rfl) (by simp)) (by rw[y];exact Xh (F.types _ _ C) (hx x (by simp[Op.operands])) (hx i (by simp[Op.operands])) H)
 case extract x i=>
  obtain⟨a',g,rfl⟩:=jB h;exact lX j (J (by rfl) (by simp)) (by rw[y];exact Nq (hx x (by simp[Op.operands])) g)
 case call c=>
  have a3:∀x∈c.operands,dO w G st (eR st.sl x) (act.eval x):=hx;unfold DP at h;split at h
  ·rename_i f hf;exact w8 F c7 j a2 hd c8 y a3 hf h
  ·rename_i b hf;cases b with
   |len=>exact aB4 F j y a3 hf h
   |append=>exact Xw F j y a3 hf h
   |min=>exact aB6 j y a3 hf h
   |cap=>exact aB5 F j y a3 hf h
   |clear=>exact J9 F j y a3 hf h
   |_=>simp[jI,aG]at h
  ·simp[aG]at h
end
theorem JT{x:M A}{r:uX}(h:rv x=some r):∃a,r=.val a:=by obtain⟨a,_,h⟩:=jB h;exact⟨a,h⟩
theorem Td{E:fM}{ctx:tU}{st:St}{d m:Nat}{s:FY}{as:List A}{agg:Bool}{l:List LT}{r:uX}(h:ZO E ctx st false d m s as agg l=some r):∃a,r=.val a:=by
 unfold ZO at h;split at h
 ·cases agg with
  |true=>simp[aG]at h
  |false=>simp[ok]at h;exact⟨_,h.symm⟩
 ·simp[aG]at h
theorem Te{E:fM}{f:fR}{st:St}{d:Nat}{c:Array Operand}{e:Array TypeId}{b:Builtin}{r:uX}(h:jI E f true st d c e b=some r):∃a,r=.val a:=by
 cases b<;>simp only[jI,cond_true,aG]at h<;>(try cases h)<;>(try exact JT h);all_goals
  split at h
  ·exact JT h
  ·simp[aG]at h
theorem K3{E:fM}{j:fR}{ctx:tU}{st:St}{d:Nat}{o:Op}{r:uX}(h:rL E j ctx false true st d o=some r):∃a,r=.val a:=by
 cases o<;>simp only[rL,tW,cond_true,aG]at h<;>(try cases h)<;>(try exact JT h);case move x=>
  unfold ZL at h;split at h
  ·simp[aG]at h
  ·simp[ok]at h;exact⟨_,h.symm⟩
 case assign x=>
  unfold ZL at h;split at h
  ·simp[aG]at h
  ·simp[ok]at h;exact⟨_,h.symm⟩
 case makeMap t q=>
  cases q with
  |some q=>simp[rL,aG]at h
  |none=>simp[rL,tW,aG]at h
 case load t x=>
  cases hf:has j.take d with
  |true=>simp[hf]at h
  |false=>simp only[hf,cond_false]at h;exact JT h
 case buildSlice t len parts=>
  cases hf:has j.fzl d with
  |true=>simp only[hf,cond_true]at h;exact JT h
  |false=>simp[hf]at h
 case slice t x lo hi mx=>
  cases mx with
  |some m=>simp[rL,aG]at h
  |none=>
   simp only[rL]at h;obtain⟨_,F⟩:=qQ h;obtain⟨ti,_,H⟩:=bind_some F;obtain⟨l,_,J⟩:=bind_some H;obtain⟨K,_,v⟩:=bind_some J;unfold AH at v;split at v
   ·obtain⟨_,e⟩:=aW v;cases y:has j.pfx d with
    |true=>simp only[y,cond_true]at e;exact JT e
    |false=>
     simp only[y,cond_false]at e;cases C:has j.snap d with
     |true=>simp only[C,cond_true]at e;exact JT e
     |false=>simp[C,aG]at e
   ·exact JT v
 case call c=>
  unfold DP at h;split at h
  ·unfold SS at h;split at h
   ·obtain⟨s,_,G⟩:=bind_some h;obtain⟨_,g⟩:=aW G;simp only[cond_true]at g;unfold HO at g;split at g
    ·obtain⟨u,_,f⟩:=bind_some g;split at f
     ·obtain⟨_,f⟩:=aW f;unfold ZN at f;obtain⟨q,_,e⟩:=bind_some f;split at e
      ·exact JT e
      ·simp[aG]at e
     ·exact Td f
    ·simp[aG]at g
   ·simp[aG]at h
  ·exact Te h
  ·simp[aG]at h
def NH(ge:Wl)(p:Nat×Bool):Prop:=∃G,look ge p.1=some (true,p.2,G)
def zA(ge:Wl)(l:List (Nat×Bool)):Prop:=∀p∈l,NH ge p
theorem Y2{p:Nat×Bool}:∀{l:List (Nat×Bool)},inG l p=true<->p∈l
 |[]=>by simp[inG]
 |(i,b)::l=>by
  simp only[inG,Bool.or_eq_true,Bool.and_eq_true,Y2 (l:=l),List.mem_cons];constructor
  ·rintro(⟨c,d⟩ |h)
   ·left;have:=Nat.eq_of_beq_eq_true c;obtain⟨f,e⟩:=p;simp only at this d⊢;subst this;cases b<;>cases e<;>simp_all[FS]
   ·exact .inr h
  ·rintro(rfl |h)
   ·left;exact⟨Nat.beq_refl _,by cases b<;>rfl⟩
   ·exact .inr h
theorem TH{α:Type}{f:α->Bool}:∀{l:List α},RD f l=false->∀a∈l,f a=false
 |[],_,_,h=>absurd h (by simp)
 |b::l,h,a,c=>by
  simp only[RD,Bool.or_eq_false_iff]at h;rcases List.mem_cons.1 c with rfl |c
  ·exact h.1
  ·exact TH h.2 a c
theorem aB7{l m:List (Nat×Bool)}(h:Wm l m=true):∀p∈l,p∈m:=λp c=>by simp only[Wm,Bool.not_eq_true']at h;have:=TH h p c;simp only[Bool.not_eq_false']at this;exact Y2.1 this
theorem WY{p:Nat×Bool}{q:Nat×Bool}:∀{l:List (Nat×Bool)},q∈l->q∈gF l p\/q=p
 |[],h=>absurd h (by simp)
 |r::l,h=>by
  simp only[gF];have key:(Nat.beq r.1 p.1&&FS r.2 p.2)=true->r=p:=λc=>by simp only[Bool.and_eq_true]at c;have:=Nat.eq_of_beq_eq_true c.1;obtain⟨j,f⟩:=r;obtain⟨g,e⟩:=p;simp only at this c;subst this;have:=c.2;cases f<;>cases e<;>simp_all[FS]
  cases d:(Nat.beq r.1 p.1&&FS r.2 p.2)with
  |true=>
   simp only[cond_true];rcases List.mem_cons.1 h with rfl |h
   ·exact .inr (key d)
   ·exact WY h
  |false=>
   simp only[cond_false,List.mem_cons];rcases List.mem_cons.1 h with rfl |h
   ·exact .inl (.inl rfl)
   ·rcases WY (p:=p) h with h |h
    ·exact .inl (.inr h)
    ·exact .inr h
theorem Xx{sg:ZQ}{x:Operand}{p:Nat×Bool}:∀{l:List Operand},x∈l->p∈VP sg x->p∈aBw sg l
 |[],h,_=>absurd h (by simp)
 |y::l,h,c=>by
  simp only[aBw,List.mem_append];rcases List.mem_cons.1 h with rfl |h
  ·exact .inl c
  ·exact .inr (Xx h c)
structure FV(ext:Nat->Value)(ops:Array Oper)(w:World)(G:Gh)(s:RS)(act:Act)(done:List Nat):Prop where
 rel:dI w G s.st (λ_=>none)
 slots:∀t,zA s.ge (VP s.sg (.tmp t))->dO w G s.st (s.st.sl.get t) (tv ext act t)
 sg:∀t p,p∈VP s.sg (.tmp t)->p.1∈done
 ge:∀j R b Gj,look s.ge j=some (R,b,Gj)->j∈done/\(∀p∈Gj,p.1∈done)/\(R=true<->zA s.ge Gj)/\(R=true->yielded ops act.tmps j=some b)/\(R=false->yielded ops act.tmps j=none)
 by_:∀c j,look s.by_ c=some j->∃R b Gj,look s.ge j=some (R,b,Gj)/\(R=true->act.tmps.getD c undef=.bool b)/\VP s.sg (.tmp c)=Gj
theorem dI.none{w:World}{G:Gh}{st:St}{sl:Nat->Option Value}(h:dI w G st sl):dI w G st (λ_=>none):=
 ⟨λ_ _ h=>by simp at h,h.boxes,h.apartB,h.arrs,h.live,h.hdr⟩
theorem dI.withSlots{w:World}{G:Gh}{st:St}{sl sl':Nat->Option Value}(h:dI w G st sl)(c:∀t v,sl' t=some v->dO w G st (st.sl.get t) v):dI w G st sl':=
 ⟨c,h.boxes,h.apartB,h.arrs,h.live,h.hdr⟩
theorem Le.slots(w:World)(G:Gh)(st:St)(sl:Tr):Le w G st w G {st with sl:=sl}:=
 ⟨Nat.le_refl _,λr u p a' _ h=>⟨a',h,rfl,rfl,rfl,λh=>h⟩,λb d _ h=>⟨d,h,rfl,rfl⟩,λr a' _ h=>⟨a',h,rfl,λb p c=>⟨⟨p,c⟩,rfl⟩⟩,λb c=>⟨c,rfl⟩⟩
theorem dI.slotsTo{w:World}{G:Gh}{st:St}{sl:Nat->Option Value}(h:dI w G st sl)(c:Tr):dI w G {st with sl:=c} (λ_=>Option.none):=by have f:=Le.slots w G st c;exact h.none.step f (λ_ _ h=>by simp at h) (λb x hx=>.inl ⟨hx,rfl,rfl,(h.boxes b x hx).2.1⟩) (λb b' x l d e j=>h.apartB b b' x l d e j) (λr a g=>.inl ⟨g,λ_=>rfl,λb p h=>⟨h,rfl⟩⟩) h.live h.hdr
theorem qA{w:World}{G:Gh}{st:St}{c:Tr}{a:A}{v:Value}:dO w G {st with sl:=c} a v<->dO w G st a v:=
 ⟨λh=>dS (st:={st with sl:=c}) (Le.slots w G {st with sl:=c} st.sl) a v h,λh=>dS (Le.slots w G st c) a v h⟩
theorem FV.trusts{ext:Nat->Value}{ops:Array Oper}{w:World}{G:Gh}{s:RS}{act:Act}{done:List Nat}(h:FV ext ops w G s act done){o:Oper}{l:List (Nat×Bool)}(W:Wm (Wo s o) l=true)(V:zA s.ge l):Tc w G s.st act o.op:=by
 have e:∀p,p∈Wo s o->NH s.ge p:=λp d=>V p (aB7 W p d);have m:∀x,(∀p∈VP s.sg x,NH s.ge p)->dO w G s.st (eR s.st.sl x) (act.eval x):=λx hx=>by
  cases x with
  |tmp t=>exact PS (h.slots t hx)
  |global g=>exact trivial
  |func f=>exact⟨[],rfl,rfl⟩
  |const v=>exact Oy v
 unfold Wo at e;cases P:s.sg with
 |nil=>
  have u:∀x,dO w G s.st (eR s.st.sl x) (act.eval x):=λx=>m x (λp d=>by cases x<;>simp[VP,P,look]at d);unfold Tc;split
  ·exact⟨u _,λ_=>u _,λ_=>u _⟩
  ·exactλx _=>u x
 |cons a2 a4=>
  rw[P]at e;simp only at e;have L:(∀p,p∈aBw s.sg o.op.operands.toList->NH s.ge p)->∀x∈o.op.operands,dO w G s.st (eR s.st.sl x) (act.eval x):=λU x hx=>
   m x (λp d=>U p (Xx (by simpa using hx) d))
  unfold aBx at e;generalize a3:o.op=op at*;cases op with
  |pick c a b=>
   cases c with
   |tmp c=>
    simp only at e;unfold Wn at e;cases F:look s.by_ c with
    |none=>simp only[F,List.mem_append]at e;exact⟨m _ (λp d=>e p (.inl d)),λ_=>m _ (λp d=>e p (.inr (.inl d))),λ_=>m _ (λp d=>e p (.inr (.inr d)))⟩
    |some j=>
     simp only[F,List.mem_append]at e;have H:=m (.tmp c) (λp d=>e p (.inl d));obtain⟨R,T,J,Q,Y,a0⟩:=h.by_ c j F;obtain⟨_,_,a1,_,_⟩:=h.ge j R T J Q;have K:R=true:=a1.2 (λp d=>e p (.inl (by rw[a0];exact d)));have hv:=Y K;subst K;have C:∀q,eR s.st.sl (.tmp c)=.bool q->NH s.ge (j,q):=λq C=>by rw[C]at H;have y:act.tmps.getD c undef=.bool q:=H;rw[hv]at y;injection y with y;subst y;exact⟨J,Q⟩
     refine⟨H,λht=>m _ (λp d=>?_),λhf=>m _ (λp d=>?_)⟩
     ·rcases WY (p:=(j,true)) d with r |r
      ·exact e p (.inr (.inl r))
      ·subst r;exact C true ht
     ·rcases WY (p:=(j,false)) d with r |r
      ·exact e p (.inr (.inr r))
      ·subst r;exact C false hf
   |_=>have:=L e;exact⟨this _ (by simp[Op.operands]),λ_=>this _ (by simp[Op.operands]),λ_=>this _ (by simp[Op.operands])⟩
  |_=>exact L e
section
variable{ext:Nat->Value}{P:Program}{ops:Array Oper}{w w':World}{G G':Gh}{s:RS}{act:Act}{done:List Nat}{Q:Exit->Act->World->Prop}
theorem fJ{α:Type}(m:Nat)(a:α)(l:List (Nat×α))(n:Nat):look ((m,a)::l) n=if m=n then some a else look l n:=by
 by_cases h:m=n
 ·subst h;simp[look]
 ·simp[look,qL h,h]
theorem TJ{i:Nat}{R:Bool}{Gl:List (Nat×Bool)}{ge:Wl}{a:A}{j:Nat}(h:j≠i):look (Dc i R Gl ge a) j=look ge j:=by
 cases a<;>simp only[Dc]<;>try rfl
 rw[fJ,if_neg (Ne.symm h)]
theorem Fy{i:Nat}{R:Bool}{Gl:List (Nat×Bool)}{ge:Wl}{a:A}(c:look ge i=none){q:Bool×Bool×List (Nat×Bool)}(h:look (Dc i R Gl ge a) i=some q):∃b,a=.bool b/\q=(R,b,Gl):=by
 cases a<;>simp only[Dc]at h<;>try(rw[c]at h;cases h)
 rename_i b;rw[fJ,if_pos rfl]at h;injection h with h;exact⟨b,rfl,h.symm⟩
theorem PZ{d t:Nat}{sg:ZQ}{Gl:List (Nat×Bool)}:VP (Wp d sg Gl) (.tmp t)=if t=d then Gl else VP sg (.tmp t):=by
 cases Gl with
 |nil=>
  cases sg with
  |nil=>simp[Wp,VP,look]
  |cons g sg=>
   simp only[Wp,VP,nM];by_cases h:t=d
   ·simp[h]
   ·simp[h]
 |cons g Gl=>
  simp only[Wp,VP,bQ];by_cases h:t=d
  ·simp[h]
  ·simp[h]
theorem K4{i d c:Nat}{l:List (Nat×Nat)}{a:A}{j:Nat}(h:look (V3 i d l a) c=some j):(c=d/\j=i/\∃b,a=.bool b)\/(c≠d/\look l c=some j):=by
 have key:∀(m:List (Nat×Nat)),(m=oH l d)->look m c=some j->c≠d/\look l c=some j:=λm e g=>by
  subst e;rw[nM]at g;by_cases f:c=d
  ·simp[f]at g
  ·simp only[f,if_false]at g;exact⟨f,g⟩
 cases a with
 |bool b=>
  simp only[V3,fJ]at h;by_cases f:d=c
  ·rw[if_pos f]at h;injection h with h;exact .inl ⟨f.symm,h.symm,b,rfl⟩
  ·rw[if_neg f]at h;exact .inr ⟨Ne.symm f,h⟩
 |_=>
  right;cases l with
  |nil=>simp[V3,look]at h
  |cons p l=>exact key _ rfl h
theorem WZ{d:Nat}(c:d<act.tmps.size)(v:Value)(t:Nat):(act.put (some d) v).tmps.getD t undef=if t=d then v else act.tmps.getD t undef:=by
 simp only[Act.put,Array.getD_eq_getD_getElem?];by_cases h:t=d
 ·subst h;simp[c]
 ·rw[if_neg h,Array.getElem?_setIfInBounds_ne (Ne.symm h)]
theorem aFK{d:Nat}(c:d<act.tmps.size)(e:act.tmps.size<=500)(v:Value)(t:Nat):tv ext (act.put (some d) v) t=if t=d then v else tv ext act t:=by
 unfold tv;rw[WZ c];by_cases h:t=d
 ·subst h;rw[if_pos (by omega),if_pos rfl,if_pos rfl]
 ·rw[if_neg h,if_neg h]
theorem Iu{d:Nat}{v:Value}{j:Nat}(h:∀o',ops[j]?=some o'->o'.dst≠some d):yielded ops (act.put (some d) v).tmps j=yielded ops act.tmps j:=by
 unfold yielded;cases g:ops[j]?with
 |none=>rfl
 |some o'=>
  cases hd:o'.dst with
  |none=>simp[hd]
  |some e=>have f:d≠e:=λc=>h o' g (by rw[hd,c]);simp[hd,Act.put,Array.getElem?_setIfInBounds_ne f]
theorem HX{d:Nat}(e:d<act.tmps.size){v:Value}{i:Nat}{o:Oper}(c:ops[i]?=some o)(f:o.dst=some d):yielded ops (act.put (some d) v).tmps i=match v with|.bool b=>some b |_=>none:=by unfold yielded;simp only[c,f,Act.put,Option.bind_some,Array.getElem?_setIfInBounds_self_of_lt e];cases v<;>rfl
theorem XA(y:FV ext ops w G s act done){i d:Nat}{o:Oper}(V:ops[i]?=some o)(W:o.dst=some d)(Q:i∉done)(a1:act.tmps.size<=500)(F:d<act.tmps.size)(a2:∀j o',j≠i->ops[j]?=some o'->o'.dst≠some d)
  {st':St}{R:Bool}{Gl:List (Nat×Bool)}{v:Value}(a9:dI w' G' st' (λ_=>none))(b0:∀t,t≠d->zA s.ge (VP s.sg (.tmp t))->dO w' G' st' (st'.sl.get t) (tv ext act t))
  (hd:R=true->dO w' G' st' (st'.sl.get d) v)(U:R=true<->zA s.ge Gl)(J:∀p∈Gl,p.1∈done)(hv:R=false->v=undef):
  FV ext ops w' G' (s.note i d R Gl st' (st'.sl.get d)) (act.put (some d) v) (i::done):=by
 have a6:look s.ge i=none:=by
  cases h:look s.ge i with
  |none=>rfl
  |some q=>obtain⟨H,b',b4⟩:=q;exact absurd (y.ge i _ _ _ h).1 Q
 have K:∀l:List (Nat×Bool),(∀p∈l,p.1∈done)->(zA (Dc i R Gl s.ge (st'.sl.get d)) l<->zA s.ge l):=λl a4=>by
  have:∀p∈l,(NH (Dc i R Gl s.ge (st'.sl.get d)) p<->NH s.ge p):=λp f=>by have a5:p.1≠i:=λe=>Q (by rw[<-e];exact a4 p f);unfold NH;rw[TJ a5]
  constructor
  ·exactλh p f=>(this p f).1 (h p f)
  ·exactλh p f=>(this p f).2 (h p f)
 refine⟨a9,λt ht=>?_,λt p f=>?_,λj H b C r=>?_,λc j r=>?_⟩
 ·simp only[RS.note]at ht⊢;rw[PZ]at ht;rw[aFK F a1];by_cases e:t=d
  ·subst e;rw[if_pos rfl]at ht⊢;exact hd (U.2 ((K Gl J).1 ht))
  ·rw[if_neg e]at ht⊢;exact b0 t e ((K _ (λp f=>y.sg t p f)).1 ht)
 ·simp only[RS.note]at f;rw[PZ]at f;by_cases e:t=d
  ·rw[if_pos e]at f;exact List.mem_cons_of_mem _ (J p f)
  ·rw[if_neg e]at f;exact List.mem_cons_of_mem _ (y.sg t p f)
 ·simp only[RS.note]at r⊢;by_cases e:j=i
  ·subst e;obtain⟨b',e1,g⟩:=Fy a6 r;injection g with g u;injection u with u a0;subst g;subst u;subst a0;refine⟨List.mem_cons_self,λp f=>List.mem_cons_of_mem _ (J p f),?_,λm=>?_,λm=>?_⟩
   ·rw[K C J];exact U
   ·rw[HX F V W];have:=hd m;rw[e1]at this;have b1:v=.bool b:=this;rw[b1]
   ·rw[HX F V W,hv m];rfl
  ·rw[TJ e]at r;obtain⟨L,P,T,b2,b3⟩:=y.ge j H b C r;have Y:=Iu (ops:=ops) (act:=act) (d:=d) (v:=v) (j:=j) (λo' a7=>a2 j o' e a7);exact⟨List.mem_cons_of_mem _ L,λp f=>List.mem_cons_of_mem _ (P p f),by rw[K C P];exact T,by rw[Y];exact b2,by rw[Y];exact b3⟩
 ·simp only[RS.note]at r⊢;rcases K4 r with⟨e1,g,b,u⟩ |⟨e1,g⟩
  ·subst e1;subst g;refine⟨R,b,Gl,by rw[u];simp[Dc,fJ],λm=>?_,by rw[PZ,if_pos rfl]⟩;rw[WZ F,if_pos rfl];have:=hd m;rw[u]at this;exact this
  ·obtain⟨H,b,C,L,P,T⟩:=y.by_ c j g;have a3:j≠i:=λe=>Q (by rw[<-e];exact(y.ge j _ _ _ L).1);exact⟨H,b,C,by rw[TJ a3];exact L,λm=>by rw[WZ F,if_neg e1];exact P m,by rw[PZ,if_neg e1];exact T⟩
theorem aB8(c:FV ext ops w G s act done){i:Nat}{st':St}(h:dI w' G' st' (λ_=>none))(f:Le w G s.st w' G' st'):FV ext ops w' G' {s with st:={st' with sl:=s.st.sl}} act (i::done):=by refine⟨h.slotsTo _,λt ht=>qA.2 (dS f _ _ (c.slots t ht)),λt p d=>List.mem_cons_of_mem _ (c.sg t p d),λj R b e g=>?_,c.by_⟩;obtain⟨l,m,r,u,v⟩:=c.ge j R b e g;exact⟨List.mem_cons_of_mem _ l,λp d=>List.mem_cons_of_mem _ (m p d),r,u,v⟩
theorem aB9(c:FV ext ops w G s act done){i:Nat}(h:dI w' G' s.st (λ_=>none))(f:Le w G s.st w' G' s.st):FV ext ops w' G' s act (i::done):=by refine⟨h,λt ht=>dS f _ _ (c.slots t ht),λt p d=>List.mem_cons_of_mem _ (c.sg t p d),λj R b e g=>?_,c.by_⟩;obtain⟨l,m,r,u,v⟩:=c.ge j R b e g;exact⟨List.mem_cons_of_mem _ l,λp d=>List.mem_cons_of_mem _ (m p d),r,u,v⟩
theorem XB{g:Oper->Bool}{st:St}{sl:Nat->Option Value}{d i:Nat}{o:Oper}{r:uX}(m:ops[i]?=some o)(l:Region.wanted o (yielded ops act.tmps)=true)(h:Is g P w G st sl act d o r){K:Act->World->Prop}
  (j:∀v w' G',Fr w G w' G'->RV w G st sl d v w' G' r->K (act.put o.dst v) w'):NC g P ops Q i K act w:=by
 unfold NC;simp only[m];unfold Is at h;split<;>rename_i s<;>simp only[s]at h
 ·obtain⟨u,f,G',c,e⟩:=h;exact⟨u,.inl ⟨l,f⟩,j u w G' c e⟩
 ·obtain⟨u,f,G',c,e⟩:=h;exact⟨u,.inl ⟨l,f⟩,j u w G' c e⟩
 ·unfold wpOp;simp only[m,l,if_true];exact .inl (h _ _ λv w' G' f c e=>⟨f,j v w' G' c e⟩)
 ·unfold wpOp;simp only[m,l,if_true];exact .inl (h _ _ λv w' G' c e=>j v w' G' c e)
theorem K5{g:Oper->Bool}{i:Nat}{o:Oper}(e:ops[i]?=some o)(d:Region.wanted o (yielded ops act.tmps)=false){K:Act->World->Prop}(c:K (act.put o.dst undef) w):NC g P ops Q i K act w:=by
 unfold NC;simp only[e];split
 ·exact⟨undef,.inr ⟨d,rfl⟩,c⟩
 ·exact⟨undef,.inr ⟨d,rfl⟩,c⟩
 ·unfold wpOp;simp only[e,d,Bool.false_eq_true,if_false];exact⟨HQ.refl w,c⟩
 ·unfold wpOp;simp only[e,d,Bool.false_eq_true,if_false];exact c
theorem aCa(st:St)(e d t:Nat):(st.mv e d).sl.get t=if t=d then st.sl.get e else if t=e then .undef else st.sl.get t:=by
 unfold St.mv;by_cases h:e=d
 ·subst h;rw[qE];simp only[cond_true];by_cases ht:t=e
  ·rw[if_pos ht,ht]
  ·rw[if_neg ht,if_neg ht]
 ·rw[qL h];simp only[cond_false,St.put,Tr.get_set];by_cases ht:t=d
  ·subst ht;rw[if_pos rfl,if_neg (λf=>h f.symm),if_pos rfl]
  ·by_cases c:t=e
   ·subst c;rw[if_pos rfl,if_neg ht,if_pos rfl]
   ·rw[if_neg c,if_neg ht,if_neg ht,if_neg c]
theorem aE9(st:St)(e d:Nat):st.mv e d={st with sl:=(st.mv e d).sl}:=by unfold St.mv;cases Nat.beq e d<;>rfl
theorem QA(sl:Tr)(b m:Nat):∀(ks:List Nat)(e:Tr),(Hu sl b ks e).get m=if∃t∈ks,b+t=m then sl.get (m-b)else e.get m
 |[],e=>by simp[Hu]
 |k::ks,e=>by
  simp only[Hu];rw[QA sl b m ks,Tr.get_set];by_cases f:∃t∈ks,b+t=m
  ·rw[if_pos f,if_pos];obtain⟨t,c,d⟩:=f;exact⟨t,List.mem_cons_of_mem _ c,d⟩
  ·rw[if_neg f];by_cases c:m=b+k
   ·rw[if_pos c,if_pos ⟨k,List.mem_cons_self,c.symm⟩,c];congr 1;omega
   ·rw[if_neg c,if_neg];rintro⟨t,d,g⟩;rcases List.mem_cons.1 d with rfl |d
    ·exact c g.symm
    ·exact f ⟨t,d,g⟩
theorem Pi(sl:Tr)(b m:Nat):∀(ks:List Nat)(c:Tr),(Wq sl b ks c).get m=if m∈ks then sl.get (b+m)else c.get m
 |[],c=>by simp[Wq]
 |k::ks,c=>by
  simp only[Wq];rw[Pi sl b m ks,Tr.get_set];by_cases d:m∈ks
  ·rw[if_pos d,if_pos (List.mem_cons_of_mem _ d)]
  ·rw[if_neg d];by_cases e:m=k
   ·subst e;rw[if_pos rfl,if_pos List.mem_cons_self]
   ·rw[if_neg e,if_neg];simp[d,e]
theorem Iv(m:Nat):∀(as:List A)(i:Nat)(c:Tr),(Ht as i c).get m=if i<=m/\m<i+as.length then as.getD (m-i) .undef else c.get m
 |[],i,c=>by simp[Ht];intro d e;omega
 |a::as,i,c=>by
  simp only[Ht];rw[Iv m as (i+1),Tr.get_set];by_cases d:m=i
  ·subst d;rw[if_neg (by omega),if_pos rfl,if_pos (by simp)];simp
  ·by_cases e:i+1<=m/\m<i+1+as.length
   ·rw[if_pos e,if_pos (by simp only[List.length_cons];omega)];obtain⟨k,rfl⟩:∃k,m=i+1+k:=⟨m-(i+1),by omega⟩;rw[show i+1+k-(i+1)=k by omega,show i+1+k-i=k+1 by omega];simp
   ·rw[if_neg e,if_neg d,if_neg (by simp only[List.length_cons];omega)]
theorem JU{α:Type}{f:α->Bool}:∀{l:List α},DK f l=true->∀x∈l,f x=true
 |[],_,x,hx=>by simp at hx
 |y::l,h,x,hx=>by
  simp only[DK,Bool.and_eq_true]at h;rcases List.mem_cons.1 hx with rfl |hx
  ·exact h.1
  ·exact JU h.2 x hx
theorem GH{ge:Wl}{sg:ZQ}{t:Nat}(h:Oo sg t=true):zA ge (VP sg (.tmp t)):=by
 unfold Oo at h;split at h
 ·rename_i hg;rw[hg];intro p c;simp at c
 ·simp at h
theorem ex0{l:List Nat}{u:Nat}:(∃t∈l,0+t=u)<->u∈l:=by simp
theorem Pj{w:World}{G:Gh}{st:St}:∀{l:List A}{vs:List Value},eZ w G st l vs->l.length=vs.length/\∀t,dO w G st (l.getD t .undef) ((vs[t]?).getD undef)
 |[],vs,h=>by have h:vs=[]:=h;subst h;exact⟨rfl,λt=>by simp;exact trivial⟩
 |a::l,vs,h=>by
  obtain⟨v,g,rfl,c,d⟩:=h;obtain⟨e,f⟩:=Pj (l:=l) (vs:=g) d;refine⟨by simp[e],λt=>?_⟩;cases t with
  |zero=>simpa using c
  |succ t=>simpa using f t
theorem w9{E:fM}{C:fR}{ctx:tU}(c8:jY P E ctx)(T:FV ext ops w G s act done){i:Nat}{o:Oper}(a0:ops[i]?=some o)(g0:i∉done)
  (c3:act.tmps.size<=500)(f7:∀d,o.dst=some d->d<act.tmps.size)(e9:∀d,o.dst=some d->∀j o',j≠i->ops[j]?=some o'->o'.dst≠some d){d:Nat}(hd:o.dst=some d){q:InH}(f3:LR C o=some (d,q))
  (b5:Tc w G s.st act o.op)(g7:Region.wanted o (yielded ops act.tmps)=true){b7:RS}(h:VR E ctx i o s d q=some b7){K:Act->World->Prop}
  (c9:∀w' G' v,Fr w G w' G'->FV ext ops w' G' b7 (act.put o.dst v) (i::done)->K (act.put o.dst v) w'):NC (jW E C) P ops Q i K act w:=by
 classical
 unfold VR at h;split at h
 ·rename_i c U;split at h
  ·rename_i f hf;rw[U]at b5;have hx:∀x∈c.operands,dO w G s.st (eR s.st.sl x) (act.eval x):=b5;have b2:=hx f (by simp[Call.operands,hf]);split at h
   ·rename_i n caps f1;rw[f1]at b2;obtain⟨W,e6,e5⟩:=b2;obtain⟨g,a5,c1⟩:=bind_some h;simp only[oR]at a5;obtain⟨c2,a6⟩:=aW c1;have f9:=Nat.eq_of_beq_eq_true c2;have b1:=c8.inl q.site g a5;have e0:=PT (w:=w) (G:=G) (st:=s.st) (act:=act) c.args.toList (λx g8=>hx x (by simp only[Call.operands,Array.mem_append];exact .inr (by simpa using g8)));have d3:=MX e0 e5;unfold aBz at a6;obtain⟨a7,c6⟩:=aW a6;obtain⟨r,c7,b0⟩:=bind_some c6;simp only[ok,Option.some.injEq]at b0;simp only[Bool.and_eq_true]at a7;obtain⟨a9,c4,c5⟩:=a7;have f6:=Nat.eq_of_beq_eq_true c4;have g1:=Nat.le_of_ble_eq_true c5;simp only[aBy,Bool.and_eq_true]at a9;obtain⟨e3,f8,g2⟩:=a9;have h0:=Nat.le_of_ble_eq_true e3;have a1:∀t∈q.live,t<1000/\zA s.ge (VP s.sg (.tmp t)):=λt ht=>by
     have:=JU f8 t ht;simp only[Bool.and_eq_true]at this;exact⟨Nat.le_of_ble_eq_true this.1,GH this.2⟩
    have H:∀t∈q.old,1000<=t/\(t<q.base\/q.base+1000<=t)/\zA s.ge (VP s.sg (.tmp t)):=λt ht=>by have:=JU g2 t ht;simp only[Bool.and_eq_true,Bool.or_eq_true]at this;exact⟨Nat.le_of_ble_eq_true this.1,this.2.1.imp Nat.le_of_ble_eq_true Nat.le_of_ble_eq_true,GH this.2.2⟩
    let J:Nat->Value:=λu=>if∃t∈q.live,q.base+t=u then tv ext act (u-q.base)else ext u
    obtain⟨d2,d1⟩:=Pj d3;have b3:∀u,(Hv s.st q (F5 s.st.sl c.args.toList++caps)).sl.get u=if u∈q.old then s.st.sl.get u else if∃t∈q.live,q.base+t=u then s.st.sl.get (u-q.base)else if u<(F5 s.st.sl c.args.toList++caps).length then(F5 s.st.sl c.args.toList++caps).getD u .undef else .undef:=λu=>by
     simp only[Hv];rw[QA,QA,Iv];have e1:(∃t∈q.old,0+t=u)<->u∈q.old:=ex0;by_cases m:u∈q.old
     ·rw[if_pos (e1.2 m),if_pos m];simp
     ·rw[if_neg (λC=>m (e1.1 C)),if_neg m];by_cases l:∃t∈q.live,q.base+t=u
      ·rw[if_pos l,if_pos l]
      ·rw[if_neg l,if_neg l];by_cases L:u<(F5 s.st.sl c.args.toList++caps).length
       ·rw[if_pos ⟨Nat.zero_le _,by omega⟩,if_pos L];simp
       ·rw[if_neg (by omega),if_neg L];exact Tr.get_nil u
    have g5:dI w G (Hv s.st q (F5 s.st.sl c.args.toList++caps)) (λ_=>none):=T.rel.slotsTo _;have e4:=b1.run (w:=w) (G:=G) (vs:=c.args.toList.map act.eval++W) (ext:=J) c7 (by rw[<-d2];exact f6) g1 g5
     (λt ht=>by
      rw[b3 t];rw[if_neg (λC=>absurd (H t C).1 (by omega)),if_neg (by rintro⟨y,F,Y⟩;omega)];split
      ·exact qA.2 (d1 t)
      ·exact trivial)
     (λt ht=>by
      rw[b3 t];by_cases m:t∈q.old
      ·have l:¬∃y∈q.live,q.base+y=t:=by
        rintro⟨y,F,Y⟩;have:=(a1 y F).1;have:=(H t m).2.1;omega
       have:=T.slots t (H t m).2.2;rw[if_pos m];simp only[J,if_neg l];simp only[tv,if_neg (show¬t<1000 by omega)]at this;exact qA.2 this
      ·rw[if_neg m];by_cases l:∃y∈q.live,q.base+y=t
       ·rw[if_pos l];simp only[J,if_pos l];obtain⟨y,F,Y⟩:=l;have c0:t-q.base=y:=by omega
        rw[c0];exact qA.2 (T.slots y (a1 y F).2)
       ·rw[if_neg l,if_neg (by omega)];exact trivial)
    have g6:(execOp act.eval o).run P w=.ok (.enter g.fn ⟨c.args.toList.map act.eval++W⟩) w:=by
     obtain⟨fn,a2,a3,a4⟩:=b1.fn;have e2:c.args.map act.eval=⟨c.args.toList.map act.eval⟩:=by apply Array.ext';simp
     have g9:fn.body≠none:=λe=>by simp[e]at a4
     have e7:act.eval f=.func (.func g.fn) #[] ⟨W⟩:=by rw[f9];exact e6
     simp[execOp,U,resolve,hf,e7,Deferred.ofValue,invoke,callFunc,a2,a3,g9,e2]
    have f4:FR (jW E C) o=.other:=by
     unfold FR;have hg:jW E C o=false:=by unfold jW;rw[f3]
     have f5:kd o.op=.other:=by rw[U];simp[kd,hf]
     rw[f5];simp only[U,hg,cond_false]
    unfold NC;simp only[a0,f4];unfold wpOp;simp only[a0,g7,if_true];refine .inl ?_;unfold Oper.wp;rw[g6];refine Calls.mono e4 λe w' f0=>?_;obtain⟨v,G',rfl,a2,a3,a4,b6⟩:=f0;refine c9 w' G' v a2 ?_;subst b0;rw[hd];have f2:∀t,(DR r.2 q).sl.get t=if t∈q.old then r.2.sl.get t else if t∈q.live then r.2.sl.get (q.base+t)else .undef:=λt=>by
     simp only[DR];rw[QA,Pi];have e1:(∃y∈q.old,0+y=t)<->t∈q.old:=ex0;by_cases m:t∈q.old
     ·rw[if_pos (e1.2 m),if_pos m];simp
     ·rw[if_neg (λC=>m (e1.1 C)),if_neg m];by_cases l:t∈q.live
      ·rw[if_pos l,if_pos l]
      ·rw[if_neg l,if_neg l];exact Tr.get_nil t
    have b4:((DR r.2 q).put d r.1).sl.get d=r.1:=by simp[St.put,Tr.get_set]
    have g4:dI w' G' ((DR r.2 q).put d r.1) (λ_=>none):=(a3.slotsTo (DR r.2 q).sl).slotsTo _;have V:∀{a:A}{v:Value},dO w' G' r.2 a v->dO w' G' ((DR r.2 q).put d r.1) a v:=λd0=>qA.2 (qA.2 d0);have:=XA (st':=(DR r.2 q).put d r.1) (R:=true) (Gl:=[]) (v:=v) T a0 hd g0 c3 (f7 d hd) (e9 d hd) g4 (λt ht h1=>by
     have e1:((DR r.2 q).put d r.1).sl.get t=(DR r.2 q).sl.get t:=by simp[St.put,Tr.get_set,ht]
     rw[e1,f2 t];by_cases m:t∈q.old
     ·rw[if_pos m];have l:¬∃y∈q.live,q.base+y=t:=by
       rintro⟨y,F,Y⟩;have:=(a1 y F).1;have:=(H t m).2.1;omega
      have:=b6 t (H t m).1;simp only[J,if_neg l]at this;simp only[tv,if_neg (show¬t<1000 by have:=(H t m).1;omega)];exact V this
     ·rw[if_neg m];by_cases l:t∈q.live
      ·rw[if_pos l];have:=b6 (q.base+t) (by omega);have L:∃y∈q.live,q.base+y=q.base+t:=⟨t,l,rfl⟩;simp only[J,if_pos L,Nat.add_sub_cancel_left]at this;exact V this
      ·rw[if_neg l];exact trivial) (λ_=>by rw[b4];exact V a4) ⟨λ_ p g3=>by simp at g3,λ_=>rfl⟩ (by simp) (by simp)
    rw[b4]at this;exact this
   ·simp[aG]at h
  ·simp[aG]at h
 ·simp[aG]at h
theorem aFa(n:Nat){d:Nat}(hd:d<500\/600<=d):HN n+d<500\/600<=HN n+d:=by
 cases n with
 |zero=>simpa[HN]using hd
 |succ n=>right;simp only[HN];omega
theorem Dv{E:fM}{l:List (Nat×Nat×Nat)}{gd:Bool}{x:M RS}{f:RS}(h:(match l with|[]=>x |c::l=>bif gd then aG "a check, under a guard"else x.bind (ckS E (c::l)))=some f):x=some f:=by
 split at h
 ·exact h
 ·obtain⟨_,h⟩:=ZZ h;obtain⟨s1,g,d⟩:=bind_some h;unfold ckS at d;obtain⟨_,e⟩:=aW d;simp only[ok,Option.some.injEq]at e;subst e;exact g
theorem Pk{E:fM}{g:fR}{ctx:tU}(b1:gY P E)(a1:jY P E ctx)(l:FV ext ops w G s act done){i:Nat}{o:Oper}(y:ops[i]?=some o)(V:i∉done)
  (F:act.tmps.size<=500)(H:∀d,o.dst=some d->d<act.tmps.size)(U:∀d,o.dst=some d->∀j o',j≠i->ops[j]?=some o'->o'.dst≠some d){R gd:Bool}{Gl:List (Nat×Bool)}
  (c3:Wm (Wo s o) Gl=true)(T:R=true<->zA s.ge Gl)(a3:∀p∈Gl,p.1∈done)(Y:Region.wanted o (yielded ops act.tmps)=R)(c1:R=false->gd=true){b5:RS}(h:CK E g ctx i o s R gd Gl=some b5){K:Act->World->Prop}
  (L:∀w' G' v,Fr w G w' G'->FV ext ops w' G' b5 (act.put o.dst v) (i::done)->K (act.put o.dst v) w'):NC (jW E g) P ops Q i K act w:=by
 classical
 cases b2:R with
 |true=>
  subst b2;have a6:=l.trusts c3 (T.1 rfl);let sl:Nat->Option Value:=λt=>if zA s.ge (VP s.sg (.tmp t))then some (tv ext act t)else none
  have W:dI w G s.st sl:=l.rel.withSlots λt v hv=>by
   simp only[sl]at hv;split at hv
   ·rename_i ht;injection hv with hv;subst hv;exact l.slots t ht
   ·simp at hv
  have b4:∀t,zA s.ge (VP s.sg (.tmp t))->sl t=some (tv ext act t):=λt ht=>by simp[sl,ht]
  unfold CK at h;cases c:LR g o with
  |some q=>
   rw[c]at h;simp only at h;cases b3:gd with
   |true=>rw[b3]at h;simp[aG]at h
   |false=>
    rw[b3]at h;simp only[cond_false]at h;obtain⟨d,c9⟩:=q;have hd:o.dst=some d:=by
     unfold LR at c;split at c
     ·simp at c
     ·split at c
      ·rename_i c7 c0;simp only[Option.map_eq_some_iff]at c;obtain⟨_,_,e⟩:=c;injection e with e1 c8;rw[c0,e1]
      ·simp at c
    obtain⟨s1,b6,a9⟩:=bind_some h;unfold ckS at a9;obtain⟨_,b0⟩:=aW a9;simp only[ok,Option.some.injEq]at b0;subst b0;exact w9 a1 l y V F H U hd c a6 Y b6 L
  |none=>
  rw[c]at h;simp only at h;replace h:=Dv h;unfold DF at h;cases hd:o.dst with
  |some d=>
   simp only[hd]at h;obtain⟨r,m,f⟩:=bind_some h;have a5:=It b1 a1 W (ot:=o) (d:=HN g.nb+d) (aFa _ (.inl (Nat.lt_of_lt_of_le (H d hd) F))) (by simp[hd]) c a6 m;refine XB y Y a5 λv w' G' a2 u=>?_;refine L w' G' v a2 ?_;rw[hd];cases r with
   |val a=>
    simp[VQ,ok]at f;subst f;obtain⟨c4,c5,c6⟩:=u;have C:=c5.put (d:=d) c6;have a4:(s.st.put d a).sl.get d=a:=by simp[St.put,Tr.get_set]
    have:=XA (st':=s.st.put d a) (R:=true) (Gl:=Gl) (v:=v) l y hd V F (H d hd) (U d hd) C.none (λt ht J=>C.slots t _ (by simp[yY,ht,b4 t J])) (λ_=>C.slots d _ (by simp[yY])) T a3 (by simp);rw[a4]at this;exact this
   |st st'=>
    simp[VQ,ok]at f;subst f;obtain⟨c4,C⟩:=u;have c2:dI w' G' (st'.mv (HN g.nb+d) d) (λ_=>none):=by rw[aE9];exact C.slotsTo _
    have a7:∀{a:A}{v:Value},dO w' G' st' a v->dO w' G' (st'.mv (HN g.nb+d) d) a v:=λb7=>by rw[aE9];exact qA.2 b7
    exact XA (st':=st'.mv (HN g.nb+d) d) (R:=true) (Gl:=Gl) (v:=v) l y hd V F (H d hd) (U d hd) c2 (λt ht J=>by
     rw[aCa,if_neg ht];by_cases a0:t=HN g.nb+d
     ·rw[if_pos a0];exact trivial
     ·rw[if_neg a0];exact a7 (C.slots t _ (by simp[yY,a0,b4 t J]))) (λ_=>by rw[aCa,if_pos rfl];exact a7 (C.slots (HN g.nb+d) _ (by simp[yY]))) T a3 (by simp)
  |none=>
   simp only[hd]at h;cases gd with
   |true=>simp[aG]at h
   |false=>
    simp only[cond_false]at h;obtain⟨r,m,f⟩:=bind_some h;have a5:=It b1 a1 W (ot:=o) (d:=HN g.nb+4000) (aFa _ (.inr (by omega))) (by simp[hd]) c a6 m;refine XB y Y a5 λv w' G' a2 u=>?_;refine L w' G' v a2 ?_;rw[hd];cases r with
    |val a=>simp[Rz,ok]at f;subst f;exact aB9 l u.2.1.none u.1
    |st st'=>simp[Rz,ok]at f;subst f;exact aB8 l u.2.none u.1
 |false=>
  subst b2;have:=c1 rfl;subst this;unfold CK at h;cases c:LR g o with
  |some q=>rw[c]at h;simp[aG]at h
  |none=>
  rw[c]at h;simp only at h;replace h:=Dv h;unfold DF at h;cases hd:o.dst with
  |none=>simp[hd,aG]at h
  |some d=>
   simp only[hd]at h;obtain⟨r,m,f⟩:=bind_some h;obtain⟨a,rfl⟩:=K3 m;simp[VQ,ok]at f;subst f;refine K5 y Y (L w G undef (Fr.refl w G) ?_);rw[hd];have W:=l.rel.slotsTo (s.st.sl.set d a);have a4:(s.st.put d a).sl.get d=a:=by simp[St.put,Tr.get_set]
   have:=XA (st':=s.st.put d a) (R:=false) (Gl:=Gl) (v:=undef) l y hd V F (H d hd) (U d hd) W (λt ht J=>by
    have m:=l.slots t J;have f:(s.st.put d a).sl.get t=s.st.sl.get t:=by simp[St.put,Tr.get_set,ht]
    rw[f];exact qA.2 m) (by simp) T a3 (by simp)
   rw[a4]at this;exact this
theorem K6{E:fM}{W:fR}{ctx:tU}(L:gY P E)(J:jY P E ctx)(u:FV ext ops w G s act done){i:Nat}{o:Oper}(Y:ops[i]?=some o)(a1:i∉done)
  (H:act.tmps.size<=500)(a0:∀d,o.dst=some d->d<act.tmps.size)(V:∀d,o.dst=some d->∀j o',j≠i->ops[j]?=some o'->o'.dst≠some d){a2:RS}(h:ST E W ctx i o s=some a2){K:Act->World->Prop}
  (T:∀w' G' v,Fr w G w' G'->FV ext ops w' G' a2 (act.put o.dst v) (i::done)->K (act.put o.dst v) w'):NC (jW E W) P ops Q i K act w:=by
 unfold ST at h;cases hg:o.guard with
 |none=>simp only[hg]at h;obtain⟨f,r⟩:=aW h;exact Pk L J u Y a1 H a0 V f ⟨λ_ p c=>by simp at c,λ_=>rfl⟩ (by simp) (by simp[Region.wanted,hg]) (by simp) r T
 |some p=>
  obtain⟨j,m⟩:=p;simp only[hg]at h;obtain⟨q,f,r⟩:=bind_some h;simp only[oR]at f;obtain⟨g,l,y⟩:=q;unfold Sa at r;obtain⟨C,F⟩:=aW r;simp only at C F;obtain⟨a4,a5,a6,a7,a9⟩:=u.ge j g l y f;have a3:(g&&FS l m)=true<->(g=true/\l=m):=by cases g<;>cases l<;>cases m<;>simp[FS]
  refine Pk L J u Y a1 H a0 V C ?_ ?_ ?_ (λ_=>rfl) F T
  ·rw[a3];constructor
   ·rintro⟨rfl,rfl⟩ p c;rcases List.mem_cons.1 c with rfl |c
    ·exact⟨y,f⟩
    ·exact a6.1 rfl p c
   ·intro ht;obtain⟨b0,e⟩:=ht (j,m) (by simp);simp only at e;rw[f]at e;injection e with e;injection e with e1 t;injection t with t b1;exact⟨e1,t⟩
  ·intro p c;rcases List.mem_cons.1 c with rfl |c
   ·exact a4
   ·exact a5 p c
  ·simp only[Region.wanted,hg];cases U:g with
   |true=>rw[a7 U];cases l<;>cases m<;>rfl
   |false=>rw[a9 U];rfl
def Xy(h:fR)(i:Nat)(o:Oper):List (Nat×Nat×Nat):=
 match LR h o with
 |some q=>q.2.ck
 |none=>ckP h i o
theorem Xz{E:fM}{l:List (Nat×Nat×Nat)}{s c:RS}(h:ckS E l s=some c):s=c/\DK (Dd E c) l=true:=by unfold ckS at h;obtain⟨e,d⟩:=aW h;simp only[ok,Option.some.injEq]at d;subst d;exact⟨rfl,e⟩
theorem aDY{E:fM}{d:fR}{ctx:tU}{i:Nat}{o:Oper}{s e:RS}(h:ST E d ctx i o s=some e):DK (Dd E e) (Xy d i o)=true:=by
 have key:∀{R gd:Bool}{Gl:List (Nat×Bool)},CK E d ctx i o s R gd Gl=some e->DK (Dd E e) (Xy d i o)=true:=λ{R gd Gl}h=>by
  unfold CK at h;unfold Xy;cases j:LR d o with
  |some q=>rw[j]at h;simp only at h⊢;obtain⟨_,h⟩:=ZZ h;obtain⟨s1,_,f⟩:=bind_some h;exact(Xz f).2
  |none=>
   rw[j]at h;simp only at h⊢;cases m:ckP d i o with
   |nil=>rfl
   |cons c l=>rw[m]at h;simp only at h;obtain⟨_,h⟩:=ZZ h;obtain⟨s1,_,f⟩:=bind_some h;exact(Xz f).2
 unfold ST at h;cases hg:o.guard with
 |none=>simp only[hg]at h;exact key (aW h).2
 |some p=>simp only[hg]at h;obtain⟨r,_,g⟩:=bind_some h;unfold Sa at g;exact key (aW g).2
theorem K7{E:fM}(H:gY P E)(r:FV ext ops w G s act done){d t n:Nat}(h:Dd E s (d,t,n)=true){l:Oper}(Q:l.op=.load t (.tmp n))(hg:l.guard=none):Yl P ops l (act.tmps.getD d undef) act w:=by
 unfold Dd at h;simp only[Bool.and_eq_true]at h;obtain⟨C,F,c⟩:=h;split at c
 ·rename_i a J;obtain⟨ti,ht,L⟩:=bind_some J;have hx:dO w G s.st (eR s.st.sl (.tmp n)) (act.eval (.tmp n)):=PS (r.slots n (GH F));have hv:dO w G s.st (eR s.st.sl (.tmp d)) (act.tmps.getD d undef):=PS (r.slots d (GH C));simp only[oR,sD]at ht;obtain⟨u,y,m⟩:=Ie (x:=.tmp n) (H.types _ _ ht) r.rel hx L l Q;have e:u=act.tmps.getD d undef:=by
   generalize eR s.st.sl (.tmp d)=b at c hv;unfold aE8 at c;split at c
   ·simp only[Bool.and_eq_true]at c;obtain⟨f,g,j⟩:=c;have f:=Nat.eq_of_beq_eq_true f;have g:=Nat.eq_of_beq_eq_true g;subst f;subst g;split at j
    ·simp only[jM]at j;split at j
     ·rename_i b K;have v:=eM K;exact(m.2 _ v).1.trans (hv.2 _ v).1.symm
     ·simp at j
    ·simp at j
   ·simp only[Bool.and_eq_true]at c;have f:=(fF _ _).1 c.1;have g:=(bT _ _).1 c.2;subst f;subst g;exact m.1.trans hv.1.symm
   ·rw[WE,beq_iff_eq]at c;subst c;exact m.trans hv.symm
   ·simp at c
  rw[<-e];exact .inl ⟨by simp[Region.wanted,hg],y⟩
 ·simp at c
end
structure iQ(ext:Nat->Value)(nt:Nat)(w:World)(G:Gh)(st:St)(act:Act):Prop where
 rel:dI w G st (λ_=>none)
 slots:∀t,dO w G st (st.sl.get t) (tv ext act t)
 size:act.tmps.size=nt
 defers:act.defers=[]
section
variable{ext:Nat->Value}{P:Program}{ops:Array Oper}{w:World}{G:Gh}{s:RS}{act:Act}{done:List Nat}{Q:Exit->Act->World->Prop}{nt:Nat}
theorem Ya(a:Act)(d:Option Tmp)(v:Value):(a.put d v).tmps.size=a.tmps.size/\(a.put d v).defers=a.defers:=by
 cases d with
 |none=>exact⟨rfl,rfl⟩
 |some d=>exact⟨by simp[Act.put],rfl⟩
def aGO(l:List (Nat×Nat×Nat))(e:Oper):Bool:=
 match e.dst,e.op,e.guard with
 |some d,.load t (.tmp n),none=>RD (λc=>Nat.beq c.1 d&&(Nat.beq c.2.1 t&&Nat.beq c.2.2 n)) l
 |_,_,_=>false
def Iw(h:fR)(ops:Array Oper)(x j:Nat):Bool:=
 match ops[x]?,ops[j]?with
 |some d,some c=>aGO (Xy h j c) d
 |_,_=>false
def Tf(ops:Array Oper)(x j:Nat):Bool:=
 match ops[x]?,ops[j]?with
 |some e,some c=>(match e.op,c.dst with
  |.load _ (.tmp n),some d=>!Nat.beq d n
  |_,_=>true)
 |_,_=>true
def Dw(ck:Nat->Nat->Bool)(ops:Array Oper):List Nat->Bool
 |[]=>true
 |x::l=>(bif RD (ck x) l then allB (Tf ops x) (x::l)else true)&&Dw ck ops l
theorem Y3{α:Type}:∀(l:List α),RD (λ_=>false) l=false
 |[]=>rfl
 |_::l=>by simp[RD,Y3 l]
theorem Dx:∀(l:List Nat),Dw (λ_ _=>false) ops l=true
 |[]=>rfl
 |x::l=>by simp[Dw,Y3,Dx l]
theorem Pl{α:Type}{f:α->Bool}:∀{l:List α},RD f l=true->∃a∈l,f a=true
 |[],h=>by simp[RD]at h
 |b::l,h=>by
  simp only[RD,Bool.or_eq_true]at h;rcases h with h |h
  ·exact⟨b,by simp,h⟩
  ·obtain⟨a,c,d⟩:=Pl h;exact⟨a,by simp[c],d⟩
theorem aDZ{α:Type}{f:α->Bool}{a:α}{l:List α}(c:a∈l)(h:f a=true):RD f l=true:=by
 cases e:RD f l with
 |true=>rfl
 |false=>rw[TH e a c]at h;cases h
theorem Ix{l:fR}{x j:Nat}(h:Iw l ops x j=true):∃e g d t n,ops[x]?=some e/\ops[j]?=some g/\e.dst=some d/\e.op=.load t (.tmp n)/\e.guard=none/\(d,t,n)∈Xy l j g:=by
 unfold Iw at h;split at h
 ·rename_i e g hx C;unfold aGO at h;split at h
  ·rename_i d t n s u v;obtain⟨c,y,f⟩:=Pl h;simp only[Bool.and_eq_true]at f;have e1:=Nat.eq_of_beq_eq_true f.1;have m:=Nat.eq_of_beq_eq_true f.2.1;have r:=Nat.eq_of_beq_eq_true f.2.2;subst e1;subst m;subst r;exact⟨e,g,_,_,_,hx,C,s,u,v,y⟩
  ·simp at h
 ·simp at h
def PI(P:Program)(ops:Array Oper)(ck:Nat->Nat->Bool)(act:Act)(f done:List Nat)(e:Nat×(World->Prop)):Prop:=
 (∃j∈f,ck e.1 j=true)->∃c d t n,ops[e.1]?=some c/\c.dst=some d/\c.op=.load t (.tmp n)/\c.guard=none/\e.1∈done/\(∀j∈f,Tf ops e.1 j=true)/\∀w,Yl P ops c (act.tmps.getD d undef) act w->e.2 w
theorem Tg{c:Oper}{t:TypeId}{n:Nat}{v:Value}{a a':Act}{w:World}(e:c.op=.load t (.tmp n))(hg:c.guard=none)(d:a'.tmps.getD n undef=a.tmps.getD n undef)(h:Yl P ops c v a w):Yl P ops c v a' w:=by refine h.of_same ?_ (by simp[Region.wanted,hg]);have:a'.eval (.tmp n)=a.eval (.tmp n):=d;simp only[execOp,e,this]
theorem Ai{x j n t:Nat}{d c:Oper}(h:Tf ops x j=true)(hx:ops[x]?=some d)(f:ops[j]?=some c)(g:d.op=.load t (.tmp n)):c.dst≠some n:=by unfold Tf at h;simp only[hx,f,g]at h;intro e;simp[e]at h
theorem AL{d:Option Tmp}{v:Value}{n:Nat}(h:d≠some n):(act.put d v).tmps.getD n undef=act.tmps.getD n undef:=by
 cases d with
 |none=>rfl
 |some d=>have:n≠d:=λe=>h (by rw[e]);simp only[Act.put,Array.getD_eq_getD_getElem?];rw[Array.getElem?_setIfInBounds_ne (Ne.symm this)]
theorem PI.step{ck:Nat->Nat->Bool}{i:Nat}{o:Oper}{C done:List Nat}{e:Nat×(World->Prop)}{v:Value}(u:ops[i]?=some o)(L:i∉done)
  (K:∀(i:Nat)(o:Oper),ops[i]?=some o->∀d,o.dst=some d->∀(j:Nat)(o':Oper),j≠i->ops[j]?=some o'->o'.dst≠some d)(h:PI P ops ck act (i::C) done e):PI P ops ck (act.put o.dst v) C (i::done) e:=λ⟨j,g,J⟩=>by
 obtain⟨F,d,t,n,c,l,f,m,r,s,H⟩:=h ⟨j,List.mem_cons_of_mem _ g,J⟩;have Q:o.dst≠some d:=K e.1 F c d l i o (λG=>L (by rw[G];exact r)) u;have T:o.dst≠some n:=Ai (s i List.mem_cons_self) c u f;refine⟨F,d,t,n,c,l,f,m,List.mem_cons_of_mem _ r,λj g=>s j (List.mem_cons_of_mem _ g),λw y=>H w ?_⟩;rw[AL Q]at y;exact Tg f m (AL T).symm y
theorem Iy{E:fM}{F:fR}{ctx:tU}{ck:Nat->Nat->Bool}(a4:gY P E)(c4:jY P E ctx)(c3:nt<=500)(b3:∀(j:Nat)(o:Oper),ops[j]?=some o->∀d,o.dst=some d->d<nt)(L:∀(i:Nat)(o:Oper),ops[i]?=some o->∀d,o.dst=some d->∀(j:Nat)(o':Oper),j≠i->ops[j]?=some o'->o'.dst≠some d)
  (a6:∀x j,ck x j=true->Iw F ops x j=true):
  ∀(l:List (Nat×Oper)){w:World}{G:Gh}{s:RS}{act:Act}{done:List Nat}{a2:RS}{H:FU},FV ext ops w G s act done->(∀p∈l,ops[p.1]?=some p.2)->(l.map (·.1)).Nodup->(∀p∈l,p.1∉done)->act.tmps.size=nt->act.defers=[]->
   Dw ck ops (l.map (·.1))=true->(∀e∈H,PI P ops ck act (l.map (·.1)) done e)->
   JH E F ctx l s=some a2->(∀w' G' J e4,Fr w G w' G'->FV ext ops w' G' a2 J e4->J.tmps.size=nt->J.defers=[]->Q .normal J w')->SZ (jW E F) ck P ops Q (l.map (·.1)) H act w
 |[],w,G,s,act,done,a2,H,b0,_,_,_,u,hd,_,_,h,a5=>by simp[JH,ok]at h;subst h;exact a5 w G act done (Fr.refl w G) b0 u hd
 |p::l,w,G,s,act,done,a2,H,b0,c5,b4,c6,u,hd,b6,c8,h,a5=>by
  simp only[JH]at h;obtain⟨s1,c2,e9⟩:=bind_some h;have c:=c5 p (by simp);simp only[List.map_cons,List.nodup_cons]at b4;simp only[List.map_cons,Dw,Bool.and_eq_true]at b6;have b5:=c6 p (by simp);let e2:Act->World->Prop:=λa' w'=>∃G' v,a'=act.put p.2.dst v/\Fr w G w' G'/\FV ext ops w' G' s1 a' (p.1::done)
  have f8:NC (jW E F) P ops Q p.1 e2 act w:=K6 a4 c4 b0 c b5 (by rw[u];exact c3) (λd f2=>by rw[u];exact b3 p.1 p.2 c d f2) (L p.1 p.2 c) c2 (λw' G' v m g=>⟨G',v,rfl,m,g⟩);have f4:∀q∈l,q.1∉p.1::done:=λq T=>by simp only[List.mem_cons,not_or];refine⟨λe=>b4.1 ?_,c6 q (by simp[T])⟩;rw[<-e];exact List.mem_map_of_mem T
  have next:∀{v:Value}{w':World}{G':Gh}{d2:FU},Fr w G w' G'->FV ext ops w' G' s1 (act.put p.2.dst v) (p.1::done)->(∀e∈d2,PI P ops ck (act.put p.2.dst v) (l.map (·.1)) (p.1::done) e)->SZ (jW E F) ck P ops Q (l.map (·.1)) d2 (act.put p.2.dst v) w':=
   λm g f6=>Iy a4 c4 c3 b3 L a6 l g (λq T=>c5 q (by simp[T])) b4.2 f4 (by rw[(Ya _ _ _).1];exact u) (by rw[(Ya _ _ _).2];exact hd) b6.2 f6 e9 (λd3 e0 e3 e5 f0=>a5 d3 e0 e3 e5 (m.trans f0))
  have old:∀{v:Value},∀e∈H,PI P ops ck (act.put p.2.dst v) (l.map (·.1)) (p.1::done) e:=λe a7=>(c8 e a7).step c b5 L;refine aBT c f8 (λf3 v w' b2=>?_) (λf3 a' w' b2=>?_)
  ·obtain⟨G',g4,e,m,g⟩:=b2;refine next m g λa3 a9=>?_
   rcases List.mem_cons.1 a9 with rfl |a9
   ·rintro⟨j,b1,C⟩;obtain⟨a1,g1,d,t,n,y,_,f,r,K,_⟩:=Ix (a6 _ _ C);have e1:a1=p.2:=by
     have:ops[p.1]?=some a1:=y;rw[c]at this;injection this with this;exact this.symm
    subst e1;have f1:RD (ck p.1) (l.map (·.1))=true:=aDZ b1 C;have b7:=b6.1;rw[f1]at b7;simp only[cond_true]at b7;have c7:=jC b7;refine⟨p.2,d,t,n,c,f,r,K,List.mem_cons_self,λj b1=>c7 j (List.mem_cons_of_mem _ b1),λd3 U=>?_⟩;have f5:p.2.dst≠some n:=Ai (c7 p.1 List.mem_cons_self) c c r;have c9:=Tg r K (AL (act:=act) (v:=v) f5).symm U;rw[f,WZ (by rw[u];exact b3 p.1 p.2 c d f),if_pos rfl]at c9;exact c9
   ·exact old a3 a9
  ·obtain⟨G',v,rfl,m,g⟩:=b2;refine⟨λ_ e a7 C=>?_,next m g old⟩;obtain⟨a1,d,t,n,y,c1,f,r,K,e6,e7⟩:=c8 e a7 ⟨p.1,by simp,C⟩;obtain⟨g3,g1,d1,t1,d0,V,W,Y,a0,g2,f9⟩:=Ix (a6 _ _ C);rw[y]at V;injection V with V;subst V;rw[c1]at Y;injection Y with Y;subst Y;rw[f]at a0;injection a0 with a0 c0;injection c0 with c0;subst a0;subst c0;rw[c]at W;injection W with W;subst W;have f7:=JU (aDY c2) _ f9;have U:=K7 a4 g f7 f r;have d0:p.2.dst≠some d:=L e.1 a1 y d c1 p.1 p.2 (λa3=>b5 (by rw[a3];exact K)) c;have g0:p.2.dst≠some n:=Ai (e6 p.1 (by simp)) y c f;rw[AL d0]at U;exact e7 w' (Tg f r (AL g0).symm U)
theorem Aj:∀(sg:ZQ)(st:St),∃c,tX sg st={st with sl:=c}
 |[],st=>⟨st.sl,rfl⟩
 |(d,[])::l,st=>Aj l st
 |(d,_::_)::l,st=>by obtain⟨c,h⟩:=Aj l (st.put d .undef);exact⟨c,by rw[tX,h];rfl⟩
theorem TK:∀(sg:ZQ)(st:St)(t:Nat),(tX sg st).sl.get t=.undef\/((tX sg st).sl.get t=st.sl.get t/\VP sg (.tmp t)=[])
 |[],st,t=>.inr ⟨rfl,rfl⟩
 |(d,[])::l,st,t=>by
  rcases TK l st t with h |⟨c,f⟩
  ·exact .inl h
  ·refine .inr ⟨c,?_⟩;simp only[VP,fJ];by_cases e:d=t
   ·simp[e]
   ·rw[if_neg e];exact f
 |(d,p::q)::l,st,t=>by
  rcases TK l (st.put d .undef) t with h |⟨c,f⟩
  ·exact .inl h
  ·by_cases e:d=t
   ·left;simp only[tX];rw[c];simp[St.put,Tr.get_set,e]
   ·right;simp only[tX,VP,fJ,if_neg e];refine⟨?_,f⟩;rw[c];simp[St.put,Tr.get_set,Ne.symm e]
theorem FV.clear(c:FV ext ops w G s act done)(l:act.tmps.size=nt)(hd:act.defers=[]):iQ ext nt w G (tX s.sg s.st) act:=by
 obtain⟨m,e⟩:=Aj s.sg s.st;refine⟨by rw[e];exact c.rel.slotsTo m,λt=>?_,l,hd⟩;have f:dO w G (tX s.sg s.st) ((tX s.sg s.st).sl.get t) (tv ext act t)<->dO w G s.st ((tX s.sg s.st).sl.get t) (tv ext act t):=by
  have:∀a v,dO w G (tX s.sg s.st) a v<->dO w G s.st a v:=λa v=>by rw[e];exact qA
  exact this _ _
 rw[f];rcases TK s.sg s.st t with h |⟨g,j⟩
 ·rw[h];exact trivial
 ·rw[g];exact c.slots t (λp d=>by rw[j]at d;simp at d)
theorem iQ.start(h:iQ ext nt w G s.st act)(g:s.ge=[])(hg:s.sg=[])(f:s.by_=[]):FV ext ops w G s act []:=
 ⟨h.rel,λt _=>h.slots t,λt p e=>by rw[hg]at e;simp[VP,look]at e,λj R b l d=>by rw[g]at d;simp[look]at d,λc j d=>by rw[f]at d;simp[look]at d⟩
def EG:List Oper->List Nat
 |[]=>[]
 |o::l=>match o.dst with
  |some d=>d::EG l
  |none=>EG l
def Y4(nt:Nat)(ops:Array Oper):Bool:=TD (EG ops.toList)&&allB (λd=>Nat.ble (d+1) nt) (EG ops.toList)
def eqL:List Nat->List Nat->Bool
 |[],[]=>true
 |a::l,b::m=>Nat.beq a b&&eqL l m
 |_,_=>false
def zW(h:fR)(id:Nat)(n:Nat):List Nat:=match look h.ord id with|some l=>l |none=>List.range n
def aCb(E:fM)(h:fR)(nt id:Nat)(ops:Array Oper)(c:Bool):Bool:=
 Y4 nt ops&&(bif c then(match De h id with
  |none=>X7 (jW E h) (Iw h ops) .any ops (zW h id ops.size)&&Dw (Iw h ops) ops (zW h id ops.size)
  |some q=>Sy (jW E h) (Iw h ops) .any ops q.1 (zW h id ops.size::q.2)&&allB (Dw (Iw h ops) ops) (zW h id ops.size::q.2))else match look h.ord id with|some _=>false |none=>true)
theorem TL{d:Nat}:∀{l:List Oper}{j:Nat}{o:Oper},l[j]?=some o->o.dst=some d->d∈EG l
 |[],j,o,h,_=>by simp at h
 |o'::l,0,o,h,hd=>by simp at h;subst h;simp[EG,hd]
 |o'::l,j+1,o,h,hd=>by
  have:=TL (l:=l) (j:=j) (by simpa using h) hd;unfold EG;split
  ·exact List.mem_cons_of_mem _ this
  ·exact this
theorem Th{d:Nat}:∀{l:List Oper},(EG l).Nodup->∀{i j:Nat}{o o':Oper},i<j->l[i]?=some o->l[j]?=some o'->o.dst=some d->o'.dst≠some d
 |[],_,i,j,o,o',_,h,_,_=>by simp at h
 |a::l,c,i,j,o,o',r,h,e,hd=>by
  cases j with
  |zero=>omega
  |succ j=>
   cases i with
   |zero=>simp at h;subst h;intro f;have g:=TL (l:=l) (j:=j) (by simpa using e) f;unfold EG at c;simp only[hd,List.nodup_cons]at c;exact c.1 g
   |succ i=>
    have m:(EG l).Nodup:=by
     unfold EG at c;split at c
     ·exact(List.nodup_cons.1 c).2
     ·exact c
    exact Th m (i:=i) (j:=j) (by omega) (by simpa using h) (by simpa using e) hd
theorem Dy(h:Y4 nt ops=true):(∀(j:Nat)(o:Oper),ops[j]?=some o->∀d,o.dst=some d->d<nt)/\(∀(i:Nat)(o:Oper),ops[i]?=some o->∀d,o.dst=some d->∀(j:Nat)(o':Oper),j≠i->ops[j]?=some o'->o'.dst≠some d):=by
 simp only[Y4,Bool.and_eq_true]at h;obtain⟨m,r⟩:=h;have f:=oZ m;refine⟨λj o c d hd=>?_,λi o c d hd j o' u g e=>?_⟩
 ·have t:=TL (l:=ops.toList) (j:=j) (by simpa using c) hd;have s:Nat.ble (d+1) nt=true:=jC r d t;exact Nat.le_of_ble_eq_true s
 ·rcases Nat.lt_or_gt_of_ne u with h |h
  ·exact Th f h (by simpa using g) (by simpa using c) e hd
  ·exact Th f h (by simpa using c) (by simpa using g) hd e
theorem Pm:∀(l:List Oper)(n:Nat),(G4 n l).map (·.1)=List.range' n l.length/\∀p∈G4 n l,∃k,p.1=n+k/\l[k]?=some p.2
 |[],n=>⟨rfl,by simp[G4]⟩
 |o::l,n=>by
  obtain⟨e,f⟩:=Pm l (n+1);refine⟨by simp[G4,e,List.range'_succ],λp c=>?_⟩;simp only[G4,List.mem_cons]at c;rcases c with rfl |c
  ·exact⟨0,rfl,rfl⟩
  ·obtain⟨k,e1,d⟩:=f p c;exact⟨k+1,by omega,by simpa using d⟩
theorem TM{ops:List Oper}:∀(l:List Nat),(∀i∈l,i<ops.length)->(ML ops l).map (·.1)=l/\∀p∈ML ops l,ops[p.1]?=some p.2
 |[],_=>⟨rfl,by simp[ML]⟩
 |i::l,h=>by
  obtain⟨e,f⟩:=TM l (λj m=>h j (by simp[m]));have g:=h i (by simp);have d:ops[i]?=some ops[i]:=by simp[g]
  simp only[ML,d];refine⟨by simp[e],λp c=>?_⟩;rcases List.mem_cons.1 c with rfl |c
  ·exact d
  ·exact f p c
theorem JV(c:fR)(id:Nat)(f:∀i∈zW c id ops.size,i<ops.size):(CL c id ops).map (·.1)=zW c id ops.size/\∀p∈CL c id ops,ops[p.1]?=some p.2:=by
 unfold CL;unfold zW at f⊢;cases h:look c.ord id with
 |some l=>simp only[h]at f⊢;obtain⟨d,e⟩:=TM (ops:=ops.toList) l (λi m=>by simpa using f i m);exact⟨d,λp g=>by simpa using e p g⟩
 |none=>simp only;obtain⟨d,e⟩:=Pm ops.toList 0;refine⟨by rw[d,List.range_eq_range'];simp,λp g=>?_⟩;obtain⟨k,e1,j⟩:=e p g;rw[e1];simpa using j
theorem TN{E:fM}{f:fR}{ctx:tU}(v:gY P E)(u:jY P E ctx)(r:nt<=500)(hd:Y4 nt ops=true){o:List Nat}{l:List (Nat×Oper)}(e1:l.map (·.1)=o)(j:∀p∈l,ops[p.1]?=some p.2)(T:o.Nodup)
  (U:Dw (Iw f ops) ops o=true){st st':St}{ex:Ex}(c:iQ ext nt w G st act)(h:ZS E f ctx l st=some (ex,st'))(C:ex=.norm->∀w' G' d,Fr w G w' G'->iQ ext nt w' G' st' d->Q .normal d w'):SZ (jW E f) (Iw f ops) P ops Q o [] act w.drew:=by
 obtain⟨L,H⟩:=Dy hd;obtain⟨Y,m,g⟩:=bind_some h;simp[ok]at g;obtain⟨rfl,rfl⟩:=g;rw[<-e1];have F:iQ ext nt w.drew G st act:=⟨c.rel.drew,λt=>dS Le.drew _ _ (c.slots t),c.size,c.defers⟩;exact Iy v u r L H (λ_ _ h=>h) _ (F.start (s:={st:=st,ge:=[],sg:=[],by_:=[]}) rfl rfl rfl) j (by rw[e1];exact T) (by simp) c.size c.defers (by rw[e1];exact U) (λe J=>by simp at J) m
  (λw' G' d W y K V hd=>C rfl w' G' d ((Fr.drew w G).trans y) (K.clear V hd))
theorem Iz{E:fM}{c:fR}{ctx:tU}{id:Nat}{st:St}{r q:Ex×St}:∀{os:List (List Nat)},Dg E c ctx id ops st r os=some q->q=r/\∀o∈os,(ZS E c ctx (ML ops.toList o) st).bind (Hz c id)=some r
 |[],h=>by simp[Dg,ok]at h;exact⟨h.symm,by simp⟩
 |o::os,h=>by
  simp only[Dg]at h;obtain⟨s,e,f⟩:=bind_some h;obtain⟨g,j⟩:=aW f;obtain⟨l,m⟩:=Iz j;refine⟨l,λo' d=>?_⟩;rcases List.mem_cons.1 d with rfl |d
  ·rw[aDW g];exact e
  ·exact m o' d
theorem K8{E:fM}{d:fR}{ctx:tU}(a1:gY P E)(a0:jY P E ctx)(b7:P.follows .mixedOrders=true)(Y:nt<=500){id:Nat}{a4:Bool}(a9:aCb E d nt id ops a4=true){st st':St}{ex:Ex}(y:iQ ext nt w G st act)
  (d3:∀{w':World}{G':Gh}{j:Act}{s1 b5:St}{t:Ex},iQ ext nt w' G' s1 j->Hz d id (.norm,s1)=some (t,b5)->t=.norm/\∃L,Fr w' G' w' L/\iQ ext nt w' L b5 j)
  (h:V5 E d ctx id ops st=some (ex,st'))(b6:∀c a a' w,Q (.panic c) a w->Q (.panic c) a' w)(c6:∀w' G' j,ex=.norm->Fr w G w' G'->iQ ext nt w' G' st' j->Q .normal j w'):(Code.region id ops a4).wp P Q act w:=by
 unfold V5 at h;obtain⟨r,a5,F⟩:=bind_some h;have e0:∀{e1:Ex}{s1:St},ZS E d ctx (CL d id ops) st=some (e1,s1)->e1=.norm:=λh=>by obtain⟨c3,_,V⟩:=bind_some h;simp[ok]at V;exact V.1.symm
 have c2:∀{l:List (Nat×Oper)},(ZS E d ctx l st).bind (Hz d id)=some (ex,st')->∀{s1:St}{e1:Ex},ZS E d ctx l st=some (e1,s1)->e1=.norm->∀w' G' j,Fr w G w' G'->iQ ext nt w' G' s1 j->Q .normal j w':=by intro l a2 s1 e1 u J w' G' j a6 c7;rw[u,Option.bind_some,J]at a2;obtain⟨b1,L,b2,b3⟩:=d3 c7 a2;exact c6 w' L j b1 (a6.trans b2) b3
 have base:(ZS E d ctx (CL d id ops) st).bind (Hz d id)=some (ex,st')->∃e1 s1,ZS E d ctx (CL d id ops) st=some (e1,s1):=λa2=>by obtain⟨⟨e1,s1⟩,k,_⟩:=bind_some a2;exact⟨e1,s1,k⟩
 have c8:(ZS E d ctx (CL d id ops) st).bind (Hz d id)=some (ex,st')/\∀q,De d id=some q->∀o∈q.2,(ZS E d ctx (ML ops.toList o) st).bind (Hz d id)=some (ex,st'):=by
  cases u:De d id with
  |none=>rw[u]at F;simp only[ok,Option.some.injEq]at F;rw[F]at a5;exact⟨a5,by simp⟩
  |some q=>rw[u]at F;obtain⟨b1,b2⟩:=Iz F;rw[b1];exact⟨a5,λf1 b0 o m=>b2 o (by injection b0 with b0;rw[b0];exact m)⟩
 obtain⟨U,V⟩:=c8;obtain⟨e1,s1,K⟩:=base U;have c5:=e0 K;subst c5;have a7:=c2 U K rfl;have e9:=a9;simp only[aCb,Bool.and_eq_true]at a9;obtain⟨T,f⟩:=a9;cases a4 with
 |false=>
  simp only[cond_false]at f;have e2:look d.ord id=none:=by
   cases d1:look d.ord id with
   |none=>rfl
   |some _=>simp[d1]at f
  obtain⟨d2,c9⟩:=Dy T;obtain⟨c3,W,H⟩:=bind_some K;simp[ok]at H;subst H;have m:zW d id ops.size=List.range ops.size:=by simp[zW,e2]
  obtain⟨e1,t⟩:=JV (ops:=ops) d id (λi v=>by rw[m]at v;simpa using v);refine Sv (g:=jW E d) (ck:=λ_ _=>false) ?_;rw[<-m,<-e1];exact Iy a1 a0 Y d2 c9 (λ_ _ h=>by simp at h) _ (y.start (s:={st:=st,ge:=[],sg:=[],by_:=[]}) rfl rfl rfl) t (by rw[e1,m];exact List.nodup_range) (by simp) y.size y.defers (Dx _) (λe J=>by simp at J) W
   (λw' G' j e7 a6 d0 e5 hd=>a7 w' G' j a6 (d0.clear e5 hd))
 |true=>
  simp only[cond_true]at f;have hdr:({w with drawn:=w.drawn+1}:World)=w.drew:=rfl;cases u:De d id with
  |none=>rw[u]at f;simp only[Bool.and_eq_true]at f;obtain⟨f,a3⟩:=f;have C:=f;simp only[X7,Bool.and_eq_true]at C;obtain⟨_,_,b3,f0,b4,_⟩:=C;obtain⟨e1,t⟩:=JV (ops:=ops) d id (λi v=>by have U:Nat.ble (i+1) ops.size=true:=jC b4 i v;exact Nat.le_of_ble_eq_true U);refine Su (g:=jW E d) (ck:=Iw d ops) b7 f b6 ?_;rw[hdr];exact TN a1 a0 Y T e1 t (oZ b3) a3 y K (λ_=>a7)
  |some q=>
   rw[u]at f;simp only[Bool.and_eq_true]at f;obtain⟨f,a3⟩:=f;have C:=f;simp only[Sy,Bool.and_eq_true]at C;obtain⟨_,_,_,_,b4,_⟩:=C;have e6:∀o∈zW d id ops.size::q.2,o.Nodup/\∀i∈o,i<ops.size:=λo m=>by have:=jC b4 o m;simp only[aB1,Bool.and_eq_true]at this;exact⟨oZ this.1,λi v=>Nat.le_of_ble_eq_true (jC this.2.2.1 i v)⟩
   refine Xu (g:=jW E d) (ck:=Iw d ops) b7 f b6 λo m=>?_;rw[hdr];obtain⟨c0,c1⟩:=e6 o m;rcases List.mem_cons.1 m with rfl |e3
   ·obtain⟨e1,t⟩:=JV (ops:=ops) d id c1;exact TN a1 a0 Y T e1 t c0 (jC a3 _ m) y K (λ_=>a7)
   ·obtain⟨e1,t⟩:=TM (ops:=ops.toList) o (λi v=>by simpa using c1 i v);have W:=V q u o e3;obtain⟨⟨c4,b5⟩,k,_⟩:=bind_some W;have J:c4=.norm:=by
     obtain⟨c3,_,H⟩:=bind_some k;simp[ok]at H;exact H.1.symm
    subst J;exact TN a1 a0 Y T e1 (λp e4=>by simpa using t p e4) c0 (jC a3 _ m) y k (λ_=>c2 W k rfl)
end
section
variable{ext:Nat->Value}{w w':World}{G G':Gh}{st st':St}
def mU:A->Bool
 |.agg _=>false |.tup _=>false |.fn _ _=>false |_=>true
mutual
theorem XC{f:A->A}(hf:∀a v,mU a=true->dO w G st a v->dO w' G' st' (f a) v):∀(a:A)(v:Value),dO w G st a v->dO w' G' st' (a.mapR f) v
 |.agg xs,_,⟨vs,c,d⟩=>⟨vs,c,QB hf xs vs d⟩
 |.tup xs,_,⟨vs,c,d⟩=>⟨vs,c,QB hf xs vs d⟩
 |.fn g xs,_,⟨vs,c,d⟩=>⟨vs,c,QB hf xs vs d⟩
 |.int _ _,_,h=>h
 |.bool _,_,h=>h
 |.undef,_,_=>trivial
 |.str s,v,h=>hf (.str s) v rfl h
 |.nils,v,h=>hf .nils v rfl h
 |.ez,v,h=>hf .ez v rfl h
 |.fz dep e el xs,v,h=>hf (.fz dep e el xs) v rfl h
 |.vw r u p,v,h=>hf (.vw r u p) v rfl h
 |.px r u n,v,h=>hf (.px r u n) v rfl h
 |.sx r u k n j,v,h=>hf (.sx r u k n j) v rfl h
 |.sb b u k n,v,h=>hf (.sb b u k n) v rfl h
 |.pa r u p k i off,v,h=>hf (.pa r u p k i off) v rfl h
 |.pb b u off,v,h=>hf (.pb b u off) v rfl h
 |.mp b u,v,h=>hf (.mp b u) v rfl h
 |.pz dep el x off,v,h=>hf (.pz dep el x off) v rfl h
 |.nilp,v,h=>hf .nilp v rfl h
theorem QB{f:A->A}(hf:∀a v,mU a=true->dO w G st a v->dO w' G' st' (f a) v):∀(l:List A)(vs:List Value),eZ w G st l vs->eZ w' G' st' (mapR f l) vs
 |[],_,h=>h
 |a::l,_,⟨v,c,d,e,g⟩=>⟨v,c,d,XC hf a v e,QB hf l c g⟩
end
mutual
theorem Gz{f:A->Bool}(hf:∀a v,mU a=true->f a=false->dO w G st a v->dO w' G' st' a v):∀(a:A)(v:Value),a.any f=false->dO w G st a v->dO w' G' st' a v
 |.agg xs,_,c,⟨vs,d,j⟩=>⟨vs,d,XD hf xs vs c j⟩
 |.tup xs,_,c,⟨vs,d,j⟩=>⟨vs,d,XD hf xs vs c j⟩
 |.fn g xs,_,c,⟨vs,d,j⟩=>⟨vs,d,XD hf xs vs c j⟩
 |.int _ _,_,_,h=>h
 |.bool _,_,_,h=>h
 |.undef,_,_,_=>trivial
 |.str s,v,c,h=>hf (.str s) v rfl c h
 |.nils,v,c,h=>hf .nils v rfl c h
 |.ez,v,c,h=>hf .ez v rfl c h
 |.fz dep e el xs,v,c,h=>hf (.fz dep e el xs) v rfl c h
 |.vw r u p,v,c,h=>hf (.vw r u p) v rfl c h
 |.px r u n,v,c,h=>hf (.px r u n) v rfl c h
 |.sx r u k n l,v,c,h=>hf (.sx r u k n l) v rfl c h
 |.sb b u k n,v,c,h=>hf (.sb b u k n) v rfl c h
 |.pa r u p k i off,v,c,h=>hf (.pa r u p k i off) v rfl c h
 |.pb b u off,v,c,h=>hf (.pb b u off) v rfl c h
 |.mp b u,v,c,h=>hf (.mp b u) v rfl c h
 |.pz dep el x off,v,c,h=>hf (.pz dep el x off) v rfl c h
 |.nilp,v,c,h=>hf .nilp v rfl c h
theorem XD{f:A->Bool}(hf:∀a v,mU a=true->f a=false->dO w G st a v->dO w' G' st' a v):∀(l:List A)(vs:List Value),VS f l=false->eZ w G st l vs->eZ w' G' st' l vs
 |[],_,_,h=>h
 |a::l,_,c,⟨v,d,e,g,j⟩=>by simp only[VS,Bool.or_eq_false_iff]at c;exact⟨v,d,e,Gz hf a v c.1 g,XD hf l d c.2 j⟩
end
theorem Dz(f:A->A):∀l:List A,(mapR f l).length=l.length
 |[]=>rfl
 |_::l=>congrArg (·+1) (Dz f l)
theorem Yb(f:A->A):∀(l:List A)(j:Nat),(mapR f l).getD j .undef=(l.getD j .undef).mapR f
 |[],j=>by simp[mapR,A.mapR]
 |a::l,0=>rfl
 |a::l,j+1=>by simpa[mapR]using Yb f l j
theorem dI.remap{sl:Nat->Option Value}(t:dI w G st sl){f:A->A}(hf:∀a v,mU a=true->dO w G st a v->dO w' G' st' (f a) v)
  (g:∀b d,look st'.bx b=some d->∃x,look st.bx b=some x/\(d.lv=mapR f x.lv/\d.mp=x.mp)/\d.uid<st'.ctr/\G'.B b=G.B b)(y:∀b,G.own b=.box->G'.own b=.box/\w'.heap[b]?=w.heap[b]?)
  (J:∀r a',look st'.ar r=some a'->a'.uid<st'.ctr/\a'.dv<st'.ctr/\(a'.hv.length=4/\∀u,u∈a'.hv->u<st'.ctr)/\yV w' G' a'.stale r a'.e a'.el [] (G'.H r []) a'.data)
  (Q:∀b,G'.own b≠.out->b<w'.heap.size)(L:∀r p,∃a n c,G'.H r p=.slice a n c):dI w' G' st' (λ_=>Option.none):=by
 refine⟨λ_ _ h=>by simp at h,λb d hx=>?_,λb1 b2 Y a0 F H T=>?_,J,Q,L⟩
 ·obtain⟨x,l,e,U,m⟩:=g b d hx;obtain⟨a1,s,K⟩:=t.boxes b x l;have P:d.lv.length=x.lv.length:=by rw[e.1,Dz]
  rw[m];exact⟨U,(y _ s).1,K.step (y _ s).2 e.2 P λj a2 v C=>by rw[e.1,Yb];exact XC hf _ _ C⟩
 ·obtain⟨y1,l,e,_,m⟩:=g b1 Y F;obtain⟨y2,V,C,_,W⟩:=g b2 a0 H;rw[m,W];exact t.apartB b1 b2 y1 y2 l V T
theorem Pn(f:A->A)(t:Tr)(m:Nat):∀(ks:List Nat)(c:Tr),(Oq f t ks c).get m=if m∈ks then(t.get m).mapR f else c.get m
 |[],c=>by simp[Oq]
 |k::ks,c=>by
  rw[Oq,Pn f t m ks];by_cases h:m∈ks
  ·simp[h]
  ·by_cases e:m=k
   ·subst e;simp[h,Tr.get_set]
   ·simp[h,e,Tr.get_set]
theorem Yc(f:A->A)(t:Tr)(m:Nat):∀(ks:List Nat)(c:Tr),(Ws f t ks c).get m=if m∈ks then(t.get m).mapR f else c.get m
 |[],c=>by simp[Ws]
 |k::ks,c=>by
  rw[Ws,Yc f t m ks];by_cases h:m∈ks
  ·simp[h]
  ·by_cases e:m=k
   ·subst e;simp[h,Tr.get_set]
   ·simp[h,e,Tr.get_set]
theorem SA(st:St)(b:Nat):∀l:List (Nat×Bx),look (VT st l) b=(look l b).map λx=>{x with uid:=0,lv:=mapR (oA st) x.lv}
 |[]=>rfl
 |(m,x)::l=>by
  simp only[VT,fJ];by_cases h:m=b
  ·simp[h]
  ·simp[h,SA st b l]
theorem HA(r:Nat):∀l:List (Nat×yN),look (VU l) r=(look l r).map λa=>{a with uid:=0,hv:=ZI 0,dv:=0}
 |[]=>rfl
 |(m,x)::l=>by
  simp only[VU,fJ];by_cases h:m=r
  ·simp[h]
  ·simp[h,HA r l]
theorem Ea{d:Nat×Nat}:∀{l:List (Nat×Nat)},d∈zU l->d.2=0/\∃u,(d.1,u)∈l
 |[],h=>by simp[zU]at h
 |(r,v)::l,h=>by
  simp only[zU,List.mem_cons]at h;rcases h with rfl |h
  ·exact⟨rfl,v,by simp⟩
  ·obtain⟨c,u,e⟩:=Ea h;exact⟨c,u,by simp[e]⟩
theorem Eb{r v:Nat}:∀{l:List (Nat×Nat)},(r,v)∈l->(r,0)∈zU l
 |[],h=>by simp at h
 |(r',e)::l,h=>by
  simp only[zU,List.mem_cons];rcases List.mem_cons.1 h with h |h
  ·injection h with c d;subst c;exact .inl rfl
  ·exact .inr (Eb h)
theorem Yd{G:Gh}{dep:List (Nat×Nat)}(b:Nat)(h:vU G dep b):vU G (zU dep) b:=by
 rcases h with h |⟨d,hd,p,c⟩
 ·exact .inl h
 ·exact .inr ⟨(d.1,0),Eb (v:=d.2) hd,p,c⟩
theorem JW{ks:List Nat}{r u:Nat}{p:cQ}{a':yN}(h:lP (st.keep ks) r u p a'):∃a,look st.ar r=some a/\a'.e=a.e/\a'.el=a.el/\a'.data=a.data/\a'.stale=a.stale:=by
 obtain⟨c,e,f⟩:=h;simp only[St.keep,HA]at c;cases d:look st.ar r with
 |none=>simp[d]at c
 |some a=>simp[d]at c;subst c;exact⟨a,rfl,rfl,rfl,rfl,rfl⟩
theorem EH{r u:Nat}{p:cQ}{a b:yN}(h:lP st r u p a)(c:look st.ar r=some b):lP st r u p b:=by have:=h.1;rw[c]at this;injection this with this;subst this;exact h
theorem Ec(ks:List Nat):∀(a:A)(v:Value),mU a=true->dO w G st a v->dO w G (st.keep ks) (oA st a) v:=by
 intro a v L h;have s:0<(st.keep ks).ctr:=Nat.lt_succ_self 0;have P:∀dep:List (Nat×Nat),∀d,d∈zU dep->d.2<(st.keep ks).ctr:=λdep d hd=>by rw[(Ea hd).1];exact s
 cases a with
 |fz dep e el xs=>
  simp only[oA];cases hd:depOk st dep with
  |false=>exact trivial
  |true=>exact⟨P dep,λ_=>dA (λb K=>⟨Yd b K,rfl⟩) _ _ _ (h.2 hd)⟩
 |vw r u p=>
  simp only[oA];cases c:jL st r u p with
  |none=>exact trivial
  |some a0=>refine⟨s,λa' y=>?_⟩;obtain⟨a,m,F,C,H,_⟩:=JW y;obtain⟨g,j,J⟩:=h.2 a (EH (eM c) m);exact⟨g,by rw[F,C];exact j,by rw[C,H];exact J⟩
 |px r u n=>
  simp only[oA];cases c:jL st r u []with
  |none=>exact trivial
  |some a0=>refine⟨s,λa' y=>?_⟩;obtain⟨a,m,_⟩:=JW y;exact h.2 a (EH (eM c) m)
 |sx r u k n T=>
  simp only[oA];cases c:jL st r u []with
  |none=>exact trivial
  |some a0=>refine⟨s,λa' y=>?_⟩;obtain⟨a,m,F,C,H,_⟩:=JW y;rw[C];exact h.2 a (EH (eM c) m)
 |sb b u k n=>
  simp only[oA];cases c:pR st b u with
  |none=>exact trivial
  |some l=>obtain⟨x,g,j,_⟩:=fX c;exact⟨s,λQ _ _=>h.2 x g j⟩
 |pa r u p k i off=>
  simp only[oA];cases c:jL st r u p with
  |none=>exact trivial
  |some a0=>refine⟨s,λa' y=>?_⟩;obtain⟨a,m,F,C,H,_⟩:=JW y;obtain⟨t,g,j,J⟩:=h.2 a (EH (eM c) m);exact⟨t,by rw[F,C];exact g,by rw[C,H];exact j,J⟩
 |pb b u off=>
  simp only[oA];cases c:pR st b u with
  |none=>exact trivial
  |some l=>obtain⟨x,g,j,_⟩:=fX c;exact⟨s,λQ _ _=>h.2 x g j⟩
 |mp b u=>
  simp only[oA];cases c:Cz st b u with
  |none=>exact trivial
  |some l=>obtain⟨x,g,j,_⟩:=Ia c;exact⟨s,λQ _ _=>h.2 x g j⟩
 |pz dep el x off=>
  simp only[oA];cases hd:depOk st dep with
  |false=>exact trivial
  |true=>refine⟨P dep,λ_=>?_⟩;obtain⟨b,o,m,F⟩:=h.2 hd;exact⟨b,o,m,sQ (λb K=>⟨Yd b K,rfl⟩) _ _ _ _ _ _ F⟩
 |agg xs=>simp[mU]at L
 |tup xs=>simp[mU]at L
 |fn f xs=>simp[mU]at L
 |_=>exact h
def mQ(ks:List Nat)(st:St):Prop:=∀t,t∉ks->st.sl.get t=.undef
theorem iQ.keep{nt:Nat}{act:Act}(h:iQ ext nt w G st act)(ks:List Nat):iQ ext nt w G (st.keep ks) act/\mQ ks (st.keep ks):=by
 have hg:∀t,(st.keep ks).sl.get t=if t∈ks then(st.sl.get t).mapR (oA st)else .undef:=λt=>by show(Oq (oA st) st.sl ks .nil).get t=_;rw[Pn];simp[Tr.get_nil]
 refine⟨⟨?_,λt=>?_,h.size,h.defers⟩,λt ht=>by rw[hg,if_neg ht]⟩
 ·refine h.rel.remap (f:=oA st) (Ec ks) (λb j hx=>?_) (λb g=>⟨g,rfl⟩) (λr a' d=>?_) h.rel.live h.rel.hdr
  ·simp only[St.keep,SA]at hx;cases c:look st.bx b with
   |none=>simp[c]at hx
   |some x=>simp[c]at hx;subst hx;exact⟨x,rfl,⟨rfl,rfl⟩,Nat.lt_succ_self 0,rfl⟩
  ·simp only[St.keep,HA]at d;cases c:look st.ar r with
   |none=>simp[c]at d
   |some a=>simp[c]at d;subst d;exact⟨Nat.lt_succ_self 0,Nat.lt_succ_self 0,⟨rfl,λu e=>by simp[ZI]at e;subst e;exact Nat.lt_succ_self 0⟩,(h.rel.arrs r a c).2.2.2⟩
 ·rw[hg];split
  ·exact XC (Ec ks) _ _ (h.slots t)
  ·exact trivial
theorem Le.sub{bx:List (Nat×Bx)}{ar:List (Nat×yN)}(c:∀b x,look bx b=some x->look st.bx b=some x)(d:∀r a,look ar r=some a->look st.ar r=some a):Le w G st w G {st with bx:=bx,ar:=ar}:=
 ⟨Nat.le_refl _,λr u p a' _ h=>⟨a',⟨d r a' h.1,h.2⟩,rfl,rfl,rfl,λh=>h⟩,λb e _ h=>⟨e,c b e h,rfl,rfl⟩,λr a' _ h=>⟨a',d r a' h,rfl,λb p c=>⟨⟨p,c⟩,rfl⟩⟩,λb c=>⟨c,rfl⟩⟩
theorem iQ.sub{nt:Nat}{act:Act}(h:iQ ext nt w G st act){bx:List (Nat×Bx)}{ar:List (Nat×yN)}(c:∀b x,look bx b=some x->look st.bx b=some x)(e:∀r a,look ar r=some a->look st.ar r=some a):
  iQ ext nt w G {st with bx:=bx,ar:=ar} act:=by
 have d:=Le.sub (w:=w) (G:=G) c e;refine⟨?_,λt=>dS d _ _ (h.slots t),h.size,h.defers⟩;exact h.rel.step d (λ_ _ h=>by simp at h) (λb x hx=>.inl ⟨c b x hx,rfl,rfl,(h.rel.boxes b x (c b x hx)).2.1⟩) (λb b' x f g j l=>h.rel.apartB b b' x f (c b x g) (c b' f j) l) (λr a m=>.inl ⟨e r a m,λ_=>rfl,λb p h=>⟨h,rfl⟩⟩) h.rel.live h.rel.hdr
theorem XE(ks:List Nat)(st:St){b:Nat}(h:(RE (Nn b) st.sl ks||q9 (Nn b) b st.bx)=false):∀l:List (Nat×Bx),look (gcB ks st l) b=none
 |[]=>rfl
 |(m,x)::l=>by
  simp only[gcB];by_cases e:m=b
  ·subst e;rw[h];exact XE ks st h l
  ·cases(RE (Nn m) st.sl ks||q9 (Nn m) m st.bx)with
   |true=>simp only[cond_true,fJ,if_neg e];exact XE ks st h l
   |false=>exact XE ks st h l
theorem Ti(ks:List Nat)(st:St){b:Nat}{x:Bx}:∀l:List (Nat×Bx),look (gcB ks st l) b=some x->look l b=some x
 |[],h=>by simp[gcB,look]at h
 |(m,d)::l,h=>by
  simp only[gcB]at h;rw[fJ];by_cases e:m=b
  ·subst e;cases c:(RE (Nn m) st.sl ks||q9 (Nn m) m st.bx)with
   |true=>rw[c]at h;simpa[fJ]using h
   |false=>rw[c]at h;simp only[cond_false]at h;rw[XE ks st c l]at h;simp at h
  ·rw[if_neg e];cases c:(RE (Nn m) st.sl ks||q9 (Nn m) m st.bx)with
   |true=>rw[c]at h;simp only[cond_true,fJ,if_neg e]at h;exact Ti ks st l h
   |false=>rw[c]at h;exact Ti ks st l h
theorem XF(ks:List Nat)(st:St){b:Nat}(h:(RE (DS b) st.sl ks||MM (DS b) st.bx)=false):∀l:List (Nat×yN),look (gcR ks st l) b=none
 |[]=>rfl
 |(m,x)::l=>by
  simp only[gcR];by_cases e:m=b
  ·subst e;rw[h];exact XF ks st h l
  ·cases(RE (DS m) st.sl ks||MM (DS m) st.bx)with
   |true=>simp only[cond_true,fJ,if_neg e];exact XF ks st h l
   |false=>exact XF ks st h l
theorem Tj(ks:List Nat)(st:St){b:Nat}{x:yN}:∀l:List (Nat×yN),look (gcR ks st l) b=some x->look l b=some x
 |[],h=>by simp[gcR,look]at h
 |(m,d)::l,h=>by
  simp only[gcR]at h;rw[fJ];by_cases e:m=b
  ·subst e;cases c:(RE (DS m) st.sl ks||MM (DS m) st.bx)with
   |true=>rw[c]at h;simpa[fJ]using h
   |false=>rw[c]at h;simp only[cond_false]at h;rw[XF ks st c l]at h;simp at h
  ·rw[if_neg e];cases c:(RE (DS m) st.sl ks||MM (DS m) st.bx)with
   |true=>rw[c]at h;simp only[cond_true,fJ,if_neg e]at h;exact Tj ks st l h
   |false=>rw[c]at h;exact Tj ks st l h
theorem iQ.gcb{nt:Nat}{act:Act}(h:iQ ext nt w G st act)(ks:List Nat):iQ ext nt w G (st.gcb ks) act:=h.sub (bx:=gcB ks st st.bx) (ar:=st.ar) (λb x hx=>Ti ks st _ hx) (λ_ _ h=>h)
theorem Po{α:Type}(p:Nat×α)(b:Nat):∀l:List (Nat×α),look (aBA p l) b=if p.1=b then some p.2 else look l b
 |[]=>by
  simp only[aBA,look];by_cases h:p.1=b
  ·subst h;simp[qE]
  ·simp[qL h,h]
 |q::l=>by
  simp only[aBA];cases c:Nat.ble p.1 q.1 with
  |true=>
   simp only[cond_true,look];by_cases h:p.1=b
   ·subst h;simp[qE]
   ·simp[qL h,h]
  |false=>
   simp only[cond_false,look];rw[Po p b l];by_cases h:p.1=b
   ·have:q.1≠b:=by
     intro e;have:Nat.ble p.1 q.1=true:=by rw[Nat.ble_eq];omega
     rw[this]at c;simp at c
    simp[qL this,h]
   ·simp[h]
theorem Ak{α:Type}(b:Nat):∀l:List (Nat×α),look (G5 l) b=look l b
 |[]=>rfl
 |p::l=>by
  simp only[G5,Po,Ak b l,look];by_cases h:p.1=b
  ·subst h;simp[qE]
  ·simp[qL h,h]
theorem iQ.gc{nt:Nat}{act:Act}(h:iQ ext nt w G st act)(ks:List Nat):iQ ext nt w G (st.gc ks) act:=by have d:=(h.gcb ks).gcb ks;exact d.sub (bx:=G5 ((st.gcb ks).gcb ks).bx) (ar:=G5 (gcR ks ((st.gcb ks).gcb ks) ((st.gcb ks).gcb ks).ar)) (λb x hx=>by rw[Ak]at hx;exact hx) (λr a c=>by rw[Ak]at c;exact Tj ks _ _ c)
theorem aGP(ks:List Nat):(st.gc ks).sl=st.sl:=rfl
end
end Go.Eng
