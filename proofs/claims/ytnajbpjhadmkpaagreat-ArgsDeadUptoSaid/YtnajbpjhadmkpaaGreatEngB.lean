/- Part 2 of the proof: the evaluator's operations are sound. -/
import Derived.Test.YtnajbpjhadmkpaaGreatEngA
import Derived.MapKept
set_option linter.unusedSimpArgs false
set_option linter.unusedVariables false
namespace Go.Eng
structure BG(w:World)(k:Nat)(ad:Option Addr)(n0 m:Nat)(news:List Value)(nv:Value)(w':World)(b' o' c':Nat):Prop where
 nv:nv=.slice (some ⟨b',o',none⟩) (n0+m) c'
 row:∃cs' e0',w'.heap[b']?=some (.cells cs' e0' (0,0))/\o'+c'*k<=cs'.size/\(∀q,q<n0*k->∀a0,ad=some a0->cs'[o'+q]?=w.cell? ⟨a0.block,a0.off+q,none⟩)/\∀q,q<m*k->cs'[o'+n0*k+q]?=news[q]?
 le:n0+m<=c'
 max:c'<=maxLen
 os:w'.os=w.os/\w'.tape=w.tape/\w'.output=w.output/\w.heap.size<=w'.heap.size
 other:∀b,b<w.heap.size->b≠b'->w'.heap[b]?=w.heap[b]?
 place:(b'=w.heap.size/\b'<w'.heap.size)\/(∃a0,ad=some a0/\b'=a0.block/\w'.heap.size=w.heap.size)
section
variable{P:Program}(w:World)
theorem VY{t ty e:TypeId}{i:TypeInfo}(ht:P.underlying t=some (.slice e))(F:P.info? e=some i){b o n0 c m cy:Nat}{a:Option Addr}{news:List Value}{cs:Array Value}{d:TypeId}
  (h:w.heap[b]?=some (.cells cs d (0,0)))(L:o+c*i.size<=cs.size)(H:c<=maxLen)(y:a=none->m=0)(r:news.length=m*i.size)(J:∀a0,a=some a0->∀j u,news[j]?=some u->w.cell? (a0.add j)=some u)
  (v:∀u∈news,u.oneCell'=true)(l:n0+m<=c):
  ∃nv w',(Builtin.append_ #[t,t] ty #[.slice (some ⟨b,o,none⟩) n0 c,.slice a m cy]).run P w=.ok nv w'/\BG w i.size (some ⟨b,o,none⟩) n0 m news nv w' b o c:=by
 have G:(n0+m)*i.size<=c*i.size:=Nat.mul_le_mul_right _ l;rw[Nat.add_mul]at G;have f:o+n0*i.size+news.length<=cs.toList.length:=by simp;omega
 have s:=run_storeCells_at (P:=P) b (o+n0*i.size) d news 0 cs w h (by simpa using f) v;simp only[Nat.add_zero]at s;have hf:(Builtin.firstCells i.size m (.slice a m cy)).run P w=.ok news.toArray w:=by
  cases a with
  |none=>have:=y rfl;subst this;have:news=[]:=List.eq_nil_of_length_eq_zero (by simpa using r);subst this;simp[Builtin.firstCells]
  |some a0=>exact run_firstCells_some (P:=P) w i.size m a0 m cy news r (J a0 rfl)
 refine⟨.slice (some ⟨b,o,none⟩) (n0+m) c,w.setRow b (qL cs.toList (o+n0*i.size) news).toArray,?_,?_⟩
 ·simp[Builtin.append_,run_underlying ht,sizeOf,typeInfo,F,Builtin.lenOf,l,hf,kA,s,qL]
 ·refine⟨rfl,⟨_,d,setRow_heap w b cs _ d (0,0) h,?_,λq K a0 g=>?_,λq K=>?_⟩,l,H,⟨rfl,rfl,rfl,by simp⟩,λb' _ C=>setRow_other w b b' _ C,.inr ⟨_,rfl,rfl,by simp⟩⟩
  ·show _<=(qL cs.toList (o+n0*i.size) news).length;rw[uP f];simpa using L
  ·injection g with g;subst g;simp only[List.getElem?_toArray,vL f];rw[if_neg (by omega)];simp[World.cell?,h]
  ·simp only[List.getElem?_toArray,vL f];rw[if_pos (by omega)];congr 1;omega
theorem Cv{t ty e:TypeId}{i:TypeInfo}{z:Value}(ht:P.underlying t=some (.slice e))(v:P.info? e=some i)(G:i.zero=some z)(W:z.cells.size=i.size){ad:Option Addr}{n0 c m cy:Nat}{a:Addr}{news olds:List Value}
  (H:ad=none->n0=0/\c=0)(d:olds.length=n0*i.size)(MU:∀a0,ad=some a0->∀j u,olds[j]?=some u->w.cell? (a0.add j)=some u)(V:∀a0,ad=some a0->a0.spot=none)
  (h:news.length=m*i.size)(y:∀j u,news[j]?=some u->w.cell? (a.add j)=some u)(C:c<n0+m)(Y:n0+m<=281474976710656)(s:(n0+m)*i.bytes<=140737488355328):
  ∃nv w' c',(Builtin.append_ #[t,t] ty #[.slice ad n0 c,.slice (some a) m cy]).run P w=.ok nv w'/\BG w i.size ad n0 m news nv w' w.heap.size 0 c':=by
 have Q:=grownCap_ge w (n0+m) c e;have L:grownCap w (n0+m) c e<=maxLen:=grownCap_le_maxLen w (n0+m) c e (by unfold maxLen;omega);have key:∀g:Array Value,g=olds.toArray++news.toArray++Builtin.zeroCells z.cells (grownCap w (n0+m) c e-(n0+m))->
   BG w i.size ad n0 m news (.slice (some ⟨w.heap.size,0,none⟩) (n0+m) (grownCap w (n0+m) c e)) (w.drew.alloc (.cells g e)) w.heap.size 0 (grownCap w (n0+m) c e):=by
  intro g K;subst K;refine⟨rfl,⟨_,e,heap_alloc_new w.drew _,?_,λq U a0 r=>?_,λq U=>?_⟩,Q,L,⟨rfl,rfl,rfl,by simp⟩,λb J _=>heap_alloc_old w.drew _ b J,.inl ⟨rfl,by simp⟩⟩
  ·simp only[Array.size_append,List.size_toArray,size_zeroCells,W,d,h,<-Nat.add_mul,Nat.zero_add];exact Nat.mul_le_mul_right _ (by omega)
  ·have f:q<olds.length:=by omega
   rw[Nat.zero_add,Array.append_assoc,Array.getElem?_append_left (by simpa using f)];have:=MU a0 r q olds[q] (by simp[f]);obtain⟨b0,a1,a2⟩:=a0;have F:=V _ r;simp only at F;subst F;rw[kA]at this;simp[f,this]
  ·have f:q<news.length:=by omega
   rw[Nat.zero_add,<-d,Array.append_assoc,Array.getElem?_append_right (by simp),Array.getElem?_append_left (by simp;omega)];simp
 cases ad with
 |none=>obtain⟨rfl,rfl⟩:=H rfl;have T:olds=[]:=List.eq_nil_of_length_eq_zero (by simpa using d);subst T;have l:=run_append_nil (P:=P) w t ty e i z ht v G a m cy news h y (by omega) (by omega) (by simp only[Nat.zero_add]at s;omega);refine⟨_,_,grownCap w (0+m) 0 e,?_,key _ rfl⟩;simpa using l
 |some b=>have l:=run_append_grow (P:=P) w t ty e i z ht v G b n0 c olds d (MU b rfl) a m cy news h y C (by omega) (growslice_fits C s);exact⟨_,_,_,l,key _ rfl⟩
end
end Go.Eng

namespace Go.Eng
section
variable{P:Program}{w w':World}{G G':Gh}{st:St}{sl:Nat->Option Value}
theorem Oo{el:List LT}{yv:Value}{ys:LD}(h:MM w G el yv ys):∃(a:Option Addr)(m cy:Nat)(news:List Value),yv=.slice a m cy/\ys.length=m/\(a=none->m=0)/\(∀ad,a=some ad->0<m->ad.spot=none)/\news.length=m*el.length/\
  (0<m->∀a0,a=some a0->∀j u,news[j]?=some u->w.cell? (a0.add j)=some u)/\(∀u∈news,u.oneCell'=true)/\
  ∀i,i<m->∀(j:Nat)(t:LT),el[j]?=some t->sB t=false/\∃v,news[i*el.length+j]?=some v/\vD w (λb=>G.own b=.fz) t v (lf el.length (ys.getD i (.i 0)) j):=by
 obtain⟨a,m,cy,F,H,P,U⟩:=h.ex;cases a with
 |none=>have:=P rfl;subst this;exact⟨none,0,cy,[],F,H,λ_=>rfl,by simp,by simp,by simp,by simp,λi g=>by omega⟩
 |some ad=>
  by_cases Y:0<m
  ·obtain⟨K,L⟩:=U ad rfl Y;obtain⟨b,o,a5⟩:=ad;simp only at K;subst K;let f:Nat->Value:=λq=>(w.cell? ⟨b,o+q,none⟩).getD undef
   have l:∀q,q<m*el.length->∃v,w.cell? ⟨b,o+q,none⟩=some v/\v.oneCell'=true:=λq l=>by
    have V:0<el.length:=Nat.pos_of_ne_zero (λh=>by rw[h]at l;simp at l);have g:q/el.length<m:=Nat.div_lt_of_lt_mul (by rw[Nat.mul_comm];exact l);have Q:q%el.length<el.length:=Nat.mod_lt _ V;obtain⟨_,v,c,y,_⟩:=L _ g (q%el.length) el[q%el.length] (by simp[Q]);refine⟨v,?_,y⟩;have e:=Nat.div_add_mod q el.length;rw[Nat.mul_comm]at e;have T:o+q/el.length*el.length+q%el.length=o+q:=by omega
    simp only[T]at c;exact c
   refine⟨some ⟨b,o,none⟩,m,cy,(List.range (m*el.length)).map f,F,H,P,λa4 C _=>by injection C with C;subst C;rfl,by simp,λ_ a0 J j u d=>?_,λu d=>?_,λi g j t ht=>?_⟩
   ·injection J with J;subst J;rw[List.getElem?_map]at d;cases r:(List.range (m*el.length))[j]?with
    |none=>simp[r]at d
    |some q=>have s:=(List.getElem?_eq_some_iff.1 r).1;simp only[List.length_range]at s;rw[List.getElem?_range s]at r;injection r with r;subst r;obtain⟨v,c,_⟩:=l j s;simp[List.getElem?_range s,f,c]at d;rw[kA,c,d]
   ·simp only[List.mem_map,List.mem_range]at d;obtain⟨q,a1,rfl⟩:=d;obtain⟨v,c,y⟩:=l q a1;simpa[f,c]using y
   ·obtain⟨a2,v,c,y,a3⟩:=L i g j t ht;have Q:j<el.length:=(List.getElem?_eq_some_iff.1 ht).1;have W:i*el.length+j<m*el.length:=by
     have:(i+1)*el.length<=m*el.length:=Nat.mul_le_mul_right _ g;rw[Nat.add_mul,Nat.one_mul]at this;omega
    refine⟨a2,v,?_,a3⟩;simp only[<-Nat.add_assoc]at c;simp[List.getElem?_map,List.getElem?_range W,f,<-Nat.add_assoc,c]
  ·have:m=0:=by omega
   subst this;exact⟨some ad,0,cy,[],F,H,λ_=>rfl,λ_ _ h=>by omega,by simp,by simp,by simp,λi g=>by omega⟩
def Gh.app(G:Gh)(r:Nat)(p:cP)(d b':Nat)(nv:Value):Gh:=(G.ren r p d 0 nv).tag b' (.arr d [])
theorem ZG(l:dI w G st sl){r d:Nat}{p:cP}{e:TypeId}{el:List LT}{ad:Option Addr}{n c n0 m b' o' c' k:Nat}{data:LD}{news:List Value}{nv:Value}
  (L:yH w G [] r e el p (.slice ad n c) data)(j:BG w k ad n0 m news nv w' b' o' c'):
  (∀b,G.own b≠.out->G.own b≠.arr r p->w'.heap[b]?=w.heap[b]?/\(G.app r p d b' nv).own b=(G.ren r p d 0 nv).own b)/\(∀b,(G.app r p d b' nv).own b=(G.ren r p d 0 nv).own b\/G.own b=.out)/\
  (∀b,b<w.heap.size->(G.own b=.out\/G.own b=.fz)->w'.heap[b]?=w.heap[b]?/\(G.app r p d b' nv).own b=G.own b)/\(∀b,(G.app r p d b' nv).own b≠.out->b<w'.heap.size):=by
 have s:(b'=w.heap.size/\b'<w'.heap.size)\/(G.own b'=.arr r p/\b'<w'.heap.size):=by
  rcases j.place with h |⟨a0,g,f,H⟩
  ·exact .inl h
  ·right;obtain⟨Q,n',T,v,W,Y,a1,a2,P⟩:=L;injection v with v;subst v;obtain⟨_,C,cs,U,F,_⟩:=P a0 g;rw[f];exact⟨C,by rw[H];exact(Array.getElem?_eq_some_iff.1 F).1⟩
 have u:∀b,b<w.heap.size->G.own b≠.arr r p->b≠b':=λb V y e=>by
  rcases s with h |h
  ·omega
  ·rw[e]at y;exact y h.1
 refine⟨λb g f=>?_,λb=>?_,λb g f=>?_,λb h=>?_⟩
 ·have t:=l.live b g;exact⟨j.other b t (u b t f),by simp[Gh.app,Gh.tag,u b t f]⟩
 ·by_cases h:b=b'
  ·subst h;rcases s with h |h
   ·right;cases K:G.own b with
    |out=>rfl
    |_=>have:=l.live b (by rw[K];simp);omega
   ·left;simp only[Gh.app,Gh.tag,if_true];exact(Sb b h.1).symm
  ·left;simp[Gh.app,Gh.tag,h]
 ·have:=u b g (by rcases f with f |f<;>rw[f]<;>simp);refine⟨j.other b g this,?_⟩;simp only[Gh.app,Gh.tag,this,if_false];exact BX b (by rcases f with f |f<;>rw[f]<;>simp)
 ·simp only[Gh.app,Gh.tag]at h;split at h
  ·rename_i J;rw[J];rcases s with h |h<;>exact h.2
  ·have:=l.live b (V5 b h);have:=j.os.2.2.2;omega
theorem VZ(a3:dI w G st sl){r d:Nat}{p:cP}{e e1:TypeId}{el:List LT}{ad:Option Addr}{n c n0 m b' o' c':Nat}{data ys:LD}{news:List Value}{nv:Value}
  (L:yH w G [] r e el p (.slice ad n c) data)(e2:n0<=n)(h:BG w el.length ad n0 m news nv w' b' o' c')(b1:ys.length=m)
  (a9:∀i,i<m->∀(j:Nat)(t:LT),el[j]?=some t->sB t=false/\∃v,news[i*el.length+j]?=some v/\vD w (λb=>G.own b=.fz) t v (lf el.length (ys.getD i (.i 0)) j)):
  yH w' (G.app r p d b' nv) [] d e1 el [] nv (data.take n0++ys):=by
 obtain⟨Q,c9,d0,d1⟩:=ZG (d:=d) a3 L h;obtain⟨c5,c6,P,c0,c1,c2⟩:=h.row;have e0:data.length=n:=by obtain⟨_,_,_,F,b5,_⟩:=L;injection F with _ F;omega
 have Y:∀b,G.own b=.fz->(G.app r p d b' nv).own b=.fz/\w'.heap[b]?=w.heap[b]?:=λb g=>by obtain⟨u,y⟩:=Q b (by rw[g];simp) (by rw[g];simp);exact⟨by rw[y,BX b (by rw[g];simp),g],u⟩
 have a4:=Hs (w':=w') (G':=G.app r p d b' nv) (d:=d) (e1:=e1) (l:=0) (n':=n0) (c':=c') (b':=b') (o':=o') (data':=data.take n0) L (by simp;omega) (by omega)
  (λi K=>by simp[List.getD,List.getElem?_take,K]) (by have:=h.le;omega) h.max P (by simp[Gh.app,Gh.tag]) c0
  (λb o e6 c4 hv q b0=>by injection hv with hv;have:=c1 q b0 _ hv;simpa using this) Y
  (λi j s K=>⟨by simp[Gh.app,Gh.tag,Gh.ren],λb g=>by
   have a7:G.own b≠.arr r p:=λe=>by rw[g]at e;injection e with _ e;have:=congrArg List.length e;simp at this
   obtain⟨u,y⟩:=Q b (by rw[g];simp) a7;exact⟨by rw[y];exact I3 b g,u⟩⟩)
 obtain⟨_,_,_,F,b5,e3,e4,e5,b6⟩:=a4;injection F with b2 b3 b4;subst b2;subst b3;subst b4;obtain⟨d2,T,a0,a1,f,U,V⟩:=b6 _ rfl;simp only at T f U V;refine⟨_,_,_,h.nv,by simp[b1];omega,h.le,h.max,by simp,λc3 J=>?_⟩;injection J with J;subst J;refine⟨rfl,T,a0,a1,f,U,λi K=>?_⟩;by_cases a5:i<n0
 ·have H:(data.take n0++ys).getD i (.i 0)=(data.take n0).getD i (.i 0):=by
   simp only[List.getD];rw[List.getElem?_append_left (by simp;omega)]
  rw[H];exact V i a5
 ·have H:(data.take n0++ys).getD i (.i 0)=ys.getD (i-n0) (.i 0):=by
   simp only[List.getD];rw[List.getElem?_append_right (by simp;omega)];congr 2;simp;omega
  rw[H];refine JA el 0 (λj t ht=>?_);obtain⟨u,v,y,a2⟩:=a9 (i-n0) (by omega) j t ht;have d3:j<el.length:=(List.getElem?_eq_some_iff.1 ht).1;rw[P]at f;injection f with f;injection f with f;subst f;have a6:(i-n0)*el.length+j<m*el.length:=by have:(i-n0+1)*el.length<=m*el.length:=Nat.mul_le_mul_right _ (by omega);rw[Nat.add_mul,Nat.one_mul]at this;omega
  have W:=c2 _ a6;rw[y]at W;have c7:n0*el.length+(i-n0)*el.length=i*el.length:=by rw[<-Nat.add_mul];congr 1;omega
  refine⟨v,?_,?_⟩
  ·simp only[World.cell?,P,Nat.zero_add];rw[<-W];simp;congr 1;omega
  ·rw[Nat.zero_add];have C:=dE Y t v _ a2;cases t with
   |int k=>exact C
   |bool=>exact C
   |str=>exact C
   |sl b7 e c8=>
    cases b7 with
    |false=>exact C
    |true=>simp[sB]at u
end
end Go.Eng

namespace Go.Eng
section
variable{P:Program}{w w':World}{G G':Gh}{st:St}{sl:Nat->Option Value}
theorem JD(b7:dI w G st sl){t ty e:TypeId}{i:TypeInfo}{z:Value}{k:Nat}(ht:P.underlying t=some (.slice e))(l:P.info? e=some i)(U:i.zero=some z)(V:z.cells.size=i.size)(a3:i.size=k)
  {r:Nat}{p:cP}{e1:TypeId}{el:List LT}{ad:Option Addr}{n c n0 m cy:Nat}{data:LD}{a:Option Addr}{news:List Value}(a6:yH w G [] r e1 el p (.slice ad n c) data)(H:el.length=k)(c1:n0<=n)
  (F:a=none->m=0)(s:news.length=m*k)(J:0<m->∀a0,a=some a0->∀j u,news[j]?=some u->w.cell? (a0.add j)=some u)(K:∀u∈news,u.oneCell'=true)
  (L:n0+m<=281474976710656)(Q:(n0+m)*i.bytes<=140737488355328):
  (ad=none/\m=0/\n0=0/\(Builtin.append_ #[t,t] ty #[.slice ad n0 c,.slice a m cy]).run P w=.ok (.slice none 0 0) w)\/
  ∃nv w' b' o' c',(Builtin.append_ #[t,t] ty #[.slice ad n0 c,.slice a m cy]).run P w=.ok nv w'/\BG w k ad n0 m news nv w' b' o' c':=by
 obtain⟨_,_,_,a7,c2,c3,W,b2,b3⟩:=a6;injection a7 with a9 b0 b1;subst a9;subst b0;subst b1;subst a3;cases ad with
 |none=>
  have a2:=b2 rfl;have a4:n0=0:=by omega
  subst a2;subst a4;by_cases v:m=0
  ·subst v;left;refine⟨rfl,rfl,rfl,?_⟩;cases a<;>simp[Builtin.append_,run_underlying ht,sizeOf,typeInfo,l,Builtin.lenOf,Builtin.firstCells,loadCells,loadCellsFrom]
  ·right;cases a with
   |none=>exact absurd (F rfl) v
   |some a0=>obtain⟨nv,w',c',f,g⟩:=Cv (P:=P) w (ty:=ty) (cy:=cy) (olds:=[]) ht l U V (ad:=none) (n0:=0) (c:=0) (λ_=>⟨rfl,rfl⟩) (by simp) (by simp) (by simp) s (J (by omega) a0 rfl) (by omega) L Q;exact⟨nv,w',_,_,c',f,g⟩
 |some a1=>
  right;obtain⟨Y,b4,cs,b6,y,C,b5⟩:=b3 a1 rfl;obtain⟨b,o,c4⟩:=a1;simp only at Y;subst Y;simp only at b4 y C b5;by_cases T:n0+m<=c
  ·by_cases v:0<m
   ·obtain⟨nv,w',f,g⟩:=VY (P:=P) w (ty:=ty) (cy:=cy) ht l y (by rw[<-H];exact C) W F s (J v) K T;exact⟨nv,w',_,_,_,f,g⟩
   ·have:m=0:=by omega
    subst this;have a5:news=[]:=List.eq_nil_of_length_eq_zero (by simpa using s);obtain⟨nv,w',f,g⟩:=VY (P:=P) w (ty:=ty) (cy:=cy) (a:=a) ht l y (by rw[<-H];exact C) W (λ_=>rfl) s (λa0 _ j u d=>by rw[a5]at d;simp at d) K T;exact⟨nv,w',_,_,_,f,g⟩
  ·cases a with
   |none=>have:=F rfl;omega
   |some a0=>
    have c0:o+n0*i.size<=cs.size:=by have:n0*i.size<=c*i.size:=Nat.mul_le_mul_right _ (by omega);rw[H]at C;omega
    obtain⟨nv,w',c',f,g⟩:=Cv (P:=P) w (ty:=ty) (cy:=cy) (olds:=(cs.toList.drop o).take (n0*i.size)) ht l U V (ad:=some ⟨b,o,none⟩) (n0:=n0) (c:=c) (by simp)
     (by simp;omega) (λa' h j u d=>by
      injection h with h;subst h;rw[List.getElem?_take]at d;split at d
      ·rw[List.getElem?_drop]at d;rw[kA];simp[World.cell?,y];simpa using d
      ·simp at d) (λa' h=>by injection h with h;subst h;rfl) s (J (by omega) a0 rfl) (by omega) L Q
    exact⟨nv,w',_,_,c',f,g⟩
theorem Xb(y:dI w G st sl){r u d:Nat}{p:cP}{e e1:TypeId}{el:List LT}{ad:Option Addr}{n c n0 m b' o' c':Nat}{data ys:LD}{news:List Value}{nv:Value}{a:xZ}{s1:St}
  (Q:lH st r u p a)(Y:a.stale=[])(U:YM a.el a.data p)(h:LF st d r p=some s1)
  (W:yH w G [] r e el p (.slice ad n c) data)(f:BG w el.length ad n0 m news nv w' b' o' c')(V:yH w' (G.app r p d b' nv) [] d e1 el [] nv ys):
  Fr w G w' (G.app r p d b' nv)/\Le w G st w' (G.app r p d b' nv) (s1.newArr d e1 el ys)/\dI w' (G.app r p d b' nv) (s1.newArr d e1 el ys) sl:=by
 obtain⟨C,H,J,K⟩:=ZG (d:=d) y W f;obtain⟨a2,a3⟩:=DM y (w':=w') (G':=G.app r p d b' nv) (v:=nv) (l:=0) Q Y U h H (λa4 g s=>by simp[Gh.app,Gh.tag,Gh.ren,g]) (λb g t=>(C b g t).1);have F:∀b T,G.own b=T->T≠.out->(∀r p,T≠.arr r p)->(G.app r p d b' nv).own b=T/\w'.heap[b]?=w.heap[b]?:=λb T j g t=>by subst j;obtain⟨L,P⟩:=C b g (t r p);exact⟨by rw[P,BX b t],L⟩
 obtain⟨a0,a1⟩:=iK y (d:=d) (e:=e1) (el:=el) (data:=ys) a2 a3 (λb j=>F b .box j (by simp) (by simp)) (λ_=>rfl) (λb j=>F b .fz j (by simp) (by simp))
  (by
   have:(G.app r p d b' nv).H d []=nv:=by simp[Gh.app,Gh.tag,Gh.ren]
   rw[this];exact V) K (FR y ⟨_,_,_,f.nv⟩)
 exact⟨⟨f.os.1,f.os.2.1,f.os.2.2.1,f.os.2.2.2,J,λ_ _ _=>rfl⟩,a0,a1⟩
theorem FS(f:dI w G st sl){t ty:TypeId}{ti H:TI}(b5:lN P t ti)(b6:lN P ti.e H)(c4:ti.sl=true){r u d:Nat}{p:cP}{e e1:TypeId}{el:List LT}{ad:Option Addr}{n c n0:Nat}{data ys:LD}{yv:Value}{a:xZ}{s1 F:St}
  (Q:lH st r u p a)(W:a.stale=[])(U:YM a.el a.data p)(h:LF st d r p=some s1)(y:yH w G [] r e el p (.slice ad n c) data)(V:n0<=n)
  (c6:MM w G el yv ys)(T:yB s1 d e1 H el (data.take n0) (.flat ys)=some F):
  ∃nv w' G',(Builtin.append_ #[t,t] ty #[.slice ad n0 c,yv]).run P w=.ok nv w'/\Fr w G w' G'/\Le w G st w' G' (F.view d)/\dI w' G' (F.view d) (yK sl d nv):=by
 simp only[yB]at T;obtain⟨g,L⟩:=aU T;simp[ok]at L;subst L;simp only[Bool.and_eq_true]at g;obtain⟨a0,a1⟩:=PJ g.1;have b7:=Nat.eq_of_beq_eq_true g.2;obtain⟨i0,a2,d1,d2⟩:=b5.sl c4;obtain⟨d0,i,z,d3,a7,K,a9,b0,b1,e0,e2⟩:=b6.ex;have c8:z.cells.size=i.size:=by
  have:z.cells.toList.length=H.lv.length:=by rw[b1];simp
  rw[K];simpa using this
 have e3:data.length=n:=by obtain⟨_,_,_,C,Y,_⟩:=y;injection C with _ C;omega
 have c5:(data.take n0).length=n0:=by simp;omega
 obtain⟨e5,m,cy,news,y1,y2,y3,y4,y5,y6,y7,y8⟩:=Oo c6;subst y1;rw[c5,y2]at a0 a1;have b2:∀b' nv,(G.app r p d b' nv).H d []=nv:=λb' nv=>by simp[Gh.app,Gh.tag,Gh.ren]
 rcases JD (P:=P) f (ty:=ty) (cy:=cy) a2 a7 b0 c8 (K.trans b7.symm) y rfl V y3 y5 y6 y7 a0 (by rw[a9];exact a1)with⟨q1,q2,q3,q4⟩ |⟨nv,w',b',o',c',q1,q2⟩
 ·subst q2;subst q3;have c7:ys=[]:=List.eq_nil_of_length_eq_zero y2;subst c7;obtain⟨a3,a4,a5,a6⟩:=CN f (r:=r) (d:=d) (l:=0) (p:=p) (v:=.slice none 0 0);obtain⟨c1,c2⟩:=DM f (w':=w) (G':=G.ren r p d 0 (.slice none 0 0)) (v:=.slice none 0 0) (l:=0) Q W U h (λb=>.inl rfl) (λe4 g s=>by simp[Gh.ren,g]) (λ_ _ _=>rfl);obtain⟨b3,b4⟩:=iK f (d:=d) (e:=e1) (el:=el) (data:=[]) c1 c2 a3 (λ_=>rfl) a4 ⟨none,0,0,by simp[Gh.ren],rfl,Nat.le_refl _,Nat.zero_le _,λ_=>rfl,by simp⟩ a5 (FR f ⟨_,_,_,rfl⟩);obtain⟨j,J⟩:=b4.view (jJ (stg:=s1) (d:=d) (e:=e1) (el:=el) (data:=[]));have c0:(G.ren r p d 0 (.slice none 0 0)).H d []=.slice none 0 0:=by simp[Gh.ren]
  rw[c0]at j;refine⟨_,w,_,q4,a6,?_,?_⟩
  ·simpa using b3.trans J
  ·simpa using j
 ·have c3:=VZ (d:=d) (e1:=e1) f y V q2 y2 y8;obtain⟨C,Y,c9⟩:=Xb f Q W U h y q2 c3;obtain⟨j,J⟩:=c9.view (jJ (stg:=s1) (d:=d) (e:=e1) (el:=el) (data:=data.take n0++ys));rw[b2]at j;exact⟨nv,w',_,q1,C,Y.trans J,j⟩
theorem Hv(j:dI w G st sl){d:Nat}{e1:TypeId}{el:List LT}{m b' o' c':Nat}{ys:LD}{news:List Value}{nv:Value}
  (f:BG w el.length none 0 m news nv w' b' o' c')(K:yH w' (G.app d [] d b' nv) [] d e1 el [] nv ys):
  Fr w G w' (G.app d [] d b' nv)/\Le w G st w' (G.app d [] d b' nv) (st.newArr d e1 el ys)/\dI w' (G.app d [] d b' nv) (st.newArr d e1 el ys) sl:=by
 have L:yH w G [] d e1 el [] (.slice none 0 0) []:=⟨none,0,0,rfl,rfl,Nat.le_refl _,Nat.zero_le _,λ_=>rfl,by simp⟩;obtain⟨v,U,y,C⟩:=ZG (d:=d) j L f;have V:∀b,G.own b≠.out->w'.heap[b]?=w.heap[b]?:=λb c=>by
  have:=j.live b c;refine f.other b this ?_;rcases f.place with h |⟨a0,h,_⟩
  ·omega
  ·simp at h
 have l:∀b T,G.own b=T->T≠.out->(∀p,T≠.arr d p)->(G.app d [] d b' nv).own b=T/\w'.heap[b]?=w.heap[b]?:=λb T c r t=>by
  subst c;obtain⟨F,H⟩:=v b r (t []);refine⟨?_,F⟩;rw[H];cases g:G.own b with
  |arr W s=>exact PH b (λe=>t s (by rw[g,e])) g
  |out=>exact absurd g r
  |fz=>rw[BX b (by rw[g];simp),g]
  |box=>rw[BX b (by rw[g];simp),g]
 obtain⟨P,Q⟩:=iK j (stg:=st) (d:=d) (e:=e1) (el:=el) (data:=ys) ⟨rfl,rfl,Nat.le_refl _⟩
  (λr' u a' J=>.inl ⟨J,λs=>by simp[Gh.app,Gh.tag,Gh.ren,u],λb p c=>l b _ c (by simp) (λq e=>by injection e with e;exact u e)⟩)
  (λb c=>l b .box c (by simp) (by simp)) (λ_=>rfl) (λb c=>l b .fz c (by simp) (by simp))
  (by
   have:(G.app d [] d b' nv).H d []=nv:=by simp[Gh.app,Gh.tag,Gh.ren]
   rw[this];exact K) C (FR j ⟨_,_,_,f.nv⟩)
 exact⟨⟨f.os.1,f.os.2.1,f.os.2.2.1,f.os.2.2.2,y,λ_ _ _=>rfl⟩,P,Q⟩
theorem WA(c:dI w G st sl){t ty:TypeId}{ti j:TI}(a6:lN P t ti)(a7:lN P ti.e j)(b4:ti.sl=true){d:Nat}{e1:TypeId}{el:List LT}{ys:LD}{yv:Value}{h:St}
  (b5:MM w G el yv ys)(F:yB st d e1 j el [] (.flat ys)=some h):
  ∃nv w' G',(Builtin.append_ #[t,t] ty #[.slice none 0 0,yv]).run P w=.ok nv w'/\Fr w G w' G'/\Le w G st w' G' (h.view d)/\dI w' G' (h.view d) (yK sl d nv):=by
 simp only[yB]at F;obtain⟨g,C⟩:=aU F;simp[ok]at C;subst C;simp only[Bool.and_eq_true]at g;obtain⟨K,L⟩:=PJ g.1;have b1:=Nat.eq_of_beq_eq_true g.2;obtain⟨i0,Q,c4,c5⟩:=a6.sl b4;obtain⟨c3,i,z,c6,Y,y,a0,a1,a2,c7,c8⟩:=a7.ex;have b7:z.cells.size=i.size:=by
  have:z.cells.toList.length=j.lv.length:=by rw[a2];simp
  rw[y];simpa using this
 have J:yH w G [] d e1 el [] (.slice none 0 0) []:=⟨none,0,0,rfl,rfl,Nat.le_refl _,Nat.zero_le _,λ_=>rfl,by simp⟩;obtain⟨c9,m,cy,news,y1,y2,y3,y4,y5,y6,y7,y8⟩:=Oo b5;subst y1;simp only[List.length_nil,y2]at K L;rcases JD (P:=P) c (ty:=ty) (cy:=cy) Q Y a1 b7 (y.trans b1.symm) J rfl (Nat.le_refl 0) y3 y5 y6 y7 K (by rw[a0];exact L)with⟨q1,q2,q3,q4⟩ |⟨nv,w',b',o',c',q1,q2⟩
 ·subst q2;have b6:ys=[]:=List.eq_nil_of_length_eq_zero y2;subst b6;obtain⟨T,U,V,W⟩:=CN c (r:=d) (d:=d) (l:=0) (p:=[]) (v:=.slice none 0 0);obtain⟨a4,a5⟩:=iK c (stg:=st) (G':=G.ren d [] d 0 (.slice none 0 0)) (w':=w) (d:=d) (e:=e1) (el:=el) (data:=[]) ⟨rfl,rfl,Nat.le_refl _⟩
   (λr' H a' a9=>.inl ⟨a9,λs=>by simp[Gh.ren,H],λb p b0=>⟨PH b H b0,rfl⟩⟩) T (λ_=>rfl) U ⟨none,0,0,by simp[Gh.ren],rfl,Nat.le_refl _,Nat.zero_le _,λ_=>rfl,by simp⟩ V (FR c ⟨_,_,_,rfl⟩)
  obtain⟨f,u⟩:=a5.view (jJ (stg:=st) (d:=d) (e:=e1) (el:=el) (data:=[]));have b2:(G.ren d [] d 0 (.slice none 0 0)).H d []=.slice none 0 0:=by simp[Gh.ren]
  rw[b2]at f;exact⟨_,w,_,q4,W,by simpa using a4.trans u,by simpa using f⟩
 ·have b3:=VZ (d:=d) (e1:=e1) c J (Nat.le_refl 0) q2 y2 y8;obtain⟨c0,c1,c2⟩:=Hv c q2 b3;obtain⟨f,u⟩:=c2.view (jJ (stg:=st) (d:=d) (e:=e1) (el:=el) (data:=[].take 0++ys));have a3:(G.app d [] d b' nv).H d []=nv:=by simp[Gh.app,Gh.tag,Gh.ren]
  rw[a3]at f;exact⟨nv,w',_,q1,c0,by simpa using c1.trans u,by simpa using f⟩
end
end Go.Eng

namespace Go.Eng
theorem tR{st:St}{r:Nat}{a:xZ}{p:cP}{i j k:Nat}{d:D}{h:Bool}:∃a',look (setRow st r a p i j k d h).ar r=some a'/\a'.uid=a.uid:=by refine⟨{a with data:=oV a.el a.data p (λdata=>data.set i (rZ k (data.getD i (.i 0)) j d)),stale:=bif h then[]else a.stale,dv:=st.ctr,hv:=bif h then yA st.ctr p.length a.hv else a.hv},by simp[setRow,bR],rfl⟩
theorem I6{st s:St}{r u:Nat}{p:cP}{i j:Nat}{x:A}(h:wrLeaf st r u p i j x=some s):∃a a',look st.ar r=some a/\look s.ar r=some a'/\a'.uid=a.uid:=by
 obtain⟨a,F,g⟩:=bind_some h;have G:=eH F;refine⟨a,?_⟩;suffices H:∃a',look s.ar r=some a'/\a'.uid=a.uid by
  obtain⟨a',l,d⟩:=H;exact⟨a',G.1,l,d⟩
 cases m:LC p.length a.stale with
 |false=>simp[m,aG]at g
 |true=>
 simp only[m,Bool.not_true,cond_false]at g;obtain⟨q,L,c⟩:=bind_some g;split at c
 ·obtain⟨_,d⟩:=aU c;simp[ok]at d;subst d;exact tR
 ·simp[ok]at c;subst c;exact tR
 ·simp[ok]at c;subst c;exact tR
 ·obtain⟨_,d⟩:=aU c;simp[ok]at d;subst d;exact tR
 ·simp[ok]at c;subst c;exact tR
 ·obtain⟨_,d⟩:=jO c;subst d;exact tR
 ·rename_i e el J P e1;cases t:Nat.beq J r with
  |true=>simp[t,aG]at c
  |false=>
   simp only[t,cond_false]at c;obtain⟨y,l,d⟩:=bind_some c;obtain⟨K,f⟩:=aU d;cases v:y.stale with
   |cons _ _=>simp[v,aG]at f
   |nil=>simp only[v]at f;obtain⟨_,C⟩:=jO f;subst C;exact tR
 ·simp[aG]at c
theorem WB{r:Nat}{p:cP}{i:Nat}:∀{l:List A}{st s:St}{u j:Nat}{a:xZ},wrLeaves st r u p i j l=some s->look st.ar r=some a->∃a',look s.ar r=some a'/\a'.uid=a.uid
 |[],st,s,u,j,a,h,d=>by simp[wrLeaves,ok]at h;subst h;exact⟨a,d,rfl⟩
 |x::l,st,s,u,j,a,h,d=>by simp only[wrLeaves]at h;obtain⟨s1,g,m⟩:=bind_some h;obtain⟨a0,a1,c,e,f⟩:=I6 g;rw[d]at c;injection c with c;subst c;obtain⟨a',t,v⟩:=WB m e;exact⟨a',t,v.trans f⟩
def Gh.more(G:Gh)(d n0:Nat)(v:Value):Gh:=
 {G with H:=λr s=>if r=d then(match s with|[]=>v |(i,j)::q=>if i=n0 then .slice none 0 0 else G.H d ((i,j)::q))else G.H r s}
section
variable{P:Program}{sl:Nat->Option Value}
theorem u7{w:World}{G:Gh}{st:St}(g:dI w G st sl){d:Nat}{a:xZ}(P:look st.ar d=some a)(U:a.stale=[]){b o c:Nat}{cs:Array Value}{C:TypeId}(L:G.H d []=.slice (some ⟨b,o,none⟩) a.data.length c)
  (v:w.heap[b]?=some (.cells cs C (0,0)))(T:a.data.length+1<=c)(V:∀j t,a.el[j]?=some t->cs[o+a.data.length*a.el.length+j]?=some (fX t)):
  Le w G st w (G.more d a.data.length (.slice (some ⟨b,o,none⟩) (a.data.length+1) c)) (st.newArr d a.e a.el (a.data++[zG (fT a.el)]))/\
  dI w (G.more d a.data.length (.slice (some ⟨b,o,none⟩) (a.data.length+1) c)) (st.newArr d a.e a.el (a.data++[zG (fT a.el)])) sl:=by
 obtain⟨_,_,_,F⟩:=g.arrs d a P;rw[U,L]at F;obtain⟨_,_,_,W,b0,b1,a2,b2,a3⟩:=F;injection W with Y a0 a1;subst Y;subst a0;subst a1;obtain⟨b3,H,a6,a7,l,J,K⟩:=a3 _ rfl;simp only at H l J K;rw[v]at l;injection l with l;injection l with a4 a5;subst a4;subst a5;refine iK g (stg:=st) (d:=d) ⟨rfl,rfl,Nat.le_refl _⟩ (λr f a' Q=>.inl ⟨Q,λp=>by simp[Gh.more,f],λb p h=>⟨h,rfl⟩⟩) (λb h=>⟨h,rfl⟩) (λ_=>rfl) (λb h=>⟨h,rfl⟩) ?_ g.live (λr s=>?_)
 ·refine⟨some ⟨b,o,none⟩,a.data.length+1,c,by simp[Gh.more],by simp,T,a2,by simp,λad u=>?_⟩;injection u with u;subst u;refine⟨rfl,H,cs,C,v,J,λi a9=>?_⟩;by_cases y:i<a.data.length
  ·have m:(a.data++[zG (fT a.el)]).getD i (.i 0)=a.data.getD i (.i 0):=by
    simp only[List.getD];rw[List.getElem?_append_left y]
   rw[m];refine MC (w:=w) (w':=w) (G:=G) (G':=G.more d a.data.length (.slice (some ⟨b,o,none⟩) (a.data.length+1) c)) (S:=[]) (S':=[]) (r:=d) (r':=d) (λb h=>⟨h,rfl⟩) a.el [] [] i i _ _ _ _ _ (λ_=>rfl) (λj q _=>.inr ⟨?_,λb h=>⟨h,rfl⟩⟩) (by simp) (K i y);simp[Gh.more,Nat.ne_of_lt y]
  ·have:i=a.data.length:=by omega
   subst this;have m:(a.data++[zG (fT a.el)]).getD a.data.length (.i 0)=zG (fT a.el):=by simp[List.getD]
   rw[m];exact Xa (λj=>by simp[Gh.more]) (λj t ht=>by simp only[World.cell?,v];simpa using V j t ht)
 ·by_cases f:r=d
  ·cases s with
   |nil=>exact⟨some ⟨b,o,none⟩,a.data.length+1,c,by simp[Gh.more,f]⟩
   |cons x q=>
    by_cases hx:x.1=a.data.length
    ·exact⟨none,0,0,by simp[Gh.more,f,hx]⟩
    ·obtain⟨a',n',c',e⟩:=g.hdr d (x::q);exact⟨a',n',c',by simp[Gh.more,f,hx,e]⟩
  ·obtain⟨a',n',c',e⟩:=g.hdr r s;exact⟨a',n',c',by simp[Gh.more,f,e]⟩
end
end Go.Eng

namespace Go.Eng
section
variable{P:Program}{sl:Nat->Option Value}
theorem FT(a:Addr):∀(vs us:List Value)(c:Nat)(w d e:World),(storeCells a vs c).run P w=.ok () d->(storeCells a us (c+vs.length)).run P d=.ok () e->(storeCells a (vs++us) c).run P w=.ok () e
 |[],us,c,w,d,e,h,k=>by
  have:d=w:=by simp[storeCells]at h;exact h.symm
  subst this;simpa using k
 |v::vs,us,c,w,d,e,h,k=>by
  simp only[storeCells,Sem.run_bind,List.cons_append]at h⊢;cases f:(store (a.add c) v).run P w with
  |halt x w0=>rw[f]at h;simp[Result.andThen]at h
  |ok u w0=>rw[f]at h;simp only[Result.andThen_ok]at h⊢;exact FT a vs us (c+1) w0 d e h (by rw[show c+1+vs.length=c+(v::vs).length by simp;omega];exact k)
theorem HJ(b o:Nat):∀(vs:List Value)(x c:Nat)(w:World),(storeCells ⟨b,o+x,none⟩ vs c).run P w=(storeCells ⟨b,o,none⟩ vs (x+c)).run P w
 |[],_,_,_=>rfl
 |v::vs,x,c,w=>by
  simp only[storeCells,Sem.run_bind,kA,Nat.add_assoc];cases(store ⟨b,o+(x+c),none⟩ v).run P w with
  |halt d w0=>rfl
  |ok u w0=>simp only[Result.andThen_ok];exact HJ b o vs x (c+1) w0
theorem MN{d k b o c:Nat}:∀(n:Nat){l:List A}{vs:List Value}{w:World}{G:Gh}{st s:St}{a:xZ}{cs:Array Value}{f:TypeId},dI w G st sl->look st.ar d=some a->a.el.length=k->G.H d []=.slice (some ⟨b,o,none⟩) a.data.length c->
  w.heap[b]?=some (.cells cs f (0,0))->a.data.length+n<=c->(∀i,i<n->∀(j:Nat)(t:LT),a.el[j]?=some t->cs[o+(a.data.length+i)*k+j]?=some (fX t))->eT w G st l vs->l.length=n*k->(∀v,v∈vs->v.oneCell'=true)->
  appElems d k n l st=some s->∃w' G',(storeCells ⟨b,o,none⟩ vs (a.data.length*k)).run P w=.ok () w'/\Fr w G w' G'/\Le w G st w' G' s/\dI w' G' s sl/\G'.H d []=.slice (some ⟨b,o,none⟩) (a.data.length+n) c/\∃a',look s.ar d=some a'
 |0,l,vs,w,G,st,s,a,cs,f,J,u,g,H,y,d2,a3,C,L,V,h=>by simp[appElems,ok]at h;subst h;have:vs=[]:=List.eq_nil_of_length_eq_zero (by have:=(dG.1 C).1;simp at L;simp[L]at this;simpa using this);subst this;exact⟨w,G,rfl,Fr.refl w G,Le.refl w G st,J,H,a,u⟩
 |n+1,l,vs,w,G,st,s,a,cs,f,J,u,g,H,y,d2,a3,C,L,V,h=>by
  simp only[appElems]at h;obtain⟨a0,r,W⟩:=bind_some h;simp only[oM]at r;rw[u]at r;injection r with r;subst r;cases Q:a.stale with
  |cons _ _=>simp[Q,aG]at W
  |nil=>
   simp only[Q]at W;obtain⟨s1,a9,c8⟩:=bind_some W;obtain⟨a5,e3⟩:=u7 J u Q H y (by omega) (λj t ht=>by have:=a3 0 (by omega) j t ht;rw[g];simpa using this);have c9:VW (G.more d a.data.length (.slice (some ⟨b,o,none⟩) (a.data.length+1) c)) (st.newArr d a.e a.el (a.data++[zG (fT a.el)])) d st.ctr [] k a.data.length b o:=
    ⟨{e:=a.e,el:=a.el,data:=a.data++[zG (fT a.el)],uid:=st.ctr,hv:=YN st.ctr,dv:=st.ctr},(a.e,a.el),⟨by simp[St.newArr,bR],by simp,rfl⟩,rfl,trivial,g.symm,a.data.length+1,c,by simp[Gh.more],by omega⟩
   have b4:=GL C k 0;have b3:=GL C (n*k) k;simp only[oN,List.drop_zero]at b4;obtain⟨c4,c6,c0,e2,a4,c1,g6⟩:=DL (off:=0) 0 e3 c9 (pY a5 _ _ b4) a9;have g5:vs.length=(n+1)*k:=by rw[<-L];exact(dG.1 C).1
   have g4:(n+1)*k=n*k+k:=by rw[Nat.add_mul,Nat.one_mul]
   have m:(vs.take k).length=k:=by simp;omega
   obtain⟨_,_,_,b5⟩:=J.arrs d a u;rw[Q,H]at b5;obtain⟨_,_,_,f4,h0,h1,h2,h3,f8⟩:=b5;injection f4 with f5 f6 f7;subst f5;subst f6;subst f7;obtain⟨g7,f1,g1,g8,F,c3,g9⟩:=f8 _ rfl;simp only at f1 F c3;rw[y]at F;injection F with F;injection F with f2 f3;subst f2;subst f3;have b6:o+a.data.length*k+k<=cs.toList.length:=by have:(a.data.length+1)*k<=c*k:=Nat.mul_le_mul_right _ (by omega);rw[Nat.add_mul,Nat.one_mul]at this;rw[g]at c3;simp;omega
   have b1:=run_storeCells_at (P:=P) b (o+a.data.length*k) f (vs.take k) 0 cs w y (by rw[m];simpa using b6) (λv hv=>V v (List.mem_of_mem_take hv));have Y:=c0 P;simp only[Nat.add_zero]at Y b1;rw[b1]at Y;injection Y with _ b7;rw[m]at b7;have e0:o+a.data.length*k+(vs.take k).length<=cs.toList.length:=by rw[m];exact b6
   have d0:c4.heap[b]?=some (.cells (qL cs.toList (o+a.data.length*k) (vs.take k)).toArray f (0,0)):=by rw[<-b7];have:=setRow_heap w b cs (qL cs.toList (o+a.data.length*k) (vs.take k)).toArray f (0,0) y;simpa[qL,m]using this
   obtain⟨a1,a6,f9⟩:=WB a9 (show look (st.newArr d a.e a.el (a.data++[zG (fT a.el)])).ar d=some {e:=a.e,el:=a.el,data:=a.data++[zG (fT a.el)],uid:=st.ctr,hv:=YN st.ctr,dv:=st.ctr}by simp[St.newArr,bR]);obtain⟨a2,g0,h4,v3,v4,v5⟩:=a4.vw d st.ctr [] a1 (Nat.lt_succ_self _) ⟨a6,by simp,f9⟩;have T:=g0.1;simp only[St.newArr,bR,if_true]at T;injection T with T;subst T;have b0:c6.H d []=.slice (some ⟨b,o,none⟩) (a.data.length+1) c:=by rw[v4];simp[Gh.more]
   obtain⟨_,_,_,d3⟩:=c1.arrs d a1 a6;have K:a1.data.length=a.data.length+1:=by obtain⟨_,_,_,a7,z2,_⟩:=d3;rw[b0]at a7;injection a7 with _ a7;omega
   have d1:eT w G st (oN k l) (vs.drop k):=by
    have e1:kH (n*k) (oN k l)=oN k l:=by rw[mP,sM];apply List.take_of_length_le;simp;omega
    have U:(vs.drop k).take (n*k)=vs.drop k:=by apply List.take_of_length_le;simp;omega
    rw[e1,U]at b3;exact b3
   obtain⟨c5,c7,c2,e4,e5,e6,e7,f0⟩:=MN n c1 a6 (by rw[v3];exact g) (by rw[K];exact b0) d0 (by omega) (λi g2 j t ht=>by
    rw[v3]at ht;have g3:j<k:=by rw[<-g];exact(List.getElem?_eq_some_iff.1 ht).1
    have:=a3 (i+1) (by omega) j t ht;rw[K];simp only[List.getElem?_toArray,vL e0];have e:a.data.length+1+i=a.data.length+(i+1):=by omega
    have U:(a.data.length+(i+1))*k=a.data.length*k+k+i*k:=by rw[Nat.add_mul,Nat.add_mul];omega
    rw[e,if_neg (by rw[m,U];omega)];simpa using this) (pY (a5.trans a4) _ _ d1) (by rw[sM];simp;omega) (λv hv=>V v (List.mem_of_mem_drop hv)) c8
   refine⟨c5,c7,?_,(Fr.trans (⟨rfl,rfl,rfl,Nat.le_refl _,λ_ _ _=>⟨rfl,rfl⟩,λ_ _ _=>rfl⟩:Fr w G w (G.more d a.data.length (.slice (some ⟨b,o,none⟩) (a.data.length+1) c))) (e2.trans e4)),(a5.trans a4).trans e5,e6,by rw[e7,K];congr 1;omega,f0⟩;have b2:=FT (P:=P) ⟨b,o,none⟩ (vs.take k) (vs.drop k) (a.data.length*k) w c4 c5 (by
    have:=c0 P;simp only[Nat.add_zero]at this;rw[HJ]at this;simpa using this) (by rw[m];rw[K,Nat.add_mul,Nat.one_mul]at c2;exact c2)
   rw[List.take_append_drop]at b2;exact b2
end
end Go.Eng

namespace Go.Eng
section
variable{P:Program}{sl:Nat->Option Value}
theorem BG.zero{w w':World}{k n0 m b' o' c':Nat}{ad:Option Addr}{news e:List Value}{nv:Value}(h:BG w k ad n0 m news nv w' b' o' c')(H:e.length=m*k):
  ∃c d,w'.heap[b']?=some (.cells c d (0,0))/\o'+n0*k+e.length<=c.toList.length/\(∀q,q<m*k->c[o'+n0*k+q]?=news[q]?)/\
   BG w k ad n0 0 [] (.slice (some ⟨b',o',none⟩) n0 c') (w'.setRow b' (qL c.toList (o'+n0*k) e).toArray) b' o' c':=by
 obtain⟨c,d,r,C,F,G⟩:=h.row;have v:=h.le;have j:o'+n0*k+e.length<=c.toList.length:=by have:(n0+m)*k<=c'*k:=Nat.mul_le_mul_right _ v;rw[Nat.add_mul]at this;simp;omega
 refine⟨c,d,r,j,G,rfl,⟨_,d,setRow_heap w' b' c _ d (0,0) r,?_,λq y a0 t=>?_,by simp⟩,by omega,h.max,⟨h.os.1,h.os.2.1,h.os.2.2.1,by simpa using h.os.2.2.2⟩,λb u l=>?_,?_⟩
 ·show _<=(qL c.toList (o'+n0*k) e).length;rw[uP j];simpa using C
 ·simp only[List.getElem?_toArray,vL j];rw[if_neg (by omega)];have:=F q y a0 t;simpa using this
 ·rw[setRow_other w' b' b _ l];exact h.other b u l
 ·rcases h.place with⟨f,g⟩ |⟨a0,f,g,s⟩
  ·exact .inl ⟨f,by simpa using g⟩
  ·exact .inr ⟨a0,f,g,by simpa using s⟩
theorem SI{w':World}{G':Gh}{st1:St}{k n0 m b' o' c' d:Nat}{c:Array Value}{r:TypeId}{el:List LT}{news:List Value}{l:List A}{s:St}{a:xZ}
  (Q:w'.heap[b']?=some (.cells c r (0,0)))(L:o'+n0*k+m*k<=c.toList.length)(a6:∀q,q<m*k->c[o'+n0*k+q]?=news[q]?)(J:news.length=m*k)
  (U:dI (w'.setRow b' (qL c.toList (o'+n0*k) (sE (el.map fX) m)).toArray) G' st1 sl)(V:look st1.ar d=some a)(u:a.el=el)(g:el.length=k)(Y:a.data.length=n0)
  (T:G'.H d []=.slice (some ⟨b',o',none⟩) n0 c')(a7:n0+m<=c')(a2:eT (w'.setRow b' (qL c.toList (o'+n0*k) (sE (el.map fX) m)).toArray) G' st1 l news)(a3:l.length=m*k)(F:∀v,v∈news->v.oneCell'=true)
  (h:appElems d k m l st1=some s)(P:Program):∃f,Fr (w'.setRow b' (qL c.toList (o'+n0*k) (sE (el.map fX) m)).toArray) G' w' f/\Le (w'.setRow b' (qL c.toList (o'+n0*k) (sE (el.map fX) m)).toArray) G' st1 w' f s/\
   dI w' f s sl/\f.H d []=.slice (some ⟨b',o',none⟩) (n0+m) c'/\∃a',look s.ar d=some a':=by
 have C:(sE (el.map fX) m).length=m*k:=by rw[uO];simp[g]
 have y:o'+n0*k+(sE (el.map fX) m).length<=c.toList.length:=by rw[C];exact L
 have H:=setRow_heap w' b' c (qL c.toList (o'+n0*k) (sE (el.map fX) m)).toArray r (0,0) Q;subst Y;obtain⟨b6,f,b0,b1,b2,b3,b4,b5⟩:=MN (P:=P) m U V (by rw[u];exact g) T H a7 (λi a0 j t ht=>by
  have a1:j<k:=by rw[<-g,<-u];exact(List.getElem?_eq_some_iff.1 ht).1
  have a4:i*k+j<m*k:=by have:(i+1)*k<=m*k:=Nat.mul_le_mul_right _ a0;rw[Nat.add_mul,Nat.one_mul]at this;omega
  have e:o'+(a.data.length+i)*k+j=o'+a.data.length*k+(i*k+j):=by rw[Nat.add_mul];omega
  rw[e];simp only[List.getElem?_toArray,vL y];rw[if_pos (by rw[C];omega),show o'+a.data.length*k+(i*k+j)-(o'+a.data.length*k)=i*k+j by omega];rw[VV _ _ _ (by simp[g];exact a4)];have a5:(i*k+j)%(el.map fX).length=j:=by rw[show(el.map fX).length=k by simp[g],Nat.mul_comm,Nat.mul_add_mod,Nat.mod_eq_of_lt a1]
  rw[a5,<-u];simp[ht]) a2 a3 F h
 have K:o'+a.data.length*k+news.length<=(qL c.toList (o'+a.data.length*k) (sE (el.map fX) m)).length:=by rw[uP y,J];exact L
 have G:=run_storeCells_at (P:=P) b' o' r news (a.data.length*k) _ _ H (by simpa using K) F;rw[b0]at G;injection G with _ a9;have W:b6=w':=by
  rw[a9,setRow_setRow];have e:(List.take (o'+a.data.length*k) (qL c.toList (o'+a.data.length*k) (sE (el.map fX) m)).toArray.toList++news++List.drop (o'+a.data.length*k+news.length) (qL c.toList (o'+a.data.length*k) (sE (el.map fX) m)).toArray.toList).toArray=c:=by
   apply Array.ext';show qL (qL c.toList (o'+a.data.length*k) (sE (el.map fX) m)) (o'+a.data.length*k) news=c.toList;apply List.ext_getElem?;intro q;rw[vL K,vL y,C,J];split
   ·rename_i b7;have:=a6 (q-(o'+a.data.length*k)) (by omega);rw[<-this];simp;congr 1;omega
   ·rfl
  rw[e];exact setRow_self w' b' c r (0,0) Q
 subst W;exact⟨f,b1,b2,b3,b4,b5⟩
theorem Cw{w:World}{G:Gh}{st:St}(U:dI w G st sl){el:List LT}{P:A}{yv:Value}{m:Nat}{l:List A}(Y:dN w G st P yv)(h:LE st el P=some (.cells m l)):
  ∃b o news,yv=.slice (some ⟨b,o,none⟩) m m/\news.length=m*el.length/\l.length=m*el.length/\eT w G st l news/\(∀j u,news[j]?=some u->w.cell? ⟨b,o+j,none⟩=some u)/\jQ st l=true:=by
 unfold LE at h;split at h
 ·simp[ok]at h
 ·simp[ok]at h
 ·rename_i b u k n;obtain⟨lv,C,d⟩:=bind_some h;obtain⟨f,s⟩:=aU d;simp[ok]at s;obtain⟨rfl,rfl⟩:=s;simp only[Bool.and_eq_true]at f;have W:=Nat.eq_of_beq_eq_true f.1;have a2:=Nat.le_of_ble_eq_true f.2.1;obtain⟨x,y,Q,T⟩:=fU C;subst T;obtain⟨hv,_⟩:=Y.2 x y Q;obtain⟨_,_,V⟩:=U.boxes b x y;obtain⟨cs,e,a0,a3,K⟩:=V.cells (vH C y);subst W;generalize a1:el.length=k at*;have H:(kH (k*n) x.lv).length=n*k:=by rw[mP,Nat.mul_comm n k];simp;omega
  refine⟨(G.B b).1,(G.B b).2,(List.range (n*k)).map λj=>(cs[(G.B b).2 +j]?).getD undef,hv,by simp,H,dG.2 ⟨by simp[H],λj a v g c=>?_⟩,λj v c=>?_,f.2.2⟩
  ·have r:j<n*k:=by rw[<-H];exact(List.getElem?_eq_some_iff.1 g).1
   have F:j<x.lv.length:=by rw[Nat.mul_comm]at r;omega
   obtain⟨v0,t,L⟩:=K j F;rw[List.getElem?_map,List.getElem?_range r]at c;simp[t]at c;subst c;rw[mP,List.getElem?_take]at g;split at g
   ·simpa[List.getD,g]using L
   ·simp at g
  ·have r:j<n*k:=by have:=(List.getElem?_eq_some_iff.1 c).1;simpa using this
   have F:j<x.lv.length:=by rw[Nat.mul_comm]at r;omega
   obtain⟨v0,t,L⟩:=K j F;rw[List.getElem?_map,List.getElem?_range r]at c;simp[t]at c;subst c;simp[World.cell?,a0,t]
 ·obtain⟨_,d⟩:=aU h;simp[ok]at d
 ·cases J:sC el with
  |false=>simp[J,aG]at h
  |true=>simp only[J,cond_true]at h;obtain⟨q,C,d⟩:=bind_some h;obtain⟨f,s⟩:=aU d;simp[ok]at s
 ·simp[aG]at h
theorem DN{w:World}{G:Gh}{st:St}(g:dI w G st sl){t ty:TypeId}{ti U:TI}(c9:lN P t ti)(d0:lN P ti.e U)(e5:ti.sl=true){r u d:Nat}{p:cP}{e e1:TypeId}{el:List LT}{ad:Option Addr}{n c n0 m:Nat}{data:LD}{b3:A}{yv:Value}{l:List A}{a:xZ}{s1 y:St}
  (a2:lH st r u p a)(a7:a.stale=[])(a5:YM a.el a.data p)(h:LF st d r p=some s1)(F:yH w G [] r e el p (.slice ad n c) data)(a6:n0<=n)
  (f0:dN w G st b3 yv)(e3:LE st el b3=some (.cells m l))(a4:yB s1 d e1 U el (data.take n0) (.cells m l)=some y):
  ∃nv w' G',(Builtin.append_ #[t,t] ty #[.slice ad n0 c,yv]).run P w=.ok nv w'/\Fr w G w' G'/\Le w G st w' G' (y.view d)/\dI w' G' (y.view d) (yK sl d nv):=by
 obtain⟨f5,f6,news,y1,y2,y3,y4,y5,y6⟩:=Cw g f0 e3;subst y1;have C:=IZ g y6 y4;simp only[yB]at a4;obtain⟨K,L⟩:=aU a4;simp only[Bool.and_eq_true]at K;obtain⟨b0,b1⟩:=PJ K.1;have d1:=Nat.eq_of_beq_eq_true K.2;obtain⟨i0,b4,g1,g2⟩:=c9.sl e5;obtain⟨f9,i,z,g3,c1,W,c2,c3,c4,g4,g5⟩:=d0.ex;have f1:z.cells.size=i.size:=by
  have:z.cells.toList.length=U.lv.length:=by rw[c4];simp
  rw[W];simpa using this
 have g7:data.length=n:=by obtain⟨_,_,_,H,T,_⟩:=F;injection H with _ H;omega
 have e6:(data.take n0).length=n0:=by simp;omega
 rw[e6]at b0 b1;have e7:∀(w':World)(f:Gh)(s:St)(nv:Value),dI w' f s sl->f.H d []=nv->(∃a',look s.ar d=some a')->dI w' f (s.view d) (yK sl d nv)/\Le w' f s w' f (s.view d):=λw' f s nv a1 c6⟨a',a3⟩=>by have:=a1.view (Fv a3 (a1.arrs d a' a3).1);rw[c6]at this;exact this
 rcases JD (P:=P) g (ty:=ty) (cy:=m) (a:=some ⟨f5,f6,none⟩) b4 c1 c3 f1 (W.trans d1.symm) F rfl a6 (by simp) y2 (λ_ a0 Q j v hv=>by injection Q with Q;subst Q;rw[kA];exact y5 j v hv) C b0 (by rw[c2];exact b1)with⟨q1,q2,q3,q4⟩ |⟨nv,w',b',o',c',q1,q2⟩
 ·subst q2;subst q3;simp[appElems,ok]at L;subst L;obtain⟨b5,b6,b7,c0⟩:=CN g (r:=r) (d:=d) (l:=0) (p:=p) (v:=.slice none 0 0);obtain⟨d3,e0⟩:=DM g (w':=w) (G':=G.ren r p d 0 (.slice none 0 0)) (v:=.slice none 0 0) (l:=0) a2 a7 a5 h (λb=>.inl rfl) (λb2 C s=>by simp[Gh.ren,C]) (λ_ _ _=>rfl);obtain⟨c7,c8⟩:=iK g (d:=d) (e:=e1) (el:=el) (data:=[]) d3 e0 b5 (λ_=>rfl) b6 ⟨none,0,0,by simp[Gh.ren],rfl,Nat.le_refl _,Nat.zero_le _,λ_=>rfl,by simp⟩ b7 (FR g ⟨_,_,_,rfl⟩);obtain⟨J,V⟩:=c8.view (jJ (stg:=s1) (d:=d) (e:=e1) (el:=el) (data:=[]));have d2:(G.ren r p d 0 (.slice none 0 0)).H d []=.slice none 0 0:=by simp[Gh.ren]
  rw[d2]at J;exact⟨_,w,_,q4,c0,c7.trans V,J⟩
 ·have a9:(sE (el.map fX) m).length=m*el.length:=by rw[uO];simp
  obtain⟨f8,g0,b2,f3,f4,Y⟩:=q2.zero a9;have e4:=VZ (d:=d) (e1:=e1) g F a6 Y (ys:=[]) rfl (λi g6=>by omega);obtain⟨H,T,f2⟩:=Xb g a2 a7 a5 h F Y e4;have e2:look (s1.newArr d e1 el (data.take n0++[])).ar d=some {e:=e1,el:=el,data:=data.take n0++[],uid:=s1.ctr,hv:=YN s1.ctr,dv:=s1.ctr}:=by simp[St.newArr,bR]
  have c5:appElems d el.length m l (s1.newArr d e1 el (data.take n0++[]))=some y:=by simpa using L
  obtain⟨f,f7,z2,z3,z4,z5⟩:=SI (n0:=n0) (c':=c') b2 (by rw[<-a9];exact f3) f4 y2 f2 e2 rfl rfl (by simp;omega) (by simp[Gh.app,Gh.tag,Gh.ren]) q2.le (pY T _ _ y4) y3 C c5 P;obtain⟨J,V⟩:=e7 w' f y nv z3 (z4.trans q2.nv.symm) z5;exact⟨nv,w',f,q1,H.trans f7,(T.trans z2).trans V,J⟩
end
end Go.Eng

namespace Go.Eng
section
variable{P:Program}{sl:Nat->Option Value}
theorem dI.viewOf{w':World}{c:Gh}{s:St}{nv:Value}{d:Nat}(e:dI w' c s sl)(g:c.H d []=nv)(hx:∃a',look s.ar d=some a'):dI w' c (s.view d) (yK sl d nv)/\Le w' c s w' c (s.view d):=by obtain⟨a',f⟩:=hx;have:=e.view (Fv f (e.arrs d a' f).1);rw[g]at this;exact this
theorem HK{w:World}{G:Gh}{st:St}(c:dI w G st sl){t ty:TypeId}{ti C:TI}(b6:lN P t ti)(b7:lN P ti.e C)(c6:ti.sl=true){d:Nat}{e1:TypeId}{el:List LT}{m:Nat}{a2:A}{yv:Value}{l:List A}{y:St}
  (c7:dN w G st a2 yv)(c5:LE st el a2=some (.cells m l))(L:yB st d e1 C el [] (.cells m l)=some y):
  ∃nv w' G',(Builtin.append_ #[t,t] ty #[.slice none 0 0,yv]).run P w=.ok nv w'/\Fr w G w' G'/\Le w G st w' G' (y.view d)/\dI w' G' (y.view d) (yK sl d nv):=by
 obtain⟨e0,e2,news,y1,y2,y3,y4,y5,y6⟩:=Cw c c7 c5;subst y1;have J:=IZ c y6 y4;simp only[yB]at L;obtain⟨g,h⟩:=aU L;simp only[Bool.and_eq_true]at g;obtain⟨Y,a1⟩:=PJ g.1;have c2:=Nat.eq_of_beq_eq_true g.2;obtain⟨i0,a4,e7,f0⟩:=b6.sl c6;obtain⟨e5,i,z,f1,b0,H,b1,b2,b3,f2,f3⟩:=b7.ex;have c8:z.cells.size=i.size:=by
  have:z.cells.toList.length=C.lv.length:=by rw[b3];simp
  rw[H];simpa using this
 simp only[List.length_nil]at Y a1;have U:yH w G [] d e1 el [] (.slice none 0 0) []:=⟨none,0,0,rfl,rfl,Nat.le_refl _,Nat.zero_le _,λ_=>rfl,by simp⟩;rcases JD (P:=P) c (ty:=ty) (cy:=m) (a:=some ⟨e0,e2,none⟩) a4 b0 b2 c8 (H.trans c2.symm) U rfl (Nat.le_refl 0) (by simp) y2 (λ_ a0 u j v hv=>by injection u with u;subst u;rw[kA];exact y5 j v hv) J Y (by rw[b1];exact a1)with⟨q1,q2,q3,q4⟩ |⟨nv,w',b',o',c',q1,q2⟩
 ·subst q2;simp[appElems,ok]at h;subst h;obtain⟨a5,a6,a7,a9⟩:=CN c (r:=d) (d:=d) (l:=0) (p:=[]) (v:=.slice none 0 0);obtain⟨b4,b5⟩:=iK c (stg:=st) (G':=G.ren d [] d 0 (.slice none 0 0)) (w':=w) (d:=d) (e:=e1) (el:=el) (data:=[]) ⟨rfl,rfl,Nat.le_refl _⟩
   (λr' T a' c0=>.inl ⟨c0,λs=>by simp[Gh.ren,T],λb p c1=>⟨PH b T c1,rfl⟩⟩) a5 (λ_=>rfl) a6 ⟨none,0,0,by simp[Gh.ren],rfl,Nat.le_refl _,Nat.zero_le _,λ_=>rfl,by simp⟩ a7 (FR c ⟨_,_,_,rfl⟩)
  obtain⟨f,F⟩:=b5.view (jJ (stg:=st) (d:=d) (e:=e1) (el:=el) (data:=[]));have c3:(G.ren d [] d 0 (.slice none 0 0)).H d []=.slice none 0 0:=by simp[Gh.ren]
  rw[c3]at f;exact⟨_,w,_,q4,a9,b4.trans F,f⟩
 ·have V:(sE (el.map fX) m).length=m*el.length:=by rw[uO];simp
  obtain⟨e4,e6,d1,d2,d3,K⟩:=q2.zero V;have Q:=VZ (d:=d) (e1:=e1) c U (Nat.le_refl 0) K (ys:=[]) rfl (λi f4=>by omega);simp only[List.take_nil,List.append_nil]at Q;obtain⟨c9,W,d0⟩:=Hv c K Q;have c4:look (st.newArr d e1 el []).ar d=some {e:=e1,el:=el,data:=[],uid:=st.ctr,hv:=YN st.ctr,dv:=st.ctr}:=by simp[St.newArr,bR]
  obtain⟨a3,e3,z2,z3,z4,z5⟩:=SI (n0:=0) (c':=c') d1 (by rw[<-V];exact d2) d3 y2 d0 c4 rfl rfl rfl (by simp[Gh.app,Gh.tag,Gh.ren]) q2.le (pY W _ _ y4) y3 J h P;obtain⟨f,F⟩:=z3.viewOf (z4.trans q2.nv.symm) z5;exact⟨nv,w',a3,q1,c9.trans e3,(W.trans z2).trans F,f⟩
end
end Go.Eng

namespace Go.Eng
section
variable{P:Program}{w:World}{G:Gh}{st:St}{sl:Nat->Option Value}
theorem Ff(t u ty e:TypeId)(i:TypeInfo)(z:Value)(C:IntKind)(ht:P.underlying t=some (.slice e))(s:P.underlying u=some (.int C))(l:P.info? e=some i)(y:i.zero=some z)
  (n:Nat)(H:0<i.size)(f:0<n)(G:(n:Int)<=9223372036854775807)(F:n*i.bytes<=281474976710656):
  (Builtin.append_ #[t,u] ty #[.slice none 0 0,.int .i64 (n:Int)]).run P w=
   .ok (.slice (some ⟨w.heap.size,0,none⟩) n (grownCap w n 0 e)) (w.drew.alloc (.cells (Builtin.zeroCells z.cells n++Builtin.zeroCells z.cells (grownCap w n 0 e-n)) e)):=by
 have c:n≠0:=by omega
 have d:i.size≠0:=by omega
 have v:IntKind.i64.wrap (n:Int)=n:=by simp[IntKind.wrap,IntKind.bits,IntKind.signed];omega
 have j:¬(9223372036854775807<(n:Int)):=by omega
 have g:¬(281474976710656<Builtin.nextslicecap n 0*i.bytes):=by rw[nextslicecap_zero f];omega
 have h:¬(281474976710656<(n:Int)*(i.bytes:Int)):=by
  have:((n*i.bytes:Nat):Int)<=281474976710656:=by omega
  rw[Int.natCast_mul]at this;omega
 have m:¬((n:Int)<0):=by omega
 have r:n*i.size≠0:=Nat.mul_ne_zero c d;simp[Builtin.append_,asInt,asIntOf,run_underlying ht,run_underlying s,sizeOf,typeInfo,zeroValue,l,y,Builtin.lenOf,c,d,v,j,g,h,m,r,Question.forced,run_firstCells_none,newRow,grownCap]
theorem PK:∀{ts:List LT},VA ts=true->∀(j:Nat)(t:LT),ts[j]?=some t->∃k,t=.int k
 |[],_,_,_,h=>by simp at h
 |.int k::ts,_,0,t,ht=>by simp at ht;exact⟨k,ht.symm⟩
 |.int k::ts,h,j+1,t,ht=>PK (ts:=ts) h j t (by simpa using ht)
 |.bool::ts,h,_,_,_=>by simp[VA]at h
 |.str::ts,h,_,_,_=>by simp[VA]at h
 |.sl ..::ts,h,_,_,_=>by simp[VA]at h
theorem I7{okb:Nat->Prop}{lv:List LT}(d:VA lv=true)(j:Nat)(t:LT)(ht:lv[j]?=some t):sB t=false/\vD w okb t (fX t) (lf lv.length (zG (fT lv)) j):=by have c:j<lv.length:=(List.getElem?_eq_some_iff.1 ht).1;rw[IW (zK lv) j c,JC lv j t ht];obtain⟨k,rfl⟩:=PK d j t ht;exact⟨rfl,rfl,tO k,tP k⟩
theorem WC(T:dI w G st sl){t u ty:TypeId}{ti c Y:TI}(a6:lN P t ti)(a7:lN P ti.e c)(a9:lN P u Y){n:Int}{d:Nat}{s:St}(h:Rl st d n ti c Y=some s):
  ∃nv w' G',(Builtin.append_ #[t,u] ty #[.slice none 0 0,.int .i64 n]).run P w=.ok nv w'/\Fr w G w' G'/\Le w G st w' G' s/\dI w' G' s (yK sl d nv):=by
 unfold Rl at h;obtain⟨K,L⟩:=aU h;simp[ok]at L;subst L;simp only[Bool.and_eq_true]at K;obtain⟨c7,v,b5,W,l,V⟩:=K;have W:=Nat.le_of_ble_eq_true W;have l:0<n:=by rw[ZB]at l;simpa using l
 obtain⟨m,rfl⟩:∃m:Nat,n=(m:Int):=⟨n.toNat,by omega⟩;have c1:(m:Int).toNat=m:=rfl;rw[c1]at V⊢;obtain⟨f1,f2⟩:=PJ V;obtain⟨i0,e1,e2,e3⟩:=a6.sl c7;obtain⟨e0,i,z,e4,a2,H,a3,a4,J,e5,e6⟩:=a7.ex;have c8:P.underlying u=some (.int .i64):=by
  unfold aBh at v;split at v
  ·rename_i y C;exact a9.int y _ C
  ·cases v
 have c9:z.cells.size=i.size:=by
  have:z.cells.toList.length=c.lv.length:=by rw[J];simp
  rw[H];simpa using this
 have c6:=Ff (P:=P) (w:=w) t u ty ti.e i z .i64 e1 c8 a2 a4 m (by omega) (by omega) (by omega) (by rw[a3];omega);have e7:=grownCap_ge w m 0 ti.e;have b3:grownCap w m 0 ti.e<=maxLen:=grownCap_le_maxLen w m 0 ti.e (by unfold maxLen;omega);have g:z.cells.size=c.lv.length:=c9.trans H;have Q:BG w c.lv.length none 0 m (Builtin.zeroCells z.cells m).toList (.slice (some ⟨w.heap.size,0,none⟩) m (grownCap w m 0 ti.e)) (w.drew.alloc (.cells (Builtin.zeroCells z.cells m++Builtin.zeroCells z.cells (grownCap w m 0 ti.e-m)) ti.e)) w.heap.size 0 (grownCap w m 0 ti.e):=by
  refine⟨by rw[Nat.zero_add],⟨_,ti.e,heap_alloc_new w.drew _,?_,λq c4 a0 b0=>(by cases b0),λq c4=>?_⟩,by omega,b3,⟨rfl,rfl,rfl,by simp⟩,λb b1 _=>heap_alloc_old w.drew _ b b1,.inl ⟨rfl,by simp⟩⟩
  ·rw[Array.size_append,size_zeroCells,size_zeroCells,g,<-Nat.add_mul,Nat.zero_add];exact Nat.mul_le_mul_right _ (by omega)
  ·have f0:(Builtin.zeroCells z.cells m).size=m*c.lv.length:=by rw[size_zeroCells,g]
   rw[Nat.zero_mul,Nat.zero_add,Array.getElem?_append_left (by omega)];simp
 have c5:yH w G [] d ti.e c.lv [] (.slice none 0 0) []:=⟨none,0,0,rfl,rfl,Nat.le_refl _,Nat.zero_le _,λ_=>rfl,by simp⟩;have c3:=VZ (d:=d) (e1:=ti.e) (ys:=List.replicate m (zG (fT c.lv))) T c5 (Nat.le_refl 0) Q (by simp) (λf U j F r=>by
  obtain⟨y,C⟩:=I7 (w:=w) (okb:=λb=>G.own b=.fz) b5 j F r;have b6:j<c.lv.length:=(List.getElem?_eq_some_iff.1 r).1;have b7:f*c.lv.length+j<m*c.lv.length:=by have:(f+1)*c.lv.length<=m*c.lv.length:=Nat.mul_le_mul_right _ U;rw[Nat.add_mul,Nat.one_mul]at this;omega
  have b4:(List.replicate m (zG (fT c.lv))).getD f (.i 0)=zG (fT c.lv):=by simp[List.getD,U]
  refine⟨y,fX F,?_,by rw[b4];exact C⟩;have c2:(f*c.lv.length+j)%z.cells.size=j:=by rw[g,Nat.mul_comm,Nat.mul_add_mod,Nat.mod_eq_of_lt b6]
  have b2:z.cells[j]?=some (fX F):=by rw[<-Array.getElem?_toList,J,List.getElem?_map,r];rfl
  have c0:f*c.lv.length+j<m*z.cells.size:=by rw[g];exact b7
  rw[Array.getElem?_toList];unfold Builtin.zeroCells;rw[Array.getElem?_map,Array.getElem?_range,if_pos c0];simp only[Option.map_some,c2];rw[getElem!_def,b2])
 obtain⟨d0,d1,d2⟩:=Hv T Q c3;obtain⟨a1,d3⟩:=d2.view (jJ (stg:=st) (d:=d) (e:=ti.e) (el:=c.lv) (data:=[].take 0++List.replicate m (zG (fT c.lv))));have a5:(G.app d [] d w.heap.size (.slice (some ⟨w.heap.size,0,none⟩) m (grownCap w m 0 ti.e))).H d []=.slice (some ⟨w.heap.size,0,none⟩) m (grownCap w m 0 ti.e):=by simp[Gh.app,Gh.tag,Gh.ren]
 rw[a5]at a1;exact⟨_,_,_,c6,d0,by simpa using d1.trans d3,by simpa using a1⟩
end
end Go.Eng

namespace Go.Eng
section
variable{P:Program}{w w':World}{G:Gh}{st:St}{sl:Nat->Option Value}{act:Act}
theorem MO{t:LT}{a:A}{v:Value}(hf:uN t a=true)(h:dN w G st a v):VO a v:=by cases t<;>cases a<;>simp[uN]at hf<;>exact h
theorem Xc{a:A}{v:Value}(h:VO a v):dN w G st a v:=by cases a<;>first|exact h |exact absurd h (by simp[VO])
theorem WD{t:LT}{d:TypeDesc}{a:A}{v:Value}(c:LG t=true)(hd:FO t=some d)(hf:uN t a=true)(h:VO a v):MapKept.IsKey d v:=by
 cases t<;>simp[LG]at c<;>cases a<;>simp[uN]at hf<;>simp[FO]at hd<;>subst hd
 ·rw[h.1];exact((fD _ _).1 hf).symm
 ·rw[h.1];trivial
theorem I8{t:LT}{d:TypeDesc}{k f:A}{v l:Value}(C:LG t=true)(hd:FO t=some d)(hf:uN t k=true)(h:VO k v)(m:VO f l){q:Bool}(c:FK k f=some q):
  Instr.sameNow d v l=some q/\(q=true->l=v):=by
 cases t<;>simp[LG]at C<;>cases k<;>simp[uN]at hf<;>simp[FO]at hd<;>subst hd<;>cases f<;>(first|(exfalso;simp[FK,aG]at c;done) |skip)
 ·rename_i kk k n f n';simp only[FK]at c;obtain⟨e1,g⟩:=aU c;simp[ok]at g;have u:=(fD _ _).1 e1;have y:=(fD _ _).1 hf;subst u;subst y;rw[h.1,m.1];simp only[Instr.sameNow,if_true];rw[ZC]at g;subst g;exact⟨rfl,λj=>by rw[eq_of_beq j]⟩
 ·rename_i s r;rw[h.1,m.1];simp[FK,ok]at c;subst c;have e:(s==r)=CU s r:=by rw[Bool.eq_iff_iff,yI];simp
  refine⟨?_,λj=>by rw[(yI _ _).1 j]⟩;simp only[Instr.sameNow];congr 1;rw[Bool.eq_iff_iff,MapKept.bytes_beq,yI];simp
theorem SJ{t:LT}{d:TypeDesc}{k:A}{v:Value}(y:LG t=true)(hd:FO t=some d)(hf:uN t k=true)(h:VO k v):∀(m:List (A×A))(c:List MapEntry)(i:Nat){q:Option (Nat×A)},QX m c->Nz k i m=some q->
  (q=none/\Instr.findNow d v c i=some none)\/∃j a e,q=some (i+j,a)/\c[j]?=some e/\VO a e.val/\e.key=v/\Instr.findNow d v c i=some (some (i+j,e.val))
 |[],c,i,q,r,f=>by have:c=[]:=r;subst this;simp[Nz,ok]at f;exact .inl ⟨f.symm,rfl⟩
 |(T,x)::m,c,i,q,r,f=>by
  obtain⟨e,es',rfl,G,H,J⟩:=r;simp only[Nz]at f;obtain⟨p,K,g⟩:=bind_some f;obtain⟨l,F⟩:=I8 y hd hf h G K;cases p with
  |true=>simp[ok]at g;exact .inr ⟨0,x,e,g.symm,rfl,H,F rfl,by simp[Instr.findNow,l]⟩
  |false=>
   simp only[cond_false]at g;rcases SJ y hd hf h m es' (i+1) J g with⟨s,u⟩ |⟨j,a,C,s,u,L,P,Q⟩
   ·exact .inl ⟨s,by simp[Instr.findNow,l,u]⟩
   ·refine .inr ⟨j+1,a,C,by rw[s];congr 2;omega,by simpa using u,L,P,?_⟩;simp only[Instr.findNow,l,Q];congr 3;omega
theorem aBE(t:dI w G st sl){b u:Nat}{m:MV}{l:Value}(hx:dN w G st (.mp b u) l)(h:Cd st b u=some m):
  ∃x c d,look st.bx b=some x/\x.uid=u/\x.mp=some m/\l=.map (some (G.B b).1)/\w.heap[(G.B b).1]?=some (.map c d)/\QX m.dec c.toList:=by
 obtain⟨x,e,g,j⟩:=Hh h;have f:=(t.boxes b x e).2.2;unfold lA at f;rw[j]at f;obtain⟨_,c,d,r,s⟩:=f;exact⟨x,c,d,e,g,j,hx.2 x e g,r,s⟩
theorem Xd{kk:LT}{k:A}(c:LG kk=true)(hf:uN kk k=true)(x:D):FK k (CT [] kk x)=ok (eqD kk (xY k) x):=by
 cases kk<;>simp[LG]at c<;>cases k<;>simp[uN]at hf
 ·have e:=(fD _ _).1 hf;subst e;simp[CT,FK,(fD _ _).2 rfl,xY,eqD,D.toI]
 ·simp[CT,FK,xY,eqD,D.toS]
theorem ZH{kk ek:LT}{k:A}(c:LG kk=true)(hf:uN kk k=true):∀(m:LD)(i:Nat),Nz k i (MV.dec ⟨kk,ek,m⟩)=ok ((iI kk (xY k) i m).map λq=>(q.1,CT [] ek q.2))
 |[],i=>rfl
 |x::m,i=>by
  have d:=ZH (ek:=ek) c hf m (i+1);simp only[MV.dec,aA9,Nz]at d⊢;rw[Xd c hf];simp only[ok,Option.bind_some,iI];cases eqD kk (xY k) (x.fld 0)with
  |true=>rfl
  |false=>simpa[ok]using d
theorem aBF{ek:LT}(h:F2 ek=true):CT [] ek ek.zero=aBj ek:=by cases ek<;>first|rfl |simp[F2]at h
theorem V7{t:LT}{a:A}(h:uN t a=true):CT [] t (xY a)=a:=by
 cases t<;>cases a<;>simp[uN]at h
 ·have e:=(fD _ _).1 h;subst e;rfl
 ·rfl
 ·rfl
theorem aBG{kk ek:LT}{k v:A}(c:uN kk k=true)(hv:uN ek v=true)(m:LD)(q:Option (Nat×D)):
  MV.dec ⟨kk,ek,CZ (xY k) (xY v) m q⟩=(match q with|some q=>(MV.dec ⟨kk,ek,m⟩).set q.1 (k,v) |none=>MV.dec ⟨kk,ek,m⟩++[(k,v)]):=by
 have e:(CT [] kk ((D.l [xY k,xY v]).fld 0),CT [] ek ((D.l [xY k,xY v]).fld 1))=(k,v):=by simp only[D.fld,D.els,List.getD_cons_zero,List.getD_cons_succ,V7 c,V7 hv]
 have d:∀l:LD,aA9 (λx:D=>(CT [] kk (x.fld 0),CT [] ek (x.fld 1))) l=l.map (λx:D=>(CT [] kk (x.fld 0),CT [] ek (x.fld 1))):=λl=>by
  induction l with
  |nil=>rfl
  |cons g l f=>simp[aA9,f]
 simp only[MV.dec,d];cases q with
 |some q=>simp only[CZ,List.map_set];rw[e]
 |none=>simp only[CZ,List.map_append,List.map_cons,List.map_nil];rw[e]
theorem MV.dec_eq{v:MV}{kk ek:LT}(d:v.kk.beq kk=true)(e:v.ek.beq ek=true):v.dec=MV.dec ⟨kk,ek,v.m⟩:=by have e1:=LT.beq_eq _ _ d;have c:=LT.beq_eq _ _ e;obtain⟨a,b,m⟩:=v;simp only at e1 c;subst e1;subst c;rfl
theorem Sd{E:fC}(b3:gY P E)(b4:dI w G st sl){t:TypeId}{c:Bool}{k m r:A}{a1 a2:Value}(b7:dN w G st k a1)(c0:dN w G st m a2)(h:Gz E st t c k m=some r):
  ∃u,(Instr.lookup t a2 a1 c).run P w=.ok u w/\dN w G st r u:=by
 unfold Gz at h;split at h
 ·rename_i b u;obtain⟨f,L,a6⟩:=bind_some h;obtain⟨l,a7,a9⟩:=bind_some a6;obtain⟨g,v⟩:=aU a9;simp only[ok,Option.some.injEq]at v;simp only[Bool.and_eq_true]at g;obtain⟨T,Q,b2,b0,b1⟩:=g;have J:=ZH (ek:=f.ek) T Q l.m 0;rw[<-MV.dec_eq b0 b1]at J;generalize c7:iI f.kk (xY k) 0 l.m=fq at J v;have g:LG f.kk=true/\uN f.kk k=true:=⟨T,Q⟩;simp only[oM]at L;obtain⟨d,F,U,s,i,b5,b6⟩:=b3.maps t f L;obtain⟨x,a3,c2,c3,c4,c5,a4,C,a5⟩:=aBE b4 c0 a7;have hv:=MO g.2 b7;have H:=WD g.1 U g.2 hv;have W:∀w:World,(zeroValue f.el).run P w=.ok (fX f.ek) w:=λw=>by simp[zeroValue,typeInfo,b5,b6]
  have Y:dN w G st (aBj f.ek) (fX f.ek):=by
   cases c6:f.ek with
   |int kk=>exact⟨rfl,tO kk,tP kk⟩
   |bool=>rfl
   |str=>exact⟨rfl,Nat.zero_le _⟩
   |sl o e el=>rfl
  subst a4;rcases SJ g.1 U g.2 hv l.dec a3.toList 0 a5 J with⟨y,K⟩ |⟨j,a,e,y,K,c1,c8,a0⟩
  ·cases fq with
   |some q=>simp at y
   |none=>
   simp only[yF,aBk,aBF b2]at v;subst v;cases c with
   |false=>exact⟨fX f.ek,by simp[Instr.lookup,run_underlying F,MapKept.run_getObj_map C,MapKept.run_checkKey s H,MapKept.run_findKey s K,W,Result.andThen],Y⟩
   |true=>exact⟨.tuple #[fX f.ek,.bool false],by simp[Instr.lookup,run_underlying F,MapKept.run_getObj_map C,MapKept.run_checkKey s H,MapKept.run_findKey s K,W,Result.andThen],⟨[fX f.ek,.bool false],rfl,_,_,rfl,Y,_,_,rfl,rfl,rfl⟩⟩
  ·cases fq with
   |none=>simp at y
   |some q=>
   simp only[Option.map_some,Option.some.injEq,Prod.mk.injEq]at y;simp only[yF,aBk,y.2]at v;subst v;have V:dN w G st a e.val:=Xc c1;cases c with
   |false=>exact⟨e.val,by simp[Instr.lookup,run_underlying F,MapKept.run_getObj_map C,MapKept.run_checkKey s H,MapKept.run_findKey s a0,Result.andThen],V⟩
   |true=>exact⟨.tuple #[e.val,.bool true],by simp[Instr.lookup,run_underlying F,MapKept.run_getObj_map C,MapKept.run_checkKey s H,MapKept.run_findKey s a0,Result.andThen],⟨[e.val,.bool true],rfl,_,_,rfl,V,_,_,rfl,rfl,rfl⟩⟩
 ·simp[aG]at h
theorem Oq:∀{m:List (A×A)}{c:List MapEntry}(i:Nat){k v:A}{r s:Value},QX m c->VO k r->VO v s->QX (m.set i (k,v)) (c.modify i λe=>{e with key:=r,val:=s})
 |[],c,i,_,_,_,_,h,_,_=>by have:c=[]:=h;subst this;simp[QX]
 |p::m,c,0,_,_,_,_,⟨e,es',d,j,l,f⟩,g,hv=>by subst d;exact⟨_,_,rfl,g,hv,f⟩
 |p::m,c,i+1,_,_,_,_,⟨e,es',d,j,l,f⟩,g,hv=>by subst d;exact⟨_,_,rfl,j,l,Oq i f g hv⟩
theorem Hw:∀{m:List (A×A)}{c:List MapEntry}{k v:A}{e:MapEntry},QX m c->VO k e.key->VO v e.val->QX (m++[(k,v)]) (c++[e])
 |[],c,_,_,_,h,d,hv=>by have:c=[]:=h;subst this;exact⟨_,_,rfl,d,hv,rfl⟩
 |p::m,c,_,_,_,⟨e,es',f,g,j,l⟩,d,hv=>by subst f;exact⟨_,_,rfl,g,j,Hw l d hv⟩
theorem WE(f:dI w G st sl){b:Nat}{x:Bx}{K es':Array MapEntry}{J clk':Nat}{m':MV}(hx:look st.bx b=some x)(T:w.heap[(G.B b).1]?=some (.map K J))(U:QX m'.dec es'.toList):
  Fr w G {w with heap:=w.heap.setIfInBounds (G.B b).1 (.map es' clk')} G/\Le w G st {w with heap:=w.heap.setIfInBounds (G.B b).1 (.map es' clk')} G {st with bx:=qC st.bx b {uid:=x.uid,lv:=[],mp:=some m'}}/\
   dI {w with heap:=w.heap.setIfInBounds (G.B b).1 (.map es' clk')} G {st with bx:=qC st.bx b {uid:=x.uid,lv:=[],mp:=some m'}} sl:=by
 obtain⟨W,l⟩:=MapKept.heap_set (o':=.map es' clk') T;obtain⟨a0,H,_⟩:=f.boxes b x hx;have y:∀k,G.own k≠.box->k≠(G.B b).1 :=λk c e=>c (by rw[e];exact H);let w':World:={w with heap:=w.heap.setIfInBounds (G.B b).1 (.map es' clk')}
 have L:Le w G st w' G st:=Le.heap (λk c=>l k (y k (by rcases c with c |⟨r,p,c⟩<;>rw[c]<;>simp)));have P:Le w' G st w' G {st with bx:=qC st.bx b {uid:=x.uid,lv:=[],mp:=some m'}}:=by
  refine⟨Nat.le_refl _,λr u p a' _ h=>⟨a',h,rfl,rfl,rfl,λh=>h⟩,λb' g _ h=>?_,λr a' _ h=>⟨a',h,rfl,λb p m=>⟨⟨p,m⟩,rfl⟩⟩,λb Y=>⟨Y,rfl⟩⟩;simp only[bR]at h;split at h
  ·rename_i e;injection h with h;subst h;subst e;exact⟨x,hx,rfl,rfl⟩
  ·exact⟨g,h,rfl,rfl⟩
 have s:=L.trans P;refine⟨⟨rfl,rfl,rfl,by simp,λk _ c=>⟨l k (y k (by rcases c with c |c<;>rw[c]<;>simp)),rfl⟩,λ_ _ _=>rfl⟩,s,?_⟩;refine f.step s (λt v hv=>dR s _ _ (f.slots t v hv)) (λb' g d=>?_) (λb1 b2 a4 a5 e1 C V=>?_)
   (λr a Q=>.inl ⟨Q,λ_=>rfl,λk p m=>⟨m,l k (y k (by rw[m];simp))⟩⟩) (λk c=>by simp;exact f.live k c) f.hdr
 ·simp only[bR]at d;split at d
  ·rename_i j;subst j;injection d with d;subst d;exact .inr ⟨a0,H,rfl,es',clk',W,U⟩
  ·rename_i j;obtain⟨a7,a3,_⟩:=f.boxes b' g d;exact .inl ⟨d,rfl,l _ (f.apartB b' b g x d hx j),a3⟩
 ·simp only[bR]at e1 C;have F:∀(b':Nat)(g:Bx),(if b'=b then some {uid:=x.uid,lv:=[],mp:=some m'}else look st.bx b')=some g->∃a6,look st.bx b'=some a6:=λb' g d=>by
   split at d
   ·rename_i j;exact⟨x,by rw[j];exact hx⟩
   ·exact⟨g,d⟩
  obtain⟨y1,a1⟩:=F b1 a4 e1;obtain⟨y2,a2⟩:=F b2 a5 C;exact f.apartB b1 b2 y1 y2 a1 a2 V
theorem Se{E:fC}(c3:gY P E)(a0:dI w G st sl){t:TypeId}{k v m:A}{g F b5:Value}{s:St}(c4:dN w G st k g)(hv:dN w G st v F)(c5:dN w G st m b5)(h:Ha E st t k v m=some s):
  ∃w',(Instr.mapUpdate t b5 g F).run P w=.ok () w'/\Fr w G w' G/\Le w G st w' G s/\dI w' G s sl:=by
 unfold Ha at h;split at h
 ·rename_i b u;obtain⟨f,a7,c0⟩:=bind_some h;obtain⟨l,c1,c2⟩:=bind_some c0;obtain⟨c,Y⟩:=aU c2;simp only[ok,Option.some.injEq]at Y;simp only[Bool.and_eq_true]at c;obtain⟨a9,V,b0,T,U⟩:=c;have W:=ZH (ek:=f.ek) a9 V l.m 0;rw[<-MV.dec_eq T U]at W;have y:=aBG V b0 l.m (iI f.kk (xY k) 0 l.m);rw[<-MV.dec_eq (v:=⟨l.kk,l.ek,CZ (xY k) (xY v) l.m (iI f.kk (xY k) 0 l.m)⟩) T U,<-MV.dec_eq (v:=l) T U]at y;generalize d0:iI f.kk (xY k) 0 l.m=fq at W Y y;subst Y;have c:LG f.kk=true/\uN f.kk k=true/\uN f.ek v=true:=⟨a9,V,b0⟩;simp only[oM]at a7;obtain⟨d,b1,b2,K,_⟩:=c3.maps t f a7;obtain⟨x,J,H,a6,b6,c9,b7,r,Q⟩:=aBE a0 c5 c1;have L:=MO c.2.1 c4;have b3:=MO c.2.2 hv;have a1:=WD c.1 b2 c.2.1 L;subst b7;subst b6;rcases SJ c.1 b2 c.2.1 L l.dec J.toList 0 Q W with⟨C,a2⟩ |⟨j,a,e,C,a2,d1,c8,b4⟩
  ·cases fq with
   |some q=>simp at C
   |none=>
   simp only at y;obtain⟨a3,a4,a5⟩:=WE (es':=J.push {key:=g,val:=F,born:=H}) (clk':=H+1) (m':={l with m:=CZ (xY k) (xY v) l.m none}) a0 a6 r (by rw[y];simpa using Hw (e:={key:=g,val:=F,born:=H}) Q L b3);exact⟨_,by simp[Instr.mapUpdate,run_underlying b1,MapKept.run_getObj_map r,MapKept.run_checkKey K a1,MapKept.run_findKey K a2,MapKept.run_setObj_map _ r,Result.andThen],a3,a4,a5⟩
  ·cases fq with
   |none=>simp at C
   |some q=>
   simp only[Option.map_some,Option.some.injEq,Prod.mk.injEq,Nat.zero_add]at C;simp only[C.1]at y;obtain⟨a3,a4,a5⟩:=WE (es':=J.modify j λe=>{e with key:=g,val:=F}) (clk':=H) (m':={l with m:=CZ (xY k) (xY v) l.m (some q)}) a0 a6 r (by rw[y];simpa using Oq j Q L b3);have c7:J[j]?=some e:=by simpa using a2
   have c6:(Instr.keyThatStays e.key g).run P w=.ok g w:=by rw[c8];exact MapKept.run_keyThatStays a1
   simp only[Nat.zero_add]at b4⊢;exact⟨_,by simp[Instr.mapUpdate,run_underlying b1,MapKept.run_getObj_map r,MapKept.run_checkKey K a1,MapKept.run_findKey K b4,c7,c6,MapKept.run_setObj_map _ r,Result.andThen],a3,a4,a5⟩
 ·simp[aG]at h
theorem Sf(C:dI w G st sl){t:TypeId}{d:Nat}{L:MI}(a3:d<500\/600<=d){s:St}(h:YU st d L=some s):
  ∃w' G',(Instr.makeMap t none).run P w=.ok (.map (some w.heap.size)) w'/\Fr w G w' G'/\Le w G st w' G' s/\dI w' G' s (yK sl d (.map (some w.heap.size))):=by
 simp[YU,ok]at h;subst h;let o:Obj:=.map #[] 0
 let w':=w.alloc o
 let e:=G.tag w.heap.size .box
 let G':=e.box d (w.heap.size,0)
 let s1:St:={st with bx:=qC st.bx d {uid:=st.ctr,lv:=[],mp:=some {kk:=L.kk,ek:=L.ek,m:=[]}},ctr:=st.ctr+1}
 have W:=Le.alloc C o .box;have f:=C.alloc o .box;have F:Le w' e st w' G' s1:=by
  refine⟨Nat.le_succ _,λr u p a' K h=>⟨a',h,rfl,rfl,rfl,λh=>h⟩,λb y K hx=>?_,λr a' _ h=>⟨a',h,rfl,λb p H=>⟨⟨p,H⟩,rfl⟩⟩,λb H=>⟨H,rfl⟩⟩;simp only[s1,bR]at hx;split at hx
  ·injection hx with hx;subst hx;exact absurd K (Nat.lt_irrefl _)
  ·rename_i l;exact⟨y,hx,rfl,by simp[G',Gh.box,l]⟩
 have Q:∀b' y,look st.bx b'=some y->b'≠d->(e.B b').1 ≠w.heap.size:=λb' y a1 J=>by have:=C.live (G.B b').1 (by rw[(C.boxes b' y a1).2.1];simp);simp only[e,Gh.tag];omega
 have Y:dI w' G' s1 sl:=by
  refine f.step F (λt v hv=>dR F _ _ (f.slots t v hv)) (λb' x hx=>?_) (λb1 b2 T U e1 j J=>?_) (λr a a0=>.inl ⟨a0,λ_=>rfl,λb p h=>⟨h,rfl⟩⟩) f.live f.hdr
  ·simp only[s1,bR]at hx;split at hx
   ·rename_i l;subst l;injection hx with hx;subst hx;have V:G'.B b'=(w.heap.size,0):=by simp[G',Gh.box]
    refine .inr ⟨Nat.lt_succ_self _,?_⟩;rw[V];exact⟨by simp[G',e,Gh.box,Gh.tag],rfl,#[],0,heap_alloc_new w o,rfl⟩
   ·rename_i l;exact .inl ⟨hx,by simp[G',e,Gh.box,l],rfl,(f.boxes b' x hx).2.1⟩
  ·simp only[s1,bR]at e1 j;simp only[G',Gh.box];by_cases g:b1=d
   ·by_cases c:b2=d
    ·exact absurd (g.trans c.symm) J
    ·rw[if_neg c]at j;rw[if_pos g,if_neg c];exact Ne.symm (Q b2 U j c)
   ·rw[if_neg g]at e1;by_cases c:b2=d
    ·rw[if_neg g,if_pos c];exact Q b1 T e1 g
    ·rw[if_neg c]at j;rw[if_neg g,if_neg c];exact f.apartB b1 b2 T U e1 j J
 refine⟨w',G',rfl,Fr.trans (Fr.alloc w G o .box) ⟨rfl,rfl,rfl,Nat.le_refl _,λ_ _ _=>⟨rfl,rfl⟩,λb f a2=>by simp[G',e,Gh.box,show b≠d by omega]⟩,(W.trans F).trans (Le.put _ _ _ _ _),Y.put ⟨Nat.lt_succ_self _,λx hx K=>?_⟩⟩;simp[G',Gh.box]
end
end Go.Eng

namespace Go.Eng
inductive Kd where
 |pure |load |grow |other
def kd:Op->Kd
 |.move _=>.pure
 |.assign _=>.pure
 |.fieldAddr ..=>.pure
 |.indexAddr ..=>.pure
 |.binOp ..=>.pure
 |.pick ..=>.pure
 |.unOp ..=>.pure
 |.nilCheck _=>.pure
 |.extract ..=>.pure
 |.build ..=>.pure
 |.slice ..=>.pure
 |.field ..=>.pure
 |.index ..=>.pure
 |.convert ..=>.pure
 |.makeFunc ..=>.pure
 |.load ..=>.load
 |.alloc ..=>.grow
 |.box ..=>.grow
 |.buildSlice ..=>.grow
 |.makeSlice ..=>.grow
 |.call c=>match c.callee with
  |.builtin .len=>.pure
  |.builtin .min=>.pure
  |.builtin .cap=>.pure
  |_=>.other
 |_=>.other
def FA(g:Oper->Bool)(o:Oper):Kd:=
 match kd o.op with
 |.other=>match o.op with
  |.call c=>bif g o then .grow else .other
  |_=>.other
 |k=>k
section
variable{P:Program}{ops:Array Oper}{Q:Exit->Act->World->Prop}{md:Region.Mode}{g:Oper->Bool}{ck:Nat->Nat->Bool}
def Yl(P:Program)(ops:Array Oper)(o:Oper)(v:Value)(a:Act)(w:World):Prop:=
 (Region.wanted o (yielded ops a.tmps)=true/\∀w',HE w w'->(execOp a.eval o).run P w'=.ok (.value v) w')\/(Region.wanted o (yielded ops a.tmps)=false/\v=undef)
def MP(g:Oper->Bool)(P:Program)(ops:Array Oper)(Q:Exit->Act->World->Prop)(i:Nat)(K:Act->World->Prop)(a:Act)(w:World):Prop:=
 match ops[i]?with
 |none=>K a w
 |some o=>match FA g o with
  |.pure=>∃v,Yields P ops o v a/\K (a.put o.dst v) w
  |.load=>∃v,Yl P ops o v a w/\K (a.put o.dst v) w
  |.grow=>wpOp P ops Q i (λa' w'=>HE w w'/\K a' w') a w
  |.other=>wpOp P ops Q i K a w
abbrev FE:=List (Nat×(World->Prop))
def DO(g:Oper->Bool)(ck:Nat->Nat->Bool)(P:Program)(ops:Array Oper)(Q:Exit->Act->World->Prop)(i:Nat)(c:FE)(K:FE->Act->World->Prop)(a:Act)(w:World):Prop:=
 match ops[i]?with
 |none=>K c a w
 |some o=>match FA g o with
  |.pure=>∃v,Yields P ops o v a/\K c (a.put o.dst v) w
  |.load=>∃v,Yl P ops o v a w/\K ((i,λw=>Yl P ops o v a w)::c) (a.put o.dst v) w
  |.grow=>wpOp P ops Q i (λa' w'=>HE w w'/\K c a' w') a w
  |.other=>wpOp P ops Q i (λa' w'=>(∀p∈c,ck p.1 i=true->p.2 w')/\K c a' w') a w
def SK(g:Oper->Bool)(ck:Nat->Nat->Bool)(P:Program)(ops:Array Oper)(Q:Exit->Act->World->Prop):List Nat->FE->Act->World->Prop
 |[],_,a,w=>Q .normal a w
 |i::l,p,a,w=>DO g ck P ops Q i p (SK g ck P ops Q l) a w
theorem Yields.yl{o:Oper}{v:Value}{a:Act}(h:Yields P ops o v a)(w:World):Yl P ops o v a w:=by
 rcases h with⟨c,d⟩ |h
 ·exact .inl ⟨c,λw' _=>d w'⟩
 ·exact .inr h
theorem Yl.of_same{o:Oper}{v:Value}{a a':Act}{w:World}(e:Yl P ops o v a w)(c:execOp a'.eval o=execOp a.eval o)
  (d:Region.wanted o (yielded ops a'.tmps)=Region.wanted o (yielded ops a.tmps)):Yl P ops o v a' w:=by
 unfold Yl at*;rw[c,d];exact e
theorem Yl.wpOp{i:Nat}{o:Oper}{v:Value}{a:Act}{w:World}(d:ops[i]?=some o)(e:Yl P ops o v a w){K:Act->World->Prop}(h:K (a.put o.dst v) w):wpOp P ops Q i K a w:=by
 unfold Go.wpOp;simp only[d];rcases e with⟨c,hv⟩ |⟨c,rfl⟩
 ·simp only[c,if_true,Oper.wp,hv w (HE.refl w),Oper.upon];exact .inl h
 ·simp only[c,Bool.false_eq_true,if_false];exact h
theorem Yl.ext{o:Oper}{v:Value}{a:Act}{w w':World}(g:Yl P ops o v a w)(f:HE w w'):Yl P ops o v a w':=by
 rcases g with⟨c,d⟩ |h
 ·exact .inl ⟨c,λj e=>d j (f.trans e)⟩
 ·exact .inr h
def E4(p q:FE):Prop:=∀e∈q,∃c∈p,c.1=e.1/\∀w,c.2 w->e.2 w
theorem E4.refl(p:FE):E4 p p:=λe c=>⟨e,c,rfl,λ_ h=>h⟩
theorem E4.cons{p q:FE}(h:E4 p q){i:Nat}{F d:World->Prop}(l:∀w,F w->d w):E4 ((i,F)::p) ((i,d)::q):=λe c=>by
 rcases List.mem_cons.1 c with rfl |c
 ·exact⟨_,List.mem_cons_self,rfl,l⟩
 ·obtain⟨f,g,j⟩:=h e c;exact⟨f,List.mem_cons_of_mem _ g,j⟩
theorem E4.swap{p:FE}{i j:Nat}{F d H f:World->Prop}(g:∀w,F w->d w)(l:∀w,H w->f w):E4 ((i,F)::(j,H)::p) ((j,f)::(i,d)::p):=λe c=>by
 rcases List.mem_cons.1 c with rfl |c
 ·exact⟨(j,H),by simp,rfl,l⟩
 ·rcases List.mem_cons.1 c with rfl |c
  ·exact⟨(i,F),by simp,rfl,g⟩
  ·exact⟨e,by simp[c],rfl,λ_ h=>h⟩
def Mn(K:FE->Act->World->Prop):Prop:=∀p q a w,E4 p q->K p a w->K q a w
theorem SL{i:Nat}{p q:FE}{a:Act}{w:World}{K r:FE->Act->World->Prop}(d:E4 p q)(h:∀p q a w,E4 p q->K p a w->r q a w)(c:DO g ck P ops Q i p K a w):DO g ck P ops Q i q r a w:=by
 unfold DO at*;split
 ·rename_i m;simp only[m]at c;exact h _ _ _ _ d c
 ·rename_i o m;simp only[m]at c;split<;>rename_i C<;>simp only[C]at c
  ·obtain⟨v,f,j⟩:=c;exact⟨v,f,h _ _ _ _ d j⟩
  ·obtain⟨v,f,j⟩:=c;exact⟨v,f,h _ _ _ _ (d.cons λ_ h=>h) j⟩
  ·exact wpOp_mono (λa w l=>⟨l.1,h _ _ a w d l.2⟩) c
  ·refine wpOp_mono (λa w l=>⟨λe y u=>?_,h _ _ a w d l.2⟩) c;obtain⟨s,f,j,t⟩:=d e y;exact t w (l.1 s f (by rw[j];exact u))
theorem ZI:∀(l:List Nat),Mn (SK g ck P ops Q l)
 |[],_,_,_,_,_,h=>h
 |i::l,p,q,a,w,c,h=>SL (K:=SK g ck P ops Q l) c (ZI l) h
theorem GM{i:Nat}{p:FE}{a:Act}{w:World}{K:FE->Act->World->Prop}(c:DO g ck P ops Q i p K a w):wpOp P ops Q i (λa w=>∃p,K p a w) a w:=by
 unfold DO at c;cases d:ops[i]?with
 |none=>simp only[d]at c;simp only[wpOp,d];exact⟨_,c⟩
 |some o=>
  simp only[d]at c;split at c
  ·obtain⟨v,e,f⟩:=c;exact e.wpOp d ⟨_,f⟩
  ·obtain⟨v,e,f⟩:=c;exact e.wpOp d ⟨_,f⟩
  ·exact wpOp_mono (λa w h=>⟨_,h.2⟩) c
  ·exact wpOp_mono (λa w h=>⟨_,h.2⟩) c
theorem RF:∀(l:List Nat){p:FE}{a:Act}{w:World},SK g ck P ops Q l p a w->wpOps P ops Q l a w
 |[],_,_,_,h=>h
 |i::l,p,a,w,h=>by rw[wpOps_cons];exact wpOp_mono (λa w⟨p,h⟩=>RF l h) (GM h)
def Sg(g:Oper->Bool)(ops:Array Oper)(c:Bool)(x j:Oper):Bool:=
 x.apart ops j&&(match FA g x,FA g j with
  |.pure,_=>true
  |.load,.pure=>true
  |.load,.load=>true
  |.load,.grow=>true
  |.load,.other=>c
  |_,_=>false)
theorem RG{j:Nat}{g l:Oper}{v:Value}(U:ops[j]?=some l)(T:g.apart ops l=true)
  (J:∀cs b,g.op≠.select cs b)(L:∀cs b,l.op≠.select cs b)
  (G:∀c a a' w,Q (.panic c) a w->Q (.panic c) a' w){K:Act->World->Prop}{a:Act}{w:World}
  (h:wpOp P ops Q j K (a.put g.dst v) w):
  wpOp P ops Q j (λa' w'=>(∀w,Yl P ops g v a w->Yl P ops g v a' w)/\K (a'.put g.dst v) w') a w:=by
 obtain⟨y,m,t⟩:=Oper.apart_spec T;have keep:∀u w',Yl P ops g v a w'->Yl P ops g v (a.put l.dst u) w':=λu w' F=>
  F.of_same (execOp_put g J a l.dst u t) (wanted_put g a l.dst u t)
 have W:∀d u w',Yl P ops g v a w'->Yl P ops g v ({a with defers:=d::a.defers}.put l.dst u) w':=λd u w' F=>
  Yl.of_same (a:={a with defers:=d::a.defers}) (F.of_same rfl rfl) (execOp_put g J _ l.dst u t) (wanted_put g _ l.dst u t)
 unfold wpOp at*;simp only[U]at*;rw[wanted_put l a g.dst v y]at h;split
 ·rename_i C;simp only[C,if_true]at h;rcases h with h |⟨H,V⟩;case inr=>exact .inr ⟨by unfold Oper.asks at*;rw[execOp_put l L a g.dst v y]at H;exact H,V⟩
  refine .inl ?_;unfold Oper.wp at*;rw[execOp_put l L a g.dst v y]at h;generalize(execOp a.eval l).run P w=r at*;cases r with
  |ok n w'=>
   cases n<;>simp only[Oper.upon]at h⊢;case value u=>exact⟨keep u,by rw[<-Act.put_comm a v u m];exact h⟩
   case skip=>exact⟨keep _,by rw[<-Act.put_comm a v undef m];exact h⟩
   case defer d=>
    refine⟨W d _,?_⟩;rw[<-Act.put_comm _ v undef m,<-Act.put_defers];exact h
   case enter f args=>
    refine Calls.mono h λe Y s=>?_;cases e with
    |returned u=>exact⟨keep u,by rw[<-Act.put_comm a v u m];exact s⟩
    |panicked c=>exact G _ _ _ _ s
    |outgrown=>exact s
   case row row args=>exact Rows.mono h λu Y s=>⟨keep u,by rw[<-Act.put_comm a v u m];exact s⟩
  |halt x w'=>cases x<;>simp only[Oper.upon]at h⊢;case panic u=>exact G _ _ _ _ h
 ·rename_i C;simp only[C]at h;exact⟨keep _,by rw[<-Act.put_comm a v undef m];exact h⟩
theorem aF0{o:Op}(cs:Array SelectCase)(b:Bool)(h:o=.select cs b):kd o=.other:=by subst h;rfl
theorem I9{x j:Nat}{d l:Oper}(hx:ops[x]?=some d)(r:ops[j]?=some l)(Y:Sg g ops (ck x j) d l=true)
  (a0:∀(j:Nat)(o:Oper)cs b,ops[j]?=some o->o.op≠.select cs b)(U:∀c a a' w,Q (.panic c) a w->Q (.panic c) a' w){K:FE->Act->World->Prop}(F:Mn K){p:FE}{a:Act}{w:World}
  (h:DO g ck P ops Q x p (λp=>DO g ck P ops Q j p K) a w):DO g ck P ops Q j p (λp=>DO g ck P ops Q x p K) a w:=by
 simp only[Sg,Bool.and_eq_true]at Y;obtain⟨G,V⟩:=Y;obtain⟨J,L,T⟩:=Oper.apart_spec G;have y:=λcs b=>a0 x d cs b hx;have t:=λcs b=>a0 j l cs b r;have keep:∀(a:Act)(w:World)(v u:Value),Yl P ops d v a w->Yl P ops d v (a.put l.dst u) w:=λa w v u s=>
  s.of_same (execOp_put d y a l.dst u T) (wanted_put d a l.dst u T)
 have a1:∀(a:Act)(v u:Value),Yields P ops d v a->Yields P ops d v (a.put l.dst u):=λa v u s=>
  s.of_same (execOp_put d y a l.dst u T) (wanted_put d a l.dst u T)
 have H:∀(a:Act)(w:World)(v u:Value),Yl P ops l u (a.put d.dst v) w->Yl P ops l u a w:=λa w v u s=>
  s.of_same (execOp_put l t a d.dst v J).symm (wanted_put l a d.dst v J).symm
 have W:∀(a:Act)(v u:Value),Yields P ops l u (a.put d.dst v)->Yields P ops l u a:=λa v u s=>
  s.of_same (execOp_put l t a d.dst v J).symm (wanted_put l a d.dst v J).symm
 cases C:FA g d with
 |other=>simp[C]at V
 |grow=>simp[C]at V
 |pure=>
  simp only[DO,hx,C]at h⊢;obtain⟨v,y1,h⟩:=h;simp only[r]at h⊢;cases m:FA g l with
  |pure=>simp only[m]at h⊢;obtain⟨u,y2,h⟩:=h;exact⟨u,W _ _ _ y2,v,a1 _ _ _ y1,by rw[<-Act.put_comm a v u L];exact h⟩
  |load=>simp only[m]at h⊢;obtain⟨u,y2,h⟩:=h;exact⟨u,H _ _ _ _ y2,v,a1 _ _ _ y1,by rw[<-Act.put_comm a v u L];exact F _ _ _ _ ((E4.refl p).cons λw=>H a w v u) h⟩
  |grow=>simp only[m]at h⊢;exact wpOp_mono (λa' w' f=>⟨f.2.1,⟨v,f.1,f.2.2⟩⟩) (wpOp_put (K:=λa' w'=>HE w w'/\K p a' w') r G y t (λc a w=>U c _ _ w) y1 h)
  |other=>simp only[m]at h⊢;exact wpOp_mono (λa' w' f=>⟨f.2.1,⟨v,f.1,f.2.2⟩⟩) (wpOp_put (K:=λa' w'=>(∀e∈p,ck e.1 j=true->e.2 w')/\K p a' w') r G y t (λc a w=>U c _ _ w) y1 h)
 |load=>
  simp only[DO,hx,C]at h⊢;obtain⟨v,y1,h⟩:=h;simp only[r]at h⊢;cases m:FA g l with
  |pure=>simp only[m]at h⊢;obtain⟨u,y2,h⟩:=h;exact⟨u,W _ _ _ y2,v,keep _ _ _ _ y1,by rw[<-Act.put_comm a v u L];exact F _ _ _ _ ((E4.refl p).cons λw=>keep a w v u) h⟩
  |load=>simp only[m]at h⊢;obtain⟨u,y2,h⟩:=h;exact⟨u,H _ _ _ _ y2,v,keep _ _ _ _ y1,by rw[<-Act.put_comm a v u L];exact F _ _ _ _ (E4.swap (λw=>H a w v u) (λw=>keep a w v u)) h⟩
  |grow=>simp only[m]at h⊢;refine wpOp_mono (λa' w' f=>⟨f.2.1,v,f.1 _ (y1.ext f.2.1),F _ _ _ _ ((E4.refl p).cons f.1) f.2.2⟩) (RG (K:=λa' w'=>HE w w'/\K ((x,λw=>Yl P ops d v a w)::p) a' w') r G y t U h)
  |other=>
   simp only[C,m]at V;simp only[m]at h⊢;refine wpOp_mono (λa' w' f=>⟨λe a2=>f.2.1 e (List.mem_cons_of_mem _ a2),v,f.1 _ (f.2.1 _ List.mem_cons_self V),F _ _ _ _ ((E4.refl p).cons f.1) f.2.2⟩)
    (RG (K:=λa' w'=>(∀e∈(x,λw=>Yl P ops d v a w)::p,ck e.1 j=true->e.2 w')/\K ((x,λw=>Yl P ops d v a w)::p) a' w') r G y t U h)
theorem aBH{i:Nat}{o:Oper}(r:ops[i]?=some o){p:FE}{a:Act}{w:World}{j:Act->World->Prop}{K:FE->Act->World->Prop}(h:MP g P ops Q i j a w)
  (m:FA g o=.load->∀v w',j (a.put o.dst v) w'->K ((i,λw=>Yl P ops o v a w)::p) (a.put o.dst v) w')
  (f:FA g o≠.load->∀a' w',j a' w'->(FA g o=.other->∀e∈p,ck e.1 i=true->e.2 w')/\K p a' w'):DO g ck P ops Q i p K a w:=by
 unfold MP at h;unfold DO;simp only[r]at h⊢;cases c:FA g o with
 |pure=>simp only[c]at h⊢;obtain⟨v,l,d⟩:=h;exact⟨v,l,(f (by simp[c]) _ _ d).2⟩
 |load=>simp only[c]at h⊢;obtain⟨v,l,d⟩:=h;exact⟨v,l,m c _ _ d⟩
 |grow=>simp only[c]at h⊢;exact wpOp_mono (λa' w' d=>⟨d.1,(f (by simp[c]) _ _ d.2).2⟩) h
 |other=>simp only[c]at h⊢;exact wpOp_mono (λa' w' d=>⟨(f (by simp[c]) _ _ d).1 c,(f (by simp[c]) _ _ d).2⟩) h
def Com(g:Oper->Bool)(ck:Nat->Nat->Bool)(ops:Array Oper)(x j:Nat):Prop:=∃d c,ops[x]?=some d/\ops[j]?=some c/\Sg g ops (ck x j) d c=true
theorem SM{j:Nat}{e:List Nat}(m:∀(j:Nat)(o:Oper)cs b,ops[j]?=some o->o.op≠.select cs b)(f:∀c a a' w,Q (.panic c) a w->Q (.panic c) a' w):
  ∀(d:List Nat){p:FE}{a:Act}{w:World},(∀x∈d,Com g ck ops x j)->SK g ck P ops Q (d++j::e) p a w->DO g ck P ops Q j p (SK g ck P ops Q (d++e)) a w
 |[],_,_,_,_,h=>h
 |x::d,p,a,w,l,h=>by obtain⟨y,v,r,s,t⟩:=l x (by simp);refine I9 r s t m f (ZI (d++e)) (SL (K:=SK g ck P ops Q (d++j::e)) (E4.refl p) (λp q a w u h=>?_) h);exact SL u (ZI (d++e)) (SM m f d (λx hx=>l x (by simp[hx])) h)
inductive Mx(md:Region.Mode)(ops:Array Oper)(x:Nat):Nat->Prop where
 |one {j:Nat} {o:Oper} {e:Edge}:ops[j]?=some o->e∈o.after->Region.binds md e=true->e.on=x->Mx md ops x j
 |far {j k:Nat} {o:Oper} {e:Edge}:Mx md ops x k->ops[j]?=some o->e∈o.after->Region.binds md e=true->e.on=k->Mx md ops x j
def SN(md:Region.Mode)(ops:Array Oper)(c:Array Bool):Prop:=
 ∀j o,ops[j]?=some o->c.getD j false=true->∀e∈o.after,Region.binds md e=true->c.getD e.on false=true
theorem Mx.listed{g:Array Bool}(l:SN md ops g){x j:Nat}(h:Mx md ops x j)(m:g.getD j false=true):g.getD x false=true:=by
 induction h with
 |one c d e f=>subst f;exact l _ _ c m _ d e
 |far _ c d e f r=>subst f;exact r (l _ _ c m _ d e)
theorem Mx.ready{g:Array Bool}(s:SN md ops g){x j:Nat}(h:Mx md ops x j)(t:j∈Region.ready md ops g):g.getD x false=true:=by
 obtain⟨_,o,m,l⟩:=mem_ready.1 t;cases h with
 |one c d e f=>rw[m]at c;injection c with c;subst c;subst f;exact l _ d e
 |far r c d e f=>rw[m]at c;injection c with c;subst c;subst f;exact r.listed s (l _ d e)
theorem MQ(m:∀(j:Nat)(o:Oper)(e:Edge),ops[j]?=some o->e∈o.after->Region.binds md e=true->e.on<j){c:Array Bool}(y:c.size=ops.size):
  ∀n,(∃j,j<n/\j<ops.size/\c.getD j true=false)->∃j,j∈Region.ready md ops c:=by
 intro n;induction n with
 |zero=>rintro⟨j,h,_⟩;omega
 |succ n u=>
  rintro⟨j,v,d,g⟩;by_cases f:∃j,j<n/\j<ops.size/\c.getD j true=false
  ·exact u f
  ·have:j=n:=by
    rcases Nat.lt_or_ge j n with h |h
    ·exact absurd ⟨j,h,d,g⟩ f
    ·omega
   subst this;refine⟨j,mem_ready.2 ⟨g,ops[j],by simp[d],λe r l=>?_⟩⟩;have s:=m j ops[j] e (by simp[d]) r l;have t:e.on<c.size:=by omega
   have:=λhf=>f ⟨e.on,s,by omega,hf⟩;simp[t]at this⊢;exact this
theorem SN.set{d:Array Bool}(r:SN md ops d){i:Nat}(t:i∈Region.ready md ops d):SN md ops (d.setIfInBounds i true):=by
 intro j o m h e g f;refine getD_set_true ?_;by_cases l:j=i
 ·subst l;obtain⟨_,o',c,s⟩:=mem_ready.1 t;rw[m]at c;injection c with c;subst c;exact s e g f
 ·rw[getD_set_ne false (Ne.symm l)]at h;exact r j o m h e g f
theorem aBI(a6:∀(j:Nat)(o:Oper)cs b,ops[j]?=some o->o.op≠.select cs b)(Y:∀c a a' w,Q (.panic c) a w->Q (.panic c) a' w)
  (a1:∀(j:Nat)(o:Oper)(e:Edge),ops[j]?=some o->e∈o.after->Region.binds md e=true->e.on<j):
  ∀(r:Nat)(L:List Nat)(d:Array Bool)(p:FE)(a:Act)(w:World),L.length<=r->d.size=ops.size->SN md ops d->(∀j,j∈L<->j<ops.size/\d.getD j true=false)->L.Nodup->
   L.Pairwise (λx j=>Mx md ops x j\/Com g ck ops x j)->SK g ck P ops Q L p a w->wpAny P md ops Q r d a w:=by
 intro r;induction r with
 |zero=>intro L d p a w U K F l G J h;have:L=[]:=List.eq_nil_of_length_eq_zero (by omega);subst this;refine⟨List.eq_nil_iff_forall_not_mem.2 λj f=>?_,h⟩;obtain⟨y,o,H,_⟩:=mem_ready.1 f;exact absurd ((l j).2 ⟨(Array.getElem?_eq_some_iff.1 H).1,y⟩) (by simp)
 |succ r a7=>
  intro L d p a w U K F l G J h;refine⟨λa5=>?_,λj f=>?_⟩
  ·cases L with
   |nil=>exact h
   |cons i L=>obtain⟨t,T⟩:=(l i).1 (by simp);obtain⟨j,f⟩:=MQ (md:=md) a1 K (i+1) ⟨i,Nat.lt_succ_self _,t,T⟩;rw[a5]at f;cases f
  ·obtain⟨y,o,H,a9⟩:=mem_ready.1 f;have a3:=(Array.getElem?_eq_some_iff.1 H).1;have a2:=(l j).2 ⟨a3,y⟩;obtain⟨m,u,rfl⟩:=List.append_of_mem a2;have a4:∀x∈m++u,x≠j:=by
    intro x hx e;subst e;have:=List.nodup_append.1 G;rcases List.mem_append.1 hx with hx |hx
    ·exact this.2.2 x hx x (by simp) rfl
    ·exact(List.nodup_cons.1 this.2.1).1 hx
   have V:(m++u).Sublist (m++j::u):=List.Sublist.append (List.Sublist.refl _) (List.sublist_cons_self _ _);have a0:∀x∈m,Com g ck ops x j:=by
    intro x hx;rcases(List.pairwise_append.1 J).2.2 x hx j (by simp)with hd |hd
    ·have t:=hd.ready F f;obtain⟨T,C⟩:=(l x).1 (by simp[hx]);have:x<d.size:=by omega
     simp[this]at t C;rw[t]at C;cases C
    ·exact hd
   refine wpOp_mono (λa' w'⟨p',W⟩=>?_) (GM (SM a6 Y m a0 h));refine a7 (m++u) (d.setIfInBounds j true) p' a' w' (by simp at U⊢;omega) (by simp[K]) (F.set f) (λx=>?_) (G.sublist V) (J.sublist V) W;constructor
   ·intro hx;obtain⟨v,s⟩:=(l x).1 (by
     rcases List.mem_append.1 hx with hx |hx
     ·simp[hx]
     ·simp[hx])
    exact⟨v,by rw[getD_set_ne true (Ne.symm (a4 x hx))];exact s⟩
   ·rintro⟨v,s⟩;by_cases e:x=j
    ·subst e;have:x<d.size:=by omega
     simp[this]at s
    ·rw[getD_set_ne true (Ne.symm e)]at s;have:=(l x).2 ⟨v,s⟩;simp[e]at this;simpa using this
def Cx(md:Region.Mode)(ms:List Nat):List Edge->Nat
 |[]=>0
 |e::l=>bif Region.binds md e then Nat.lor (Nat.lor (Nat.shiftLeft 1 e.on) (ms.getD e.on 0)) (Cx md ms l)else Cx md ms l
def aBJ(md:Region.Mode):List Oper->List Nat->List Nat
 |[],ms=>ms
 |o::l,ms=>aBJ md l (ms++[Cx md ms o.after.toList])
def Xe(m x:Nat):Bool:=Nat.beq (Nat.land (Nat.shiftRight m x) 1) 1
def aDw(g:Oper->Bool)(ck:Nat->Nat->Bool)(ops:Array Oper)(x j:Nat):Bool:=match ops[x]?,ops[j]?with
 |some d,some c=>Sg g ops (ck x j) d c
 |_,_=>false
def allB{α:Type}(f:α->Bool):List α->Bool
 |[]=>true
 |a::l=>f a&&allB f l
def V8(g:Oper->Bool)(ck:Nat->Nat->Bool)(ops:Array Oper)(ms:List Nat):List Nat->Bool
 |[]=>true
 |x::l=>allB (λj=>Xe (ms.getD j 0) x||aDw g ck ops x j) l&&V8 g ck ops ms l
def WF(l:List Nat)(n:Nat):Bool:=match l with
 |[]=>false
 |m::l=>Nat.beq m n||WF l n
def SO:List Nat->Bool
 |[]=>true
 |m::l=>!WF l m&&SO l
def Xf(md:Region.Mode):Nat->List Oper->Bool
 |_,[]=>true
 |n,o::l=>allB (λe=>!Region.binds md e||Nat.ble (e.on+1) n) o.after.toList&&Xf md (n+1) l
def aBK:List Oper->Bool
 |[]=>true
 |o::l=>(match o.op with|.select ..=>false |_=>true)&&aBK l
def V9(g:Oper->Bool)(ck:Nat->Nat->Bool)(md:Region.Mode)(ops:Array Oper)(ord:List Nat):Bool:=
 aBK ops.toList&&(Xf md 0 ops.toList&&(SO ord&&(Nat.beq ord.length ops.size&&(allB (λj=>Nat.ble (j+1) ops.size) ord&&(allB (λj=>WF ord j) (List.range ops.size)&&V8 g ck ops (aBJ md ops.toList []) ord)))))
theorem iY{α:Type}{f:α->Bool}:∀{l:List α},allB f l=true->∀a∈l,f a=true
 |[],_,_,h=>absurd h (by simp)
 |b::l,h,a,c=>by
  simp only[allB,Bool.and_eq_true]at h;rcases List.mem_cons.1 c with rfl |c
  ·exact h.1
  ·exact iY h.2 a c
theorem MR{n:Nat}:∀{l:List Nat},WF l n=true<->n∈l
 |[]=>by simp[WF]
 |m::l=>by
  simp only[WF,Bool.or_eq_true,MR (l:=l),List.mem_cons];constructor
  ·rintro(h |h)
   ·exact .inl (Nat.eq_of_beq_eq_true h).symm
   ·exact .inr h
  ·rintro(h |h)
   ·subst h;exact .inl (Nat.beq_refl _)
   ·exact .inr h
theorem oW:∀{l:List Nat},SO l=true->l.Nodup
 |[],_=>List.nodup_nil
 |m::l,h=>by simp only[SO,Bool.and_eq_true,Bool.not_eq_true']at h;refine List.nodup_cons.2 ⟨λc=>?_,oW h.2⟩;rw[MR.2 c]at h;exact absurd h.1 (by simp)
theorem ZJ{m x:Nat}:Xe m x=true<->m.testBit x=true:=by
 unfold Xe;rw[Nat.testBit];show Nat.beq ((m>>>x)&&&1) 1=true<->(1&&&(m>>>x)!=0)=true;rw[Nat.and_comm];have h:=Nat.and_one_is_mod (m>>>x);rw[Nat.and_comm]at h;rw[h];have:m>>>x%2=0\/m>>>x%2=1:=by omega
 rcases this with h |h<;>rw[h]<;>simp
theorem MS{j:Nat}{o:Oper}(f:ops[j]?=some o){ms:List Nat}(r:∀k x,(ms.getD k 0).testBit x=true->Mx md ops x k){x:Nat}:
  ∀{l:List Edge},(∀e∈l,e∈o.after)->(Cx md ms l).testBit x=true->Mx md ops x j
 |[],_,h=>by simp[Cx]at h
 |e::l,g,h=>by
  simp only[Cx]at h;cases d:Region.binds md e with
  |false=>simp only[d,cond_false]at h;exact MS f r (λe m=>g e (by simp[m])) h
  |true=>
   simp only[d,cond_true]at h;have c:((1<<<e.on)|||(ms.getD e.on 0)|||(Cx md ms l)).testBit x=true:=h;simp only[Nat.testBit_or,Bool.or_eq_true]at c;rcases c with(c |c) |c
   ·have:e.on=x:=by
     rw[Nat.shiftLeft_eq,Nat.one_mul,Nat.testBit_two_pow]at c;simpa using c
    exact .one f (g e (by simp)) d this
   ·exact .far (r _ _ c) f (g e (by simp)) d rfl
   ·exact MS f r (λe m=>g e (by simp[m])) c
theorem SQ:∀(l:List Oper)(c:List Oper)(ms:List Nat),ops.toList=c++l->ms.length=c.length->(∀k x,(ms.getD k 0).testBit x=true->Mx md ops x k)->
  ∀k x,((aBJ md l ms).getD k 0).testBit x=true->Mx md ops x k
 |[],_,_,_,_,h=>h
 |o::l,c,ms,d,f,h=>by
  refine SQ l (c++[o]) _ (by simp[d]) (by simp[f]) (λk x hx=>?_);have m:ops[c.length]?=some o:=by
   have:ops.toList[c.length]?=some o:=by rw[d];simp
   simpa using this
  by_cases g:k<ms.length
  ·refine h k x ?_;simp only[List.getD]at hx⊢;rwa [List.getElem?_append_left g]at hx
  ·by_cases j:k=ms.length
   ·subst j;simp[List.getD]at hx;rw[f];exact MS m h (λe d=>by simpa using d) hx
   ·have:(ms++[Cx md ms o.after.toList]).getD k 0=0:=by
     simp only[List.getD];rw[List.getElem?_eq_none (by simp;omega)];rfl
    rw[this]at hx;simp at hx
theorem Cy{ms:List Nat}(d:∀k x,(ms.getD k 0).testBit x=true->Mx md ops x k):∀{l:List Nat},V8 g ck ops ms l=true->l.Pairwise (λx j=>Mx md ops x j\/Com g ck ops x j)
 |[],_=>List.Pairwise.nil
 |x::l,h=>by
  simp only[V8,Bool.and_eq_true]at h;refine List.pairwise_cons.2 ⟨λj f=>?_,Cy d h.2⟩;have:=iY h.1 j f;simp only[Bool.or_eq_true,ZJ]at this;rcases this with c |c
  ·exact .inl (d _ _ c)
  ·unfold aDw at c;split at c
   ·rename_i r m e1 e;exact .inr ⟨r,m,e1,e,c⟩
   ·simp at c
theorem MT:∀(l:List Oper)(n:Nat),Xf md n l=true->∀(k:Nat)(o:Oper),l[k]?=some o->∀e∈o.after,Region.binds md e=true->e.on<n+k
 |[],_,_,k,o,h=>by simp at h
 |o::l,n,h,k,o',f=>by
  simp only[Xf,Bool.and_eq_true]at h;cases k with
  |zero=>simp at f;subst f;intro e d c;have:=iY h.1 e (by simpa using d);simp only[c,Bool.not_true,Bool.false_or]at this;have:=Nat.le_of_ble_eq_true this;omega
  |succ k=>have:=MT l (n+1) h.2 k o' (by simpa using f);intro e d c;have:=this e d c;omega
theorem SR:∀(l:List Oper),aBK l=true->∀o∈l,∀cs b,o.op≠.select cs b
 |[],_,_,h=>absurd h (by simp)
 |o::l,h,o',c=>by
  simp only[aBK,Bool.and_eq_true]at h;rcases List.mem_cons.1 c with rfl |c
  ·intro cs b e;rw[e]at h;simp at h
  ·exact SR l h.2 o' c
theorem Si{id:Nat}{ord:List Nat}{a:Act}{w:World}(J:P.follows .mixedOrders=true)(l:V9 g ck .any ops ord=true)(C:∀c a a' w,Q (.panic c) a w->Q (.panic c) a' w)
  (h:SK g ck P ops Q ord [] a {w with drawn:=w.drawn+1}):(Code.region id ops true).wp P Q a w:=by
 simp only[V9,Bool.and_eq_true]at l;obtain⟨m,r,s,t,u,y,v⟩:=l;have L:=Nat.eq_of_beq_eq_true t;have K:=oW s;refine wp_region_any J (aBI (λj o cs b f=>?_) C (λj o e f G F=>?_) ops.size ord _ [] a _ (by omega) (by simp) ?_ (λj=>?_) K (Cy (SQ ops.toList [] [] rfl rfl (λk x hx=>by simp at hx)) v) h)
 ·exact SR _ m o (by simpa using Array.mem_of_getElem? f) cs b
 ·have:=MT _ 0 r j o (by simpa using f) e G F;omega
 ·intro j o f d;have H:=(Array.getElem?_eq_some_iff.1 f).1;simp[H]at d
 ·constructor
  ·intro d;have:=Nat.le_of_ble_eq_true (iY u j d);exact⟨by omega,by simp[show j<ops.size by omega]⟩
  ·rintro⟨d,_⟩;exact MR.1 (iY y j (by simp[d]))
theorem Sj{id:Nat}{a:Act}{w:World}(h:SK g ck P ops Q (List.range ops.size) [] a w):(Code.region id ops false).wp P Q a w:=
 wp_region (RF _ h)
end
end Go.Eng

namespace Go.Eng
theorem qM{a b:Nat}(h:Nat.beq a b=true):a=b:=Nat.eq_of_beq_eq_true h
theorem aBL{a b:Bool}(h:FB a b=true):a=b:=by rw[VQ,beq_iff_eq]at h;exact h
mutual
theorem aBM:∀(x c:D),F5 x c=true->x=c
 |.i a,c,h=>by cases c<;>simp only[F5,Bool.false_eq_true]at h;rw[(bT _ _).1 h]
 |.b a,c,h=>by cases c<;>simp only[F5,Bool.false_eq_true]at h;rw[aBL h]
 |.s a,c,h=>by cases c<;>simp only[F5,Bool.false_eq_true]at h;rw[(yI _ _).1 h]
 |.l a,c,h=>by cases c<;>simp only[F5,Bool.false_eq_true]at h;rw[WG a _ h]
theorem WG:∀(x c:LD),VJ x c=true->x=c
 |[],c,h=>by cases c<;>simp only[VJ,Bool.false_eq_true]at h;rfl
 |a::x,c,h=>by
  cases c with
  |nil=>simp[VJ]at h
  |cons b c=>simp only[VJ,Bool.and_eq_true]at h;rw[aBM a b h.1,WG x c h.2]
end
theorem ZK:∀{x e:List (Nat×Nat)},Nb x e=true->x=e
 |[],[],_=>rfl
 |(a,b)::x,(c,d)::e,h=>by simp only[Nb,Bool.and_eq_true]at h;rw[qM h.1,qM h.2.1,ZK h.2.2]
 |[],_::_,h=>by simp[Nb]at h
 |_::_,[],h=>by simp[Nb]at h
theorem W0:∀{x c:List (List (Nat×Nat))},Oe x c=true->x=c
 |[],[],_=>rfl
 |a::x,b::c,h=>by simp only[Oe,Bool.and_eq_true]at h;rw[ZK h.1,W0 h.2]
 |[],_::_,h=>by simp[Oe]at h
 |_::_,[],h=>by simp[Oe]at h
theorem Sk:∀{l m:List Nat},F6 l m=true->l=m
 |[],[],_=>rfl
 |a::l,b::m,h=>by simp only[F6,Bool.and_eq_true]at h;rw[Nat.eq_of_beq_eq_true h.1,Sk h.2]
 |[],_::_,h=>by simp[F6]at h
 |_::_,[],h=>by simp[F6]at h
mutual
theorem aBN:∀(x c:A),aDq x c=true->x=c:=by
 intro x c h;cases x<;>cases c<;>simp only[aDq,Bool.and_eq_true,Bool.false_eq_true]at h;case int.int=>rw[(fD _ _).1 h.1,(bT _ _).1 h.2]
 case bool.bool=>rw[aBL h]
 case str.str=>rw[(yI _ _).1 h]
 case nils.nils=>rfl
 case fz.fz=>rw[ZK h.1,qM h.2.1,iG _ _ h.2.2.1,WG _ _ h.2.2.2]
 case vw.vw=>rw[qM h.1,qM h.2.1,ZK h.2.2]
 case px.px=>rw[qM h.1,qM h.2.1,qM h.2.2]
 case sx.sx=>rw[qM h.1,qM h.2.1,qM h.2.2.1,qM h.2.2.2.1,qM h.2.2.2.2]
 case sb.sb=>rw[qM h.1,qM h.2.1,qM h.2.2.1,qM h.2.2.2]
 case pa.pa=>rw[qM h.1,qM h.2.1,ZK h.2.2.1,qM h.2.2.2.1,qM h.2.2.2.2.1,qM h.2.2.2.2.2]
 case pb.pb=>rw[qM h.1,qM h.2.1,qM h.2.2]
 case mp.mp=>rw[qM h.1,qM h.2]
 case ez.ez=>rfl
 case pz.pz=>rw[ZK h.1,iG _ _ h.2.1,aBM _ _ h.2.2.1,qM h.2.2.2]
 case agg.agg=>rw[WH _ _ h]
 case tup.tup=>rw[WH _ _ h]
 case nilp.nilp=>rfl
 case fn.fn=>rw[qM h.1,WH _ _ h.2]
 case undef.undef=>rfl
theorem WH:∀(x c:List A),VK x c=true->x=c:=by
 intro x c h;cases x with
 |nil=>cases c<;>simp only[VK,Bool.false_eq_true]at h;rfl
 |cons a x=>
  cases c with
  |nil=>simp[VK]at h
  |cons b c=>simp only[VK,Bool.and_eq_true]at h;rw[aBN a b h.1,WH x c h.2]
end
theorem Sl:∀{x c:Tr},Hg x c=true->x=c
 |.nil,.nil,_=>rfl
 |.node a l r,.node a' d r',h=>by simp only[Hg,Bool.and_eq_true]at h;rw[aBN _ _ h.1,Sl h.2.1,Sl h.2.2]
 |.nil,.node ..,h=>by simp[Hg]at h
 |.node ..,.nil,h=>by simp[Hg]at h
theorem aDx:∀{x c:Option MV},Wk x c=true->x=c
 |none,none,_=>rfl
 |some ⟨k,e,m⟩,some ⟨f,d,m'⟩,h=>by simp only[Wk,Bool.and_eq_true]at h;rw[LT.beq_eq _ _ h.1,LT.beq_eq _ _ h.2.1,WG _ _ h.2.2]
 |none,some _,h=>by simp[Wk]at h
 |some _,none,h=>by simp[Wk]at h
theorem X0:∀{x c:List (Nat×Bx)},Of x c=true->x=c
 |[],[],_=>rfl
 |(n,⟨u,lv,mp⟩)::l,(n',⟨f,d,e⟩)::m,h=>by simp only[Of,Bool.and_eq_true]at h;rw[qM h.1,qM h.2.1,WH _ _ h.2.2.1,aDx h.2.2.2.1,X0 h.2.2.2.2]
 |[],_::_,h=>by simp[Of]at h
 |_::_,[],h=>by simp[Of]at h
theorem X1:∀{x c:List (Nat×xZ)},Og x c=true->x=c
 |[],[],_=>rfl
 |(n,⟨a1,a2,a3,a4,a5,v,y⟩)::l,(n',⟨b1,b2,C,F,G,H,J⟩)::m,h=>by simp only[Og,Bool.and_eq_true]at h;obtain⟨d,e,f,g,j,r,s,t,u⟩:=h;rw[qM d,qM e,iG _ _ f,WG _ _ g,W0 j,qM r,Sk s,qM t,X1 u]
 |[],_::_,h=>by simp[Og]at h
 |_::_,[],h=>by simp[Og]at h
theorem aDy{s t:St}(h:aBq s t=true):s=t:=by obtain⟨a1,a2,a3,a4⟩:=s;obtain⟨b1,b2,c,d⟩:=t;simp only[aBq,Bool.and_eq_true]at h;rw[Sl h.1,X0 h.2.1,X1 h.2.2.1,qM h.2.2.2]
theorem aDz{r q:Ex×St}(h:U6 r q=true):r=q:=by
 obtain⟨e,s⟩:=r;obtain⟨f,t⟩:=q;unfold U6 at h;split at h
 ·rename_i c d;simp only at c d h;subst c;subst d;rw[aDy h]
 ·simp at h
end Go.Eng

namespace Go.Eng
section
variable{P:Program}{ops:Array Oper}{Q:Exit->Act->World->Prop}{md:Region.Mode}{g:Oper->Bool}{ck:Nat->Nat->Bool}
theorem aBO(Q:∀(j:Nat)(o:Oper)(e:Edge),ops[j]?=some o->e∈o.after->Region.binds md e=true->e.on<j):
  ∀(g t:Nat)(c:Array Bool)(d:List Nat),d.length<=g->c.size=ops.size->SN md ops c->(∀j,j∈d<->j<ops.size/\c.getD j true=false)->d.Nodup->
   (Region.linearise.go md ops g t c []).Perm d/\(Region.linearise.go md ops g t c []).Pairwise (λa b=>¬Mx md ops b a):=by
 intro g;induction g with
 |zero=>intro t c d U r u h C;have:d=[]:=List.eq_nil_of_length_eq_zero (by omega);subst this;simp[Region.linearise.go]
 |succ g a1=>
  intro t c d U r u h C;simp only[Region.linearise.go];change (match(Region.ready md ops c)[t%(Region.ready md ops c).length]?with
   |some i=>Region.linearise.go md ops g (t/(Region.ready md ops c).length) (c.setIfInBounds i true) [i]
   |none=>[].reverse).Perm d/\(match(Region.ready md ops c)[t%(Region.ready md ops c).length]?with
   |some i=>Region.linearise.go md ops g (t/(Region.ready md ops c).length) (c.setIfInBounds i true) [i]
   |none=>[].reverse).Pairwise (λa b=>¬Mx md ops b a)
  cases v:(Region.ready md ops c)[t%(Region.ready md ops c).length]?with
  |none=>
   have V:Region.ready md ops c=[]:=by
    cases Y:Region.ready md ops c with
    |nil=>rfl
    |cons x xs=>rw[Y]at v;have y:t%(x::xs).length<(x::xs).length:=Nat.mod_lt _ (by simp);simp at v;simp at y;omega
   have L:d=[]:=by
    cases d with
    |nil=>rfl
    |cons i d=>obtain⟨m,K⟩:=(h i).1 (by simp);obtain⟨j,l⟩:=MQ (md:=md) Q r (i+1) ⟨i,Nat.lt_succ_self _,m,K⟩;rw[V]at l;cases l
   subst L;simp
  |some j=>
   simp only[];rw[linearise_go_acc,List.reverse_singleton,List.singleton_append];have l:=List.mem_of_getElem? v;obtain⟨J,o,W,a3⟩:=mem_ready.1 l;have T:=(Array.getElem?_eq_some_iff.1 W).1;have G:=(h j).2 ⟨T,J⟩;obtain⟨H,a2⟩:=a1 (t/(Region.ready md ops c).length) (c.setIfInBounds j true) (d.erase j) (by rw[List.length_erase_of_mem G];omega) (by simp[r]) (u.set l) (λx=>by
    rw[C.mem_erase_iff];constructor
    ·rintro⟨hx,a0⟩;obtain⟨s,f⟩:=(h x).1 a0;exact⟨s,by rw[getD_set_ne true (Ne.symm hx)];exact f⟩
    ·rintro⟨s,f⟩;by_cases e:x=j
     ·subst e;have:x<c.size:=by omega
      simp[this]at f
     ·rw[getD_set_ne true (Ne.symm e)]at f;exact⟨e,(h x).2 ⟨s,f⟩⟩) (C.erase j)
   refine⟨(H.cons j).trans (List.perm_cons_erase G).symm,List.pairwise_cons.2 ⟨λb P hd=>?_,a2⟩⟩;have F:=List.mem_of_mem_erase (H.subset P);obtain⟨_,f⟩:=(h b).1 F;have m:=hd.ready u l;have y:b<c.size:=by rw[r];exact((h b).1 F).1
   simp[y]at m f;rw[m]at f;cases f
theorem Xg(J:∀(j:Nat)(o:Oper)cs b,ops[j]?=some o->o.op≠.select cs b)(y:∀c a a' w,Q (.panic c) a w->Q (.panic c) a' w){H:Nat->Bool}:
  ∀(L o:List Nat){p:FE}{a:Act}{w:World},L.Perm o->o.Nodup->L.Pairwise (λa b=>¬Mx md ops b a)->o.Pairwise (λx j=>Mx md ops x j\/Com g ck ops x j\/(H x=true/\H j=true))->L.filter H=o.filter H->
   SK g ck P ops Q o p a w->wpOps P ops Q L a w
 |[],o,p,a,w,r,_,_,_,_,h=>by have:o=[]:=List.perm_nil.1 r.symm;subst this;exact h
 |j::L,o,p,a,w,r,C,v,F,hf,h=>by
  have W:j∈o:=r.subset (by simp);obtain⟨d,s,rfl⟩:=List.append_of_mem W;have Y:∀x∈d,x≠j:=by intro x hx e;subst e;exact(List.nodup_append.1 C).2.2 x hx x (by simp) rfl
  have G:L.Perm (d++s):=(List.perm_cons j).1 (r.trans List.perm_middle);have u:∀x∈d,H x=true->H j=true->False:=by
   intro x hx l t;rw[List.filter_cons_of_pos t,List.filter_append]at hf;cases f:d.filter H with
   |nil=>have:x∈d.filter H:=List.mem_filter.2 ⟨hx,l⟩;rw[f]at this;cases this
   |cons T ys=>
    rw[f,List.cons_append]at hf;injection hf with e1 a0;have:T∈d.filter H:=by rw[f];simp
    exact Y T (List.mem_filter.1 this).1 e1.symm
  have V:∀x∈d,Com g ck ops x j:=by
   intro x hx;rcases(List.pairwise_append.1 F).2.2 x hx j (by simp)with hd |hd |⟨l,t⟩
   ·exact absurd hd ((List.pairwise_cons.1 v).1 x (G.symm.subset (by simp[hx])))
   ·exact hd
   ·exact(u x hx l t).elim
  have K:(d++s).Sublist (d++j::s):=List.Sublist.append (List.Sublist.refl _) (List.sublist_cons_self _ _);rw[wpOps_cons];refine wpOp_mono (λa' w'⟨p',U⟩=>?_) (GM (SM J y d V h));refine Xg J y L (d++s) G (C.sublist K) (List.pairwise_cons.1 v).2 (F.sublist K) ?_ U;rw[List.filter_append]at hf⊢;cases m:H j with
  |false=>rw[List.filter_cons_of_neg (by simp[m]),List.filter_cons_of_neg (by simp[m])]at hf;exact hf
  |true=>have f:d.filter H=[]:=List.filter_eq_nil_iff.2 λx hx l=>u x hx l m;rw[List.filter_cons_of_pos m,List.filter_cons_of_pos m,f]at hf;rw[f];exact(List.cons.inj hf).2
def ZL(x:Nat):List Nat->List (List Nat)
 |[]=>[[x]]
 |y::l=>(x::y::l)::(ZL x l).map (y::·)
def Xh:List Nat->List (List Nat)
 |[]=>[[]]
 |x::l=>(Xh l).flatMap (ZL x)
theorem Hx(x:Nat):∀(d c:List Nat),d++x::c∈ZL x (d++c)
 |[],[]=>by simp[ZL]
 |[],e::c=>by simp[ZL]
 |e::d,c=>by simp only[List.cons_append,ZL,List.mem_cons,List.mem_map];exact .inr ⟨_,Hx x d c,rfl⟩
theorem Or:∀(l L:List Nat),L.Perm l->L∈Xh l
 |[],L,h=>by rw[List.perm_nil.1 h];simp[Xh]
 |x::l,L,h=>by have hx:x∈L:=h.symm.subset (by simp);obtain⟨d,c,rfl⟩:=List.append_of_mem hx;have:(d++c).Perm l:=(List.perm_cons x).1 (List.perm_middle.symm.trans h);simp only[Xh,List.mem_flatMap];exact⟨_,Or l _ this,Hx x d c⟩
def Ot{α:Type}(f:α->Bool):List α->Bool
 |[]=>false
 |a::l=>f a||Ot f l
theorem ZM{α:Type}{f:α->Bool}:∀{l:List α},Ot f l=true->∃a∈l,f a=true
 |[],h=>by simp[Ot]at h
 |a::l,h=>by
  simp only[Ot,Bool.or_eq_true]at h;rcases h with h |h
  ·exact⟨a,by simp,h⟩
  ·obtain⟨b,c,d⟩:=ZM h;exact⟨b,by simp[c],d⟩
def SS(ms:List Nat):List Nat->Bool
 |[]=>false
 |x::l=>Ot (λj=>Xe (ms.getD x 0) j) l||SS ms l
theorem Hy{ms:List Nat}(c:∀k x,(ms.getD k 0).testBit x=true->Mx md ops x k):∀{l:List Nat},SS ms l=true->¬l.Pairwise (λa b=>¬Mx md ops b a)
 |[],h=>by simp[SS]at h
 |x::l,h=>λd=>by
  simp only[SS,Bool.or_eq_true]at h;rcases h with h |h
  ·obtain⟨j,e,f⟩:=ZM h;exact(List.pairwise_cons.1 d).1 j e (c _ _ (ZJ.1 f))
  ·exact Hy c h (List.pairwise_cons.1 d).2
def X2(g:Oper->Bool)(ck:Nat->Nat->Bool)(ops:Array Oper)(c ms:List Nat):List Nat->Bool
 |[]=>true
 |x::l=>allB (λj=>Xe (ms.getD j 0) x||(aDw g ck ops x j||(WF c x&&WF c j))) l&&X2 g ck ops c ms l
theorem Cz{d ms:List Nat}(e:∀k x,(ms.getD k 0).testBit x=true->Mx md ops x k):∀{l:List Nat},X2 g ck ops d ms l=true->l.Pairwise (λx j=>Mx md ops x j\/Com g ck ops x j\/(WF d x=true/\WF d j=true))
 |[],_=>List.Pairwise.nil
 |x::l,h=>by
  simp only[X2,Bool.and_eq_true]at h;refine List.pairwise_cons.2 ⟨λj m=>?_,Cz e h.2⟩;have:=iY h.1 j m;simp only[Bool.or_eq_true,Bool.and_eq_true,ZJ]at this;rcases this with c |c |c
  ·exact .inl (e _ _ c)
  ·unfold aDw at c;split at c
   ·rename_i s r e1 f;exact .inr (.inl ⟨s,r,e1,f,c⟩)
   ·simp at c
  ·exact .inr (.inr c)
def aBP(g:Oper->Bool)(ck:Nat->Nat->Bool)(ops:Array Oper)(c ms:List Nat)(ord:List Nat):Bool:=
 SO ord&&(Nat.beq ord.length ops.size&&(allB (λj=>Nat.ble (j+1) ops.size) ord&&(allB (λj=>WF ord j) (List.range ops.size)&&X2 g ck ops c ms ord)))
def Sm(g:Oper->Bool)(ck:Nat->Nat->Bool)(md:Region.Mode)(ops:Array Oper)(c:List Nat)(os:List (List Nat)):Bool:=
 aBK ops.toList&&(Xf md 0 ops.toList&&(SO c&&(allB (λj=>Nat.ble (j+1) ops.size) c&&(allB (aBP g ck ops c (aBJ md ops.toList [])) os&&allB (λd=>SS (aBJ md ops.toList []) d||Ot (λo=>F6 (o.filter (WF c)) d) os) (Xh c)))))
theorem Xi{id:Nat}{r:List Nat}{os:List (List Nat)}{a:Act}{w:World}(a6:P.follows .mixedOrders=true)(F:Sm g ck .any ops r os=true)(a3:∀c a a' w,Q (.panic c) a w->Q (.panic c) a' w)
  (h:∀o∈os,SK g ck P ops Q o [] a {w with drawn:=w.drawn+1}):(Code.region id ops true).wp P Q a w:=by
 simp only[Sm,Bool.and_eq_true]at F;obtain⟨V,W,Y,a0,a1,a2⟩:=F;have C:=SQ (md:=.any) ops.toList [] [] rfl rfl (λk x hx=>by simp at hx);have a9:∀(j:Nat)(o:Oper)cs b,ops[j]?=some o->o.op≠.select cs b:=λj o cs b d=>SR _ V o (by simpa using Array.mem_of_getElem? d) cs b;refine wp_region_draw λt=>?_;simp only[Region.schedule,a6,Bool.true_or,if_true];obtain⟨m,u⟩:=aBO (md:=.any) (ops:=ops) (λj o e d s a4=>by have:=MT _ 0 W j o (by simpa using d) e s a4;omega) ops.size t (Array.replicate ops.size false) (List.range ops.size) (by simp) (by simp) (by
  intro j o d l;have a5:=(Array.getElem?_eq_some_iff.1 d).1;simp[a5]at l) (λj=>by
   constructor
   ·intro l;have:=List.mem_range.1 l;exact⟨this,by simp[this]⟩
   ·rintro⟨l,_⟩;exact List.mem_range.2 l) List.nodup_range
 show wpOps P ops Q (Region.linearise.go .any ops ops.size t (Array.replicate ops.size false) []) a _;generalize Region.linearise.go .any ops ops.size t (Array.replicate ops.size false) []=L at m u;have y:L.Nodup:=m.nodup_iff.2 List.nodup_range;have b0:(L.filter (WF r)).Perm r:=by
  refine(List.perm_ext_iff_of_nodup (y.sublist List.filter_sublist) (oW Y)).2 λx=>?_;rw[List.mem_filter,MR];constructor
  ·exactλhx=>hx.2
  ·intro hx;exact⟨m.symm.subset (List.mem_range.2 (by have:=Nat.le_of_ble_eq_true (iY a0 x hx);omega)),hx⟩
 have f:=iY a2 _ (Or _ _ b0);simp only[Bool.or_eq_true]at f;rcases f with f |f
 ·exact absurd (u.sublist List.filter_sublist) (Hy C f)
 ·obtain⟨o,d,s⟩:=ZM f;have v:=iY a1 o d;simp only[aBP,Bool.and_eq_true]at v;obtain⟨J,b1,K,T,U⟩:=v;have G:=oW J;have a7:L.Perm o:=(List.perm_ext_iff_of_nodup y G).2 λx=>by
   constructor
   ·intro hx;exact MR.1 (iY T x (m.subset hx))
   ·intro hx;exact m.symm.subset (List.mem_range.2 (by have:=Nat.le_of_ble_eq_true (iY K x hx);omega))
  exact Xg (md:=.any) (H:=WF r) a9 a3 L o a7 G u (Cz C U) (Sk s).symm (h o d)
end
end Go.Eng

namespace Go.Eng
section
variable{P:Program}{w:World}{G:Gh}{st:St}{sl:Nat->Option Value}{act:Act}
theorem J0(f:dI w G st sl){r u:Nat}{a:xZ}(g:lH st r u [] a):dN w G st (.vw r u []) (G.H r []):=by obtain⟨c,h,d⟩:=g;have e:a.uid=u:=d;refine⟨by rw[<-e];exact(f.arrs r a c).1,λa' j=>⟨rfl,⟨_,rfl⟩,trivial⟩⟩
theorem Sn(e:dI w G st sl){t ty:TypeId}{ti a3:TI}(C:lN P t ti)(F:lN P ti.e a3)(H:ti.sl=true){d:Nat}{b5:Option (List LT)}{x b0:A}{a4 yv:Value}{s:St}
  (hx:dN w G st x a4)(J:dN w G st b0 yv)(h:IM st d a3 ti.e b5 x b0=some s):
  ∃nv w' G',(Builtin.append_ #[t,t] ty #[a4,yv]).run P w=.ok nv w'/\Fr w G w' G'/\Le w G st w' G' s/\dI w' G' s (yK sl d nv):=by
 unfold IM at h;split at h
 ·obtain⟨ns,g,Q⟩:=bind_some h;obtain⟨a2,v,y⟩:=bind_some Q;simp[ok]at y;subst y;have b6:a4=.slice none 0 0:=hx;subst b6;cases ns with
  |flat ys=>exact WA e C F H (SH e J g) v
  |cells n l=>exact HK e C F H J g v
 ·rename_i r u p;obtain⟨q,g,Q⟩:=bind_some h;obtain⟨ns,v,y⟩:=bind_some Q;obtain⟨s1,T,Y⟩:=bind_some y;obtain⟨a2,U,V⟩:=bind_some Y;simp[ok]at V;subst V;obtain⟨a,j,K,b1,b2,b3,L,b4,f⟩:=mQ e hx g;obtain⟨ad,n,c,a1,W,a9⟩:=id f;rw[a1]at f⊢;have a6:yB s1 d q.2.1 a3 q.2.2.1 (q.2.2.2.take n) ns=some a2:=by rw[<-W,List.take_length];exact U
  cases ns with
  |flat ys=>exact FS e C F H j K L T f (Nat.le_refl n) (SH e J v) a6
  |cells m l=>exact DN e C F H j K L T f (Nat.le_refl n) J v a6
 ·rename_i r u n;obtain⟨q,g,Q⟩:=bind_some h;obtain⟨v,y⟩:=aU Q;obtain⟨ns,T,Y⟩:=bind_some y;obtain⟨s1,U,V⟩:=bind_some Y;obtain⟨a2,a7,a5⟩:=bind_some V;simp[ok]at a5;subst a5;obtain⟨a0,v0,_,_,_⟩:=IU g;obtain⟨a,j,K,b1,b2,b3,L,b4,f⟩:=mQ e (J0 e v0) g;obtain⟨ad,m,c,a1,W,a9⟩:=hx.2 a j;rw[a1]at f;subst a9;cases ns with
  |flat ys=>exact FS e C F H j K L U f W (SH e J T) a7
  |cells b7 l=>exact DN e C F H j K L U f W J T a7
 ·simp[aG]at h
theorem aDA(g:dI w G st sl){t:TypeId}{ti f:TI}(v:lN P t ti)(y:lN P ti.e f)(K:ti.sl=true){c:Nat}{parts:Array (Nat×Operand)}(hx:∀p∈parts.toList,dN w G st (eK st.sl p.2) (act.eval p.2))
  (H:c*f.lv.length<=16777216)(T:c<=16777216){l:List A}(F:cellsOf st c parts f=some l){d:Nat}(C:d<500\/600<=d):
  H6 P w G st sl act d (.buildSlice t c parts) (.st ((st.newBox d l).put d (.sb d st.ctr f.lv.length c))):=by
 intro ot J;obtain⟨Q,h,j,L⟩:=DJ g v y K hx H F;obtain⟨w',G',e,r,s,u,m⟩:=BV g C ti.e j;refine⟨.value (.slice (some ⟨w.heap.size,0,none⟩) c c),_,w',G',?_,.inl rfl,by rw[e];exact HE.alloc _ _,r,s.trans (Le.put _ _ _ _ _),u.put ?_⟩
 ·rw[e];simp[execOp,J,h]
 ·refine⟨Nat.lt_succ_self _,λx hx U=>?_⟩;rw[m];exact⟨rfl,by unfold maxLen;omega⟩
theorem So{w:World}{G:Gh}{d:Nat}{e:TypeId}{el:List LT}{f:Array Value}{h:TypeId}(o:Obj)(l:o=.cells f h)(c:Nat)(j:c<=maxLen)(m:c*el.length<=f.size):
  yH (w.alloc o) (G.fresh w.heap.size d (.slice (some ⟨w.heap.size,0,none⟩) 0 c)) [] d e el [] (.slice (some ⟨w.heap.size,0,none⟩) 0 c) []:=by
 refine⟨_,_,_,rfl,rfl,Nat.zero_le _,j,by simp,λad g=>?_⟩;injection g with g;subst g;subst l;exact⟨rfl,by simp[Gh.fresh],f,h,heap_alloc_new w _,by simpa using m,λi r=>by omega⟩
theorem aBQ(m:dI w G st sl){t:TypeId}{ti C:TI}(a5:lN P t ti)(a6:lN P ti.e C)(c0:ti.sl=true){c:Nat}{parts:Array (Nat×Operand)}(hx:∀p∈parts.toList,dN w G st (eK st.sl p.2) (act.eval p.2))
  (b3:c*C.lv.length<=16777216)(c6:c<=16777216){l:List A}(b1:cellsOf st c parts C=some l)(c1:jQ st l=true){d b:Nat}{el:List LT}{s:St}
  (h:yB st b ti.e C el [] (.cells c l)=some s):H6 P w G st sl act d (.buildSlice t c parts) (.st (s.put d (.vw b (iV s b []) []))):=by
 intro ot b5;obtain⟨g,a1,F,Q⟩:=DJ m a5 a6 c0 hx b3 b1;simp only[yB]at h;obtain⟨T,a3⟩:=aU h;simp only[Bool.and_eq_true]at T;have W:=Nat.eq_of_beq_eq_true T.2;have a2:=IZ m c1 F;have b0:=(dG.1 F).1;have y:g.toList.length=c*el.length:=by rw[b0,Q,W]
 let o:Obj:=.cells g ti.e
 obtain⟨c9,d0,d1⟩:=Ht m o ⟨_,_,_,rfl⟩ (So (w:=w) (G:=G) (d:=b) (e:=ti.e) (el:=el) o rfl c (by unfold maxLen;omega) (by simpa using Nat.le_of_eq y.symm));have c2:(sE (el.map fX) c).length=c*el.length:=by rw[uO];simp
 have f:=heap_alloc_new w o;have c7:∀b',(G.fresh w.heap.size b (.slice (some ⟨w.heap.size,0,none⟩) 0 c)).own b'≠.out->b'≠w.heap.size->((w.alloc o).setRow w.heap.size (qL g.toList (0+0*el.length) (sE (el.map fX) c)).toArray).heap[b']?=(w.alloc o).heap[b']?:=λb' _ b4=>setRow_other _ _ _ _ b4;have a9:=setRow_heap (w.alloc o) w.heap.size g (qL g.toList (0+0*el.length) (sE (el.map fX) c)).toArray ti.e (0,0) f;have b7:yH ((w.alloc o).setRow w.heap.size (qL g.toList (0+0*el.length) (sE (el.map fX) c)).toArray) (G.fresh w.heap.size b (.slice (some ⟨w.heap.size,0,none⟩) 0 c)) [] b ti.e el [] (.slice (some ⟨w.heap.size,0,none⟩) 0 c) []:=by refine⟨_,_,_,rfl,rfl,Nat.zero_le _,by unfold maxLen;omega,by simp,λad H=>?_⟩;injection H with H;subst H;refine⟨rfl,by simp[Gh.fresh],_,ti.e,a9,?_,λi c5=>by omega⟩;show _<=(qL g.toList (0+0*el.length) (sE (el.map fX) c)).length;rw[uP (by rw[c2];omega),y];show 0+c*el.length<=_;omega
 have K:∀b',G.own b'≠.out->(G.fresh w.heap.size b (.slice (some ⟨w.heap.size,0,none⟩) 0 c)).own b'=G.own b'/\((w.alloc o).setRow w.heap.size (qL g.toList (0+0*el.length) (sE (el.map fX) c)).toArray).heap[b']?=w.heap[b']?:=λb' j=>by have J:=m.live b' j;refine⟨by simp[Gh.fresh,Nat.ne_of_lt J],?_⟩;rw[setRow_other _ _ _ _ (Nat.ne_of_lt J),heap_alloc_old w o b' J]
 have U:(G.fresh w.heap.size b (.slice (some ⟨w.heap.size,0,none⟩) 0 c)).H b []=.slice (some ⟨w.heap.size,0,none⟩) 0 c:=by simp[Gh.fresh]
 obtain⟨a0,c3⟩:=iK m (stg:=st) (d:=b) (e:=ti.e) (el:=el) (data:=[]) (w':=(w.alloc o).setRow w.heap.size (qL g.toList (0+0*el.length) (sE (el.map fX) c)).toArray) (G':=G.fresh w.heap.size b (.slice (some ⟨w.heap.size,0,none⟩) 0 c)) ⟨rfl,rfl,Nat.le_refl _⟩
  (λr b6 a a7=>.inl ⟨a7,λp=>by simp[Gh.fresh,b6],λb p f=>by obtain⟨u,v⟩:=K b (by rw[f];simp);exact⟨u.trans f,v⟩⟩)
  (λb f=>by obtain⟨u,v⟩:=K b (by rw[f];simp);exact⟨u.trans f,v⟩) (λ_=>rfl) (λb f=>by obtain⟨u,v⟩:=K b (by rw[f];simp);exact⟨u.trans f,v⟩)
  (by rw[U];exact b7) (λb' j=>by
   rw[setRow_size,World.size_alloc];simp only[Gh.fresh]at j;split at j
   ·omega
   ·have:=m.live b' j;omega) (On m ⟨_,_,_,rfl⟩)
 have b2:look (st.newArr b ti.e el []).ar b=some {e:=ti.e,el:=el,data:=[],uid:=st.ctr,hv:=YN st.ctr,dv:=st.ctr}:=by simp[St.newArr,bR]
 obtain⟨L,c4,z2,z3,z4,z5⟩:=SI (n0:=0) (c':=c) f (by simp at y⊢;omega) (λq c8=>by simp) y c3 b2 rfl rfl rfl U (by omega) (pY a0 _ _ F) (by rw[Q,W]) a2 a3 P;obtain⟨a',V⟩:=z5;have Y:=Fv (w:=w.alloc o) (G:=L) (stg:=s) V (z3.arrs b a' V).1;rw[z4,Nat.zero_add]at Y;refine⟨.value (.slice (some ⟨w.heap.size,0,none⟩) c c),_,w.alloc o,L,?_,.inl rfl,HE.alloc _ _,?_,(a0.trans z2).trans (Le.put _ _ _ _ _),z3.put Y⟩
 ·simp[execOp,b5,a1];rfl
 ·have a4:Fr w G ((w.alloc o).setRow w.heap.size (qL g.toList (0+0*el.length) (sE (el.map fX) c)).toArray) (G.fresh w.heap.size b (.slice (some ⟨w.heap.size,0,none⟩) 0 c)):=by
   refine⟨rfl,rfl,rfl,by rw[setRow_size,World.size_alloc];omega,λb' j _=>⟨?_,by simp[Gh.fresh,Nat.ne_of_lt j]⟩,λ_ _ _=>rfl⟩;rw[setRow_other _ _ _ _ (Nat.ne_of_lt j),heap_alloc_old w o b' j]
  exact a4.trans c4
end
end Go.Eng

namespace Go.Eng
section
variable{P:Program}{w w':World}{G:Gh}{st:St}{sl:Nat->Option Value}
theorem JE(g:dI w G st sl){r:Nat}{a:xZ}{data:LD}(K:look st.ar r=some a)(a0:a.stale=[])(H:w'.os=w.os/\w'.tape=w.tape/\w'.output=w.output)(P:w.heap.size<=w'.heap.size)
  (L:∀b,b<w.heap.size->G.own b≠.arr r []->w'.heap[b]?=w.heap[b]?)(Y:yH w' G [] r a.e a.el [] (G.H r []) data):Fr w G w' G/\Le w G st w' G (LV st r a data)/\dI w' G (LV st r a data) sl:=by
 have s:∀b,G.own b≠.out->(∀p,G.own b≠.arr r p)->w'.heap[b]?=w.heap[b]?:=λb f l=>L b (g.live b f) (l []);have U:∀b,G.own b=.fz->G.own b=.fz/\w'.heap[b]?=w.heap[b]?:=λb h=>⟨h,s b (by rw[h];simp) (λp=>by rw[h];simp)⟩;obtain⟨a1,a2,a3,a4⟩:=g.arrs r a K;have F:Le w G st w' G (LV st r a data):=by
  refine⟨Nat.le_succ _,λr' u p a' m T=>?_,λb J _ hx=>⟨J,hx,rfl,rfl⟩,λr' a' m d=>?_,U⟩
  ·obtain⟨f,l,C⟩:=T;simp only[LV,bR]at f;by_cases e:r'=r
   ·subst e;rw[if_pos rfl]at f;injection f with f;subst f;cases p with
    |nil=>exact⟨a,⟨K,l,C⟩,rfl,rfl,rfl,λ_=>trivial⟩
    |cons c p=>exfalso;simp only[jL]at C;have:=V4 st.ctr p.length (by simp only[List.length_cons]at l;omega);omega
   ·rw[if_neg e]at f;exact⟨a',⟨f,l,C⟩,rfl,rfl,rfl,λh=>h⟩
  ·simp only[LV,bR]at d;by_cases e:r'=r
   ·subst e;rw[if_pos rfl]at d;injection d with d;subst d;exact absurd m (Nat.lt_irrefl _)
   ·rw[if_neg e]at d;exact⟨a',d,rfl,λb p j=>⟨⟨p,j⟩,s b (by rw[j];simp) (λp'=>by rw[j];intro h;injection h with h;exact e h)⟩⟩
 refine⟨⟨H.1,H.2.1,H.2.2,P,λb V y=>⟨L b V (by rcases y with y |y<;>rw[y]<;>simp),rfl⟩,λ_ _ _=>rfl⟩,F,?_⟩;refine g.step F (λt v hv=>dR F _ _ (g.slots t v hv)) (λb x hx=>.inl ⟨hx,rfl,?_,(g.boxes b x hx).2.1⟩) (λb b' x J h Q W=>g.apartB b b' x J h Q W) (λr' a' d=>?_) (λb h=>Nat.lt_of_lt_of_le (g.live b h) P) g.hdr
 ·have:=(g.boxes b x hx).2.1;exact s _ (by rw[this];simp) (λp=>by rw[this];simp)
 ·simp only[LV,bR]at d;by_cases e:r'=r
  ·subst e;rw[if_pos rfl]at d;injection d with d;subst d;refine .inr ⟨Nat.lt_succ_of_lt a1,Nat.lt_succ_self _,⟨rfl,λu m=>by simp[YN]at m;subst m;exact Nat.lt_succ_self _⟩,?_⟩;simp only[a0];exact Y
  ·rw[if_neg e]at d;exact .inl ⟨d,λ_=>rfl,λb p j=>⟨j,s b (by rw[j];simp) (λp'=>by rw[j];intro h;injection h with h;exact e h)⟩⟩
theorem RH{z:Array Value}{n i j:Nat}(c:j<z.size)(d:i<n):(Builtin.zeroCells z n).toList[i*z.size+j]?=z[j]?:=by
 have e:i*z.size+j<n*z.size:=by have:(i+1)*z.size<=n*z.size:=Nat.mul_le_mul_right _ d;rw[Nat.add_mul,Nat.one_mul]at this;omega
 have f:(i*z.size+j)%z.size=j:=by rw[Nat.mul_comm,Nat.mul_add_mod,Nat.mod_eq_of_lt c]
 rw[Array.getElem?_toList];unfold Builtin.zeroCells;rw[Array.getElem?_map,Array.getElem?_range,if_pos e];simp only[Option.map_some,f];rw[getElem!_def,Array.getElem?_eq_getElem c]
theorem Xj(W:dI w G st sl){t ty:TypeId}{ti b4:TI}(e0:lN P t ti)(e2:lN P ti.e b4)(f5:ti.sl=true){b5:Array TypeId}(c1:b5[0]?=some t){x:A}{v:Value}(hx:dN w G st x v){s:St}(h:F1 st b4.lv x=some s):
  ∃w',(Builtin.clear_ b5 ty #[v]).run P w=.ok (.tuple #[]) w'/\Fr w G w' G/\Le w G st w' G s/\dI w' G s sl:=by
 unfold F1 at h;split at h
 ·rename_i r u k n d;obtain⟨a,f,l⟩:=bind_some h;have Q:=eH f;split at l
  ·rename_i t1 h1 t2 h8 a7 a1 e6;obtain⟨L,c0⟩:=aU l;simp[ok]at c0;subst c0;simp only[Bool.and_eq_true]at L;have e7:b4.lv=a.el:=by rw[e6,a1];exact(iG _ _ L.2).symm
   rw[<-a1]at L⊢;have c2:=L.1;obtain⟨f0,ad,m,c,c6,h9,U⟩:=hx.2 a Q;obtain⟨_,_,_,Y⟩:=W.arrs _ a Q.1;rw[a7]at Y;have d3:=Y;obtain⟨g7,m',c',V,i1,g3,g4,g5,g6⟩:=Y;rw[c6]at V;injection V with V g1 g2;subst V;subst g1;subst g2;subst f0;have f3:0<a.el.length:=by rw[a1];simp
   obtain⟨i0,e1,g9,h0⟩:=e0.sl f5;obtain⟨g8,i,z,h2,d1,h3,h4,d2,K,h5,h6⟩:=e2.ex;rw[e7]at K;have T:z.cells.size=a.el.length:=by
    have:z.cells.toList.length=a.el.length:=by rw[K];simp
    simpa using this
   have g0:∀w,(zeroValue ti.e).run P w=.ok z w:=λw=>by simp[zeroValue,typeInfo,d1,d2]
   by_cases f1:n=0
   ·subst f1;have hd:a.data.take d++List.replicate 0 (zG (fT a.el))=a.data:=by
     rw[List.replicate_zero,List.append_nil];exact List.take_of_length_le (by omega)
    rw[hd];obtain⟨b0,b1,b2⟩:=JE (w':=w) W Q.1 a7 ⟨rfl,rfl,rfl⟩ (Nat.le_refl _) (λ_ _ _=>rfl) d3;refine⟨w,?_,b0,b1,b2⟩;rw[U];generalize(if c=d then ad else ad.map (·.add (d*a.el.length)))=y;cases y<;>simp[Builtin.clear_,c1,run_underlying e1]
   ·cases ad with
    |none=>have:=g5 rfl;omega
    |some ad=>
     obtain⟨b6,b7,cs,H,J,c9,d0⟩:=g6 ad rfl;obtain⟨b,o,i2⟩:=ad;simp only at b6;subst b6;have f2:¬c=d:=by omega
     rw[if_neg f2]at U;simp only[Option.map_some,kA]at U;have a6:(Builtin.zeroCells z.cells n).toList.length=n*a.el.length:=by simp[size_zeroCells,T]
     have h7:d*a.el.length+n*a.el.length<=c*a.el.length:=by rw[<-Nat.add_mul];exact Nat.mul_le_mul_right _ (by omega)
     simp only at c9;have a5:o+d*a.el.length+(Builtin.zeroCells z.cells n).toList.length<=cs.toList.length:=by rw[a6];simp;omega
     have f9:∀u∈(Builtin.zeroCells z.cells n).toList,u.oneCell'=true:=λu f8=>by
      obtain⟨q,a4,rfl⟩:=List.mem_iff_getElem.1 f8;have e4:q=q/a.el.length*z.cells.size+q%a.el.length:=by rw[T,Nat.mul_comm];exact(Nat.div_add_mod q a.el.length).symm
      have a3:q%a.el.length<z.cells.size:=by rw[T];exact Nat.mod_lt _ f3
      have a2:q/a.el.length<n:=by rw[a6]at a4;exact Nat.div_lt_of_lt_mul (by rw[Nat.mul_comm];exact a4)
      have f:=RH (z:=z.cells) a3 a2;rw[<-e4,List.getElem?_eq_getElem a4]at f;have l:z.cells[q%a.el.length]?=(a.el.map fX)[q%a.el.length]?:=by rw[<-Array.getElem?_toList,K]
      rw[l,List.getElem?_map]at f;cases ht:a.el[q%a.el.length]?with
      |none=>rw[ht]at f;cases f
      |some b3=>rw[ht]at f;injection f with f;rw[f];obtain⟨a9,rfl⟩:=PK c2 _ b3 ht;rfl
     have c5:=run_storeCells_at (P:=P) b (o+d*a.el.length) H (Builtin.zeroCells z.cells n).toList 0 cs w J (by simpa using a5) f9;simp only[Nat.add_zero]at c5;let g:Array Value:=(qL cs.toList (o+d*a.el.length) (Builtin.zeroCells z.cells n).toList).toArray
     have f6:(storeCells ⟨b,o+d*a.el.length,none⟩ (Builtin.zeroCells z.cells n).toList 0).run P w=.ok () (w.setRow b g):=by rw[c5];rfl
     have f4:yH (w.setRow b g) G [] r a.e a.el [] (G.H r []) (a.data.take d++List.replicate n (zG (fT a.el))):=by
      rw[c6];refine⟨_,_,_,rfl,by simp;omega,g3,g4,by simp,λad a0=>?_⟩;injection a0 with a0;subst a0;refine⟨rfl,b7,g,H,setRow_heap w b cs g H (0,0) J,?_,λi a2=>?_⟩
      ·show _<=(qL cs.toList (o+d*a.el.length) (Builtin.zeroCells z.cells n).toList).length;rw[uP a5];simp;omega
      ·refine JA a.el 0 (λj b3 F=>?_);have a3:j<a.el.length:=(List.getElem?_eq_some_iff.1 F).1;have C:(w.setRow b g).cell? ⟨b,o+i*a.el.length+j,none⟩=(qL cs.toList (o+d*a.el.length) (Builtin.zeroCells z.cells n).toList)[o+i*a.el.length+j]?:=by
        simp[World.cell?,setRow_heap w b cs g H (0,0) J,g]
       rw[vL a5,a6]at C;obtain⟨a9,rfl⟩:=PK c2 j b3 F;simp only[Nat.zero_add];by_cases c4:i<d
       ·have c3:(i+1)*a.el.length<=d*a.el.length:=Nat.mul_le_mul_right _ c4;rw[Nat.add_mul,Nat.one_mul]at c3;rw[if_neg (by omega)]at C;obtain⟨v0,c7,c8⟩:=BS (d0 i a2) j _ F;simp only[Nat.zero_add]at c7 c8;have hg:(a.data.take d++List.replicate n (zG (fT a.el))).getD i (.i 0)=a.data.getD i (.i 0):=by
         simp only[List.getD];rw[List.getElem?_append_left (by simp;omega),List.getElem?_take,if_pos c4]
        rw[hg];exact⟨v0,by rw[C];simpa[World.cell?,J]using c7,c8⟩
       ·have c3:d*a.el.length<=i*a.el.length:=Nat.mul_le_mul_right _ (by omega);have e5:(i+1)*a.el.length<=(d+n)*a.el.length:=Nat.mul_le_mul_right _ (by omega);rw[Nat.add_mul,Nat.one_mul,Nat.add_mul]at e5;rw[if_pos (by omega)]at C;have f7:o+i*a.el.length+j-(o+d*a.el.length)=(i-d)*z.cells.size+j:=by rw[T,Nat.sub_mul];omega
        have f:=RH (z:=z.cells) (n:=n) (i:=i-d) (j:=j) (by omega) (by omega);have l:z.cells[j]?=(a.el.map fX)[j]?:=by rw[<-Array.getElem?_toList,K]
        rw[f7,f,l,List.getElem?_map,F]at C;have hg:(a.data.take d++List.replicate n (zG (fT a.el))).getD i (.i 0)=zG (fT a.el):=by simp only[List.getD];rw[List.getElem?_append_right (by simp;omega),List.getElem?_replicate,if_pos (by simp;omega)];rfl
        rw[hg,IW (zK a.el) j a3,JC a.el j _ F];exact⟨_,C,⟨rfl,tO a9,tP a9⟩⟩
     obtain⟨b0,b1,b2⟩:=JE (w':=w.setRow b g) W Q.1 a7 ⟨rfl,rfl,rfl⟩ (by simp) (λb' _ e3=>setRow_other w b b' g (λe=>e3 (by rw[e];exact b7))) f4;refine⟨_,?_,b0,b1,b2⟩;rw[U];obtain⟨n',rfl⟩:∃n',n=n'+1:=⟨n-1,by omega⟩;simp[Builtin.clear_,c1,run_underlying e1,g0,f6]
  ·simp[aG]at l
 ·simp[aG]at h
end
end Go.Eng

namespace Go.Eng
section
variable{P:Program}{w:World}{G:Gh}{st:St}{sl:Nat->Option Value}{act:Act}{g:Oper->Bool}
def Hz(g:Oper->Bool)(P:Program)(w:World)(G:Gh)(st:St)(sl:Nat->Option Value)(act:Act)(d:Nat)(ot:Oper)(r:uM):Prop:=
 match FA g ot with
 |.pure=>∃u,(∀w',(execOp act.eval ot).run P w'=.ok (.value u) w')/\∃G',Fr w G w G'/\RD w G st sl d u w G' r
 |.load=>∃u,(∀w',HE w w'->(execOp act.eval ot).run P w'=.ok (.value u) w')/\∃G',Fr w G w G'/\RD w G st sl d u w G' r
 |.grow=>∀(K:Act->World->Prop)(Q:Exit->Act->World->Prop),(∀v w' G',HE w w'->Fr w G w' G'->RD w G st sl d v w' G' r->K (act.put ot.dst v) w')->ot.wp P act w K Q
 |.other=>∀(K:Act->World->Prop)(Q:Exit->Act->World->Prop),(∀v w' G',Fr w G w' G'->RD w G st sl d v w' G' r->K (act.put ot.dst v) w')->ot.wp P act w K Q
theorem lO(f:dI w G st sl){ot:Oper}{a:A}{d:Nat}(j:FA g ot=.pure)(h:DH P w G st act ot.op a):Hz g P w G st sl act d ot (.val a):=by unfold Hz;rw[j];obtain⟨u,c,e⟩:=h ot rfl;exact⟨u,c,G,Fr.refl w G,Le.refl w G st,f,e⟩
theorem aFf(f:dI w G st sl){ot:Oper}{a:A}{d:Nat}(j:FA g ot=.load)(h:Fu P w G st act ot.op a):Hz g P w G st sl act d ot (.val a):=by unfold Hz;rw[j];obtain⟨u,c,e⟩:=h ot rfl;exact⟨u,c,G,Fr.refl w G,Le.refl w G st,f,e⟩
theorem zX{ot:Oper}{d:Nat}{r:uM}(h:FA g ot=.pure){u:Value}{G':Gh}(c:∀w',(execOp act.eval ot).run P w'=.ok (.value u) w')(e:Fr w G w G')(f:RD w G st sl d u w G' r):Hz g P w G st sl act d ot r:=by unfold Hz;rw[h];exact⟨u,c,G',e,f⟩
theorem Ou{ot:Oper}{nx:Next}{u:Value}{w':World}{K:Act->World->Prop}{Q:Exit->Act->World->Prop}(h:(execOp act.eval ot).run P w=.ok nx w')(d:MJ nx u)(c:K (act.put ot.dst u) w'):ot.wp P act w K Q:=by
 unfold Oper.wp;rw[h];rcases d with rfl |⟨rfl,rfl⟩
 ·exact c
 ·exact c
theorem DP{ot:Oper}{d:Nat}{r:uM}(s:FA g ot=.grow)(h:H6 P w G st sl act d ot.op r):Hz g P w G st sl act d ot r:=by unfold Hz;rw[s];obtain⟨nx,u,w',G',c,e,f,j,l⟩:=h ot rfl;exactλK Q m=>Ou c e (m u w' G' f j l)
theorem yL{ot:Oper}{d:Nat}{r:uM}(l:FA g ot=.other){nx:Next}{u:Value}{w':World}{G':Gh}(c:(execOp act.eval ot).run P w=.ok nx w')(e:MJ nx u)(f:Fr w G w' G')(h:RD w G st sl d u w' G' r):Hz g P w G st sl act d ot r:=by unfold Hz;rw[l];exactλK Q j=>Ou c e (j u w' G' f h)
def Sp(w:World)(G:Gh)(st:St)(act:Act):Op->Prop
 |.pick c a b=>dN w G st (eK st.sl c) (act.eval c)/\(eK st.sl c=.bool true->dN w G st (eK st.sl a) (act.eval a))/\(eK st.sl c=.bool false->dN w G st (eK st.sl b) (act.eval b))
 |op=>∀x∈op.operands,dN w G st (eK st.sl x) (act.eval x)
structure aBR(P:Program)(g:Ifn):Prop where
 fn:∃f,P.funcs[g.fn]?=some f/\f.name≠ "runtime.NumGoroutine"/\f.body.isNone=false
 run:∀{w:World}{G:Gh}{st st':St}{a:A}{vs:List Value}{ext:Nat->Value},g.run st=some (a,st')->vs.length=g.np->g.np<=500->dI w G st (λ_=>none)->(∀t,t<1000->dN w G st (st.sl.get t) ((vs[t]?).getD undef))->(∀t,1000<=t->dN w G st (st.sl.get t) (ext t))->
  Calls P g.fn ⟨vs⟩ w (λe w'=>∃v G',e=.returned v/\Fr w G w' G'/\dI w' G' st' (λ_=>none)/\dN w' G' st' a v/\∀t,1000<=t->dN w' G' st' (st'.sl.get t) (ext t))
structure jV(P:Program)(E:fC)(ctx:sJ):Prop where
 fn:∀m s,E.sg.look m=some s->∃f,P.funcs[s.fn]?=some f/\f.name≠ "runtime.NumGoroutine"/\f.body.isNone=false
 call:∀{w:World}{G:Gh}{st st':St}{sl:Nat->Option Value}{d m:Nat}{s:CV}{as:List A}{vs:List Value},(d<500\/600<=d)->E.sg.look m=some s->dI w G st sl->eT w G st as vs->QW E ctx st d m s as=some st'->
  Calls P s.fn ⟨vs⟩ w (λe w'=>∃v G',e=.returned v/\(gJ s.ps=true->HE w w')/\Fr w G w' G'/\Le w G st w' G' st'/\dI w' G' st' (yK sl d v))
 gd:∀{w:World}{G:Gh}{st:St}{sl:Nat->Option Value}{m:Nat}{s:CV}{as:List A}{vs:List Value}{agg:Bool}{lv:List LT}{ds:List (Nat×Nat)}{gs:List Nat}{xs:LD}{r:uM},E.sg.look m=some s->s.rs=[.val agg lv]->dI w G st sl->eT w G st as vs->
  sK E st as s.ps as=some ([],gs,ds,xs)->iS s.ps=true->(rL ds=false\/sC lv=true)->YS ctx true m agg lv ds xs=some r->
  ∃a,r=.val a/\Calls P s.fn ⟨vs⟩ w (λe w'=>∃v G',e=.returned v/\HE w w'/\Fr w G w' G'/\Le w G st w' G' st/\dI w' G' st sl/\dN w' G' st a v)
 inl:∀q g,E.ic ctx q=some g->aBR P g
theorem J1{P:Program}{E:fC}{ctx:sJ}(l:jV P E ctx){m:Nat}{s:CV}(v:E.sg.look m=some s){ot:Oper}{c:Call}{f:Operand}{vs caps:List Value}(u:ot.op=.call c)(hf:c.callee=.value f)(hv:act.eval f=.func (.func s.fn) #[] ⟨caps⟩)
  (r:c.args.toList.map act.eval=vs):(execOp act.eval ot).run P w=.ok (.enter s.fn ⟨vs++caps⟩) w:=by
 obtain⟨fn,d,g,h⟩:=l.fn m s v;have t:c.args.map act.eval=⟨vs⟩:=by apply Array.ext';simpa using r
 have j:fn.body≠none:=λe=>by simp[e]at h
 simp[execOp,u,resolve,hf,hv,Deferred.ofValue,invoke,callFunc,d,g,j,t]
theorem aGg{P:Program}{w:World}{act:Act}{t:TypeId}{x i:Operand}{ot:Oper}{u:Value}(c:ot.op=.indexAddr t x i)(h:(Instr.indexAt t (act.eval x) (act.eval i)).run P w=.ok u w):(execOp act.eval ot).run P w=.ok (.value u) w:=by simp[execOp,c,h]
theorem u9{E:fC}{m:fI}{ctx:sJ}(c8:gY P E)(W:jV P E ctx)(a1:dI w G st sl){ot:Oper}{d:Nat}(a5:d<500\/600<=d)(hd:d=HB m.nb+ot.dst.getD 4000)(b7:LH m ot=none){c:Call}(L:ot.op=.call c)(hx:∀x∈c.operands,dN w G st (eK st.sl x) (act.eval x)){gd:Bool}{f:Operand}(hf:c.callee=.value f){r:uM}
  (h:SD E m ctx true gd st d c.args (eK st.sl f)=some r):Hz (jT E m) P w G st sl act d ot r:=by
 have a6:=hx f (by simp[Call.operands,hf]);cases Y:eK st.sl f with
 |fn n caps=>
  rw[Y]at h a6;simp only[SD]at h;obtain⟨s,F,b1⟩:=bind_some h;obtain⟨b2,y⟩:=aU b1;have c1:=Nat.eq_of_beq_eq_true b2;obtain⟨a4,b6,b5⟩:=a6;have b4:=PE (w:=w) (G:=G) (st:=st) (act:=act) c.args.toList (λx c4=>hx x (by simp only[Call.operands,Array.mem_append];exact .inr (by simpa using c4)));have a2:=MK b4 b5;have c3:=J1 (w:=w) (act:=act) W F L hf (caps:=a4) (by rw[c1];exact b6) rfl;have key:∀(R:Prop),(Calls P s.fn ⟨c.args.toList.map act.eval++a4⟩ w (λe w'=>∃v G',e=.returned v/\(R->HE w w')/\Fr w G w' G'/\RD w G st sl d v w' G' r))->(gJ s.ps=true->R)->Hz (jT E m) P w G st sl act d ot r:=by
   intro R a3 b3;have a9:∀(K:Act->World->Prop)(Q:Exit->Act->World->Prop),(∀v w' G',(R->HE w w')->Fr w G w' G'->RD w G st sl d v w' G' r->K (act.put ot.dst v) w')->ot.wp P act w K Q:=by intro K Q J;unfold Oper.wp;rw[c3];refine Calls.mono a3 λe w' C=>?_;obtain⟨v,G',rfl,t,j,l⟩:=C;exact J v w' G' t j l
   unfold Hz;have a7:kd ot.op=.other:=by rw[L];simp[kd,hf]
   cases hg:jT E m ot with
   |false=>
    have:FA (jT E m) ot=.other:=by unfold FA;rw[a7];simp only[L,hg,cond_false]
    rw[this];exactλK Q J=>a9 K Q λv w' G' _ j l=>J v w' G' j l
   |true=>
    have:FA (jT E m) ot=.grow:=by unfold FA;rw[a7];simp only[L,hg,cond_true]
    rw[this];have c0:gJ s.ps=true:=by
     unfold jT at hg;rw[b7,L]at hg;simp only[hf]at hg;cases f with
     |func n'=>
      have:n'=n:=by simp[eK]at Y;exact Y.1
      subst this;simp only[<-hd]at hg;simp only[oM]at F;rw[F]at hg;exact hg
     |_=>simp at hg
    exactλK Q J=>a9 K Q λv w' G' t j l=>J v w' G' (t (b3 c0)) j l
  cases gd with
  |false=>simp only[cond_false]at y;obtain⟨c6,a0,g⟩:=bind_some y;simp[ok]at g;subst g;have:=W.call a5 F a1 a2 a0;exact key _ (Calls.mono this λe w' C=>by obtain⟨v,G',T,t,j,l,U⟩:=C;exact⟨v,G',T,t,j,l,U⟩) id
  |true=>
   simp only[cond_true]at y;unfold HC at y;split at y
   ·rename_i agg lv c2;obtain⟨u,a0,g⟩:=bind_some y;obtain⟨c9,gs,ds,xs⟩:=u;simp only at g;split at g
    ·obtain⟨H,V⟩:=aU g;simp only[Bool.and_eq_true,Bool.or_eq_true,Bool.not_eq_true']at H;obtain⟨a,rfl,a3⟩:=W.gd F c2 a1 a2 a0 H.1 H.2 V;exact key True (Calls.mono a3 λe w' C=>by obtain⟨v,G',T,t,j,l,U,c5⟩:=C;exact⟨v,G',T,λ_=>t,j,l,U,c5⟩) (λ_=>trivial)
    ·unfold YT at g;split at g
     ·obtain⟨c7,b0⟩:agg=false/\rs (QW E ctx st d (LY m d n) s (E8 st.sl c.args.toList++caps))=some r:=by
       cases agg with
       |true=>simp[aG]at g
       |false=>exact⟨rfl,by simpa using g⟩
      obtain⟨c6,H,V⟩:=bind_some b0;simp[ok]at V;subst V;have:=W.call a5 F a1 a2 H;exact key _ (Calls.mono this λe w' C=>by obtain⟨v,G',T,t,j,l,U⟩:=C;exact⟨v,G',T,t,j,l,U⟩) id
     ·simp[aG]at g
   ·simp[aG]at y
 |_=>rw[Y]at h;simp[SD,aG]at h
theorem Fw{x:M St}{r:uM}(h:rs x=some r):∃s,x=some s/\r=.st s:=by obtain⟨a,d,c⟩:=bind_some h;simp[ok]at c;exact⟨a,d,c.symm⟩
theorem oP{gd:Bool}{x:M St}{r:uM}(h:tL gd x=some r):∃s,x=some s/\r=.st s:=by
 cases gd with
 |true=>simp[tL,aG]at h
 |false=>exact Fw h
theorem zY{α:Type}{E:fC}{t:TypeId}{f:TI->TI->M α}{a:α}(h:e9 E t f=some a):∃ti c,E.tt.look t=some ti/\E.tt.look ti.e=some c/\f ti c=some a:=by obtain⟨ti,d,e⟩:=bind_some h;obtain⟨c,g,j⟩:=bind_some e;exact⟨ti,c,d,g,j⟩
theorem Xk{E:fC}{y:fI}(l:gY P E)(a1:dI w G st sl){ot:Oper}{d:Nat}{c:Call}(m:ot.op=.call c)(hx:∀x∈c.operands,dN w G st (eK st.sl x) (act.eval x)){gd:Bool}(hf:c.callee=.builtin .append){r:uM}
  (h:jE E y gd st d c.args c.argTypes .append=some r):Hz (jT E y) P w G st sl act d ot r:=by
 have a3:FA (jT E y) ot=.other:=by
  have a9:kd ot.op=.other:=by rw[m];simp[kd,hf]
  have hg:jT E y ot=false:=by
   unfold jT;split
   ·rfl
   ·rw[m];simp only[hf]
  unfold FA;rw[a9];simp only[m,hg,cond_false]
 simp only[jE]at h;cases gd with
 |true=>simp[aG]at h
 |false=>
  simp only[cond_false]at h;split at h
  ·rename_i t a6 a2;cases C:Nat.beq t a6 with
   |true=>
    rw[C]at h;have:=Nat.eq_of_beq_eq_true C;subst this;obtain⟨s,e,rfl⟩:=Fw h;unfold UZ at e;split at e
    ·rename_i x f g;obtain⟨ti,b2,F,H,J⟩:=zY e;obtain⟨K,j⟩:=aU J;have T:x∈c.operands:=by simp only[Call.operands,Array.mem_append];right;rw[<-Array.mem_toList_iff,g];simp
     have U:f∈c.operands:=by simp only[Call.operands,Array.mem_append];right;rw[<-Array.mem_toList_iff,g];simp
     obtain⟨nv,w',G',V,W,Y,a0⟩:=Sn (P:=P) a1 (ty:=ot.type) (l.types _ _ F) (l.types _ _ H) K (hx x T) (hx f U) j;refine yL a3 (nx:=.value nv) (u:=nv) ?_ (.inl rfl) W ⟨Y,a0⟩;have v:c.argTypes=#[t,t]:=by apply Array.ext';simpa using a2
     have L:c.args=#[x,f]:=by apply Array.ext';simpa using g
     have b3:c.argTypes.toList=[t,t]:=by rw[v]
     have Q:c.args.map act.eval=#[act.eval x,act.eval f]:=by rw[L];simp
     simp[execOp,m,resolve,hf,invoke,Q,v,builtin,V]
    ·simp[aG]at e
   |false=>
    rw[C]at h;obtain⟨s,e,rfl⟩:=Fw h;unfold PB at e;split at e
    ·rename_i x f g;obtain⟨ti,b2,F,H,J⟩:=zY e;obtain⟨b4,K,j⟩:=bind_some J;have T:x∈c.operands:=by simp only[Call.operands,Array.mem_append];right;rw[<-Array.mem_toList_iff,g];simp
     have U:f∈c.operands:=by simp only[Call.operands,Array.mem_append];right;rw[<-Array.mem_toList_iff,g];simp
     have a4:=hx x T;have a5:=hx f U;unfold Rm at j;split at j
     ·rename_i n e1 a7;rw[e1]at a4;rw[a7]at a5;have b0:act.eval x=.slice none 0 0:=a4;have b1:act.eval f=.int .i64 n:=a5.1;obtain⟨nv,w',G',V,W,Y,a0⟩:=WC (P:=P) a1 (ty:=ot.type) (l.types _ _ F) (l.types _ _ H) (l.types _ _ K) j;refine yL a3 (nx:=.value nv) (u:=nv) ?_ (.inl rfl) W ⟨Y,a0⟩;have v:c.argTypes=#[t,a6]:=by apply Array.ext';simpa using a2
      have L:c.args=#[x,f]:=by apply Array.ext';simpa using g
      have Q:c.args.map act.eval=#[.slice none 0 0,.int .i64 n]:=by rw[L];simp[b0,b1]
      simp[execOp,m,resolve,hf,invoke,Q,v,builtin,V]
     ·simp[aG]at j
    ·simp[aG]at e
  ·simp[aG]at h
theorem aBS{E:fC}{C:fI}(s:gY P E)(j:dI w G st sl){ot:Oper}{d:Nat}{c:Call}(m:ot.op=.call c)(hx:∀x∈c.operands,dN w G st (eK st.sl x) (act.eval x)){gd:Bool}(hf:c.callee=.builtin .len){r:uM}
  (h:jE E C gd st d c.args c.argTypes .len=some r):Hz g P w G st sl act d ot r:=by
 have F:FA g ot=.pure:=by
  have H:kd ot.op=.pure:=by rw[m];simp[kd,hf]
  unfold FA;rw[H]
 simp only[jE]at h;split at h
 ·rename_i t ts y;obtain⟨a,e,rfl⟩:=iW h;cases f:c.args.toList with
  |nil=>rw[f]at e;simp[Vw,aG]at e
  |cons x l=>
   cases l with
   |cons _ _=>rw[f]at e;simp[Vw,aG]at e
   |nil=>
    rw[f]at e;have K:x∈c.operands:=by simp only[Call.operands,Array.mem_append];right;rw[<-Array.mem_toList_iff,f];simp
    have ht:c.argTypes[0]?=some t:=by rw[<-Array.getElem?_toList,y];rfl
    obtain⟨u,L,Q⟩:=s7 (P:=P) s j (hx x K) e ot.type c.argTypes ht;have v:c.args=#[x]:=by apply Array.ext';simpa using f
    have J:c.args.map act.eval=#[act.eval x]:=by rw[v];simp
    refine zX F (u:=u) (λw'=>?_) (Fr.refl w G) ⟨Le.refl w G st,j,Q⟩;simp[execOp,m,resolve,hf,invoke,J,builtin,L w']
 ·simp[aG]at h
theorem J2{E:fC}{f:fI}(l:gY P E)(K:dI w G st sl){ot:Oper}{d:Nat}{c:Call}(g:ot.op=.call c)(hx:∀x∈c.operands,dN w G st (eK st.sl x) (act.eval x)){gd:Bool}(hf:c.callee=.builtin .clear){r:uM}
  (h:jE E f gd st d c.args c.argTypes .clear=some r):Hz (jT E f) P w G st sl act d ot r:=by
 have T:FA (jT E f) ot=.other:=by
  have U:kd ot.op=.other:=by rw[g];simp[kd,hf]
  have hg:jT E f ot=false:=by
   unfold jT;split
   ·rfl
   ·rw[g];simp only[hf]
  unfold FA;rw[U];simp only[g,hg,cond_false]
 simp only[jE]at h;cases gd with
 |true=>simp[aG]at h
 |false=>
  simp only[cond_false]at h;split at h
  ·rename_i t ts Q;obtain⟨s,e,j⟩:=bind_some h;simp[ok]at j;subst j;unfold U2 at e;split at e
   ·rename_i x m;obtain⟨ti,a3,v,y,C⟩:=zY e;obtain⟨F,H⟩:=aU C;obtain⟨_,J⟩:=qR H;have W:x∈c.operands:=by simp only[Call.operands,Array.mem_append];right;rw[<-Array.mem_toList_iff,m];simp
    have ht:c.argTypes[0]?=some t:=by rw[<-Array.getElem?_toList,Q];rfl
    obtain⟨w',Y,a0,a1,a2⟩:=Xj (P:=P) K (ty:=ot.type) (l.types _ _ v) (l.types _ _ y) F ht (hx x W) J;have L:c.args=#[x]:=by apply Array.ext';simpa using m
    have V:c.args.map act.eval=#[act.eval x]:=by rw[L];simp
    refine yL T (nx:=.value (.tuple #[])) (u:=.tuple #[]) ?_ (.inl rfl) a0 ⟨a1.trans (Le.put _ _ _ _ _),a2.put ⟨[],rfl,rfl⟩⟩;simp[execOp,g,resolve,hf,invoke,V,builtin,Y]
   ·simp[aG]at e
  ·simp[aG]at h
theorem aBT{E:fC}{J:fI}(y:gY P E)(C:dI w G st sl){ot:Oper}{d:Nat}{c:Call}(m:ot.op=.call c)(hx:∀x∈c.operands,dN w G st (eK st.sl x) (act.eval x)){gd:Bool}(hf:c.callee=.builtin .cap){r:uM}
  (h:jE E J gd st d c.args c.argTypes .cap=some r):Hz g P w G st sl act d ot r:=by
 have K:FA g ot=.pure:=by
  have L:kd ot.op=.pure:=by rw[m];simp[kd,hf]
  unfold FA;rw[L]
 simp only[jE]at h;split at h
 ·rename_i t ts H;obtain⟨a,e,rfl⟩:=iW h;unfold aEI at e;split at e
  ·rename_i x l;obtain⟨ti,j,s⟩:=bind_some e;obtain⟨v,f⟩:=aU s;split at f
   ·rename_i T;simp[ok]at f;subst f;have V:x∈c.operands:=by simp only[Call.operands,Array.mem_append];right;rw[<-Array.mem_toList_iff,l];simp
    have ht:c.argTypes[0]?=some t:=by rw[<-Array.getElem?_toList,H];rfl
    have hv:=hx x V;rw[T]at hv;have hv:act.eval x=.slice none 0 0:=hv;unfold sD at j;obtain⟨i0,e1,W,Y⟩:=(y.types _ _ j).sl v;have F:c.args=#[x]:=by apply Array.ext';simpa using l
    have Q:c.args.map act.eval=#[act.eval x]:=by rw[F];simp
    have U:∀w',(Builtin.cap_ c.argTypes ot.type #[act.eval x]).run P w'=.ok (.int .i64 0) w':=λw'=>by rw[hv];simp[Builtin.cap_,ht,run_underlying e1,goInt]
    refine zX K (u:=.int .i64 0) (λw'=>?_) (Fr.refl w G) ⟨Le.refl w G st,C,⟨rfl,by decide,by decide⟩⟩;simp[execOp,m,resolve,hf,invoke,Q,builtin,U w']
   ·simp[aG]at f
  ·simp[aG]at e
 ·simp[aG]at h
theorem aBU{E:fC}{H:fI}(C:dI w G st sl){ot:Oper}{d:Nat}{c:Call}(m:ot.op=.call c)(hx:∀x∈c.operands,dN w G st (eK st.sl x) (act.eval x)){gd:Bool}(hf:c.callee=.builtin .min){r:uM}
  (h:jE E H gd st d c.args c.argTypes .min=some r):Hz g P w G st sl act d ot r:=by
 have K:FA g ot=.pure:=by
  have L:kd ot.op=.pure:=by rw[m];simp[kd,hf]
  unfold FA;rw[L]
 simp only[jE]at h;obtain⟨a,e,rfl⟩:=iW h;unfold aBi at e;split at e
 ·rename_i x f j;have a1:x∈c.operands:=by simp only[Call.operands,Array.mem_append];right;rw[<-Array.mem_toList_iff,j];simp
  have a2:f∈c.operands:=by simp only[Call.operands,Array.mem_append];right;rw[<-Array.mem_toList_iff,j];simp
  have s:=hx x a1;have t:=hx f a2;unfold aEJ at e;split at e
  ·rename_i k p a3 q e1 v;rw[e1]at s;rw[v]at t;obtain⟨W,U⟩:=s;obtain⟨Y,V⟩:=t;obtain⟨y,l⟩:=aU e;have:=(fD k a3).1 y;subst this;simp[ok]at l;subst l;have F:c.args=#[x,f]:=by apply Array.ext';simpa using j
   have T:c.args.map act.eval=#[act.eval x,act.eval f]:=by rw[F];simp
   have a0:∀w',(Builtin.min_ c.argTypes ot.type #[act.eval x,act.eval f]).run P w'=.ok (.int k (if q<p then q else p)) w':=λw'=>by rw[W,Y];simp[Builtin.min_,Builtin.min2]
   have J:(bif aQ q p then q else p)=if q<p then q else p:=by rw[ZB];by_cases Q:q<p<;>simp[Q]
   refine zX K (u:=.int k (if q<p then q else p)) (λw'=>?_) (Fr.refl w G) ⟨Le.refl w G st,C,?_⟩
   ·simp[execOp,m,resolve,hf,invoke,T,builtin,a0 w']
   ·rw[J];refine⟨rfl,?_⟩;split
    ·exact V
    ·exact U
  ·simp[aG]at e
 ·simp[aG]at e
theorem J3{E:fC}{T:fI}(a7:gY P E)(v:dI w G st sl){ot:Oper}{d:Nat}{t:TypeId}{x:Operand}{Q J:Option Operand}(U:ot.op=.slice t x Q J none)(hx:∀c∈ot.op.operands,dN w G st (eK st.sl c) (act.eval c)){gd:Bool}{r:uM}
  (h:UY E T true gd st d t (eK st.sl x) (Q.map (eK st.sl)) (J.map (eK st.sl))=some r):Hz g P w G st sl act d ot r:=by
 have K:FA g ot=.pure:=by unfold FA;rw[U];rfl
 rw[U]at hx;simp only[Op.operands]at hx;have y:=hx x (by simp);have b1:∀c,Q=some c->dN w G st (eK st.sl c) (act.eval c):=λc W=>hx c (by subst W;simp);have b0:∀c,J=some c->dN w G st (eK st.sl c) (act.eval c):=λc W=>hx c (by subst W;simp);unfold UY at h;obtain⟨hv,a1⟩:=qR h;obtain⟨ti,a2,a3⟩:=bind_some a1;obtain⟨l,a4,a5⟩:=bind_some a3;obtain⟨b5,a6,C⟩:=bind_some a5;have F:=a7.types _ _ a2;have L:=VR (act:=act) b1 a4;have H:=VR (act:=act) b0 a6;have run:∀u,(∀w',(Instr.sliceAt t (act.eval x) (Q.map act.eval) (J.map act.eval) none).run P w'=.ok u w')->∀w',(execOp act.eval ot).run P w'=.ok (.value u) w':=λu b2 w'=>by simp[execOp,U,b2 w']
 unfold zV at C;split at C
 ·rename_i b7 c0 b6 a9;rw[a9]at y hv;obtain⟨V,e⟩:=aU C;cases Y:has T.pfx d with
  |true=>simp only[Y,cond_true]at e;obtain⟨a,f,rfl⟩:=iW e;obtain⟨u,j,m⟩:=s9 F V v L H y f;exact zX K (run u j) (Fr.refl w G) ⟨Le.refl w G st,v,m⟩
  |false=>
   simp only[Y,cond_false]at e;cases a0:has T.snap d with
   |true=>simp only[a0,cond_true]at e;obtain⟨a,f,rfl⟩:=iW e;obtain⟨u,j,m⟩:=H5 F V v L H y f;exact zX K (run u j) (Fr.refl w G) ⟨Le.refl w G st,v,m⟩
   |false=>
    simp only[a0,cond_false]at e;cases gd with
    |true=>simp[aG]at e
    |false=>simp only[cond_false]at e;obtain⟨s,f,rfl⟩:=Fw e;obtain⟨nv,G',j,m,b3,b4⟩:=u5 v F V L H y f;exact zX K (run nv j) m ⟨b3,b4⟩
 ·obtain⟨a,f,rfl⟩:=iW C;obtain⟨u,j,m⟩:=Rv (P:=P) F L H y hv f;exact zX K (run u j) (Fr.refl w G) ⟨Le.refl w G st,v,m⟩
theorem Ia{E:fC}{L:fI}{ctx:sJ}(F:gY P E)(c7:jV P E ctx)(j:dI w G st sl){ot:Oper}{d:Nat}(a2:d<500\/600<=d)(hd:d=HB L.nb+ot.dst.getD 4000)(c8:LH L ot=none)(hx:Sp w G st act ot.op){gd:Bool}{r:uM}
  (h:rM E L ctx true gd st d ot.op=some r):Hz (jT E L) P w G st sl act d ot r:=by
 have J:∀{k:Kd},kd ot.op=k->k≠.other->FA (jT E L) ot=k:=λ{k}e c9=>by unfold FA;rw[e];cases k<;>first|rfl |exact absurd rfl c9
 generalize y:ot.op=o at*;cases o<;>simp only[rM,aG]at h<;>(try cases h);case move x=>
  have b0:=hx x (by simp[Op.operands]);obtain⟨a,rfl,K,_⟩:=Hk (P:=P) x b0 h;exact lO j (J (by rfl) (by simp)) (by rw[y];exact K)
 case assign x=>
  have b0:=hx x (by simp[Op.operands]);obtain⟨a,rfl,_,K⟩:=Hk (P:=P) x b0 h;exact lO j (J (by rfl) (by simp)) (by rw[y];exact K)
 case pick c a b=>
  obtain⟨a4,a5,c5⟩:=hx;obtain⟨a',g,rfl⟩:=iW h;exact lO j (J (by rfl) (by simp)) (by rw[y];exact G7 c a b a4 a5 c5 g)
 case load t x=>
  have b4:∀{a'},U3 E st t (eK st.sl x)=some a'->Fu P w G st act (.load t x) a':=λ{a'}g=>by
   unfold U3 at g;cases a0:E.tt.look t with
   |some ti=>rw[a0]at g;exact Hl (F.types _ _ a0) j (hx x (by simp[Op.operands])) g
   |none=>rw[a0]at g;obtain⟨e,C,H⟩:=bind_some g;exact Ws (F.ptrs _ _ C) j (hx x (by simp[Op.operands])) H
  cases ht:has L.take d with
  |true=>simp only[ht,cond_true]at h;obtain⟨s,g,rfl⟩:=oP h;obtain⟨a',C,H⟩:=bind_some g;obtain⟨u,K,Q⟩:=b4 C ot y;obtain⟨G',V,W,e0⟩:=I4 (d:=d) j Q H;have U:FA (jT E L) ot=.load:=J (by rfl) (by simp);unfold Hz;rw[U];exact⟨u,K,G',V,W,e0⟩
  |false=>simp only[ht,cond_false]at h;obtain⟨a',g,rfl⟩:=iW h;exact aFf j (J (by rfl) (by simp)) (by rw[y];exact b4 g)
 case store t p x=>
  obtain⟨s,g,rfl⟩:=oP h;obtain⟨s1,C,H⟩:=bind_some g;simp[ok]at H;subst H;obtain⟨w',G',K,Q,V,W⟩:=I1 (P:=P) (d:=d) F j (hx p (by simp[Op.operands])) (hx x (by simp[Op.operands])) C ot y;have U:FA (jT E L) ot=.other:=by unfold FA;rw[y];rfl
  exact yL U K (.inr ⟨rfl,rfl⟩) Q ⟨V.trans (Le.put _ _ _ _ _),W.put trivial⟩
 case lookup t x k c=>
  obtain⟨a',g,rfl⟩:=iW h;obtain⟨u,K,Q⟩:=Sd (P:=P) F j (hx k (by simp[Op.operands])) (hx x (by simp[Op.operands])) g;have U:FA (jT E L) ot=.other:=by unfold FA;rw[y];rfl
  exact yL U (by simp[execOp,y,K]) (.inl rfl) (Fr.refl w G) ⟨Le.refl w G st,j,Q⟩
 case makeMap t q=>
  cases q with
  |some q=>simp[rM,aG]at h
  |none=>
   simp only[rM]at h;obtain⟨s,g,rfl⟩:=oP h;obtain⟨e3,_,g⟩:=bind_some g;obtain⟨w',G',K,Q,V,W⟩:=Sf (P:=P) (t:=t) j a2 g;have U:FA (jT E L) ot=.other:=by unfold FA;rw[y];rfl
   exact yL U (by simp[execOp,y,K]) (.inl rfl) Q ⟨V,W⟩
 case mapUpdate t x k v=>
  obtain⟨s,g,rfl⟩:=oP h;obtain⟨s1,C,H⟩:=bind_some g;simp[ok]at H;subst H;obtain⟨w',K,Q,V,W⟩:=Se (P:=P) F j (hx k (by simp[Op.operands])) (hx v (by simp[Op.operands])) (hx x (by simp[Op.operands])) C;have U:FA (jT E L) ot=.other:=by unfold FA;rw[y];rfl
  exact yL U (nx:=.skip) (by simp[execOp,y,K]) (.inr ⟨rfl,rfl⟩) Q ⟨V.trans (Le.put _ _ _ _ _),W.put trivial⟩
 case alloc t=>
  obtain⟨s,g,rfl⟩:=oP h;unfold Vy at g;cases a0:E.tt.look t with
  |some ti=>rw[a0]at g;exact DP (J (by rfl) (by simp)) (by rw[y];exact H7 j (F.types _ _ a0) a2 g)
  |none=>rw[a0]at g;obtain⟨e,C,H⟩:=bind_some g;exact DP (J (by rfl) (by simp)) (by rw[y];exact Wz j (F.ptrs _ _ C) a2 H)
 case box t x=>
  obtain⟨s,g,rfl⟩:=oP h;exact DP (J (by rfl) (by simp)) (by rw[y];exact aBw j (hx x (by simp[Op.operands])) a2 g)
 case build t parts=>
  obtain⟨a',g,rfl⟩:=iW h;obtain⟨ti,C,H⟩:=bind_some g;exact lO j (J (by rfl) (by simp)) (by rw[y];exact Wy F j (F.types _ _ C) (λp a7=>hx p.2 (by simp[Op.operands];exact⟨p.1,by simpa using a7⟩)) H)
 case buildSlice t len parts=>
  have a9:∀p∈parts.toList,dN w G st (eK st.sl p.2) (act.eval p.2):=λp a7=>hx p.2 (by simp[Op.operands];exact⟨p.1,by simpa using a7⟩);cases hf:has L.fzl d with
  |true=>simp only[hf,cond_true]at h;obtain⟨a',g,rfl⟩:=iW h;obtain⟨ti,b7,C,H,T⟩:=zY g;exact DP (J (by rfl) (by simp)) (by rw[y];exact aBy j (F.types _ _ C) (F.types _ _ H) a9 T)
  |false=>
   simp only[hf,cond_false]at h;obtain⟨s,g,rfl⟩:=oP h;obtain⟨ti,b7,C,H,T⟩:=zY g;unfold Gy at T;obtain⟨Y,c6⟩:=aU T;obtain⟨l,b1,c2⟩:=bind_some c6;obtain⟨c3,a1⟩:=aU c2;simp only[Bool.and_eq_true]at Y;have b6:=Nat.le_of_ble_eq_true Y.2.2;have b5:=Nat.le_of_ble_eq_true Y.2.1;unfold Cf at a1;cases b3:has L.arr d with
   |true=>simp only[b3,cond_true]at a1;obtain⟨e6,c4,b2⟩:=bind_some a1;simp[ok]at b2;subst b2;exact DP (J (by rfl) (by simp)) (by rw[y];exact aBQ j (F.types _ _ C) (F.types _ _ H) Y.1 a9 b6 b5 b1 c3 c4)
   |false=>simp only[b3,cond_false]at a1;simp[ok]at a1;subst a1;exact DP (J (by rfl) (by simp)) (by rw[y];exact aDA j (F.types _ _ C) (F.types _ _ H) Y.1 a9 b6 b5 b1 a2)
 case nilCheck x=>
  obtain⟨a',g,rfl⟩:=iW h;obtain⟨hv,C⟩:=qR g;exact lO j (J (by rfl) (by simp)) (by rw[y];exact Hm (hx x (by simp[Op.operands])) hv C)
 case binOp op t x a6 xt=>
  obtain⟨a',g,rfl⟩:=iW h;obtain⟨hv,C⟩:=qR g;obtain⟨d1,H⟩:=qR C;exact lO j (J (by rfl) (by simp)) (by rw[y];exact s6 F op t xt x a6 hv d1 (hx x (by simp[Op.operands])) (hx a6 (by simp[Op.operands])) H)
 case unOp op t x=>
  obtain⟨a',g,rfl⟩:=iW h;exact lO j (J (by rfl) (by simp)) (by rw[y];exact aBs op t x (hx x (by simp[Op.operands])) g)
 case convert src t x=>
  obtain⟨a',g,rfl⟩:=iW h;obtain⟨ts,C,H⟩:=bind_some g;obtain⟨ti,T,Y⟩:=bind_some H;obtain⟨e2,i,z,c1,_⟩:=(F.types _ _ C).ex;exact lO j (J (by rfl) (by simp)) (by rw[y];exact Nc src t x (F.types _ _ T) ⟨_,c1⟩ (hx x (by simp[Op.operands])) Y)
 case makeFunc f first captured=>
  obtain⟨a',g,rfl⟩:=iW h;exact lO j (J (by rfl) (by simp)) (by rw[y];exact Hn (λa6 d2=>hx a6 (by simp[Op.operands,d2])) g)
 case makeSlice t n m=>
  obtain⟨s,g,rfl⟩:=oP h;have a4:=hx n (by simp[Op.operands]);have a5:=hx m (by simp[Op.operands]);unfold Ri at g;split at g
  ·rename_i nn e4 e1 c0;obtain⟨ti,b7,C,H,T⟩:=zY g;rw[e1]at a4;rw[c0]at a5;obtain⟨nv,w',G',K,d3,Q,V,W⟩:=I5 (P:=P) j (F.types _ _ C) (F.types _ _ H) T;refine DP (J (by rfl) (by simp)) ?_;rw[y];intro e5 d0;refine⟨.value nv,nv,w',G',?_,.inl rfl,d3,Q,V,W⟩;simp[execOp,d0,a4.1,a5.1,K]
  ·simp[aG]at g
 case slice t x lo hi mx=>
  cases mx with
  |some m=>simp[rM,aG]at h
  |none=>exact J3 F j y (by rw[y];exact hx) h
 case fieldAddr t x f=>
  obtain⟨a',g,rfl⟩:=iW h;obtain⟨ti,C,H⟩:=bind_some g;obtain⟨hv,T⟩:=qR H;exact lO j (J (by rfl) (by simp)) (by rw[y];exact Fd (F.types _ _ C) (hx x (by simp[Op.operands])) hv T)
 case field t x f=>
  obtain⟨a',g,rfl⟩:=iW h;obtain⟨ti,C,H⟩:=bind_some g;exact lO j (J (by rfl) (by simp)) (by rw[y];exact Wu F (F.types _ _ C) (hx x (by simp[Op.operands])) H)
 case indexAddr t x i=>
  obtain⟨a',g,rfl⟩:=iW h;obtain⟨hv,C⟩:=qR g;obtain⟨u,K,Q⟩:=Fe (P:=P) F j (hx x (by simp[Op.operands])) (hx i (by simp[Op.operands])) hv C;exact zX (J (by rfl) (by simp)) (λw'=>aGg y (K w')) (Fr.refl w G) ⟨Le.refl w G st,j,Q⟩
 case index t x i=>
  obtain⟨a',g,rfl⟩:=iW h;obtain⟨ti,C,H⟩:=bind_some g;exact lO j (J (by rfl) (by simp)) (by rw[y];exact Wv (F.types _ _ C) (hx x (by simp[Op.operands])) (hx i (by simp[Op.operands])) H)
 case extract x i=>
  obtain⟨a',g,rfl⟩:=iW h;exact lO j (J (by rfl) (by simp)) (by rw[y];exact Nd (hx x (by simp[Op.operands])) g)
 case call c=>
  have a3:∀x∈c.operands,dN w G st (eK st.sl x) (act.eval x):=hx;unfold CY at h;split at h
  ·rename_i f hf;exact u9 F c7 j a2 hd c8 y a3 hf h
  ·rename_i b hf;cases b with
   |len=>exact aBS F j y a3 hf h
   |append=>exact Xk F j y a3 hf h
   |min=>exact aBU j y a3 hf h
   |cap=>exact aBT F j y a3 hf h
   |clear=>exact J2 F j y a3 hf h
   |_=>simp[jE,aG]at h
  ·simp[aG]at h
end
end Go.Eng

namespace Go.Eng
theorem JF{x:M A}{r:uM}(h:rv x=some r):∃a,r=.val a:=by obtain⟨a,_,h⟩:=iW h;exact⟨a,h⟩
theorem Sq{E:fC}{ctx:sJ}{st:St}{d m:Nat}{s:CV}{as:List A}{agg:Bool}{l:List LT}{r:uM}(h:YT E ctx st false d m s as agg l=some r):∃a,r=.val a:=by
 unfold YT at h;split at h
 ·cases agg with
  |true=>simp[aG]at h
  |false=>simp[ok]at h;exact⟨_,h.symm⟩
 ·simp[aG]at h
theorem Sr{E:fC}{f:fI}{st:St}{d:Nat}{c:Array Operand}{e:Array TypeId}{b:Builtin}{r:uM}(h:jE E f true st d c e b=some r):∃a,r=.val a:=by
 cases b<;>simp only[jE,cond_true,aG]at h<;>(try cases h)<;>(try exact JF h);all_goals
  split at h
  ·exact JF h
  ·simp[aG]at h
theorem J4{E:fC}{j:fI}{ctx:sJ}{st:St}{d:Nat}{o:Op}{r:uM}(h:rM E j ctx false true st d o=some r):∃a,r=.val a:=by
 cases o<;>simp only[rM,tL,cond_true,aG]at h<;>(try cases h)<;>(try exact JF h);case move x=>
  unfold YQ at h;split at h
  ·simp[aG]at h
  ·simp[ok]at h;exact⟨_,h.symm⟩
 case assign x=>
  unfold YQ at h;split at h
  ·simp[aG]at h
  ·simp[ok]at h;exact⟨_,h.symm⟩
 case makeMap t q=>
  cases q with
  |some q=>simp[rM,aG]at h
  |none=>simp[rM,tL,aG]at h
 case load t x=>
  cases hf:has j.take d with
  |true=>simp[hf]at h
  |false=>simp only[hf,cond_false]at h;exact JF h
 case buildSlice t len parts=>
  cases hf:has j.fzl d with
  |true=>simp only[hf,cond_true]at h;exact JF h
  |false=>simp[hf]at h
 case slice t x lo hi mx=>
  cases mx with
  |some m=>simp[rM,aG]at h
  |none=>
   simp only[rM]at h;obtain⟨_,F⟩:=qR h;obtain⟨ti,_,H⟩:=bind_some F;obtain⟨l,_,J⟩:=bind_some H;obtain⟨K,_,v⟩:=bind_some J;unfold zV at v;split at v
   ·obtain⟨_,e⟩:=aU v;cases y:has j.pfx d with
    |true=>simp only[y,cond_true]at e;exact JF e
    |false=>
     simp only[y,cond_false]at e;cases C:has j.snap d with
     |true=>simp only[C,cond_true]at e;exact JF e
     |false=>simp[C,aG]at e
   ·exact JF v
 case call c=>
  unfold CY at h;split at h
  ·unfold SD at h;split at h
   ·obtain⟨s,_,G⟩:=bind_some h;obtain⟨_,g⟩:=aU G;simp only[cond_true]at g;unfold HC at g;split at g
    ·obtain⟨u,_,f⟩:=bind_some g;split at f
     ·obtain⟨_,f⟩:=aU f;unfold YS at f;obtain⟨q,_,e⟩:=bind_some f;split at e
      ·exact JF e
      ·simp[aG]at e
     ·exact Sq f
    ·simp[aG]at g
   ·simp[aG]at h
  ·exact Sr h
  ·simp[aG]at h
def MU(ge:Vz)(p:Nat×Bool):Prop:=∃G,look ge p.1=some (true,p.2,G)
def yM(ge:Vz)(l:List (Nat×Bool)):Prop:=∀p∈l,MU ge p
theorem X3{p:Nat×Bool}:∀{l:List (Nat×Bool)},inG l p=true<->p∈l
 |[]=>by simp[inG]
 |(i,b)::l=>by
  simp only[inG,Bool.or_eq_true,Bool.and_eq_true,X3 (l:=l),List.mem_cons];constructor
  ·rintro(⟨c,d⟩ |h)
   ·left;have:=Nat.eq_of_beq_eq_true c;obtain⟨f,e⟩:=p;simp only at this d⊢;subst this;cases b<;>cases e<;>simp_all[FB]
   ·exact .inr h
  ·rintro(rfl |h)
   ·left;exact⟨Nat.beq_refl _,by cases b<;>rfl⟩
   ·exact .inr h
theorem ST{α:Type}{f:α->Bool}:∀{l:List α},QQ f l=false->∀a∈l,f a=false
 |[],_,_,h=>absurd h (by simp)
 |b::l,h,a,c=>by
  simp only[QQ,Bool.or_eq_false_iff]at h;rcases List.mem_cons.1 c with rfl |c
  ·exact h.1
  ·exact ST h.2 a c
theorem aBV{l m:List (Nat×Bool)}(h:Wa l m=true):∀p∈l,p∈m:=λp c=>by simp only[Wa,Bool.not_eq_true']at h;have:=ST h p c;simp only[Bool.not_eq_false']at this;exact X3.1 this
theorem WJ{p:Nat×Bool}{q:Nat×Bool}:∀{l:List (Nat×Bool)},q∈l->q∈gA l p\/q=p
 |[],h=>absurd h (by simp)
 |r::l,h=>by
  simp only[gA];have key:(Nat.beq r.1 p.1&&FB r.2 p.2)=true->r=p:=λc=>by simp only[Bool.and_eq_true]at c;have:=Nat.eq_of_beq_eq_true c.1;obtain⟨j,f⟩:=r;obtain⟨g,e⟩:=p;simp only at this c;subst this;have:=c.2;cases f<;>cases e<;>simp_all[FB]
  cases d:(Nat.beq r.1 p.1&&FB r.2 p.2)with
  |true=>
   simp only[cond_true];rcases List.mem_cons.1 h with rfl |h
   ·exact .inr (key d)
   ·exact WJ h
  |false=>
   simp only[cond_false,List.mem_cons];rcases List.mem_cons.1 h with rfl |h
   ·exact .inl (.inl rfl)
   ·rcases WJ (p:=p) h with h |h
    ·exact .inl (.inr h)
    ·exact .inr h
theorem Xl{sg:YV}{x:Operand}{p:Nat×Bool}:∀{l:List Operand},x∈l->p∈VC sg x->p∈aBl sg l
 |[],h,_=>absurd h (by simp)
 |y::l,h,c=>by
  simp only[aBl,List.mem_append];rcases List.mem_cons.1 h with rfl |h
  ·exact .inl c
  ·exact .inr (Xl h c)
structure FF(ext:Nat->Value)(ops:Array Oper)(w:World)(G:Gh)(s:RS)(act:Act)(done:List Nat):Prop where
 rel:dI w G s.st (λ_=>none)
 slots:∀t,yM s.ge (VC s.sg (.tmp t))->dN w G s.st (s.st.sl.get t) (tv ext act t)
 sg:∀t p,p∈VC s.sg (.tmp t)->p.1∈done
 ge:∀j R b Gj,look s.ge j=some (R,b,Gj)->j∈done/\(∀p∈Gj,p.1∈done)/\(R=true<->yM s.ge Gj)/\(R=true->yielded ops act.tmps j=some b)/\(R=false->yielded ops act.tmps j=none)
 by_:∀c j,look s.by_ c=some j->∃R b Gj,look s.ge j=some (R,b,Gj)/\(R=true->act.tmps.getD c undef=.bool b)/\VC s.sg (.tmp c)=Gj
theorem dI.none{w:World}{G:Gh}{st:St}{sl:Nat->Option Value}(h:dI w G st sl):dI w G st (λ_=>none):=
 ⟨λ_ _ h=>by simp at h,h.boxes,h.apartB,h.arrs,h.live,h.hdr⟩
theorem dI.withSlots{w:World}{G:Gh}{st:St}{sl sl':Nat->Option Value}(h:dI w G st sl)(c:∀t v,sl' t=some v->dN w G st (st.sl.get t) v):dI w G st sl':=
 ⟨c,h.boxes,h.apartB,h.arrs,h.live,h.hdr⟩
theorem Le.slots(w:World)(G:Gh)(st:St)(sl:Tr):Le w G st w G {st with sl:=sl}:=
 ⟨Nat.le_refl _,λr u p a' _ h=>⟨a',h,rfl,rfl,rfl,λh=>h⟩,λb d _ h=>⟨d,h,rfl,rfl⟩,λr a' _ h=>⟨a',h,rfl,λb p c=>⟨⟨p,c⟩,rfl⟩⟩,λb c=>⟨c,rfl⟩⟩
theorem dI.slotsTo{w:World}{G:Gh}{st:St}{sl:Nat->Option Value}(h:dI w G st sl)(c:Tr):dI w G {st with sl:=c} (λ_=>Option.none):=by have f:=Le.slots w G st c;exact h.none.step f (λ_ _ h=>by simp at h) (λb x hx=>.inl ⟨hx,rfl,rfl,(h.boxes b x hx).2.1⟩) (λb b' x l d e j=>h.apartB b b' x l d e j) (λr a g=>.inl ⟨g,λ_=>rfl,λb p h=>⟨h,rfl⟩⟩) h.live h.hdr
theorem pZ{w:World}{G:Gh}{st:St}{c:Tr}{a:A}{v:Value}:dN w G {st with sl:=c} a v<->dN w G st a v:=
 ⟨λh=>dR (st:={st with sl:=c}) (Le.slots w G {st with sl:=c} st.sl) a v h,λh=>dR (Le.slots w G st c) a v h⟩
theorem FF.trusts{ext:Nat->Value}{ops:Array Oper}{w:World}{G:Gh}{s:RS}{act:Act}{done:List Nat}(h:FF ext ops w G s act done){o:Oper}{l:List (Nat×Bool)}(W:Wa (Wc s o) l=true)(V:yM s.ge l):Sp w G s.st act o.op:=by
 have e:∀p,p∈Wc s o->MU s.ge p:=λp d=>V p (aBV W p d);have m:∀x,(∀p∈VC s.sg x,MU s.ge p)->dN w G s.st (eK s.st.sl x) (act.eval x):=λx hx=>by
  cases x with
  |tmp t=>exact PD (h.slots t hx)
  |global g=>exact trivial
  |func f=>exact⟨[],rfl,rfl⟩
  |const v=>exact Oj v
 unfold Wc at e;cases P:s.sg with
 |nil=>
  have u:∀x,dN w G s.st (eK s.st.sl x) (act.eval x):=λx=>m x (λp d=>by cases x<;>simp[VC,P,look]at d);unfold Sp;split
  ·exact⟨u _,λ_=>u _,λ_=>u _⟩
  ·exactλx _=>u x
 |cons a2 a4=>
  rw[P]at e;simp only at e;have L:(∀p,p∈aBl s.sg o.op.operands.toList->MU s.ge p)->∀x∈o.op.operands,dN w G s.st (eK s.st.sl x) (act.eval x):=λU x hx=>
   m x (λp d=>U p (Xl (by simpa using hx) d))
  unfold aBm at e;generalize a3:o.op=op at*;cases op with
  |pick c a b=>
   cases c with
   |tmp c=>
    simp only at e;unfold Wb at e;cases F:look s.by_ c with
    |none=>simp only[F,List.mem_append]at e;exact⟨m _ (λp d=>e p (.inl d)),λ_=>m _ (λp d=>e p (.inr (.inl d))),λ_=>m _ (λp d=>e p (.inr (.inr d)))⟩
    |some j=>
     simp only[F,List.mem_append]at e;have H:=m (.tmp c) (λp d=>e p (.inl d));obtain⟨R,T,J,Q,Y,a0⟩:=h.by_ c j F;obtain⟨_,_,a1,_,_⟩:=h.ge j R T J Q;have K:R=true:=a1.2 (λp d=>e p (.inl (by rw[a0];exact d)));have hv:=Y K;subst K;have C:∀q,eK s.st.sl (.tmp c)=.bool q->MU s.ge (j,q):=λq C=>by rw[C]at H;have y:act.tmps.getD c undef=.bool q:=H;rw[hv]at y;injection y with y;subst y;exact⟨J,Q⟩
     refine⟨H,λht=>m _ (λp d=>?_),λhf=>m _ (λp d=>?_)⟩
     ·rcases WJ (p:=(j,true)) d with r |r
      ·exact e p (.inr (.inl r))
      ·subst r;exact C true ht
     ·rcases WJ (p:=(j,false)) d with r |r
      ·exact e p (.inr (.inr r))
      ·subst r;exact C false hf
   |_=>have:=L e;exact⟨this _ (by simp[Op.operands]),λ_=>this _ (by simp[Op.operands]),λ_=>this _ (by simp[Op.operands])⟩
  |_=>exact L e
end Go.Eng

namespace Go.Eng
section
variable{ext:Nat->Value}{P:Program}{ops:Array Oper}{w w':World}{G G':Gh}{s:RS}{act:Act}{done:List Nat}{Q:Exit->Act->World->Prop}
theorem fJ{α:Type}(m:Nat)(a:α)(l:List (Nat×α))(n:Nat):look ((m,a)::l) n=if m=n then some a else look l n:=by
 by_cases h:m=n
 ·subst h;simp[look]
 ·simp[look,qK h,h]
theorem SU{i:Nat}{R:Bool}{Gl:List (Nat×Bool)}{ge:Vz}{a:A}{j:Nat}(h:j≠i):look (Cg i R Gl ge a) j=look ge j:=by
 cases a<;>simp only[Cg]<;>try rfl
 rw[fJ,if_neg (Ne.symm h)]
theorem Fg{i:Nat}{R:Bool}{Gl:List (Nat×Bool)}{ge:Vz}{a:A}(c:look ge i=none){q:Bool×Bool×List (Nat×Bool)}(h:look (Cg i R Gl ge a) i=some q):∃b,a=.bool b/\q=(R,b,Gl):=by
 cases a<;>simp only[Cg]at h<;>try(rw[c]at h;cases h)
 rename_i b;rw[fJ,if_pos rfl]at h;injection h with h;exact⟨b,rfl,h.symm⟩
theorem PL{d t:Nat}{sg:YV}{Gl:List (Nat×Bool)}:VC (Wd d sg Gl) (.tmp t)=if t=d then Gl else VC sg (.tmp t):=by
 cases Gl with
 |nil=>
  cases sg with
  |nil=>simp[Wd,VC,look]
  |cons g sg=>
   simp only[Wd,VC,nH];by_cases h:t=d
   ·simp[h]
   ·simp[h]
 |cons g Gl=>
  simp only[Wd,VC,bR];by_cases h:t=d
  ·simp[h]
  ·simp[h]
theorem J5{i d c:Nat}{l:List (Nat×Nat)}{a:A}{j:Nat}(h:look (U4 i d l a) c=some j):(c=d/\j=i/\∃b,a=.bool b)\/(c≠d/\look l c=some j):=by
 have key:∀(m:List (Nat×Nat)),(m=nZ l d)->look m c=some j->c≠d/\look l c=some j:=λm e g=>by
  subst e;rw[nH]at g;by_cases f:c=d
  ·simp[f]at g
  ·simp only[f,if_false]at g;exact⟨f,g⟩
 cases a with
 |bool b=>
  simp only[U4,fJ]at h;by_cases f:d=c
  ·rw[if_pos f]at h;injection h with h;exact .inl ⟨f.symm,h.symm,b,rfl⟩
  ·rw[if_neg f]at h;exact .inr ⟨Ne.symm f,h⟩
 |_=>
  right;cases l with
  |nil=>simp[U4,look]at h
  |cons p l=>exact key _ rfl h
theorem WK{d:Nat}(c:d<act.tmps.size)(v:Value)(t:Nat):(act.put (some d) v).tmps.getD t undef=if t=d then v else act.tmps.getD t undef:=by
 simp only[Act.put,Array.getD_eq_getD_getElem?];by_cases h:t=d
 ·subst h;simp[c]
 ·rw[if_neg h,Array.getElem?_setIfInBounds_ne (Ne.symm h)]
theorem aFg{d:Nat}(c:d<act.tmps.size)(e:act.tmps.size<=500)(v:Value)(t:Nat):tv ext (act.put (some d) v) t=if t=d then v else tv ext act t:=by
 unfold tv;rw[WK c];by_cases h:t=d
 ·subst h;rw[if_pos (by omega),if_pos rfl,if_pos rfl]
 ·rw[if_neg h,if_neg h]
theorem Ib{d:Nat}{v:Value}{j:Nat}(h:∀o',ops[j]?=some o'->o'.dst≠some d):yielded ops (act.put (some d) v).tmps j=yielded ops act.tmps j:=by
 unfold yielded;cases g:ops[j]?with
 |none=>rfl
 |some o'=>
  cases hd:o'.dst with
  |none=>simp[hd]
  |some e=>have f:d≠e:=λc=>h o' g (by rw[hd,c]);simp[hd,Act.put,Array.getElem?_setIfInBounds_ne f]
theorem HL{d:Nat}(e:d<act.tmps.size){v:Value}{i:Nat}{o:Oper}(c:ops[i]?=some o)(f:o.dst=some d):yielded ops (act.put (some d) v).tmps i=match v with|.bool b=>some b |_=>none:=by unfold yielded;simp only[c,f,Act.put,Option.bind_some,Array.getElem?_setIfInBounds_self_of_lt e];cases v<;>rfl
theorem WL(y:FF ext ops w G s act done){i d:Nat}{o:Oper}(V:ops[i]?=some o)(W:o.dst=some d)(Q:i∉done)(a1:act.tmps.size<=500)(F:d<act.tmps.size)(a2:∀j o',j≠i->ops[j]?=some o'->o'.dst≠some d)
  {st':St}{R:Bool}{Gl:List (Nat×Bool)}{v:Value}(a9:dI w' G' st' (λ_=>none))(b0:∀t,t≠d->yM s.ge (VC s.sg (.tmp t))->dN w' G' st' (st'.sl.get t) (tv ext act t))
  (hd:R=true->dN w' G' st' (st'.sl.get d) v)(U:R=true<->yM s.ge Gl)(J:∀p∈Gl,p.1∈done)(hv:R=false->v=undef):
  FF ext ops w' G' (s.note i d R Gl st' (st'.sl.get d)) (act.put (some d) v) (i::done):=by
 have a6:look s.ge i=none:=by
  cases h:look s.ge i with
  |none=>rfl
  |some q=>obtain⟨H,b',b4⟩:=q;exact absurd (y.ge i _ _ _ h).1 Q
 have K:∀l:List (Nat×Bool),(∀p∈l,p.1∈done)->(yM (Cg i R Gl s.ge (st'.sl.get d)) l<->yM s.ge l):=λl a4=>by
  have:∀p∈l,(MU (Cg i R Gl s.ge (st'.sl.get d)) p<->MU s.ge p):=λp f=>by have a5:p.1≠i:=λe=>Q (by rw[<-e];exact a4 p f);unfold MU;rw[SU a5]
  constructor
  ·exactλh p f=>(this p f).1 (h p f)
  ·exactλh p f=>(this p f).2 (h p f)
 refine⟨a9,λt ht=>?_,λt p f=>?_,λj H b C r=>?_,λc j r=>?_⟩
 ·simp only[RS.note]at ht⊢;rw[PL]at ht;rw[aFg F a1];by_cases e:t=d
  ·subst e;rw[if_pos rfl]at ht⊢;exact hd (U.2 ((K Gl J).1 ht))
  ·rw[if_neg e]at ht⊢;exact b0 t e ((K _ (λp f=>y.sg t p f)).1 ht)
 ·simp only[RS.note]at f;rw[PL]at f;by_cases e:t=d
  ·rw[if_pos e]at f;exact List.mem_cons_of_mem _ (J p f)
  ·rw[if_neg e]at f;exact List.mem_cons_of_mem _ (y.sg t p f)
 ·simp only[RS.note]at r⊢;by_cases e:j=i
  ·subst e;obtain⟨b',e1,g⟩:=Fg a6 r;injection g with g u;injection u with u a0;subst g;subst u;subst a0;refine⟨List.mem_cons_self,λp f=>List.mem_cons_of_mem _ (J p f),?_,λm=>?_,λm=>?_⟩
   ·rw[K C J];exact U
   ·rw[HL F V W];have:=hd m;rw[e1]at this;have b1:v=.bool b:=this;rw[b1]
   ·rw[HL F V W,hv m];rfl
  ·rw[SU e]at r;obtain⟨L,P,T,b2,b3⟩:=y.ge j H b C r;have Y:=Ib (ops:=ops) (act:=act) (d:=d) (v:=v) (j:=j) (λo' a7=>a2 j o' e a7);exact⟨List.mem_cons_of_mem _ L,λp f=>List.mem_cons_of_mem _ (P p f),by rw[K C P];exact T,by rw[Y];exact b2,by rw[Y];exact b3⟩
 ·simp only[RS.note]at r⊢;rcases J5 r with⟨e1,g,b,u⟩ |⟨e1,g⟩
  ·subst e1;subst g;refine⟨R,b,Gl,by rw[u];simp[Cg,fJ],λm=>?_,by rw[PL,if_pos rfl]⟩;rw[WK F,if_pos rfl];have:=hd m;rw[u]at this;exact this
  ·obtain⟨H,b,C,L,P,T⟩:=y.by_ c j g;have a3:j≠i:=λe=>Q (by rw[<-e];exact(y.ge j _ _ _ L).1);exact⟨H,b,C,by rw[SU a3];exact L,λm=>by rw[WK F,if_neg e1];exact P m,by rw[PL,if_neg e1];exact T⟩
theorem aBW(c:FF ext ops w G s act done){i:Nat}{st':St}(h:dI w' G' st' (λ_=>none))(f:Le w G s.st w' G' st'):FF ext ops w' G' {s with st:={st' with sl:=s.st.sl}} act (i::done):=by refine⟨h.slotsTo _,λt ht=>pZ.2 (dR f _ _ (c.slots t ht)),λt p d=>List.mem_cons_of_mem _ (c.sg t p d),λj R b e g=>?_,c.by_⟩;obtain⟨l,m,r,u,v⟩:=c.ge j R b e g;exact⟨List.mem_cons_of_mem _ l,λp d=>List.mem_cons_of_mem _ (m p d),r,u,v⟩
theorem aBX(c:FF ext ops w G s act done){i:Nat}(h:dI w' G' s.st (λ_=>none))(f:Le w G s.st w' G' s.st):FF ext ops w' G' s act (i::done):=by refine⟨h,λt ht=>dR f _ _ (c.slots t ht),λt p d=>List.mem_cons_of_mem _ (c.sg t p d),λj R b e g=>?_,c.by_⟩;obtain⟨l,m,r,u,v⟩:=c.ge j R b e g;exact⟨List.mem_cons_of_mem _ l,λp d=>List.mem_cons_of_mem _ (m p d),r,u,v⟩
theorem WM{g:Oper->Bool}{st:St}{sl:Nat->Option Value}{d i:Nat}{o:Oper}{r:uM}(m:ops[i]?=some o)(l:Region.wanted o (yielded ops act.tmps)=true)(h:Hz g P w G st sl act d o r){K:Act->World->Prop}
  (j:∀v w' G',Fr w G w' G'->RD w G st sl d v w' G' r->K (act.put o.dst v) w'):MP g P ops Q i K act w:=by
 unfold MP;simp only[m];unfold Hz at h;split<;>rename_i s<;>simp only[s]at h
 ·obtain⟨u,f,G',c,e⟩:=h;exact⟨u,.inl ⟨l,f⟩,j u w G' c e⟩
 ·obtain⟨u,f,G',c,e⟩:=h;exact⟨u,.inl ⟨l,f⟩,j u w G' c e⟩
 ·unfold wpOp;simp only[m,l,if_true];exact .inl (h _ _ λv w' G' f c e=>⟨f,j v w' G' c e⟩)
 ·unfold wpOp;simp only[m,l,if_true];exact .inl (h _ _ λv w' G' c e=>j v w' G' c e)
theorem J6{g:Oper->Bool}{i:Nat}{o:Oper}(e:ops[i]?=some o)(d:Region.wanted o (yielded ops act.tmps)=false){K:Act->World->Prop}(c:K (act.put o.dst undef) w):MP g P ops Q i K act w:=by
 unfold MP;simp only[e];split
 ·exact⟨undef,.inr ⟨d,rfl⟩,c⟩
 ·exact⟨undef,.inr ⟨d,rfl⟩,c⟩
 ·unfold wpOp;simp only[e,d,Bool.false_eq_true,if_false];exact⟨HE.refl w,c⟩
 ·unfold wpOp;simp only[e,d,Bool.false_eq_true,if_false];exact c
theorem aBY(st:St)(e d t:Nat):(st.mv e d).sl.get t=if t=d then st.sl.get e else if t=e then .undef else st.sl.get t:=by
 unfold St.mv;by_cases h:e=d
 ·subst h;rw[qD];simp only[cond_true];by_cases ht:t=e
  ·rw[if_pos ht,ht]
  ·rw[if_neg ht,if_neg ht]
 ·rw[qK h];simp only[cond_false,St.put,Tr.get_set];by_cases ht:t=d
  ·subst ht;rw[if_pos rfl,if_neg (λf=>h f.symm),if_pos rfl]
  ·by_cases c:t=e
   ·subst c;rw[if_pos rfl,if_neg ht,if_pos rfl]
   ·rw[if_neg c,if_neg ht,if_neg ht,if_neg c]
theorem aEL(st:St)(e d:Nat):st.mv e d={st with sl:=(st.mv e d).sl}:=by unfold St.mv;cases Nat.beq e d<;>rfl
theorem PN(sl:Tr)(b m:Nat):∀(ks:List Nat)(e:Tr),(Hc sl b ks e).get m=if∃t∈ks,b+t=m then sl.get (m-b)else e.get m
 |[],e=>by simp[Hc]
 |k::ks,e=>by
  simp only[Hc];rw[PN sl b m ks,Tr.get_set];by_cases f:∃t∈ks,b+t=m
  ·rw[if_pos f,if_pos];obtain⟨t,c,d⟩:=f;exact⟨t,List.mem_cons_of_mem _ c,d⟩
  ·rw[if_neg f];by_cases c:m=b+k
   ·rw[if_pos c,if_pos ⟨k,List.mem_cons_self,c.symm⟩,c];congr 1;omega
   ·rw[if_neg c,if_neg];rintro⟨t,d,g⟩;rcases List.mem_cons.1 d with rfl |d
    ·exact c g.symm
    ·exact f ⟨t,d,g⟩
theorem Ov(sl:Tr)(b m:Nat):∀(ks:List Nat)(c:Tr),(We sl b ks c).get m=if m∈ks then sl.get (b+m)else c.get m
 |[],c=>by simp[We]
 |k::ks,c=>by
  simp only[We];rw[Ov sl b m ks,Tr.get_set];by_cases d:m∈ks
  ·rw[if_pos d,if_pos (List.mem_cons_of_mem _ d)]
  ·rw[if_neg d];by_cases e:m=k
   ·subst e;rw[if_pos rfl,if_pos List.mem_cons_self]
   ·rw[if_neg e,if_neg];simp[d,e]
theorem Ic(m:Nat):∀(as:List A)(i:Nat)(c:Tr),(Hb as i c).get m=if i<=m/\m<i+as.length then as.getD (m-i) .undef else c.get m
 |[],i,c=>by simp[Hb];intro d e;omega
 |a::as,i,c=>by
  simp only[Hb];rw[Ic m as (i+1),Tr.get_set];by_cases d:m=i
  ·subst d;rw[if_neg (by omega),if_pos rfl,if_pos (by simp)];simp
  ·by_cases e:i+1<=m/\m<i+1+as.length
   ·rw[if_pos e,if_pos (by simp only[List.length_cons];omega)];obtain⟨k,rfl⟩:∃k,m=i+1+k:=⟨m-(i+1),by omega⟩;rw[show i+1+k-(i+1)=k by omega,show i+1+k-i=k+1 by omega];simp
   ·rw[if_neg e,if_neg d,if_neg (by simp only[List.length_cons];omega)]
theorem JG{α:Type}{f:α->Bool}:∀{l:List α},CS f l=true->∀x∈l,f x=true
 |[],_,x,hx=>by simp at hx
 |y::l,h,x,hx=>by
  simp only[CS,Bool.and_eq_true]at h;rcases List.mem_cons.1 hx with rfl |hx
  ·exact h.1
  ·exact JG h.2 x hx
theorem FU{ge:Vz}{sg:YV}{t:Nat}(h:Oa sg t=true):yM ge (VC sg (.tmp t)):=by
 unfold Oa at h;split at h
 ·rename_i hg;rw[hg];intro p c;simp at c
 ·simp at h
theorem ex0{l:List Nat}{u:Nat}:(∃t∈l,0+t=u)<->u∈l:=by simp
theorem Ow{w:World}{G:Gh}{st:St}:∀{l:List A}{vs:List Value},eT w G st l vs->l.length=vs.length/\∀t,dN w G st (l.getD t .undef) ((vs[t]?).getD undef)
 |[],vs,h=>by have h:vs=[]:=h;subst h;exact⟨rfl,λt=>by simp;exact trivial⟩
 |a::l,vs,h=>by
  obtain⟨v,g,rfl,c,d⟩:=h;obtain⟨e,f⟩:=Ow (l:=l) (vs:=g) d;refine⟨by simp[e],λt=>?_⟩;cases t with
  |zero=>simpa using c
  |succ t=>simpa using f t
theorem v7{E:fC}{C:fI}{ctx:sJ}(c8:jV P E ctx)(T:FF ext ops w G s act done){i:Nat}{o:Oper}(a0:ops[i]?=some o)(g1:i∉done)
  (c3:act.tmps.size<=500)(f8:∀d,o.dst=some d->d<act.tmps.size)(f0:∀d,o.dst=some d->∀j o',j≠i->ops[j]?=some o'->o'.dst≠some d){d:Nat}(hd:o.dst=some d){q:e8}(f4:LH C o=some (d,q))
  (b5:Sp w G s.st act o.op)(g8:Region.wanted o (yielded ops act.tmps)=true){b7:RS}(h:VE E ctx i o s d q=some b7){K:Act->World->Prop}
  (c9:∀w' G' v,Fr w G w' G'->FF ext ops w' G' b7 (act.put o.dst v) (i::done)->K (act.put o.dst v) w'):MP (jT E C) P ops Q i K act w:=by
 classical
 unfold VE at h;split at h
 ·rename_i c U;split at h
  ·rename_i f hf;rw[U]at b5;have hx:∀x∈c.operands,dN w G s.st (eK s.st.sl x) (act.eval x):=b5;have b2:=hx f (by simp[Call.operands,hf]);split at h
   ·rename_i n caps f2;rw[f2]at b2;obtain⟨W,e6,e5⟩:=b2;obtain⟨g,a5,c1⟩:=bind_some h;simp only[oM]at a5;obtain⟨c2,a6⟩:=aU c1;have g0:=Nat.eq_of_beq_eq_true c2;have b1:=c8.inl q.site g a5;have e0:=PE (w:=w) (G:=G) (st:=s.st) (act:=act) c.args.toList (λx g9=>hx x (by simp only[Call.operands,Array.mem_append];exact .inr (by simpa using g9)));have d3:=MK e0 e5;unfold aBo at a6;obtain⟨a7,c6⟩:=aU a6;obtain⟨r,c7,b0⟩:=bind_some c6;simp only[ok,Option.some.injEq]at b0;simp only[Bool.and_eq_true]at a7;obtain⟨a9,c4,c5⟩:=a7;have f7:=Nat.eq_of_beq_eq_true c4;have g2:=Nat.le_of_ble_eq_true c5;simp only[aBn,Bool.and_eq_true]at a9;obtain⟨e3,f9,g3⟩:=a9;have h1:=Nat.le_of_ble_eq_true e3;have a1:∀t∈q.live,t<1000/\yM s.ge (VC s.sg (.tmp t)):=λt ht=>by
     have:=JG f9 t ht;simp only[Bool.and_eq_true]at this;exact⟨Nat.le_of_ble_eq_true this.1,FU this.2⟩
    have H:∀t∈q.old,1000<=t/\(t<q.base\/q.base+1000<=t)/\yM s.ge (VC s.sg (.tmp t)):=λt ht=>by have:=JG g3 t ht;simp only[Bool.and_eq_true,Bool.or_eq_true]at this;exact⟨Nat.le_of_ble_eq_true this.1,this.2.1.imp Nat.le_of_ble_eq_true Nat.le_of_ble_eq_true,FU this.2.2⟩
    let J:Nat->Value:=λu=>if∃t∈q.live,q.base+t=u then tv ext act (u-q.base)else ext u
    obtain⟨d2,d1⟩:=Ow d3;have b3:∀u,(Hd s.st q (E8 s.st.sl c.args.toList++caps)).sl.get u=if u∈q.old then s.st.sl.get u else if∃t∈q.live,q.base+t=u then s.st.sl.get (u-q.base)else if u<(E8 s.st.sl c.args.toList++caps).length then(E8 s.st.sl c.args.toList++caps).getD u .undef else .undef:=λu=>by
     simp only[Hd];rw[PN,PN,Ic];have e1:(∃t∈q.old,0+t=u)<->u∈q.old:=ex0;by_cases m:u∈q.old
     ·rw[if_pos (e1.2 m),if_pos m];simp
     ·rw[if_neg (λC=>m (e1.1 C)),if_neg m];by_cases l:∃t∈q.live,q.base+t=u
      ·rw[if_pos l,if_pos l]
      ·rw[if_neg l,if_neg l];by_cases L:u<(E8 s.st.sl c.args.toList++caps).length
       ·rw[if_pos ⟨Nat.zero_le _,by omega⟩,if_pos L];simp
       ·rw[if_neg (by omega),if_neg L];exact Tr.get_nil u
    have g6:dI w G (Hd s.st q (E8 s.st.sl c.args.toList++caps)) (λ_=>none):=T.rel.slotsTo _;have e4:=b1.run (w:=w) (G:=G) (vs:=c.args.toList.map act.eval++W) (ext:=J) c7 (by rw[<-d2];exact f7) g2 g6
     (λt ht=>by
      rw[b3 t];rw[if_neg (λC=>absurd (H t C).1 (by omega)),if_neg (by rintro⟨y,F,Y⟩;omega)];split
      ·exact pZ.2 (d1 t)
      ·exact trivial)
     (λt ht=>by
      rw[b3 t];by_cases m:t∈q.old
      ·have l:¬∃y∈q.live,q.base+y=t:=by
        rintro⟨y,F,Y⟩;have:=(a1 y F).1;have:=(H t m).2.1;omega
       have:=T.slots t (H t m).2.2;rw[if_pos m];simp only[J,if_neg l];simp only[tv,if_neg (show¬t<1000 by omega)]at this;exact pZ.2 this
      ·rw[if_neg m];by_cases l:∃y∈q.live,q.base+y=t
       ·rw[if_pos l];simp only[J,if_pos l];obtain⟨y,F,Y⟩:=l;have c0:t-q.base=y:=by omega
        rw[c0];exact pZ.2 (T.slots y (a1 y F).2)
       ·rw[if_neg l,if_neg (by omega)];exact trivial)
    have g7:(execOp act.eval o).run P w=.ok (.enter g.fn ⟨c.args.toList.map act.eval++W⟩) w:=by
     obtain⟨fn,a2,a3,a4⟩:=b1.fn;have e2:c.args.map act.eval=⟨c.args.toList.map act.eval⟩:=by apply Array.ext';simp
     have h0:fn.body≠none:=λe=>by simp[e]at a4
     have e7:act.eval f=.func (.func g.fn) #[] ⟨W⟩:=by rw[g0];exact e6
     simp[execOp,U,resolve,hf,e7,Deferred.ofValue,invoke,callFunc,a2,a3,h0,e2]
    have f5:FA (jT E C) o=.other:=by
     unfold FA;have hg:jT E C o=false:=by unfold jT;rw[f4]
     have f6:kd o.op=.other:=by rw[U];simp[kd,hf]
     rw[f6];simp only[U,hg,cond_false]
    unfold MP;simp only[a0,f5];unfold wpOp;simp only[a0,g8,if_true];refine .inl ?_;unfold Oper.wp;rw[g7];refine Calls.mono e4 λe w' f1=>?_;obtain⟨v,G',rfl,a2,a3,a4,b6⟩:=f1;refine c9 w' G' v a2 ?_;subst b0;rw[hd];have f3:∀t,(DA r.2 q).sl.get t=if t∈q.old then r.2.sl.get t else if t∈q.live then r.2.sl.get (q.base+t)else .undef:=λt=>by
     simp only[DA];rw[PN,Ov];have e1:(∃y∈q.old,0+y=t)<->t∈q.old:=ex0;by_cases m:t∈q.old
     ·rw[if_pos (e1.2 m),if_pos m];simp
     ·rw[if_neg (λC=>m (e1.1 C)),if_neg m];by_cases l:t∈q.live
      ·rw[if_pos l,if_pos l]
      ·rw[if_neg l,if_neg l];exact Tr.get_nil t
    have b4:((DA r.2 q).put d r.1).sl.get d=r.1:=by simp[St.put,Tr.get_set]
    have g5:dI w' G' ((DA r.2 q).put d r.1) (λ_=>none):=(a3.slotsTo (DA r.2 q).sl).slotsTo _;have V:∀{a:A}{v:Value},dN w' G' r.2 a v->dN w' G' ((DA r.2 q).put d r.1) a v:=λd0=>pZ.2 (pZ.2 d0);have:=WL (st':=(DA r.2 q).put d r.1) (R:=true) (Gl:=[]) (v:=v) T a0 hd g1 c3 (f8 d hd) (f0 d hd) g5 (λt ht h2=>by
     have e1:((DA r.2 q).put d r.1).sl.get t=(DA r.2 q).sl.get t:=by simp[St.put,Tr.get_set,ht]
     rw[e1,f3 t];by_cases m:t∈q.old
     ·rw[if_pos m];have l:¬∃y∈q.live,q.base+y=t:=by
       rintro⟨y,F,Y⟩;have:=(a1 y F).1;have:=(H t m).2.1;omega
      have:=b6 t (H t m).1;simp only[J,if_neg l]at this;simp only[tv,if_neg (show¬t<1000 by have:=(H t m).1;omega)];exact V this
     ·rw[if_neg m];by_cases l:t∈q.live
      ·rw[if_pos l];have:=b6 (q.base+t) (by omega);have L:∃y∈q.live,q.base+y=q.base+t:=⟨t,l,rfl⟩;simp only[J,if_pos L,Nat.add_sub_cancel_left]at this;exact V this
      ·rw[if_neg l];exact trivial) (λ_=>by rw[b4];exact V a4) ⟨λ_ p g4=>by simp at g4,λ_=>rfl⟩ (by simp) (by simp)
    rw[b4]at this;exact this
   ·simp[aG]at h
  ·simp[aG]at h
 ·simp[aG]at h
theorem aEM(n:Nat){d:Nat}(hd:d<500\/600<=d):HB n+d<500\/600<=HB n+d:=by
 cases n with
 |zero=>simpa[HB]using hd
 |succ n=>right;simp only[HB];omega
theorem Da{E:fC}{l:List (Nat×Nat×Nat)}{gd:Bool}{x:M RS}{f:RS}(h:(match l with|[]=>x |c::l=>bif gd then aG "a check, under a guard"else x.bind (ckS E (c::l)))=some f):x=some f:=by
 split at h
 ·exact h
 ·obtain⟨_,h⟩:=ZE h;obtain⟨s1,g,d⟩:=bind_some h;unfold ckS at d;obtain⟨_,e⟩:=aU d;simp only[ok,Option.some.injEq]at e;subst e;exact g
theorem Ox{E:fC}{g:fI}{ctx:sJ}(b1:gY P E)(a1:jV P E ctx)(l:FF ext ops w G s act done){i:Nat}{o:Oper}(y:ops[i]?=some o)(V:i∉done)
  (F:act.tmps.size<=500)(H:∀d,o.dst=some d->d<act.tmps.size)(U:∀d,o.dst=some d->∀j o',j≠i->ops[j]?=some o'->o'.dst≠some d){R gd:Bool}{Gl:List (Nat×Bool)}
  (c3:Wa (Wc s o) Gl=true)(T:R=true<->yM s.ge Gl)(a3:∀p∈Gl,p.1∈done)(Y:Region.wanted o (yielded ops act.tmps)=R)(c1:R=false->gd=true){b5:RS}(h:BR E g ctx i o s R gd Gl=some b5){K:Act->World->Prop}
  (L:∀w' G' v,Fr w G w' G'->FF ext ops w' G' b5 (act.put o.dst v) (i::done)->K (act.put o.dst v) w'):MP (jT E g) P ops Q i K act w:=by
 classical
 cases b2:R with
 |true=>
  subst b2;have a6:=l.trusts c3 (T.1 rfl);let sl:Nat->Option Value:=λt=>if yM s.ge (VC s.sg (.tmp t))then some (tv ext act t)else none
  have W:dI w G s.st sl:=l.rel.withSlots λt v hv=>by
   simp only[sl]at hv;split at hv
   ·rename_i ht;injection hv with hv;subst hv;exact l.slots t ht
   ·simp at hv
  have b4:∀t,yM s.ge (VC s.sg (.tmp t))->sl t=some (tv ext act t):=λt ht=>by simp[sl,ht]
  unfold BR at h;cases c:LH g o with
  |some q=>
   rw[c]at h;simp only at h;cases b3:gd with
   |true=>rw[b3]at h;simp[aG]at h
   |false=>
    rw[b3]at h;simp only[cond_false]at h;obtain⟨d,c9⟩:=q;have hd:o.dst=some d:=by
     unfold LH at c;split at c
     ·simp at c
     ·split at c
      ·rename_i c7 c0;simp only[Option.map_eq_some_iff]at c;obtain⟨_,_,e⟩:=c;injection e with e1 c8;rw[c0,e1]
      ·simp at c
    obtain⟨s1,b6,a9⟩:=bind_some h;unfold ckS at a9;obtain⟨_,b0⟩:=aU a9;simp only[ok,Option.some.injEq]at b0;subst b0;exact v7 a1 l y V F H U hd c a6 Y b6 L
  |none=>
  rw[c]at h;simp only at h;replace h:=Da h;unfold CM at h;cases hd:o.dst with
  |some d=>
   simp only[hd]at h;obtain⟨r,m,f⟩:=bind_some h;have a5:=Ia b1 a1 W (ot:=o) (d:=HB g.nb+d) (aEM _ (.inl (Nat.lt_of_lt_of_le (H d hd) F))) (by simp[hd]) c a6 m;refine WM y Y a5 λv w' G' a2 u=>?_;refine L w' G' v a2 ?_;rw[hd];cases r with
   |val a=>
    simp[VD,ok]at f;subst f;obtain⟨c4,c5,c6⟩:=u;have C:=c5.put (d:=d) c6;have a4:(s.st.put d a).sl.get d=a:=by simp[St.put,Tr.get_set]
    have:=WL (st':=s.st.put d a) (R:=true) (Gl:=Gl) (v:=v) l y hd V F (H d hd) (U d hd) C.none (λt ht J=>C.slots t _ (by simp[yK,ht,b4 t J])) (λ_=>C.slots d _ (by simp[yK])) T a3 (by simp);rw[a4]at this;exact this
   |st st'=>
    simp[VD,ok]at f;subst f;obtain⟨c4,C⟩:=u;have c2:dI w' G' (st'.mv (HB g.nb+d) d) (λ_=>none):=by rw[aEL];exact C.slotsTo _
    have a7:∀{a:A}{v:Value},dN w' G' st' a v->dN w' G' (st'.mv (HB g.nb+d) d) a v:=λb7=>by rw[aEL];exact pZ.2 b7
    exact WL (st':=st'.mv (HB g.nb+d) d) (R:=true) (Gl:=Gl) (v:=v) l y hd V F (H d hd) (U d hd) c2 (λt ht J=>by
     rw[aBY,if_neg ht];by_cases a0:t=HB g.nb+d
     ·rw[if_pos a0];exact trivial
     ·rw[if_neg a0];exact a7 (C.slots t _ (by simp[yK,a0,b4 t J]))) (λ_=>by rw[aBY,if_pos rfl];exact a7 (C.slots (HB g.nb+d) _ (by simp[yK]))) T a3 (by simp)
  |none=>
   simp only[hd]at h;cases gd with
   |true=>simp[aG]at h
   |false=>
    simp only[cond_false]at h;obtain⟨r,m,f⟩:=bind_some h;have a5:=Ia b1 a1 W (ot:=o) (d:=HB g.nb+4000) (aEM _ (.inr (by omega))) (by simp[hd]) c a6 m;refine WM y Y a5 λv w' G' a2 u=>?_;refine L w' G' v a2 ?_;rw[hd];cases r with
    |val a=>simp[Ro,ok]at f;subst f;exact aBX l u.2.1.none u.1
    |st st'=>simp[Ro,ok]at f;subst f;exact aBW l u.2.none u.1
 |false=>
  subst b2;have:=c1 rfl;subst this;unfold BR at h;cases c:LH g o with
  |some q=>rw[c]at h;simp[aG]at h
  |none=>
  rw[c]at h;simp only at h;replace h:=Da h;unfold CM at h;cases hd:o.dst with
  |none=>simp[hd,aG]at h
  |some d=>
   simp only[hd]at h;obtain⟨r,m,f⟩:=bind_some h;obtain⟨a,rfl⟩:=J4 m;simp[VD,ok]at f;subst f;refine J6 y Y (L w G undef (Fr.refl w G) ?_);rw[hd];have W:=l.rel.slotsTo (s.st.sl.set d a);have a4:(s.st.put d a).sl.get d=a:=by simp[St.put,Tr.get_set]
   have:=WL (st':=s.st.put d a) (R:=false) (Gl:=Gl) (v:=undef) l y hd V F (H d hd) (U d hd) W (λt ht J=>by
    have m:=l.slots t J;have f:(s.st.put d a).sl.get t=s.st.sl.get t:=by simp[St.put,Tr.get_set,ht]
    rw[f];exact pZ.2 m) (by simp) T a3 (by simp)
   rw[a4]at this;exact this
theorem J7{E:fC}{W:fI}{ctx:sJ}(L:gY P E)(J:jV P E ctx)(u:FF ext ops w G s act done){i:Nat}{o:Oper}(Y:ops[i]?=some o)(a1:i∉done)
  (H:act.tmps.size<=500)(a0:∀d,o.dst=some d->d<act.tmps.size)(V:∀d,o.dst=some d->∀j o',j≠i->ops[j]?=some o'->o'.dst≠some d){a2:RS}(h:SE E W ctx i o s=some a2){K:Act->World->Prop}
  (T:∀w' G' v,Fr w G w' G'->FF ext ops w' G' a2 (act.put o.dst v) (i::done)->K (act.put o.dst v) w'):MP (jT E W) P ops Q i K act w:=by
 unfold SE at h;cases hg:o.guard with
 |none=>simp only[hg]at h;obtain⟨f,r⟩:=aU h;exact Ox L J u Y a1 H a0 V f ⟨λ_ p c=>by simp at c,λ_=>rfl⟩ (by simp) (by simp[Region.wanted,hg]) (by simp) r T
 |some p=>
  obtain⟨j,m⟩:=p;simp only[hg]at h;obtain⟨q,f,r⟩:=bind_some h;simp only[oM]at f;obtain⟨g,l,y⟩:=q;unfold Rp at r;obtain⟨C,F⟩:=aU r;simp only at C F;obtain⟨a4,a5,a6,a7,a9⟩:=u.ge j g l y f;have a3:(g&&FB l m)=true<->(g=true/\l=m):=by cases g<;>cases l<;>cases m<;>simp[FB]
  refine Ox L J u Y a1 H a0 V C ?_ ?_ ?_ (λ_=>rfl) F T
  ·rw[a3];constructor
   ·rintro⟨rfl,rfl⟩ p c;rcases List.mem_cons.1 c with rfl |c
    ·exact⟨y,f⟩
    ·exact a6.1 rfl p c
   ·intro ht;obtain⟨b0,e⟩:=ht (j,m) (by simp);simp only at e;rw[f]at e;injection e with e;injection e with e1 t;injection t with t b1;exact⟨e1,t⟩
  ·intro p c;rcases List.mem_cons.1 c with rfl |c
   ·exact a4
   ·exact a5 p c
  ·simp only[Region.wanted,hg];cases U:g with
   |true=>rw[a7 U];cases l<;>cases m<;>rfl
   |false=>rw[a9 U];rfl
def Xm(h:fI)(i:Nat)(o:Oper):List (Nat×Nat×Nat):=
 match LH h o with
 |some q=>q.2.ck
 |none=>ckP h i o
theorem Xn{E:fC}{l:List (Nat×Nat×Nat)}{s c:RS}(h:ckS E l s=some c):s=c/\CS (Ch E c) l=true:=by unfold ckS at h;obtain⟨e,d⟩:=aU h;simp only[ok,Option.some.injEq]at d;subst d;exact⟨rfl,e⟩
theorem aDB{E:fC}{d:fI}{ctx:sJ}{i:Nat}{o:Oper}{s e:RS}(h:SE E d ctx i o s=some e):CS (Ch E e) (Xm d i o)=true:=by
 have key:∀{R gd:Bool}{Gl:List (Nat×Bool)},BR E d ctx i o s R gd Gl=some e->CS (Ch E e) (Xm d i o)=true:=λ{R gd Gl}h=>by
  unfold BR at h;unfold Xm;cases j:LH d o with
  |some q=>rw[j]at h;simp only at h⊢;obtain⟨_,h⟩:=ZE h;obtain⟨s1,_,f⟩:=bind_some h;exact(Xn f).2
  |none=>
   rw[j]at h;simp only at h⊢;cases m:ckP d i o with
   |nil=>rfl
   |cons c l=>rw[m]at h;simp only at h;obtain⟨_,h⟩:=ZE h;obtain⟨s1,_,f⟩:=bind_some h;exact(Xn f).2
 unfold SE at h;cases hg:o.guard with
 |none=>simp only[hg]at h;exact key (aU h).2
 |some p=>simp only[hg]at h;obtain⟨r,_,g⟩:=bind_some h;unfold Rp at g;exact key (aU g).2
theorem J8{E:fC}(H:gY P E)(r:FF ext ops w G s act done){d t n:Nat}(h:Ch E s (d,t,n)=true){l:Oper}(Q:l.op=.load t (.tmp n))(hg:l.guard=none):Yl P ops l (act.tmps.getD d undef) act w:=by
 unfold Ch at h;simp only[Bool.and_eq_true]at h;obtain⟨C,F,c⟩:=h;split at c
 ·rename_i a J;obtain⟨ti,ht,L⟩:=bind_some J;have hx:dN w G s.st (eK s.st.sl (.tmp n)) (act.eval (.tmp n)):=PD (r.slots n (FU F));have hv:dN w G s.st (eK s.st.sl (.tmp d)) (act.tmps.getD d undef):=PD (r.slots d (FU C));simp only[oM,sD]at ht;obtain⟨u,y,m⟩:=Hl (x:=.tmp n) (H.types _ _ ht) r.rel hx L l Q;have e:u=act.tmps.getD d undef:=by
   generalize eK s.st.sl (.tmp d)=b at c hv;unfold aEK at c;split at c
   ·simp only[Bool.and_eq_true]at c;obtain⟨f,g,j⟩:=c;have f:=Nat.eq_of_beq_eq_true f;have g:=Nat.eq_of_beq_eq_true g;subst f;subst g;split at j
    ·simp only[jI]at j;split at j
     ·rename_i b K;have v:=eH K;exact(m.2 _ v).1.trans (hv.2 _ v).1.symm
     ·simp at j
    ·simp at j
   ·simp only[Bool.and_eq_true]at c;have f:=(fD _ _).1 c.1;have g:=(bT _ _).1 c.2;subst f;subst g;exact m.1.trans hv.1.symm
   ·rw[VQ,beq_iff_eq]at c;subst c;exact m.trans hv.symm
   ·simp at c
  rw[<-e];exact .inl ⟨by simp[Region.wanted,hg],y⟩
 ·simp at c
end
end Go.Eng

namespace Go.Eng
structure iM(ext:Nat->Value)(nt:Nat)(w:World)(G:Gh)(st:St)(act:Act):Prop where
 rel:dI w G st (λ_=>none)
 slots:∀t,dN w G st (st.sl.get t) (tv ext act t)
 size:act.tmps.size=nt
 defers:act.defers=[]
section
variable{ext:Nat->Value}{P:Program}{ops:Array Oper}{w:World}{G:Gh}{s:RS}{act:Act}{done:List Nat}{Q:Exit->Act->World->Prop}{nt:Nat}
theorem Xo(a:Act)(d:Option Tmp)(v:Value):(a.put d v).tmps.size=a.tmps.size/\(a.put d v).defers=a.defers:=by
 cases d with
 |none=>exact⟨rfl,rfl⟩
 |some d=>exact⟨by simp[Act.put],rfl⟩
def aGh(l:List (Nat×Nat×Nat))(e:Oper):Bool:=
 match e.dst,e.op,e.guard with
 |some d,.load t (.tmp n),none=>QQ (λc=>Nat.beq c.1 d&&(Nat.beq c.2.1 t&&Nat.beq c.2.2 n)) l
 |_,_,_=>false
def Id(h:fI)(ops:Array Oper)(x j:Nat):Bool:=
 match ops[x]?,ops[j]?with
 |some d,some c=>aGh (Xm h j c) d
 |_,_=>false
def Ss(ops:Array Oper)(x j:Nat):Bool:=
 match ops[x]?,ops[j]?with
 |some e,some c=>(match e.op,c.dst with
  |.load _ (.tmp n),some d=>!Nat.beq d n
  |_,_=>true)
 |_,_=>true
def Db(ck:Nat->Nat->Bool)(ops:Array Oper):List Nat->Bool
 |[]=>true
 |x::l=>(bif QQ (ck x) l then allB (Ss ops x) (x::l)else true)&&Db ck ops l
theorem X4{α:Type}:∀(l:List α),QQ (λ_=>false) l=false
 |[]=>rfl
 |_::l=>by simp[QQ,X4 l]
theorem Dc:∀(l:List Nat),Db (λ_ _=>false) ops l=true
 |[]=>rfl
 |x::l=>by simp[Db,X4,Dc l]
theorem Oy{α:Type}{f:α->Bool}:∀{l:List α},QQ f l=true->∃a∈l,f a=true
 |[],h=>by simp[QQ]at h
 |b::l,h=>by
  simp only[QQ,Bool.or_eq_true]at h;rcases h with h |h
  ·exact⟨b,by simp,h⟩
  ·obtain⟨a,c,d⟩:=Oy h;exact⟨a,by simp[c],d⟩
theorem aDC{α:Type}{f:α->Bool}{a:α}{l:List α}(c:a∈l)(h:f a=true):QQ f l=true:=by
 cases e:QQ f l with
 |true=>rfl
 |false=>rw[ST e a c]at h;cases h
theorem Ie{l:fI}{x j:Nat}(h:Id l ops x j=true):∃e g d t n,ops[x]?=some e/\ops[j]?=some g/\e.dst=some d/\e.op=.load t (.tmp n)/\e.guard=none/\(d,t,n)∈Xm l j g:=by
 unfold Id at h;split at h
 ·rename_i e g hx C;unfold aGh at h;split at h
  ·rename_i d t n s u v;obtain⟨c,y,f⟩:=Oy h;simp only[Bool.and_eq_true]at f;have e1:=Nat.eq_of_beq_eq_true f.1;have m:=Nat.eq_of_beq_eq_true f.2.1;have r:=Nat.eq_of_beq_eq_true f.2.2;subst e1;subst m;subst r;exact⟨e,g,_,_,_,hx,C,s,u,v,y⟩
  ·simp at h
 ·simp at h
def PI(P:Program)(ops:Array Oper)(ck:Nat->Nat->Bool)(act:Act)(f done:List Nat)(e:Nat×(World->Prop)):Prop:=
 (∃j∈f,ck e.1 j=true)->∃c d t n,ops[e.1]?=some c/\c.dst=some d/\c.op=.load t (.tmp n)/\c.guard=none/\e.1∈done/\(∀j∈f,Ss ops e.1 j=true)/\∀w,Yl P ops c (act.tmps.getD d undef) act w->e.2 w
theorem Su{c:Oper}{t:TypeId}{n:Nat}{v:Value}{a a':Act}{w:World}(e:c.op=.load t (.tmp n))(hg:c.guard=none)(d:a'.tmps.getD n undef=a.tmps.getD n undef)(h:Yl P ops c v a w):Yl P ops c v a' w:=by refine h.of_same ?_ (by simp[Region.wanted,hg]);have:a'.eval (.tmp n)=a.eval (.tmp n):=d;simp only[execOp,e,this]
theorem ZN{x j n t:Nat}{d c:Oper}(h:Ss ops x j=true)(hx:ops[x]?=some d)(f:ops[j]?=some c)(g:d.op=.load t (.tmp n)):c.dst≠some n:=by unfold Ss at h;simp only[hx,f,g]at h;intro e;simp[e]at h
theorem zZ{d:Option Tmp}{v:Value}{n:Nat}(h:d≠some n):(act.put d v).tmps.getD n undef=act.tmps.getD n undef:=by
 cases d with
 |none=>rfl
 |some d=>have:n≠d:=λe=>h (by rw[e]);simp only[Act.put,Array.getD_eq_getD_getElem?];rw[Array.getElem?_setIfInBounds_ne (Ne.symm this)]
theorem PI.step{ck:Nat->Nat->Bool}{i:Nat}{o:Oper}{C done:List Nat}{e:Nat×(World->Prop)}{v:Value}(u:ops[i]?=some o)(L:i∉done)
  (K:∀(i:Nat)(o:Oper),ops[i]?=some o->∀d,o.dst=some d->∀(j:Nat)(o':Oper),j≠i->ops[j]?=some o'->o'.dst≠some d)(h:PI P ops ck act (i::C) done e):PI P ops ck (act.put o.dst v) C (i::done) e:=λ⟨j,g,J⟩=>by
 obtain⟨F,d,t,n,c,l,f,m,r,s,H⟩:=h ⟨j,List.mem_cons_of_mem _ g,J⟩;have Q:o.dst≠some d:=K e.1 F c d l i o (λG=>L (by rw[G];exact r)) u;have T:o.dst≠some n:=ZN (s i List.mem_cons_self) c u f;refine⟨F,d,t,n,c,l,f,m,List.mem_cons_of_mem _ r,λj g=>s j (List.mem_cons_of_mem _ g),λw y=>H w ?_⟩;rw[zZ Q]at y;exact Su f m (zZ T).symm y
theorem If{E:fC}{F:fI}{ctx:sJ}{ck:Nat->Nat->Bool}(a4:gY P E)(c4:jV P E ctx)(c3:nt<=500)(b3:∀(j:Nat)(o:Oper),ops[j]?=some o->∀d,o.dst=some d->d<nt)(L:∀(i:Nat)(o:Oper),ops[i]?=some o->∀d,o.dst=some d->∀(j:Nat)(o':Oper),j≠i->ops[j]?=some o'->o'.dst≠some d)
  (a6:∀x j,ck x j=true->Id F ops x j=true):
  ∀(l:List (Nat×Oper)){w:World}{G:Gh}{s:RS}{act:Act}{done:List Nat}{a2:RS}{H:FE},FF ext ops w G s act done->(∀p∈l,ops[p.1]?=some p.2)->(l.map (·.1)).Nodup->(∀p∈l,p.1∉done)->act.tmps.size=nt->act.defers=[]->
   Db ck ops (l.map (·.1))=true->(∀e∈H,PI P ops ck act (l.map (·.1)) done e)->
   IS E F ctx l s=some a2->(∀w' G' J e4,Fr w G w' G'->FF ext ops w' G' a2 J e4->J.tmps.size=nt->J.defers=[]->Q .normal J w')->SK (jT E F) ck P ops Q (l.map (·.1)) H act w
 |[],w,G,s,act,done,a2,H,b0,_,_,_,u,hd,_,_,h,a5=>by simp[IS,ok]at h;subst h;exact a5 w G act done (Fr.refl w G) b0 u hd
 |p::l,w,G,s,act,done,a2,H,b0,c5,b4,c6,u,hd,b6,c8,h,a5=>by
  simp only[IS]at h;obtain⟨s1,c2,f0⟩:=bind_some h;have c:=c5 p (by simp);simp only[List.map_cons,List.nodup_cons]at b4;simp only[List.map_cons,Db,Bool.and_eq_true]at b6;have b5:=c6 p (by simp);let e2:Act->World->Prop:=λa' w'=>∃G' v,a'=act.put p.2.dst v/\Fr w G w' G'/\FF ext ops w' G' s1 a' (p.1::done)
  have f9:MP (jT E F) P ops Q p.1 e2 act w:=J7 a4 c4 b0 c b5 (by rw[u];exact c3) (λd f3=>by rw[u];exact b3 p.1 p.2 c d f3) (L p.1 p.2 c) c2 (λw' G' v m g=>⟨G',v,rfl,m,g⟩);have f5:∀q∈l,q.1∉p.1::done:=λq T=>by simp only[List.mem_cons,not_or];refine⟨λe=>b4.1 ?_,c6 q (by simp[T])⟩;rw[<-e];exact List.mem_map_of_mem T
  have next:∀{v:Value}{w':World}{G':Gh}{d2:FE},Fr w G w' G'->FF ext ops w' G' s1 (act.put p.2.dst v) (p.1::done)->(∀e∈d2,PI P ops ck (act.put p.2.dst v) (l.map (·.1)) (p.1::done) e)->SK (jT E F) ck P ops Q (l.map (·.1)) d2 (act.put p.2.dst v) w':=
   λm g f7=>If a4 c4 c3 b3 L a6 l g (λq T=>c5 q (by simp[T])) b4.2 f5 (by rw[(Xo _ _ _).1];exact u) (by rw[(Xo _ _ _).2];exact hd) b6.2 f7 f0 (λd3 e0 e3 e5 f1=>a5 d3 e0 e3 e5 (m.trans f1))
  have old:∀{v:Value},∀e∈H,PI P ops ck (act.put p.2.dst v) (l.map (·.1)) (p.1::done) e:=λe a7=>(c8 e a7).step c b5 L;refine aBH c f9 (λf4 v w' b2=>?_) (λf4 a' w' b2=>?_)
  ·obtain⟨G',g5,e,m,g⟩:=b2;refine next m g λa3 a9=>?_
   rcases List.mem_cons.1 a9 with rfl |a9
   ·rintro⟨j,b1,C⟩;obtain⟨a1,g2,d,t,n,y,_,f,r,K,_⟩:=Ie (a6 _ _ C);have e1:a1=p.2:=by
     have:ops[p.1]?=some a1:=y;rw[c]at this;injection this with this;exact this.symm
    subst e1;have f2:QQ (ck p.1) (l.map (·.1))=true:=aDC b1 C;have b7:=b6.1;rw[f2]at b7;simp only[cond_true]at b7;have c7:=iY b7;refine⟨p.2,d,t,n,c,f,r,K,List.mem_cons_self,λj b1=>c7 j (List.mem_cons_of_mem _ b1),λd3 U=>?_⟩;have f6:p.2.dst≠some n:=ZN (c7 p.1 List.mem_cons_self) c c r;have c9:=Su r K (zZ (act:=act) (v:=v) f6).symm U;rw[f,WK (by rw[u];exact b3 p.1 p.2 c d f),if_pos rfl]at c9;exact c9
   ·exact old a3 a9
  ·obtain⟨G',v,rfl,m,g⟩:=b2;refine⟨λ_ e a7 C=>?_,next m g old⟩;obtain⟨a1,d,t,n,y,c1,f,r,K,e6,e7⟩:=c8 e a7 ⟨p.1,by simp,C⟩;obtain⟨g4,g2,d1,t1,d0,V,W,Y,a0,g3,g0⟩:=Ie (a6 _ _ C);rw[y]at V;injection V with V;subst V;rw[c1]at Y;injection Y with Y;subst Y;rw[f]at a0;injection a0 with a0 c0;injection c0 with c0;subst a0;subst c0;rw[c]at W;injection W with W;subst W;have f8:=JG (aDB c2) _ g0;have U:=J8 a4 g f8 f r;have d0:p.2.dst≠some d:=L e.1 a1 y d c1 p.1 p.2 (λa3=>b5 (by rw[a3];exact K)) c;have g1:p.2.dst≠some n:=ZN (e6 p.1 (by simp)) y c f;rw[zZ d0]at U;exact e7 w' (Su f r (zZ g1).symm U)
theorem ZO:∀(sg:YV)(st:St),∃c,tM sg st={st with sl:=c}
 |[],st=>⟨st.sl,rfl⟩
 |(d,[])::l,st=>ZO l st
 |(d,_::_)::l,st=>by obtain⟨c,h⟩:=ZO l (st.put d .undef);exact⟨c,by rw[tM,h];rfl⟩
theorem SV:∀(sg:YV)(st:St)(t:Nat),(tM sg st).sl.get t=.undef\/((tM sg st).sl.get t=st.sl.get t/\VC sg (.tmp t)=[])
 |[],st,t=>.inr ⟨rfl,rfl⟩
 |(d,[])::l,st,t=>by
  rcases SV l st t with h |⟨c,f⟩
  ·exact .inl h
  ·refine .inr ⟨c,?_⟩;simp only[VC,fJ];by_cases e:d=t
   ·simp[e]
   ·rw[if_neg e];exact f
 |(d,p::q)::l,st,t=>by
  rcases SV l (st.put d .undef) t with h |⟨c,f⟩
  ·exact .inl h
  ·by_cases e:d=t
   ·left;simp only[tM];rw[c];simp[St.put,Tr.get_set,e]
   ·right;simp only[tM,VC,fJ,if_neg e];refine⟨?_,f⟩;rw[c];simp[St.put,Tr.get_set,Ne.symm e]
theorem FF.clear(c:FF ext ops w G s act done)(l:act.tmps.size=nt)(hd:act.defers=[]):iM ext nt w G (tM s.sg s.st) act:=by
 obtain⟨m,e⟩:=ZO s.sg s.st;refine⟨by rw[e];exact c.rel.slotsTo m,λt=>?_,l,hd⟩;have f:dN w G (tM s.sg s.st) ((tM s.sg s.st).sl.get t) (tv ext act t)<->dN w G s.st ((tM s.sg s.st).sl.get t) (tv ext act t):=by
  have:∀a v,dN w G (tM s.sg s.st) a v<->dN w G s.st a v:=λa v=>by rw[e];exact pZ
  exact this _ _
 rw[f];rcases SV s.sg s.st t with h |⟨g,j⟩
 ·rw[h];exact trivial
 ·rw[g];exact c.slots t (λp d=>by rw[j]at d;simp at d)
theorem iM.start(h:iM ext nt w G s.st act)(g:s.ge=[])(hg:s.sg=[])(f:s.by_=[]):FF ext ops w G s act []:=
 ⟨h.rel,λt _=>h.slots t,λt p e=>by rw[hg]at e;simp[VC,look]at e,λj R b l d=>by rw[g]at d;simp[look]at d,λc j d=>by rw[f]at d;simp[look]at d⟩
def DQ:List Oper->List Nat
 |[]=>[]
 |o::l=>match o.dst with
  |some d=>d::DQ l
  |none=>DQ l
def X5(nt:Nat)(ops:Array Oper):Bool:=SO (DQ ops.toList)&&allB (λd=>Nat.ble (d+1) nt) (DQ ops.toList)
def eqL:List Nat->List Nat->Bool
 |[],[]=>true
 |a::l,b::m=>Nat.beq a b&&eqL l m
 |_,_=>false
def zL(h:fI)(id:Nat)(n:Nat):List Nat:=match look h.ord id with|some l=>l |none=>List.range n
def aBZ(E:fC)(h:fI)(nt id:Nat)(ops:Array Oper)(c:Bool):Bool:=
 X5 nt ops&&(bif c then(match Ci h id with
  |none=>V9 (jT E h) (Id h ops) .any ops (zL h id ops.size)&&Db (Id h ops) ops (zL h id ops.size)
  |some q=>Sm (jT E h) (Id h ops) .any ops q.1 (zL h id ops.size::q.2)&&allB (Db (Id h ops) ops) (zL h id ops.size::q.2))else match look h.ord id with|some _=>false |none=>true)
theorem SW{d:Nat}:∀{l:List Oper}{j:Nat}{o:Oper},l[j]?=some o->o.dst=some d->d∈DQ l
 |[],j,o,h,_=>by simp at h
 |o'::l,0,o,h,hd=>by simp at h;subst h;simp[DQ,hd]
 |o'::l,j+1,o,h,hd=>by
  have:=SW (l:=l) (j:=j) (by simpa using h) hd;unfold DQ;split
  ·exact List.mem_cons_of_mem _ this
  ·exact this
theorem Sv{d:Nat}:∀{l:List Oper},(DQ l).Nodup->∀{i j:Nat}{o o':Oper},i<j->l[i]?=some o->l[j]?=some o'->o.dst=some d->o'.dst≠some d
 |[],_,i,j,o,o',_,h,_,_=>by simp at h
 |a::l,c,i,j,o,o',r,h,e,hd=>by
  cases j with
  |zero=>omega
  |succ j=>
   cases i with
   |zero=>simp at h;subst h;intro f;have g:=SW (l:=l) (j:=j) (by simpa using e) f;unfold DQ at c;simp only[hd,List.nodup_cons]at c;exact c.1 g
   |succ i=>
    have m:(DQ l).Nodup:=by
     unfold DQ at c;split at c
     ·exact(List.nodup_cons.1 c).2
     ·exact c
    exact Sv m (i:=i) (j:=j) (by omega) (by simpa using h) (by simpa using e) hd
theorem Dd(h:X5 nt ops=true):(∀(j:Nat)(o:Oper),ops[j]?=some o->∀d,o.dst=some d->d<nt)/\(∀(i:Nat)(o:Oper),ops[i]?=some o->∀d,o.dst=some d->∀(j:Nat)(o':Oper),j≠i->ops[j]?=some o'->o'.dst≠some d):=by
 simp only[X5,Bool.and_eq_true]at h;obtain⟨m,r⟩:=h;have f:=oW m;refine⟨λj o c d hd=>?_,λi o c d hd j o' u g e=>?_⟩
 ·have t:=SW (l:=ops.toList) (j:=j) (by simpa using c) hd;have s:Nat.ble (d+1) nt=true:=iY r d t;exact Nat.le_of_ble_eq_true s
 ·rcases Nat.lt_or_gt_of_ne u with h |h
  ·exact Sv f h (by simpa using g) (by simpa using c) e hd
  ·exact Sv f h (by simpa using c) (by simpa using g) hd e
theorem Oz:∀(l:List Oper)(n:Nat),(F3 n l).map (·.1)=List.range' n l.length/\∀p∈F3 n l,∃k,p.1=n+k/\l[k]?=some p.2
 |[],n=>⟨rfl,by simp[F3]⟩
 |o::l,n=>by
  obtain⟨e,f⟩:=Oz l (n+1);refine⟨by simp[F3,e,List.range'_succ],λp c=>?_⟩;simp only[F3,List.mem_cons]at c;rcases c with rfl |c
  ·exact⟨0,rfl,rfl⟩
  ·obtain⟨k,e1,d⟩:=f p c;exact⟨k+1,by omega,by simpa using d⟩
theorem SX{ops:List Oper}:∀(l:List Nat),(∀i∈l,i<ops.length)->(LZ ops l).map (·.1)=l/\∀p∈LZ ops l,ops[p.1]?=some p.2
 |[],_=>⟨rfl,by simp[LZ]⟩
 |i::l,h=>by
  obtain⟨e,f⟩:=SX l (λj m=>h j (by simp[m]));have g:=h i (by simp);have d:ops[i]?=some ops[i]:=by simp[g]
  simp only[LZ,d];refine⟨by simp[e],λp c=>?_⟩;rcases List.mem_cons.1 c with rfl |c
  ·exact d
  ·exact f p c
theorem JH(c:fI)(id:Nat)(f:∀i∈zL c id ops.size,i<ops.size):(zI c id ops).map (·.1)=zL c id ops.size/\∀p∈zI c id ops,ops[p.1]?=some p.2:=by
 unfold zI;unfold zL at f⊢;cases h:look c.ord id with
 |some l=>simp only[h]at f⊢;obtain⟨d,e⟩:=SX (ops:=ops.toList) l (λi m=>by simpa using f i m);exact⟨d,λp g=>by simpa using e p g⟩
 |none=>simp only;obtain⟨d,e⟩:=Oz ops.toList 0;refine⟨by rw[d,List.range_eq_range'];simp,λp g=>?_⟩;obtain⟨k,e1,j⟩:=e p g;rw[e1];simpa using j
theorem SY{E:fC}{f:fI}{ctx:sJ}(v:gY P E)(u:jV P E ctx)(r:nt<=500)(hd:X5 nt ops=true){o:List Nat}{l:List (Nat×Oper)}(e1:l.map (·.1)=o)(j:∀p∈l,ops[p.1]?=some p.2)(T:o.Nodup)
  (U:Db (Id f ops) ops o=true){st st':St}{ex:Ex}(c:iM ext nt w G st act)(h:YX E f ctx l st=some (ex,st'))(C:ex=.norm->∀w' G' d,Fr w G w' G'->iM ext nt w' G' st' d->Q .normal d w'):SK (jT E f) (Id f ops) P ops Q o [] act w.drew:=by
 obtain⟨L,H⟩:=Dd hd;obtain⟨Y,m,g⟩:=bind_some h;simp[ok]at g;obtain⟨rfl,rfl⟩:=g;rw[<-e1];have F:iM ext nt w.drew G st act:=⟨c.rel.drew,λt=>dR Le.drew _ _ (c.slots t),c.size,c.defers⟩;exact If v u r L H (λ_ _ h=>h) _ (F.start (s:={st:=st,ge:=[],sg:=[],by_:=[]}) rfl rfl rfl) j (by rw[e1];exact T) (by simp) c.size c.defers (by rw[e1];exact U) (λe J=>by simp at J) m
  (λw' G' d W y K V hd=>C rfl w' G' d ((Fr.drew w G).trans y) (K.clear V hd))
theorem Ig{E:fC}{c:fI}{ctx:sJ}{id:Nat}{st:St}{r q:Ex×St}:∀{os:List (List Nat)},Cj E c ctx id ops st r os=some q->q=r/\∀o∈os,(YX E c ctx (LZ ops.toList o) st).bind (Fc c id)=some r
 |[],h=>by simp[Cj,ok]at h;exact⟨h.symm,by simp⟩
 |o::os,h=>by
  simp only[Cj]at h;obtain⟨s,e,f⟩:=bind_some h;obtain⟨g,j⟩:=aU f;obtain⟨l,m⟩:=Ig j;refine⟨l,λo' d=>?_⟩;rcases List.mem_cons.1 d with rfl |d
  ·rw[aDz g];exact e
  ·exact m o' d
theorem J9{E:fC}{d:fI}{ctx:sJ}(a1:gY P E)(a0:jV P E ctx)(b7:P.follows .mixedOrders=true)(Y:nt<=500){id:Nat}{a4:Bool}(a9:aBZ E d nt id ops a4=true){st st':St}{ex:Ex}(y:iM ext nt w G st act)
  (d3:∀{w':World}{G':Gh}{j:Act}{s1 b5:St}{t:Ex},iM ext nt w' G' s1 j->Fc d id (.norm,s1)=some (t,b5)->t=.norm/\∃L,Fr w' G' w' L/\iM ext nt w' L b5 j)
  (h:Wl E d ctx id ops st=some (ex,st'))(b6:∀c a a' w,Q (.panic c) a w->Q (.panic c) a' w)(c6:∀w' G' j,ex=.norm->Fr w G w' G'->iM ext nt w' G' st' j->Q .normal j w'):(Code.region id ops a4).wp P Q act w:=by
 unfold Wl at h;obtain⟨r,a5,F⟩:=bind_some h;have e0:∀{e1:Ex}{s1:St},YX E d ctx (zI d id ops) st=some (e1,s1)->e1=.norm:=λh=>by obtain⟨c3,_,V⟩:=bind_some h;simp[ok]at V;exact V.1.symm
 have c2:∀{l:List (Nat×Oper)},(YX E d ctx l st).bind (Fc d id)=some (ex,st')->∀{s1:St}{e1:Ex},YX E d ctx l st=some (e1,s1)->e1=.norm->∀w' G' j,Fr w G w' G'->iM ext nt w' G' s1 j->Q .normal j w':=by intro l a2 s1 e1 u J w' G' j a6 c7;rw[u,Option.bind_some,J]at a2;obtain⟨b1,L,b2,b3⟩:=d3 c7 a2;exact c6 w' L j b1 (a6.trans b2) b3
 have base:(YX E d ctx (zI d id ops) st).bind (Fc d id)=some (ex,st')->∃e1 s1,YX E d ctx (zI d id ops) st=some (e1,s1):=λa2=>by obtain⟨⟨e1,s1⟩,k,_⟩:=bind_some a2;exact⟨e1,s1,k⟩
 have c8:(YX E d ctx (zI d id ops) st).bind (Fc d id)=some (ex,st')/\∀q,Ci d id=some q->∀o∈q.2,(YX E d ctx (LZ ops.toList o) st).bind (Fc d id)=some (ex,st'):=by
  cases u:Ci d id with
  |none=>rw[u]at F;simp only[ok,Option.some.injEq]at F;rw[F]at a5;exact⟨a5,by simp⟩
  |some q=>rw[u]at F;obtain⟨b1,b2⟩:=Ig F;rw[b1];exact⟨a5,λf2 b0 o m=>b2 o (by injection b0 with b0;rw[b0];exact m)⟩
 obtain⟨U,V⟩:=c8;obtain⟨e1,s1,K⟩:=base U;have c5:=e0 K;subst c5;have a7:=c2 U K rfl;have f0:=a9;simp only[aBZ,Bool.and_eq_true]at a9;obtain⟨T,f⟩:=a9;cases a4 with
 |false=>
  simp only[cond_false]at f;have e2:look d.ord id=none:=by
   cases d1:look d.ord id with
   |none=>rfl
   |some _=>simp[d1]at f
  obtain⟨d2,c9⟩:=Dd T;obtain⟨c3,W,H⟩:=bind_some K;simp[ok]at H;subst H;have m:zL d id ops.size=List.range ops.size:=by simp[zL,e2]
  obtain⟨e1,t⟩:=JH (ops:=ops) d id (λi v=>by rw[m]at v;simpa using v);refine Sj (g:=jT E d) (ck:=λ_ _=>false) ?_;rw[<-m,<-e1];exact If a1 a0 Y d2 c9 (λ_ _ h=>by simp at h) _ (y.start (s:={st:=st,ge:=[],sg:=[],by_:=[]}) rfl rfl rfl) t (by rw[e1,m];exact List.nodup_range) (by simp) y.size y.defers (Dc _) (λe J=>by simp at J) W
   (λw' G' j e7 a6 d0 e5 hd=>a7 w' G' j a6 (d0.clear e5 hd))
 |true=>
  simp only[cond_true]at f;have hdr:({w with drawn:=w.drawn+1}:World)=w.drew:=rfl;cases u:Ci d id with
  |none=>rw[u]at f;simp only[Bool.and_eq_true]at f;obtain⟨f,a3⟩:=f;have C:=f;simp only[V9,Bool.and_eq_true]at C;obtain⟨_,_,b3,f1,b4,_⟩:=C;obtain⟨e1,t⟩:=JH (ops:=ops) d id (λi v=>by have U:Nat.ble (i+1) ops.size=true:=iY b4 i v;exact Nat.le_of_ble_eq_true U);refine Si (g:=jT E d) (ck:=Id d ops) b7 f b6 ?_;rw[hdr];exact SY a1 a0 Y T e1 t (oW b3) a3 y K (λ_=>a7)
  |some q=>
   rw[u]at f;simp only[Bool.and_eq_true]at f;obtain⟨f,a3⟩:=f;have C:=f;simp only[Sm,Bool.and_eq_true]at C;obtain⟨_,_,_,_,b4,_⟩:=C;have e6:∀o∈zL d id ops.size::q.2,o.Nodup/\∀i∈o,i<ops.size:=λo m=>by have:=iY b4 o m;simp only[aBP,Bool.and_eq_true]at this;exact⟨oW this.1,λi v=>Nat.le_of_ble_eq_true (iY this.2.2.1 i v)⟩
   refine Xi (g:=jT E d) (ck:=Id d ops) b7 f b6 λo m=>?_;rw[hdr];obtain⟨c0,c1⟩:=e6 o m;rcases List.mem_cons.1 m with rfl |e3
   ·obtain⟨e1,t⟩:=JH (ops:=ops) d id c1;exact SY a1 a0 Y T e1 t c0 (iY a3 _ m) y K (λ_=>a7)
   ·obtain⟨e1,t⟩:=SX (ops:=ops.toList) o (λi v=>by simpa using c1 i v);have W:=V q u o e3;obtain⟨⟨c4,b5⟩,k,_⟩:=bind_some W;have J:c4=.norm:=by
     obtain⟨c3,_,H⟩:=bind_some k;simp[ok]at H;exact H.1.symm
    subst J;exact SY a1 a0 Y T e1 (λp e4=>by simpa using t p e4) c0 (iY a3 _ m) y k (λ_=>c2 W k rfl)
end
end Go.Eng

namespace Go.Eng
section
variable{ext:Nat->Value}{w w':World}{G G':Gh}{st st':St}
def mK:A->Bool
 |.agg _=>false |.tup _=>false |.fn _ _=>false |_=>true
mutual
theorem WN{f:A->A}(hf:∀a v,mK a=true->dN w G st a v->dN w' G' st' (f a) v):∀(a:A)(v:Value),dN w G st a v->dN w' G' st' (a.mapR f) v
 |.agg xs,_,⟨vs,c,d⟩=>⟨vs,c,PO hf xs vs d⟩
 |.tup xs,_,⟨vs,c,d⟩=>⟨vs,c,PO hf xs vs d⟩
 |.fn g xs,_,⟨vs,c,d⟩=>⟨vs,c,PO hf xs vs d⟩
 |.int _ _,_,h=>h
 |.bool _,_,h=>h
 |.undef,_,_=>trivial
 |.str s,v,h=>hf (.str s) v rfl h
 |.nils,v,h=>hf .nils v rfl h
 |.ez,v,h=>hf .ez v rfl h
 |.fz dep e el xs,v,h=>hf (.fz dep e el xs) v rfl h
 |.vw r u p,v,h=>hf (.vw r u p) v rfl h
 |.px r u n,v,h=>hf (.px r u n) v rfl h
 |.sx r u k n j,v,h=>hf (.sx r u k n j) v rfl h
 |.sb b u k n,v,h=>hf (.sb b u k n) v rfl h
 |.pa r u p k i off,v,h=>hf (.pa r u p k i off) v rfl h
 |.pb b u off,v,h=>hf (.pb b u off) v rfl h
 |.mp b u,v,h=>hf (.mp b u) v rfl h
 |.pz dep el x off,v,h=>hf (.pz dep el x off) v rfl h
 |.nilp,v,h=>hf .nilp v rfl h
theorem PO{f:A->A}(hf:∀a v,mK a=true->dN w G st a v->dN w' G' st' (f a) v):∀(l:List A)(vs:List Value),eT w G st l vs->eT w' G' st' (mapR f l) vs
 |[],_,h=>h
 |a::l,_,⟨v,c,d,e,g⟩=>⟨v,c,d,WN hf a v e,PO hf l c g⟩
end
mutual
theorem Fx{f:A->Bool}(hf:∀a v,mK a=true->f a=false->dN w G st a v->dN w' G' st' a v):∀(a:A)(v:Value),a.any f=false->dN w G st a v->dN w' G' st' a v
 |.agg xs,_,c,⟨vs,d,j⟩=>⟨vs,d,WP hf xs vs c j⟩
 |.tup xs,_,c,⟨vs,d,j⟩=>⟨vs,d,WP hf xs vs c j⟩
 |.fn g xs,_,c,⟨vs,d,j⟩=>⟨vs,d,WP hf xs vs c j⟩
 |.int _ _,_,_,h=>h
 |.bool _,_,_,h=>h
 |.undef,_,_,_=>trivial
 |.str s,v,c,h=>hf (.str s) v rfl c h
 |.nils,v,c,h=>hf .nils v rfl c h
 |.ez,v,c,h=>hf .ez v rfl c h
 |.fz dep e el xs,v,c,h=>hf (.fz dep e el xs) v rfl c h
 |.vw r u p,v,c,h=>hf (.vw r u p) v rfl c h
 |.px r u n,v,c,h=>hf (.px r u n) v rfl c h
 |.sx r u k n l,v,c,h=>hf (.sx r u k n l) v rfl c h
 |.sb b u k n,v,c,h=>hf (.sb b u k n) v rfl c h
 |.pa r u p k i off,v,c,h=>hf (.pa r u p k i off) v rfl c h
 |.pb b u off,v,c,h=>hf (.pb b u off) v rfl c h
 |.mp b u,v,c,h=>hf (.mp b u) v rfl c h
 |.pz dep el x off,v,c,h=>hf (.pz dep el x off) v rfl c h
 |.nilp,v,c,h=>hf .nilp v rfl c h
theorem WP{f:A->Bool}(hf:∀a v,mK a=true->f a=false->dN w G st a v->dN w' G' st' a v):∀(l:List A)(vs:List Value),VF f l=false->eT w G st l vs->eT w' G' st' l vs
 |[],_,_,h=>h
 |a::l,_,c,⟨v,d,e,g,j⟩=>by simp only[VF,Bool.or_eq_false_iff]at c;exact⟨v,d,e,Fx hf a v c.1 g,WP hf l d c.2 j⟩
end
theorem De(f:A->A):∀l:List A,(mapR f l).length=l.length
 |[]=>rfl
 |_::l=>congrArg (·+1) (De f l)
theorem Xp(f:A->A):∀(l:List A)(j:Nat),(mapR f l).getD j .undef=(l.getD j .undef).mapR f
 |[],j=>by simp[mapR,A.mapR]
 |a::l,0=>rfl
 |a::l,j+1=>by simpa[mapR]using Xp f l j
theorem dI.remap{sl:Nat->Option Value}(t:dI w G st sl){f:A->A}(hf:∀a v,mK a=true->dN w G st a v->dN w' G' st' (f a) v)
  (g:∀b d,look st'.bx b=some d->∃x,look st.bx b=some x/\(d.lv=mapR f x.lv/\d.mp=x.mp)/\d.uid<st'.ctr/\G'.B b=G.B b)(y:∀b,G.own b=.box->G'.own b=.box/\w'.heap[b]?=w.heap[b]?)
  (J:∀r a',look st'.ar r=some a'->a'.uid<st'.ctr/\a'.dv<st'.ctr/\(a'.hv.length=4/\∀u,u∈a'.hv->u<st'.ctr)/\yH w' G' a'.stale r a'.e a'.el [] (G'.H r []) a'.data)
  (Q:∀b,G'.own b≠.out->b<w'.heap.size)(L:∀r p,∃a n c,G'.H r p=.slice a n c):dI w' G' st' (λ_=>Option.none):=by
 refine⟨λ_ _ h=>by simp at h,λb d hx=>?_,λb1 b2 Y a0 F H T=>?_,J,Q,L⟩
 ·obtain⟨x,l,e,U,m⟩:=g b d hx;obtain⟨a1,s,K⟩:=t.boxes b x l;have P:d.lv.length=x.lv.length:=by rw[e.1,De]
  rw[m];exact⟨U,(y _ s).1,K.step (y _ s).2 e.2 P λj a2 v C=>by rw[e.1,Xp];exact WN hf _ _ C⟩
 ·obtain⟨y1,l,e,_,m⟩:=g b1 Y F;obtain⟨y2,V,C,_,W⟩:=g b2 a0 H;rw[m,W];exact t.apartB b1 b2 y1 y2 l V T
theorem Pa(f:A->A)(t:Tr)(m:Nat):∀(ks:List Nat)(c:Tr),(Ob f t ks c).get m=if m∈ks then(t.get m).mapR f else c.get m
 |[],c=>by simp[Ob]
 |k::ks,c=>by
  rw[Ob,Pa f t m ks];by_cases h:m∈ks
  ·simp[h]
  ·by_cases e:m=k
   ·subst e;simp[h,Tr.get_set]
   ·simp[h,e,Tr.get_set]
theorem Xq(f:A->A)(t:Tr)(m:Nat):∀(ks:List Nat)(c:Tr),(Wg f t ks c).get m=if m∈ks then(t.get m).mapR f else c.get m
 |[],c=>by simp[Wg]
 |k::ks,c=>by
  rw[Wg,Xq f t m ks];by_cases h:m∈ks
  ·simp[h]
  ·by_cases e:m=k
   ·subst e;simp[h,Tr.get_set]
   ·simp[h,e,Tr.get_set]
theorem RI(st:St)(b:Nat):∀l:List (Nat×Bx),look (VG st l) b=(look l b).map λx=>{x with uid:=0,lv:=mapR (nV st) x.lv}
 |[]=>rfl
 |(m,x)::l=>by
  simp only[VG,fJ];by_cases h:m=b
  ·simp[h]
  ·simp[h,RI st b l]
theorem GN(r:Nat):∀l:List (Nat×xZ),look (VH l) r=(look l r).map λa=>{a with uid:=0,hv:=YN 0,dv:=0}
 |[]=>rfl
 |(m,x)::l=>by
  simp only[VH,fJ];by_cases h:m=r
  ·simp[h]
  ·simp[h,GN r l]
theorem Dg{d:Nat×Nat}:∀{l:List (Nat×Nat)},d∈zJ l->d.2=0/\∃u,(d.1,u)∈l
 |[],h=>by simp[zJ]at h
 |(r,v)::l,h=>by
  simp only[zJ,List.mem_cons]at h;rcases h with rfl |h
  ·exact⟨rfl,v,by simp⟩
  ·obtain⟨c,u,e⟩:=Dg h;exact⟨c,u,by simp[e]⟩
theorem Dh{r v:Nat}:∀{l:List (Nat×Nat)},(r,v)∈l->(r,0)∈zJ l
 |[],h=>by simp at h
 |(r',e)::l,h=>by
  simp only[zJ,List.mem_cons];rcases List.mem_cons.1 h with h |h
  ·injection h with c d;subst c;exact .inl rfl
  ·exact .inr (Dh h)
theorem Xr{G:Gh}{dep:List (Nat×Nat)}(b:Nat)(h:vG G dep b):vG G (zJ dep) b:=by
 rcases h with h |⟨d,hd,p,c⟩
 ·exact .inl h
 ·exact .inr ⟨(d.1,0),Dh (v:=d.2) hd,p,c⟩
theorem JI{ks:List Nat}{r u:Nat}{p:cP}{a':xZ}(h:lH (st.keep ks) r u p a'):∃a,look st.ar r=some a/\a'.e=a.e/\a'.el=a.el/\a'.data=a.data/\a'.stale=a.stale:=by
 obtain⟨c,e,f⟩:=h;simp only[St.keep,GN]at c;cases d:look st.ar r with
 |none=>simp[d]at c
 |some a=>simp[d]at c;subst c;exact⟨a,rfl,rfl,rfl,rfl,rfl⟩
theorem DR{r u:Nat}{p:cP}{a b:xZ}(h:lH st r u p a)(c:look st.ar r=some b):lH st r u p b:=by have:=h.1;rw[c]at this;injection this with this;subst this;exact h
theorem Di(ks:List Nat):∀(a:A)(v:Value),mK a=true->dN w G st a v->dN w G (st.keep ks) (nV st a) v:=by
 intro a v L h;have s:0<(st.keep ks).ctr:=Nat.lt_succ_self 0;have P:∀dep:List (Nat×Nat),∀d,d∈zJ dep->d.2<(st.keep ks).ctr:=λdep d hd=>by rw[(Dg hd).1];exact s
 cases a with
 |fz dep e el xs=>
  simp only[nV];cases hd:depOk st dep with
  |false=>exact trivial
  |true=>exact⟨P dep,λ_=>dE (λb K=>⟨Xr b K,rfl⟩) _ _ _ (h.2 hd)⟩
 |vw r u p=>
  simp only[nV];cases c:jH st r u p with
  |none=>exact trivial
  |some a0=>refine⟨s,λa' y=>?_⟩;obtain⟨a,m,F,C,H,_⟩:=JI y;obtain⟨g,j,J⟩:=h.2 a (DR (eH c) m);exact⟨g,by rw[F,C];exact j,by rw[C,H];exact J⟩
 |px r u n=>
  simp only[nV];cases c:jH st r u []with
  |none=>exact trivial
  |some a0=>refine⟨s,λa' y=>?_⟩;obtain⟨a,m,_⟩:=JI y;exact h.2 a (DR (eH c) m)
 |sx r u k n T=>
  simp only[nV];cases c:jH st r u []with
  |none=>exact trivial
  |some a0=>refine⟨s,λa' y=>?_⟩;obtain⟨a,m,F,C,H,_⟩:=JI y;rw[C];exact h.2 a (DR (eH c) m)
 |sb b u k n=>
  simp only[nV];cases c:pQ st b u with
  |none=>exact trivial
  |some l=>obtain⟨x,g,j,_⟩:=fU c;exact⟨s,λQ _ _=>h.2 x g j⟩
 |pa r u p k i off=>
  simp only[nV];cases c:jH st r u p with
  |none=>exact trivial
  |some a0=>refine⟨s,λa' y=>?_⟩;obtain⟨a,m,F,C,H,_⟩:=JI y;obtain⟨t,g,j,J⟩:=h.2 a (DR (eH c) m);exact⟨t,by rw[F,C];exact g,by rw[C,H];exact j,J⟩
 |pb b u off=>
  simp only[nV];cases c:pQ st b u with
  |none=>exact trivial
  |some l=>obtain⟨x,g,j,_⟩:=fU c;exact⟨s,λQ _ _=>h.2 x g j⟩
 |mp b u=>
  simp only[nV];cases c:Cd st b u with
  |none=>exact trivial
  |some l=>obtain⟨x,g,j,_⟩:=Hh c;exact⟨s,λQ _ _=>h.2 x g j⟩
 |pz dep el x off=>
  simp only[nV];cases hd:depOk st dep with
  |false=>exact trivial
  |true=>refine⟨P dep,λ_=>?_⟩;obtain⟨b,o,m,F⟩:=h.2 hd;exact⟨b,o,m,sL (λb K=>⟨Xr b K,rfl⟩) _ _ _ _ _ _ F⟩
 |agg xs=>simp[mK]at L
 |tup xs=>simp[mK]at L
 |fn f xs=>simp[mK]at L
 |_=>exact h
def mG(ks:List Nat)(st:St):Prop:=∀t,t∉ks->st.sl.get t=.undef
theorem iM.keep{nt:Nat}{act:Act}(h:iM ext nt w G st act)(ks:List Nat):iM ext nt w G (st.keep ks) act/\mG ks (st.keep ks):=by
 have hg:∀t,(st.keep ks).sl.get t=if t∈ks then(st.sl.get t).mapR (nV st)else .undef:=λt=>by show(Ob (nV st) st.sl ks .nil).get t=_;rw[Pa];simp[Tr.get_nil]
 refine⟨⟨?_,λt=>?_,h.size,h.defers⟩,λt ht=>by rw[hg,if_neg ht]⟩
 ·refine h.rel.remap (f:=nV st) (Di ks) (λb j hx=>?_) (λb g=>⟨g,rfl⟩) (λr a' d=>?_) h.rel.live h.rel.hdr
  ·simp only[St.keep,RI]at hx;cases c:look st.bx b with
   |none=>simp[c]at hx
   |some x=>simp[c]at hx;subst hx;exact⟨x,rfl,⟨rfl,rfl⟩,Nat.lt_succ_self 0,rfl⟩
  ·simp only[St.keep,GN]at d;cases c:look st.ar r with
   |none=>simp[c]at d
   |some a=>simp[c]at d;subst d;exact⟨Nat.lt_succ_self 0,Nat.lt_succ_self 0,⟨rfl,λu e=>by simp[YN]at e;subst e;exact Nat.lt_succ_self 0⟩,(h.rel.arrs r a c).2.2.2⟩
 ·rw[hg];split
  ·exact WN (Di ks) _ _ (h.slots t)
  ·exact trivial
theorem Le.sub{bx:List (Nat×Bx)}{ar:List (Nat×xZ)}(c:∀b x,look bx b=some x->look st.bx b=some x)(d:∀r a,look ar r=some a->look st.ar r=some a):Le w G st w G {st with bx:=bx,ar:=ar}:=
 ⟨Nat.le_refl _,λr u p a' _ h=>⟨a',⟨d r a' h.1,h.2⟩,rfl,rfl,rfl,λh=>h⟩,λb e _ h=>⟨e,c b e h,rfl,rfl⟩,λr a' _ h=>⟨a',d r a' h,rfl,λb p c=>⟨⟨p,c⟩,rfl⟩⟩,λb c=>⟨c,rfl⟩⟩
theorem iM.sub{nt:Nat}{act:Act}(h:iM ext nt w G st act){bx:List (Nat×Bx)}{ar:List (Nat×xZ)}(c:∀b x,look bx b=some x->look st.bx b=some x)(e:∀r a,look ar r=some a->look st.ar r=some a):
  iM ext nt w G {st with bx:=bx,ar:=ar} act:=by
 have d:=Le.sub (w:=w) (G:=G) c e;refine⟨?_,λt=>dR d _ _ (h.slots t),h.size,h.defers⟩;exact h.rel.step d (λ_ _ h=>by simp at h) (λb x hx=>.inl ⟨c b x hx,rfl,rfl,(h.rel.boxes b x (c b x hx)).2.1⟩) (λb b' x f g j l=>h.rel.apartB b b' x f (c b x g) (c b' f j) l) (λr a m=>.inl ⟨e r a m,λ_=>rfl,λb p h=>⟨h,rfl⟩⟩) h.rel.live h.rel.hdr
theorem WQ(ks:List Nat)(st:St){b:Nat}(h:(QR (Na b) st.sl ks||p9 (Na b) b st.bx)=false):∀l:List (Nat×Bx),look (gcB ks st l) b=none
 |[]=>rfl
 |(m,x)::l=>by
  simp only[gcB];by_cases e:m=b
  ·subst e;rw[h];exact WQ ks st h l
  ·cases(QR (Na m) st.sl ks||p9 (Na m) m st.bx)with
   |true=>simp only[cond_true,fJ,if_neg e];exact WQ ks st h l
   |false=>exact WQ ks st h l
theorem Sw(ks:List Nat)(st:St){b:Nat}{x:Bx}:∀l:List (Nat×Bx),look (gcB ks st l) b=some x->look l b=some x
 |[],h=>by simp[gcB,look]at h
 |(m,d)::l,h=>by
  simp only[gcB]at h;rw[fJ];by_cases e:m=b
  ·subst e;cases c:(QR (Na m) st.sl ks||p9 (Na m) m st.bx)with
   |true=>rw[c]at h;simpa[fJ]using h
   |false=>rw[c]at h;simp only[cond_false]at h;rw[WQ ks st c l]at h;simp at h
  ·rw[if_neg e];cases c:(QR (Na m) st.sl ks||p9 (Na m) m st.bx)with
   |true=>rw[c]at h;simp only[cond_true,fJ,if_neg e]at h;exact Sw ks st l h
   |false=>rw[c]at h;exact Sw ks st l h
theorem WR(ks:List Nat)(st:St){b:Nat}(h:(QR (DB b) st.sl ks||MA (DB b) st.bx)=false):∀l:List (Nat×xZ),look (gcR ks st l) b=none
 |[]=>rfl
 |(m,x)::l=>by
  simp only[gcR];by_cases e:m=b
  ·subst e;rw[h];exact WR ks st h l
  ·cases(QR (DB m) st.sl ks||MA (DB m) st.bx)with
   |true=>simp only[cond_true,fJ,if_neg e];exact WR ks st h l
   |false=>exact WR ks st h l
theorem Sx(ks:List Nat)(st:St){b:Nat}{x:xZ}:∀l:List (Nat×xZ),look (gcR ks st l) b=some x->look l b=some x
 |[],h=>by simp[gcR,look]at h
 |(m,d)::l,h=>by
  simp only[gcR]at h;rw[fJ];by_cases e:m=b
  ·subst e;cases c:(QR (DB m) st.sl ks||MA (DB m) st.bx)with
   |true=>rw[c]at h;simpa[fJ]using h
   |false=>rw[c]at h;simp only[cond_false]at h;rw[WR ks st c l]at h;simp at h
  ·rw[if_neg e];cases c:(QR (DB m) st.sl ks||MA (DB m) st.bx)with
   |true=>rw[c]at h;simp only[cond_true,fJ,if_neg e]at h;exact Sx ks st l h
   |false=>rw[c]at h;exact Sx ks st l h
theorem iM.gcb{nt:Nat}{act:Act}(h:iM ext nt w G st act)(ks:List Nat):iM ext nt w G (st.gcb ks) act:=h.sub (bx:=gcB ks st st.bx) (ar:=st.ar) (λb x hx=>Sw ks st _ hx) (λ_ _ h=>h)
theorem Pb{α:Type}(p:Nat×α)(b:Nat):∀l:List (Nat×α),look (aBp p l) b=if p.1=b then some p.2 else look l b
 |[]=>by
  simp only[aBp,look];by_cases h:p.1=b
  ·subst h;simp[qD]
  ·simp[qK h,h]
 |q::l=>by
  simp only[aBp];cases c:Nat.ble p.1 q.1 with
  |true=>
   simp only[cond_true,look];by_cases h:p.1=b
   ·subst h;simp[qD]
   ·simp[qK h,h]
  |false=>
   simp only[cond_false,look];rw[Pb p b l];by_cases h:p.1=b
   ·have:q.1≠b:=by
     intro e;have:Nat.ble p.1 q.1=true:=by rw[Nat.ble_eq];omega
     rw[this]at c;simp at c
    simp[qK this,h]
   ·simp[h]
theorem ZP{α:Type}(b:Nat):∀l:List (Nat×α),look (F4 l) b=look l b
 |[]=>rfl
 |p::l=>by
  simp only[F4,Pb,ZP b l,look];by_cases h:p.1=b
  ·subst h;simp[qD]
  ·simp[qK h,h]
theorem iM.gc{nt:Nat}{act:Act}(h:iM ext nt w G st act)(ks:List Nat):iM ext nt w G (st.gc ks) act:=by have d:=(h.gcb ks).gcb ks;exact d.sub (bx:=F4 ((st.gcb ks).gcb ks).bx) (ar:=F4 (gcR ks ((st.gcb ks).gcb ks) ((st.gcb ks).gcb ks).ar)) (λb x hx=>by rw[ZP]at hx;exact hx) (λr a c=>by rw[ZP]at c;exact Sx ks _ _ c)
theorem aGi(ks:List Nat):(st.gc ks).sl=st.sl:=rfl
end
end Go.Eng
