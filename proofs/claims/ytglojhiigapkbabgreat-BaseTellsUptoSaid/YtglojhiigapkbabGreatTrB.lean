/- Part 6 of the proof: the trees are the functions'. -/
import Derived.Test.YtglojhiigapkbabGreatTrA
set_option linter.unusedVariables false
namespace Go.Eng.Q
open Go.Eng Go.Proofs
noncomputable section
abbrev dL:List LT:=[.int .i64]
abbrev eY:List LT:=[.int .i64,.int .i64]
abbrev fI:List LT:=[.bool]
abbrev Va:List LT:=[.str]
abbrev qG(p:LD)(n:Nat):A:=fL 3 dL p n
abbrev OR(p:LD)(n:Nat):A:=.fz [] 65 [.str,.sl false 2 dL] (gL p n)
abbrev OS(p:LD)(n:Nat):A:=.fz [] 67 [.str,.sl false 3 dL] (gL p n)
abbrev cU(p:LD)(n:Nat):Bx:=⟨0,[.str (gS p n),nB p (n+1),qG p (n+2),nI p (n+3),fL 47 zY p (n+4)],none⟩
abbrev dC(p:LD)(n:Nat):Bx:=⟨0,[fL 62 Zl p n,OR p (n+1),OS p (n+2),fL 42 LV p (n+3)],none⟩
abbrev RI(p:LD)(n:Nat):Bx:=⟨0,[nI p n,nI p (n+1),nI p (n+2),nI p (n+3),nI p (n+4),qG p (n+5),qG p (n+6)],none⟩
abbrev aY(k:Nat)(t:TypeId)(l:List LT)(p:LD)(n:Nat):Nat×yN:=aR k t l (gL p n)
abbrev aE(p:LD)(n:Nat):Tr:=t1 (nI p n)
abbrev iV(p:LD)(n:Nat):Tr:=t1 (nB p n)
abbrev cE(n:Nat):A:=.vw n 0 []
abbrev cW(n:Nat):Tr:=t1 (cE n)
abbrev lM:Tr:=t1 (.pb 1 0 0)
abbrev eI:Tr:=t0 Z Z
abbrev eD(t:Tr):St:=⟨t,[],[],1⟩
def N7(n:Nat):Func×fR:=match aZ.look n with
 |some x=>x
 |none=>(Tryz.f3,{})
def cI(n k:Nat)(b:List Nat)(M:LD->Sh)(l:List (Nat×(LD->Sh)))(S:aCx)(T:z7):FD:={f:=(N7 n).1,h:=(N7 n).2,c:=cd (N7 n).1,s:=Ug Kh n,F:={np:=k,bs:=b,main:=M,lps:=l},S:=S,T:=T}
abbrev eJ:=CR E aZ sites
theorem cJ{m:Nat}{d:FD}(a:aZ.look m=some (d.f,d.h):=by kernel_rfl)(b:E.sg.look m=some d.s:=by kernel_rfl)(c:d.f.body=some d.c:=by kernel_rfl)(e:dN 0 d.c=d.F.bs.map λb=>(b,uE b d.c):=by kernel_rfl)(f:DK (λb=>Nat.ble (b+1) 1000) d.F.bs=true:=by kernel_rfl)(g:DK (λq=>Nat.ble 1000 q.1||has d.F.bs q.1) d.F.lps=true:=by kernel_rfl)(i:DK (λq=>Nat.ble (q.1+1) 1000||siteLoopB sites q.1) d.F.lps=true:=by kernel_rfl)(j:Nat.beq m E.srt=false:=by kernel_rfl)
  (k:KM d:=by intro _;kernel_rfl)
  (l:∀b g,Go.Eng.look d.F.lps b=some g->KL d b g:=by
   repeat(first
    |exact aCE
    |refine N4 (by intro _;kernel_rfl) ?_)):eJ m d:=⟨a,b,c,e,f,g,Zk,i,j,k,l⟩
theorem eS{m:Nat}{d:FD}{l r:BT Fn}(c:eJ m d)(x:Zj E aZ sites l)(e:Zj E aZ sites r)(h:d.h.fork=false:=by kernel_rfl):Zj E aZ sites (.node m d.F l r):=⟨⟨d,rfl,c,h⟩,x,e⟩
theorem eO:Zj E aZ sites .nil:=trivial
abbrev eT(m:Nat)(d:FD)(l r:BT Fn):BT Fn:=.node m d.F l r
def Pz:FD:=cI 7 2 [0] aAp [(0,Zm)] [(0,λp=>⟨(t0 (t0 (t0 (t0 (t0 (t1 (.vw 12000005 0 [((gN p 0),1)])) Z) Z) Z) (t0 (t0 (t0 (aE p 1) Z) Z) Z)) (t0 (t0 (t0 (t0 (aE p 2) Z) Z) Z) (cW 23))),[],[aY 23 58 [.sl true 60 eY] p 3,aY 12000005 74 lt0 p 4],1⟩)] [(0,[λp=>(.exit 0,⟨(t0 Z (t0 eI (cW 23))),[],[aY 23 58 [.sl true 60 eY] p 0],1⟩)])]
theorem aAs:eJ XW Pz:=cJ
def lU:FD:=cI 11 1 [0,2,4,6,9] OA [(0,sZ),(2,tC),(4,tD),(6,kA),(9,tE)] [(0,λp=>⟨(t0 (t2 (.pb 1 0 0) (cW 14) Z) (t0 (aE p 0) Z)),[(1,cU p 1)],[aY 14 58 [.sl true 60 eY] p 6],1⟩),
 (2,λp=>⟨(t0 (t2 (.pb 1 0 0) (cW 14) (iV p 0)) Z),[(1,cU p 1)],[aY 14 58 [.sl true 60 eY] p 6],1⟩),
 (4,λp=>⟨(t0 (t2 (.pb 1 0 0) (cW 14) (iV p 0)) (t0 Z (aE p 1))),[(1,cU p 2)],[aY 14 58 [.sl true 60 eY] p 7],1⟩),
 (6,λp=>⟨(t0 (t2 (.pb 1 0 0) (t2 (cE 14) (aE p 0) Z) (iV p 1)) (t0 Z (aE p 2))),[(1,cU p 3)],[aY 14 58 [.sl true 60 eY] p 8],1⟩),
 (9,λp=>⟨(t0 (t2 (.pb 1 0 0) (t2 (cE 14) (aE p 0) Z) (t2 (nB p 1) (aE p 2) Z)) (t0 (t0 (t1 (.pb 8 0 0)) Z) (t2 (nI p 3) (aE p 4) Z))),[(1,cU p 5),(8,RI p 10)],[aY 14 58 [.sl true 60 eY] p 17],1⟩)] [(0,[λp=>(.exit 0,⟨(t0 (t2 (.pb 1 0 0) (cW 14) Z) eI),[(1,cU p 0)],[aY 14 58 [.sl true 60 eY] p 5],1⟩)]),
 (2,[λp=>(.exit 2,⟨(t0 (t0 (cW 14) Z) eI),[],[aY 14 58 [.sl true 60 eY] p 0],1⟩)]),
 (4,[λp=>(.exit 4,⟨(t0 (t2 (.pb 1 0 0) (cW 14) (iV p 0)) eI),[(1,cU p 1)],[aY 14 58 [.sl true 60 eY] p 6],1⟩)]),
 (6,[λp=>(.exit 6,⟨(t0 (t2 (.pb 1 0 0) (cW 14) (iV p 0)) (t0 Z (aE p 1))),[(1,cU p 2)],[aY 14 58 [.sl true 60 eY] p 7],1⟩)]),
 (9,[λp=>(.exit 9,⟨(t0 (t2 (.pb 1 0 0) (t2 (cE 14) (aE p 0) Z) (t2 (nB p 1) (aE p 2) Z)) (t0 (t0 (t1 (.pb 8 0 0)) Z) (aE p 3))),[(1,cU p 4),(8,RI p 9)],[aY 14 58 [.sl true 60 eY] p 16],1⟩)])]
theorem rB:eJ QI lU:=cJ
def Eu:FD:=cI 15 2 [0] Zn [(0,Nw)] [(0,λp=>eD (t2 (fL 57 eY p 0) (t2 (fL 57 eY p 1) Z (aE p 2)) Z))] [(0,[λp=>(.ret,eD (t0 Z (t0 (iV p 0) Z))),
 λp=>(.exit 0,eD (t0 Z (t0 eI Z)))])]
theorem Zq:eJ HY Eu:=cJ
def CV:FD:=cI 19 1 [0,2] pA [(0,jF),(2,mF)] [(0,λp=>⟨(t0 (t2 (.pb 1 0 0) (aE p 0) Z) (t0 (aE p 1) Z)),[(1,cU p 2)],[],1⟩),
 (2,λp=>⟨(t0 (t2 (.pb 1 0 0) (aE p 0) (aE p 1)) (t0 (aE p 2) Z)),[(1,cU p 3)],[],1⟩)] [(0,[λp=>(.ret,eD (t0 Z (iV p 0))),
 λp=>(.exit 0,eD (t0 Z eI))]),
 (2,[λp=>(.ret,⟨(t0 (t2 (.pb 1 0 0) (aE p 0) Z) (t2 (nB p 1) (aE p 2) Z)),[(1,cU p 3)],[],1⟩),
 λp=>(.exit 2,⟨(t0 (t2 (.pb 1 0 0) (aE p 0) Z) (t0 (aE p 1) Z)),[(1,cU p 2)],[],1⟩)])]
theorem rQ:eJ TU CV:=cJ
def nV:FD:=cI 23 1 [0,2,4,6] TV [(0,wE),(2,wF),(4,wG),(6,wH)] [(0,λp=>⟨(t0 (t2 (.pb 1 0 0) (t1 (.mp 9 0)) (aE p 0)) (t0 (aE p 1) Z)),[(1,dC p 2),(9,⟨0,[],some ⟨.str,.int .i64,(gL p 6)⟩⟩)],[],1⟩),
 (2,λp=>⟨(t0 (t2 (.pb 1 0 0) (t1 (.mp 9 0)) Z) (t0 (aE p 0) (aE p 1))),[(1,dC p 2),(9,⟨0,[],some ⟨.str,.int .i64,(gL p 6)⟩⟩)],[],1⟩),
 (4,λp=>⟨(t0 (t2 (.pb 1 0 0) (t2 (.mp 9 0) (aE p 0) Z) Z) (t0 (aE p 1) Z)),[(1,dC p 2),(9,⟨0,[],some ⟨.str,.int .i64,(gL p 6)⟩⟩)],[],1⟩),
 (6,λp=>⟨(t0 (t2 (.pb 1 0 0) (t1 (.mp 9 0)) Z) (t0 (t2 (nI p 0) (aE p 1) Z) Z)),[(1,dC p 2),(9,⟨0,[],some ⟨.str,.int .i64,(gL p 6)⟩⟩)],[],1⟩)] [(0,[λp=>(.exit 0,⟨(t0 (t2 (.pb 1 0 0) (t1 (.mp 9 0)) Z) (t0 (aE p 0) Z)),[(1,dC p 1),(9,⟨0,[],some ⟨.str,.int .i64,(gL p 5)⟩⟩)],[],1⟩)]),
 (2,[λp=>(.exit 2,⟨(t0 (t2 (.pb 1 0 0) (t1 (.mp 9 0)) Z) (t0 (aE p 0) Z)),[(1,dC p 1),(9,⟨0,[],some ⟨.str,.int .i64,(gL p 5)⟩⟩)],[],1⟩)]),
 (4,[λp=>(.exit 4,⟨(t0 (t2 (.pb 1 0 0) (t1 (.mp 9 0)) Z) (t0 (aE p 0) Z)),[(1,dC p 1),(9,⟨0,[],some ⟨.str,.int .i64,(gL p 5)⟩⟩)],[],1⟩)]),
 (6,[λp=>(.exit 6,eD (t0 Z (t0 (aE p 0) Z)))])]
theorem zJ:eJ Km nV:=cJ
def ES:FD:=cI 27 2 [0,2,4] TW [(0,wI),(2,wJ),(4,wK)] [(0,λp=>⟨(t0 (t0 (t1 (.pb 3 0 0)) (cW 13000000)) (t2 (.pb 2 0 0) Z (aE p 0))),[(2,dC p 1),(3,cU p 5)],[aY 13000000 3 dL p 10],1⟩),
 (2,λp=>⟨(t0 (t0 (t2 (.pb 3 0 0) (aE p 0) Z) (cW 13000000)) (t2 (.pb 2 0 0) Z (aE p 1))),[(2,dC p 2),(3,cU p 6)],[aY 13000000 3 dL p 11],1⟩),
 (4,λp=>⟨(t0 (t0 (t2 (.pb 3 0 0) (aE p 0) Z) (t2 (cE 13000000) (cW 200009) Z)) (t2 (.pb 2 0 0) (t0 (t1 (.pb 8 0 0)) Z) (t2 (nI p 1) (aE p 2) Z))),[(2,dC p 3),(3,cU p 7),(8,RI p 12)],[aY 200009 3 dL p 19,aY 13000000 3 dL p 20],1⟩)] [(0,[λp=>(.ret,eD (t0 Z (t0 (iV p 0) Z))),
 λp=>(.exit 0,eD (t0 Z (t0 eI Z)))]),
 (2,[λp=>(.ret,⟨(t0 (t0 (t1 (.pb 3 0 0)) (cW 13000000)) (t2 (.pb 2 0 0) (iV p 0) (aE p 1))),[(2,dC p 2),(3,cU p 6)],[aY 13000000 3 dL p 11],1⟩),
 λp=>(.exit 2,⟨(t0 (t0 (t1 (.pb 3 0 0)) (cW 13000000)) (t2 (.pb 2 0 0) eI (aE p 0))),[(2,dC p 1),(3,cU p 5)],[aY 13000000 3 dL p 10],1⟩)]),
 (4,[λp=>(.exit 4,⟨(t0 (t0 (t2 (.pb 3 0 0) (aE p 0) Z) (t2 (cE 13000000) (cW 200009) Z)) (t2 (.pb 2 0 0) (t0 (t1 (.pb 8 0 0)) Z) (aE p 1))),[(2,dC p 2),(3,cU p 6),(8,RI p 11)],[aY 200009 3 dL p 18,aY 13000000 3 dL p 19],1⟩)])]
theorem ET:eJ Ko ES:=cJ
def EU:FD:=cI 31 3 [] uF [] [] []
theorem EV:eJ zG EU:=cJ
def Br:FD:=cI 35 2 [0] Bb [(0,kF)] [(0,λp=>⟨(t0 (t2 (nI p 0) Z (aE p 1)) (t2 (.pb 2 0 0) (t1 (.pb 4 0 0)) Z)),[(2,cU p 2),(4,⟨0,[nI p 7,nI p 8],none⟩)],[],1⟩)] [(0,[λp=>(.ret,⟨(t0 Z (t0 (t1 (.pb 4 0 0)) Z)),[(4,⟨0,[nI p 0,nI p 1],none⟩)],[],1⟩)])]
theorem zK:eJ Um Br:=cJ
def Lc:FD:=cI 40 1 [] TX [] [] []
theorem Ld:eJ XY Lc:=cJ
def QO:FD:=cI 44 1 [0,2] Bc [(0,AO),(2,AP)] [(0,λp=>⟨(t0 (t2 (.pb 1 0 0) (cW 11) (aE p 0)) (t0 (cW 14000000) Z)),[(1,cU p 1)],[aY 11 36 [.sl true 4 fI] p 6,aY 14000000 4 fI p 7],1⟩),
 (2,λp=>⟨(t0 (t2 (.pb 1 0 0) (t2 (cE 11) (aE p 0) Z) (aE p 1)) (t0 (cW 14000000) (cW 34000000))),[(1,cU p 2)],[aY 11 36 [.sl true 4 fI] p 7,aY 14000000 4 fI p 8,aY 34000000 4 fI p 9],1⟩)] [(0,[λp=>(.exit 0,⟨(t0 (t0 (cW 11) Z) eI),[],[aY 11 36 [.sl true 4 fI] p 0],1⟩)]),
 (2,[λp=>(.exit 2,⟨(t0 (t2 (.pb 1 0 0) (cW 11) (aE p 0)) (t0 (cW 14000000) Z)),[(1,cU p 1)],[aY 11 36 [.sl true 4 fI] p 6,aY 14000000 4 fI p 7],1⟩)])]
theorem QP:eJ Uq QO:=cJ
def Bs:FD:=cI 53 1 [0] Bd [(0,AQ)] [(0,λp=>eD (t2 (.str (gS p 0)) (t0 (aE p 1) Z) Z))] [(0,[λp=>(.ret,eD (t0 Z (iV p 0))),
 λp=>(.exit 0,eD (t0 Z eI))])]
theorem Bt:eJ KH Bs:=cJ
def oV:FD:=cI 57 1 [0,2,4,6,8,10] OB [(0,hJ),(2,nO),(4,eA),(6,hZ),(8,nP),(10,mG)] [(0,λp=>⟨(t0 (t2 (.pb 1 0 0) Z (t0 (t0 (aE p 0) Z) Z)) (t0 (t0 (t0 (t1 (fL 62 Zl p 1)) Z) Z) (t0 (t0 (aE p 2) Z) Z))),[(1,dC p 3)],[],1⟩),
 (2,λp=>⟨(t0 (t2 (.pb 1 0 0) (t0 (t0 Z (t1 (qG p 0))) Z) (t0 (t0 (aE p 1) (aE p 2)) Z)) (t0 (t2 (.pb 4 0 0) (t0 (t1 (fL 62 Zl p 3)) (aE p 4)) Z) (t0 (t0 (aE p 5) Z) Z))),[(1,dC p 6),(4,⟨0,[.str (gS p 10),qG p 11,nI p 12],none⟩)],[],1⟩),
 (4,λp=>eD (t0 (t0 Z (t0 Z (t0 Z (t0 (aE p 0) Z)))) (t0 (t0 Z (t0 Z (t0 (t1 (fL 42 LV p 1)) Z))) (t0 Z (t0 Z (t0 (aE p 2) Z)))))),
 (6,λp=>⟨(t0 (t0 (t0 (t0 Z (t0 (t0 (aE p 0) Z) Z)) Z) (t0 Z (t0 (t0 (t0 (t1 (qG p 1)) Z) Z) (t0 (aE p 2) Z)))) (t0 (t0 (t1 (.pb 8 0 0)) (t0 Z (t0 (t1 (fL 42 LV p 3)) Z))) (t0 Z (t0 (t0 (t0 (aE p 4) Z) Z) (t0 (aE p 5) Z))))),[(8,cU p 6)],[],1⟩),
 (8,λp=>eD (t0 (t0 Z (t0 Z (t0 Z (t0 (aE p 0) (t0 (aE p 1) Z))))) (t0 (t0 Z (t0 Z (t0 (t1 (fL 42 LV p 2)) (t0 (t1 (fL 47 zY p 3)) Z)))) (t0 Z (t0 Z (t0 (aE p 4) (t0 (aE p 5) Z))))))),
 (10,λp=>eD (t0 (t0 (t0 Z (t0 (t0 (t0 Z (t1 (fL 50 KK p 0))) Z) Z)) (t0 Z (t0 (t0 (t0 Z (aE p 1)) Z) (t0 (aE p 2) (t0 (aE p 3) Z))))) (t0 (t0 Z (t0 (t0 (t0 Z (aE p 4)) Z) (t0 (t1 (fL 42 LV p 5)) (t0 (t1 (fL 47 zY p 6)) Z)))) (t0 Z (t0 Z (t0 (aE p 7) (t0 (aE p 8) Z)))))))] [(0,[λp=>(.ret,⟨(t0 lM (iV p 0)),[(1,dC p 1)],[],1⟩),
 λp=>(.exit 0,⟨(t0 lM eI),[(1,dC p 0)],[],1⟩)]),
 (2,[λp=>(.ret,⟨(t0 (t2 (.pb 1 0 0) Z (t0 (t0 (aE p 0) Z) Z)) (t2 (nB p 1) (t2 (.pb 4 0 0) (t0 (t1 (fL 62 Zl p 2)) Z) Z) (t0 (t0 (aE p 3) Z) Z))),[(1,dC p 4),(4,⟨0,[.str (gS p 8),qG p 9,nI p 10],none⟩)],[],1⟩),
 λp=>(.exit 2,⟨(t0 (t2 (.pb 1 0 0) Z (t0 (t0 (aE p 0) Z) Z)) (t0 (t2 (.pb 4 0 0) (t0 (t1 (fL 62 Zl p 1)) Z) Z) (t0 (t0 (aE p 2) Z) Z))),[(1,dC p 3),(4,⟨0,[.str (gS p 7),qG p 8,nI p 9],none⟩)],[],1⟩)]),
 (4,[λp=>(.ret,eD (t0 Z (iV p 0))),
 λp=>(.exit 4,eD (t0 Z eI))]),
 (6,[λp=>(.ret,⟨(t0 (t0 Z (t0 Z (t0 Z (t0 (aE p 0) Z)))) (t2 (nB p 1) (t0 (t1 (.pb 8 0 0)) (t0 Z (t0 (t1 (fL 42 LV p 2)) Z))) (t0 Z (t0 Z (t0 (aE p 3) Z))))),[(8,cU p 4)],[],1⟩),
 λp=>(.exit 6,⟨(t0 (t0 Z (t0 Z (t0 Z (t0 (aE p 0) Z)))) (t0 (t0 (t1 (.pb 8 0 0)) (t0 Z (t0 (t1 (fL 42 LV p 1)) Z))) (t0 Z (t0 Z (t0 (aE p 2) Z))))),[(8,cU p 3)],[],1⟩)]),
 (8,[λp=>(.ret,eD (t0 (t0 Z (t0 Z (t0 Z (t0 (aE p 0) Z)))) (t2 (nB p 1) (t0 Z (t0 Z (t0 (t1 (fL 42 LV p 2)) Z))) (t0 Z (t0 Z (t0 (aE p 3) Z)))))),
 λp=>(.exit 8,eD (t0 (t0 Z (t0 Z (t0 Z (t0 (aE p 0) Z)))) (t0 (t0 Z (t0 Z (t0 (t1 (fL 42 LV p 1)) Z))) (t0 Z (t0 Z (t0 (aE p 2) Z))))))]),
 (10,[λp=>(.ret,eD (t0 (t0 Z (t0 Z (t0 Z (t0 (aE p 0) (t0 (aE p 1) Z))))) (t2 (nB p 2) (t0 Z (t0 Z (t0 (t1 (fL 42 LV p 3)) (t0 (t1 (fL 47 zY p 4)) Z)))) (t0 Z (t0 Z (t0 (aE p 5) (t0 (aE p 6) Z))))))),
 λp=>(.exit 10,eD (t0 (t0 Z (t0 Z (t0 Z (t0 (aE p 0) (t0 (aE p 1) Z))))) (t0 (t0 Z (t0 Z (t0 (t1 (fL 42 LV p 2)) (t0 (t1 (fL 47 zY p 3)) Z)))) (t0 Z (t0 Z (t0 (aE p 4) (t0 (aE p 5) Z)))))))])]
theorem oW:eJ Ax oV:=cJ
def lY:FD:=cI 61 1 [0,2,4,6,8,10,12] Be [(0,mY),(2,qU),(4,AR),(6,AS),(8,AT),(10,wL),(12,wM)] [(0,λp=>⟨(t0 (t2 (.pb 1 0 0) (aE p 0) (t0 Z (t0 Z (aE p 1)))) (t0 (t2 (cE 200004) Z (t0 Z (t1 (fL 47 zY p 2)))) (t0 Z (t0 Z (aE p 3))))),[(1,cU p 4)],[aY 200004 3 dL p 9],1⟩),
 (2,λp=>⟨(t0 (t2 (.pb 1 0 0) (aE p 0) (t2 (nI p 1) Z (t0 (t0 (aE p 2) Z) (aE p 3)))) (t0 (t2 (cE 200004) Z (t0 (t0 (t1 (fL 50 KK p 4)) Z) (t1 (fL 47 zY p 5)))) (t0 Z (t0 (t0 (aE p 6) Z) (aE p 7))))),[(1,cU p 8)],[aY 200004 3 dL p 13],1⟩),
 (4,λp=>⟨(t0 (t2 (.pb 1 0 0) (aE p 0) (t0 (t2 (cE 60) (t0 (t0 (aE p 1) Z) Z) Z) Z)) (t0 (t2 (cE 200004) (t0 (t0 (t0 (aE p 2) Z) Z) Z) Z) (t0 (cW 63000000) Z))),[(1,cU p 3)],[aY 60 36 [.sl true 4 fI] p 8,aY 200004 3 dL p 9,aY 63000000 3 dL p 10],1⟩),
 (6,λp=>⟨(t0 (t2 (.pb 1 0 0) (t2 (nI p 0) Z (aE p 1)) (t0 (t2 (cE 60) (t0 (t0 (aE p 2) Z) Z) Z) Z)) (t0 (t2 (cE 200004) (t0 (t0 (t0 (aE p 3) Z) Z) Z) (aE p 4)) (t0 (cW 63000000) Z))),[(1,cU p 5)],[aY 60 36 [.sl true 4 fI] p 10,aY 200004 3 dL p 11,aY 63000000 3 dL p 12],1⟩),
 (8,λp=>⟨(t0 (t2 (.pb 1 0 0) (t2 (nI p 0) Z (t0 Z (t0 Z (t0 (aE p 1) Z)))) (t0 (cW 60) Z)) (t0 (t2 (cE 200004) Z (t0 Z (t0 Z (t0 (aE p 2) Z)))) (t0 (t0 Z (t0 Z (t0 (t1 (fL 47 zY p 3)) Z))) Z))),[(1,cU p 4)],[aY 60 36 [.sl true 4 fI] p 9,aY 200004 3 dL p 10],1⟩),
 (10,λp=>⟨(t0 (t2 (.pb 1 0 0) (t2 (nI p 0) (t0 (aE p 1) Z) (t0 Z (t0 Z (t0 (aE p 2) Z)))) (t0 (cW 60) (t2 (nI p 3) Z (t0 (t0 Z (aE p 4)) Z)))) (t0 (t2 (cE 200004) Z (t0 Z (t0 (t0 Z (t1 (fL 50 KK p 5))) (t0 (aE p 6) Z)))) (t0 (t0 Z (t0 Z (t0 (t1 (fL 47 zY p 7)) Z))) (t0 Z (t0 (t0 Z (aE p 8)) Z))))),[(1,cU p 9)],[aY 60 36 [.sl true 4 fI] p 14,aY 200004 3 dL p 15],1⟩),
 (12,λp=>⟨(t0 (t2 (.pb 1 0 0) (t2 (nI p 0) (t0 (aE p 1) Z) (t0 (t0 Z (t0 Z (t1 (qG p 2)))) (t0 Z (t0 (aE p 3) Z)))) (t0 (t2 (cE 60) (t1 (.pb 17 0 0)) Z) (t2 (nI p 4) (t0 Z (t0 Z (aE p 5))) (t0 (t0 Z (aE p 6)) Z)))) (t0 (t2 (cE 200004) Z (t0 (t0 Z (t0 Z (aE p 7))) (t0 (t0 Z (t1 (fL 50 KK p 8))) (t0 (aE p 9) Z)))) (t0 (t0 Z (t0 Z (t0 (t1 (fL 47 zY p 10)) Z))) (t0 Z (t0 (t0 Z (aE p 11)) Z))))),[(1,cU p 12),(17,RI p 17)],[aY 60 36 [.sl true 4 fI] p 24,aY 200004 3 dL p 25],1⟩)] [(0,[λp=>(.ret,⟨(t0 (t2 (.pb 1 0 0) (aE p 0) Z) (t2 (nB p 1) (cW 200004) Z)),[(1,cU p 2)],[aY 200004 3 dL p 7],1⟩),
 λp=>(.exit 0,⟨(t0 (t2 (.pb 1 0 0) (aE p 0) Z) (t0 (cW 200004) Z)),[(1,cU p 1)],[aY 200004 3 dL p 6],1⟩)]),
 (2,[λp=>(.ret,⟨(t0 (t2 (.pb 1 0 0) (aE p 0) (t0 Z (t0 Z (aE p 1)))) (t2 (nB p 2) (t2 (cE 200004) Z (t0 Z (t1 (fL 47 zY p 3)))) (t0 Z (t0 Z (aE p 4))))),[(1,cU p 5)],[aY 200004 3 dL p 10],1⟩),
 λp=>(.exit 2,⟨(t0 (t2 (.pb 1 0 0) (aE p 0) (t0 Z (t0 Z (aE p 1)))) (t0 (t2 (cE 200004) Z (t0 Z (t1 (fL 47 zY p 2)))) (t0 Z (t0 Z (aE p 3))))),[(1,cU p 4)],[aY 200004 3 dL p 9],1⟩)]),
 (4,[λp=>(.exit 4,⟨(t0 (t2 (.pb 1 0 0) (aE p 0) (t0 (cW 60) Z)) (t0 (cW 200004) Z)),[(1,cU p 1)],[aY 60 36 [.sl true 4 fI] p 6,aY 200004 3 dL p 7],1⟩)]),
 (6,[λp=>(.exit 6,⟨(t0 (t2 (.pb 1 0 0) (aE p 0) (t0 (t2 (cE 60) (t0 (t0 (aE p 1) Z) Z) Z) Z)) (t0 (t2 (cE 200004) (t0 (t0 (t0 (aE p 2) Z) Z) Z) Z) (t0 (cW 63000000) Z))),[(1,cU p 3)],[aY 60 36 [.sl true 4 fI] p 8,aY 200004 3 dL p 9,aY 63000000 3 dL p 10],1⟩)]),
 (8,[λp=>(.ret,eD (t0 Z (iV p 0))),
 λp=>(.exit 8,eD (t0 Z eI))]),
 (10,[λp=>(.ret,⟨(t0 (t2 (.pb 1 0 0) (t2 (nI p 0) Z (t0 Z (t0 Z (t0 (aE p 1) Z)))) (t0 (cW 60) Z)) (t2 (nB p 2) (t2 (cE 200004) Z (t0 Z (t0 Z (t0 (aE p 3) Z)))) (t0 (t0 Z (t0 Z (t0 (t1 (fL 47 zY p 4)) Z))) Z))),[(1,cU p 5)],[aY 60 36 [.sl true 4 fI] p 10,aY 200004 3 dL p 11],1⟩),
 λp=>(.exit 10,⟨(t0 (t2 (.pb 1 0 0) (t2 (nI p 0) Z (t0 Z (t0 Z (t0 (aE p 1) Z)))) (t0 (cW 60) Z)) (t0 (t2 (cE 200004) Z (t0 Z (t0 Z (t0 (aE p 2) Z)))) (t0 (t0 Z (t0 Z (t0 (t1 (fL 47 zY p 3)) Z))) Z))),[(1,cU p 4)],[aY 60 36 [.sl true 4 fI] p 9,aY 200004 3 dL p 10],1⟩)]),
 (12,[λp=>(.ret,⟨(t0 (t2 (.pb 1 0 0) (t2 (nI p 0) (t0 (aE p 1) Z) (t0 Z (t0 Z (t0 (aE p 2) Z)))) (t0 (t2 (cE 60) (t1 (.pb 17 0 0)) Z) (t2 (nI p 3) Z (t0 (t0 Z (aE p 4)) Z)))) (t2 (nB p 5) (t2 (cE 200004) Z (t0 Z (t0 (t0 Z (t1 (fL 50 KK p 6))) (t0 (aE p 7) Z)))) (t0 (t0 Z (t0 Z (t0 (t1 (fL 47 zY p 8)) Z))) (t0 Z (t0 (t0 Z (aE p 9)) Z))))),[(1,cU p 10),(17,RI p 15)],[aY 60 36 [.sl true 4 fI] p 22,aY 200004 3 dL p 23],1⟩),
 λp=>(.exit 12,⟨(t0 (t2 (.pb 1 0 0) (t2 (nI p 0) (t0 (aE p 1) Z) (t0 Z (t0 Z (t0 (aE p 2) Z)))) (t0 (t2 (cE 60) (t1 (.pb 17 0 0)) Z) (t2 (nI p 3) Z (t0 (t0 Z (aE p 4)) Z)))) (t0 (t2 (cE 200004) Z (t0 Z (t0 (t0 Z (t1 (fL 50 KK p 5))) (t0 (aE p 6) Z)))) (t0 (t0 Z (t0 Z (t0 (t1 (fL 47 zY p 7)) Z))) (t0 Z (t0 (t0 Z (aE p 8)) Z))))),[(1,cU p 9),(17,RI p 14)],[aY 60 36 [.sl true 4 fI] p 21,aY 200004 3 dL p 22],1⟩)])]
theorem oK:eJ Ur lY:=cJ
def yH:FD:=cI 65 1 [0] wN [(0,lC)] [(0,λp=>⟨(t2 (.pb 500 0 0) (t0 Z (t0 (t0 (aE p 0) Z) Z)) (t0 (t0 (t0 (aE p 1) Z) Z) Z)),[(500,⟨0,[cE 332000,cE 332001,cE 332002,cE 332003],none⟩)],[aY 332000 3 dL p 2,aY 332001 58 [.sl true 60 eY] p 3,aY 332002 57 eY p 4,aY 332003 50 KK p 5],1⟩)] [(0,[λp=>(.exit 0,⟨(t1 (.pb 500 0 0)),[(500,⟨0,[cE 332000,cE 332001,cE 332002,cE 332003],none⟩)],[aY 332000 3 dL p 0,aY 332001 58 [.sl true 60 eY] p 1,aY 332002 57 eY p 2,aY 332003 50 KK p 3],1⟩)])]
theorem yI:eJ BX yH:=cJ
def Ew:FD:=cI 69 1 [] Zo [] [] []
theorem Ey:eJ DI Ew:=cJ
def pV:FD:=cI 73 2 [] kU [] [] []
theorem pW:eJ mE pV:=cJ
def Lg:FD:=cI 77 1 [] TY [] [] []
theorem Lh:eJ Kv Lg:=cJ
def cD:FD:=cI 83 1 [0,2] iA [(0,cH),(2,dT)] [(0,λp=>⟨(t2 (cE 500) (t0 (aE p 0) Z) Z),[],[aY 500 60 eY p 1],1⟩),
 (2,λp=>⟨(t2 (cE 500) (t0 (aE p 0) (aE p 1)) (t0 (t1 (.sx 500 0 2 (gN p 2) (gN p 3))) Z)),[],[aY 500 60 eY p 4],1⟩)] [(0,[λp=>(.ret,⟨(t0 Z (cW 59)),[],[aY 59 60 eY p 0],1⟩),
 λp=>(.exit 0,⟨(t2 (cE 500) Z eI),[],[aY 500 60 eY p 0],1⟩)]),
 (2,[λp=>(.exit 2,⟨(t2 (cE 500) (t0 (aE p 0) Z) eI),[],[aY 500 60 eY p 1],1⟩)])]
theorem eB:eJ bY cD:=cJ
def SG:FD:=cI 87 1 [] HF [] [] []
theorem SH:eJ NX SG:=cJ
def Li:FD:=cI 91 3 [0] Ky [(0,EQ)] [(0,λp=>eD (t2 (qG p 0) (t0 (t0 Z (aE p 1)) (t0 (t1 (qG p 2)) Z)) (t2 (nI p 3) Z (t0 (aE p 4) Z))))] [(0,[λp=>(.ret,eD (t0 Z (t0 Z (iV p 0)))),
 λp=>(.exit 0,eD (t0 Z (t0 Z eI)))])]
theorem Lj:eJ Ba Li:=cJ
def rC:FD:=cI 98 2 [] mH [] [] []
theorem rD:eJ nN rC:=cJ
def SI:FD:=cI 4 0 [] Nx [] [] []
theorem Nz:eJ vD SI:=cJ
def Lk:FD:=cI 8 2 [] N6 [] [] []
theorem N8:eJ NU Lk:=cJ
def UR:FD:=cI 12 1 [0] TZ [(0,wO)] [(0,λp=>⟨(t0 (t2 (.pb 1 0 0) (cW 8000000) (aE p 0)) (t0 (cW 10) Z)),[(1,cU p 1)],[aY 10 57 eY p 6,aY 8000000 3 dL p 7],1⟩)] [(0,[λp=>(.exit 0,⟨(t0 Z (t0 (cW 10) Z)),[],[aY 10 57 eY p 0],1⟩)])]
theorem US:eJ Kj UR:=cJ
def YE:FD:=cI 16 2 [0] Uv [(0,Kz)] [(0,λp=>eD (t2 (fL 4 fI p 0) (t2 (fL 4 fI p 1) Z (aE p 2)) Z))] [(0,[λp=>(.ret,eD (t0 Z (t0 (iV p 0) Z))),
 λp=>(.exit 0,eD (t0 Z (t0 eI Z)))])]
theorem Vb:eJ cK YE:=cJ
def Qa:FD:=cI 20 1 [0] Bf [(0,AU)] [(0,λp=>⟨(t0 (t2 (.pb 1 0 0) (aE p 0) Z) (t0 (aE p 1) Z)),[(1,cU p 2)],[],1⟩)] [(0,[λp=>(.exit 0,eD (t0 (t0 (aE p 0) Z) eI))])]
theorem Bu:eJ Hd Qa:=cJ
def rR:FD:=cI 24 1 [0,2,4,6,8] Bg [(0,AV),(2,AW),(4,AX),(6,AY),(8,AZ)] [(0,λp=>⟨(t0 (t2 (.pb 1 0 0) (aE p 0) Z) Z),[(1,dC p 1)],[],1⟩),
 (2,λp=>⟨(t0 (t2 (.pb 1 0 0) (aE p 0) Z) (t0 (aE p 1) Z)),[(1,dC p 2)],[],1⟩),
 (4,λp=>⟨(t0 lM (t0 Z (aE p 0))),[(1,dC p 1)],[],1⟩),
 (6,λp=>⟨(t0 (t2 (.pb 1 0 0) (t0 (aE p 0) Z) Z) (t0 Z (aE p 1))),[(1,dC p 2)],[],1⟩),
 (8,λp=>⟨(t0 (t2 (.pb 1 0 0) (t0 (aE p 0) Z) Z) (t0 (t0 (aE p 1) Z) (aE p 2))),[(1,dC p 3)],[],1⟩)] [(0,[λp=>(.ret,⟨(t0 lM (iV p 0)),[(1,dC p 1)],[],1⟩),
 λp=>(.exit 0,⟨(t0 lM eI),[(1,dC p 0)],[],1⟩)]),
 (2,[λp=>(.ret,⟨(t0 (t2 (.pb 1 0 0) (aE p 0) Z) (iV p 1)),[(1,dC p 2)],[],1⟩),
 λp=>(.exit 2,⟨(t0 (t2 (.pb 1 0 0) (aE p 0) Z) eI),[(1,dC p 1)],[],1⟩)]),
 (4,[λp=>(.ret,eD (t0 Z (iV p 0))),
 λp=>(.exit 4,eD (t0 Z eI))]),
 (6,[λp=>(.ret,⟨(t0 lM (t2 (nB p 0) Z (aE p 1))),[(1,dC p 2)],[],1⟩),
 λp=>(.exit 6,⟨(t0 lM (t0 Z (aE p 0))),[(1,dC p 1)],[],1⟩)]),
 (8,[λp=>(.ret,⟨(t0 (t2 (.pb 1 0 0) (t0 (aE p 0) Z) Z) (t2 (nB p 1) Z (aE p 2))),[(1,dC p 3)],[],1⟩),
 λp=>(.exit 8,⟨(t0 (t2 (.pb 1 0 0) (t0 (aE p 0) Z) Z) (t0 Z (aE p 1))),[(1,dC p 2)],[],1⟩)])]
theorem zL:eJ Uk rR:=cJ
def YF:FD:=cI 28 2 [] Uw [] [] []
theorem Vc:eJ EN YF:=cJ
def Ez:FD:=cI 32 1 [] OC [] [] []
theorem Fa:eJ QJ Ez:=cJ
def qB:FD:=cI 36 2 [0,2] Bh [(0,qV),(2,qW)] [(0,λp=>⟨(t0 (aE p 0) (t2 (.pb 2 0 0) Z (aE p 1))),[(2,cU p 2)],[],1⟩),
 (2,λp=>⟨(t0 (t2 (nI p 0) (t0 (aE p 1) Z) Z) (t2 (.pb 2 0 0) Z (aE p 2))),[(2,cU p 3)],[],1⟩)] [(0,[λp=>(.ret,eD (t0 (t0 Z (aE p 0)) (t0 (aE p 1) Z))),
 λp=>(.exit 0,eD (t0 (t0 Z eI) (t0 eI Z)))]),
 (2,[λp=>(.ret,⟨(t0 (t2 (nI p 0) Z (aE p 1)) (t2 (.pb 2 0 0) (aE p 2) (aE p 3))),[(2,cU p 4)],[],1⟩),
 λp=>(.exit 2,⟨(t0 (t2 (nI p 0) Z eI) (t2 (.pb 2 0 0) eI (aE p 1))),[(2,cU p 2)],[],1⟩)])]
theorem DJ:eJ XX qB:=cJ
def QQ:FD:=cI 41 1 [0,2] Bi [(0,BA),(2,BB)] [(0,λp=>⟨(t0 (t2 (.pb 1 0 0) (cW 10) Z) (t0 (aE p 0) Z)),[(1,cU p 1)],[aY 10 39 [.sl true 3 dL] p 6],1⟩),
 (2,λp=>⟨(t0 (t2 (.pb 1 0 0) (cW 10) (cW 21000000)) (t0 (aE p 0) (aE p 1))),[(1,cU p 2)],[aY 10 39 [.sl true 3 dL] p 7,aY 21000000 3 dL p 8],1⟩)] [(0,[λp=>(.exit 0,⟨(t0 (t0 (cW 10) Z) eI),[],[aY 10 39 [.sl true 3 dL] p 0],1⟩)]),
 (2,[λp=>(.exit 2,⟨(t0 (t2 (.pb 1 0 0) (cW 10) Z) (t0 (aE p 0) Z)),[(1,cU p 1)],[aY 10 39 [.sl true 3 dL] p 6],1⟩)])]
theorem QR:eJ Uo QQ:=cJ
def Bv:FD:=cI 45 4 [1] Px [(1,BC)] [(1,λp=>⟨(t0 (t0 (t1 (qG p 0)) (t0 (aE p 1) Z)) (t0 Z (t1 (.pb 6 0 0)))),[(6,RI p 2)],[],1⟩)] [(1,[λp=>(.ret,eD (t0 Z (t0 (t0 (iV p 0) Z) Z))),
 λp=>(.exit 1,eD (t0 Z (t0 (t0 eI Z) Z)))])]
theorem Bw:eJ He Bv:=cJ
def qC:FD:=cI 50 2 [0] HG [(0,kV)] [(0,λp=>⟨(t2 (fL 60 eY p 0) (t0 (t1 (.pb 3 0 0)) (aE p 1)) Z),[(3,⟨0,[nI p 2,nI p 3],none⟩)],[],1⟩)] [(0,[λp=>(.ret,eD (t0 Z (t0 (iV p 0) Z))),
 λp=>(.exit 0,eD (t0 Z (t0 eI Z)))])]
theorem zZ:eJ NW qC:=cJ
def IB:FD:=cI 54 3 [0,2,4] Bj [(0,BD),(2,qX),(4,mZ)] [(0,λp=>⟨(t0 (t0 (t2 (.pb 3 0 0) (cW 15) Z) Z) (t2 (nI p 0) (t0 (iV p 1) Z) Z)),[(3,cU p 2)],[aY 15 4 fI p 7],1⟩),
 (2,λp=>⟨(t0 (t0 (t2 (.pb 3 0 0) (cW 15) Z) (t0 (aE p 0) Z)) (t2 (nI p 1) (t0 (iV p 2) Z) Z)),[(3,cU p 3)],[aY 15 4 fI p 8],1⟩),
 (4,λp=>⟨(t0 (t0 (t2 (.pb 3 0 0) (cW 15) (aE p 0)) (t0 (aE p 1) Z)) (t2 (nI p 2) (t0 (iV p 3) Z) (t0 (cW 48000000) Z))),[(3,cU p 4)],[aY 15 4 fI p 9,aY 48000000 3 dL p 10],1⟩)] [(0,[λp=>(.exit 0,⟨(t0 (t0 (t0 (cW 15) Z) Z) (t0 Z eI)),[],[aY 15 4 fI p 0],1⟩)]),
 (2,[λp=>(.exit 2,⟨(t0 (t0 (t2 (.pb 3 0 0) (cW 15) Z) Z) (t2 (nI p 0) (t0 (iV p 1) Z) eI)),[(3,cU p 2)],[aY 15 4 fI p 7],1⟩)]),
 (4,[λp=>(.exit 4,⟨(t0 (t0 (t2 (.pb 3 0 0) (cW 15) Z) (t0 (aE p 0) Z)) (t2 (nI p 1) (t0 (iV p 2) Z) eI)),[(3,cU p 3)],[aY 15 4 fI p 8],1⟩)])]
theorem IC:eJ Hf IB:=cJ
def uH:FD:=cI 58 1 [0,2,4,6,8] UA [(0,wP),(2,wQ),(4,wR),(6,wS),(8,pB)] [(0,λp=>⟨(t0 (t2 (.pb 1 0 0) (cW 200003) (t0 (t0 (aE p 0) Z) Z)) (t0 (t0 (t0 (t1 (fL 62 Zl p 1)) Z) Z) (t0 (t0 (aE p 2) Z) Z))),[(1,dC p 3)],[aY 200003 9 Va p 7],1⟩),
 (2,λp=>⟨(t0 (t2 (.pb 1 0 0) (t2 (cE 200003) (t0 (t0 (aE p 0) Z) Z) Z) (t0 Z (t0 Z (t1 (.fz [] 65 [.str,.sl false 2 dL] (gL p 1)))))) (t0 Z (t0 Z (t0 Z (aE p 2))))),[(1,dC p 3)],[aY 200003 9 Va p 7],1⟩),
 (4,λp=>⟨(t0 (t2 (.pb 1 0 0) (t2 (cE 200003) Z (t0 Z (t0 (aE p 0) Z))) Z) (t0 (t0 Z (t0 Z (t0 (aE p 1) Z))) (t0 (t0 Z (t0 (t1 (.fz [] 67 [.str,.sl false 3 dL] (gL p 2))) Z)) Z))),[(1,dC p 3)],[aY 200003 9 Va p 7],1⟩),
 (6,λp=>⟨(t0 (t0 (t2 (cE 200003) (t0 Z (t0 Z (t1 (fL 42 LV p 0)))) Z) (t0 (t0 Z (t0 Z (aE p 1))) Z)) (t0 (t0 (t0 Z (t0 Z (aE p 2))) Z) Z)),[],[aY 200003 9 Va p 3],1⟩),
 (8,λp=>⟨(t0 (t0 Z (t0 Z (t0 (t0 (t0 (aE p 0) Z) Z) Z))) (t0 (t0 Z (t2 (.mp 67 0) (t0 (t0 (cW 200003) Z) Z) Z)) (t0 Z (t0 (t0 (t0 (aE p 1) Z) Z) Z)))),[(67,⟨0,[],some ⟨.str,.int .i64,(gL p 2)⟩⟩)],[aY 200003 9 Va p 3],1⟩)] [(0,[λp=>(.exit 0,⟨(t0 (t2 (.pb 1 0 0) (cW 200003) Z) eI),[(1,dC p 0)],[aY 200003 9 Va p 4],1⟩)]),
 (2,[λp=>(.exit 2,⟨(t0 (t2 (.pb 1 0 0) (cW 200003) Z) eI),[(1,dC p 0)],[aY 200003 9 Va p 4],1⟩)]),
 (4,[λp=>(.exit 4,⟨(t0 (t2 (.pb 1 0 0) (cW 200003) Z) eI),[(1,dC p 0)],[aY 200003 9 Va p 4],1⟩)]),
 (6,[λp=>(.exit 6,⟨(t0 (t0 (cW 200003) Z) eI),[],[aY 200003 9 Va p 0],1⟩)]),
 (8,[λp=>(.ret,eD (t0 Z (iV p 0))),
 λp=>(.exit 8,eD (t0 Z eI))])]
theorem uI:eJ Ks uH:=cJ
def KO:FD:=cI 62 2 [0,2] UB [(0,wT),(2,wU)] [(0,λp=>⟨(t0 (t0 (t2 (.pb 3 0 0) (t0 (aE p 0) Z) Z) (t2 (cE 12000000) Z (t1 (fL 47 zY p 1)))) (t2 (.pb 2 0 0) Z (t0 Z (aE p 2)))),[(2,dC p 3),(3,cU p 7)],[aY 12000000 3 dL p 12],1⟩),
 (2,λp=>⟨(t0 (t0 (t2 (.pb 3 0 0) (t0 (aE p 0) Z) Z) (t2 (cE 12000000) Z (t2 (fL 47 zY p 1) (aE p 2) Z))) (t2 (.pb 2 0 0) (t0 Z (t0 (t1 (fL 50 KK p 3)) Z)) (t0 Z (t2 (nI p 4) (aE p 5) Z)))),[(2,dC p 6),(3,cU p 10)],[aY 12000000 3 dL p 15],1⟩)] [(0,[λp=>(.ret,eD (t0 Z (t0 (iV p 0) Z))),
 λp=>(.exit 0,eD (t0 Z (t0 eI Z)))]),
 (2,[λp=>(.ret,⟨(t0 (t0 (t2 (.pb 3 0 0) (t0 (aE p 0) Z) Z) (t2 (cE 12000000) Z (t1 (fL 47 zY p 1)))) (t2 (.pb 2 0 0) (iV p 2) (t0 Z (aE p 3)))),[(2,dC p 4),(3,cU p 8)],[aY 12000000 3 dL p 13],1⟩),
 λp=>(.exit 2,⟨(t0 (t0 (t2 (.pb 3 0 0) (t0 (aE p 0) Z) Z) (t2 (cE 12000000) Z (t1 (fL 47 zY p 1)))) (t2 (.pb 2 0 0) eI (t0 Z (aE p 2)))),[(2,dC p 3),(3,cU p 7)],[aY 12000000 3 dL p 12],1⟩)])]
theorem KP:eJ Ku KO:=cJ
def Qb:FD:=cI 66 2 [] Bk [] [] []
theorem Qc:eJ Us Qb:=cJ
def Fb:FD:=cI 70 1 [] bV [] [] []
theorem Fc:eJ Ay Fb:=cJ
def KQ:FD:=cI 74 1 [0] KN [(0,qY)] [(0,λp=>⟨(t0 (t0 Z (t0 (t0 (aE p 0) Z) Z)) (t0 (t2 (cE 12) (t0 (cW 9000005) Z) Z) (t0 (t0 (aE p 1) Z) Z))),[],[aY 12 4 fI p 2,aY 9000005 3 dL p 3],1⟩)] [(0,[λp=>(.exit 0,⟨(t0 Z (t0 (cW 12) Z)),[],[aY 12 4 fI p 0],1⟩)])]
theorem KR:eJ KI KQ:=cJ
def KS:FD:=cI 78 2 [0,2] UC [(0,wV),(2,wW)] [(0,λp=>eD (t0 (t0 Z (t2 (nI p 0) (t0 (aE p 1) Z) Z)) (t0 (t0 (t0 (t1 (fL 47 zY p 2)) Z) Z) (t0 (t0 (aE p 3) Z) Z)))),
 (2,λp=>eD (t0 (t0 (t0 (t0 Z (t1 (fL 50 KK p 0))) Z) (t2 (nI p 1) (t0 (aE p 2) (aE p 3)) Z)) (t0 (t0 (t0 (t1 (fL 47 zY p 4)) (aE p 5)) Z) (t0 (t0 (aE p 6) Z) Z))))] [(0,[λp=>(.exit 0,eD (t0 (t0 Z (aE p 0)) (t0 eI Z)))]),
 (2,[λp=>(.exit 2,eD (t0 (t0 Z (t2 (nI p 0) (t0 (aE p 1) Z) Z)) (t0 (t0 (t0 (t1 (fL 47 zY p 2)) Z) Z) (t0 (t0 (aE p 3) Z) Z))))])]
theorem KT:eJ Kw KS:=cJ
def ID:FD:=cI 84 2 [] fG [] [] []
theorem lZ:eJ wC ID:=cJ
def OT:FD:=cI 88 2 [0] OD [(0,tF)] [(0,λp=>⟨(t0 (t0 (t0 (t0 Z (t0 Z (t1 (qG p 0)))) Z) (t2 (cE 200005) (t0 Z (t0 Z (aE p 1))) Z)) (t2 (.pb 2 0 0) (t0 (t0 Z (t0 Z (aE p 2))) Z) Z)),[(2,cU p 3)],[aY 200005 3 dL p 8],1⟩)] [(0,[λp=>(.exit 0,⟨(t0 (t0 Z (cW 200005)) (t0 eI Z)),[],[aY 200005 3 dL p 0],1⟩)])]
theorem OU:eJ HZ OT:=cJ
def By:FD:=cI 92 3 [0] Bl [(0,BE)] [(0,λp=>eD (t2 (qG p 0) (t0 (t0 (t0 (aE p 1) Z) Z) Z) (t2 (qG p 2) (t0 (t0 (aE p 3) Z) Z) (t0 Z (t1 (qG p 4))))))] [(0,[λp=>(.ret,eD (t0 Z (t0 Z (iV p 0)))),
 λp=>(.exit 0,eD (t0 Z (t0 Z eI)))])]
theorem Bz:eJ wD By:=cJ
def AA:FD:=cI 99 2 [0,2] HI [(0,pT),(2,kW)] [(0,λp=>⟨(t2 (.fz [] 39 [.sl false 3 dL] (gL p 0)) (t2 (nI p 1) Z (cW 12)) (t0 Z (cW 200006))),[],[aY 12 4 fI p 2,aY 200006 3 dL p 3],1⟩),
 (2,λp=>⟨(t2 (.fz [] 39 [.sl false 3 dL] (gL p 0)) (t2 (nI p 1) (t0 (t0 Z (t0 (aE p 2) Z)) Z) (t2 (cE 12) Z (t0 (t0 (t1 (qG p 3)) Z) Z))) (t0 Z (t2 (cE 200006) Z (t0 (t0 (aE p 4) Z) Z)))),[],[aY 12 4 fI p 5,aY 200006 3 dL p 6],1⟩)] [(0,[λp=>(.exit 0,⟨(t0 (t0 Z (cW 12)) (t0 eI Z)),[],[aY 12 4 fI p 0],1⟩)]),
 (2,[λp=>(.exit 2,⟨(t2 (.fz [] 39 [.sl false 3 dL] (gL p 0)) (t2 (nI p 1) Z (cW 12)) (t0 eI (cW 200006))),[],[aY 12 4 fI p 2,aY 200006 3 dL p 3],1⟩)])]
theorem AB:eJ NZ AA:=cJ
def pM:FD:=cI 5 1 [0,2,4,6] lK [(0,mI),(2,mJ),(4,mK),(6,mL)] [(0,λp=>⟨(t0 (t2 (.pb 1 0 0) (aE p 0) Z) Z),[(1,dC p 1)],[],1⟩),
 (2,λp=>⟨(t0 lM (t0 (aE p 0) Z)),[(1,dC p 1)],[],1⟩),
 (4,λp=>⟨(t0 (t2 (.pb 1 0 0) Z (aE p 0)) Z),[(1,dC p 1)],[],1⟩),
 (6,λp=>⟨(t0 (t2 (.pb 1 0 0) (t0 (aE p 0) Z) Z) (t0 Z (aE p 1))),[(1,dC p 2)],[],1⟩)] [(0,[λp=>(.ret,⟨(t0 lM (iV p 0)),[(1,dC p 1)],[],1⟩),
 λp=>(.exit 0,⟨(t0 lM eI),[(1,dC p 0)],[],1⟩)]),
 (2,[λp=>(.ret,⟨(t0 lM (iV p 0)),[(1,dC p 1)],[],1⟩),
 λp=>(.exit 2,⟨(t0 lM eI),[(1,dC p 0)],[],1⟩)]),
 (4,[λp=>(.ret,⟨(t0 lM (iV p 0)),[(1,dC p 1)],[],1⟩),
 λp=>(.exit 4,⟨(t0 lM eI),[(1,dC p 0)],[],1⟩)]),
 (6,[λp=>(.ret,eD (t0 Z (t2 (nB p 0) Z (aE p 1)))),
 λp=>(.exit 6,eD (t0 Z (t0 Z (aE p 0))))])]
theorem pN:eJ KG pM:=cJ
def Ll:FD:=cI 13 5 [] UD [] [] []
theorem Lm:eJ Kk Ll:=cJ
def vG:FD:=cI 17 1 [0,2,4,6] OE [(0,tG),(2,tH),(4,tJ),(6,tK)] [(0,λp=>⟨(t0 (t2 (.pb 1 0 0) (cW 13000000) (aE p 0)) (t0 (cW 15) Z)),[(1,cU p 1)],[aY 15 4 fI p 6,aY 13000000 58 [.sl true 60 eY] p 7],1⟩),
 (2,λp=>⟨(t0 (t2 (.pb 1 0 0) (cW 13000000) (aE p 0)) (t0 (cW 15) (aE p 1))),[(1,cU p 2)],[aY 15 4 fI p 7,aY 13000000 58 [.sl true 60 eY] p 8],1⟩),
 (4,λp=>⟨(t0 (t2 (.pb 1 0 0) (t2 (cE 13000000) (t1 (.pb 7 0 0)) Z) (aE p 0)) (t0 (t2 (cE 15) (aE p 1) Z) (aE p 2))),[(1,cU p 3),(7,RI p 8)],[aY 15 4 fI p 15,aY 13000000 58 [.sl true 60 eY] p 16],1⟩),
 (6,λp=>⟨(t0 (t2 (.pb 1 0 0) (t2 (cE 13000000) (t1 (.pb 7 0 0)) Z) (t2 (nI p 0) (t1 (.vw 13000000 0 [((gN p 1),0)])) Z)) (t0 (t2 (cE 15) (aE p 2) Z) (t2 (nI p 3) (aE p 4) Z))),[(1,cU p 5),(7,RI p 10)],[aY 15 4 fI p 17,aY 13000000 58 [.sl true 60 eY] p 18],1⟩)] [(0,[λp=>(.exit 0,⟨(t0 Z (t0 (cW 15) Z)),[],[aY 15 4 fI p 0],1⟩)]),
 (2,[λp=>(.exit 2,⟨(t0 (t2 (.pb 1 0 0) (cW 13000000) (aE p 0)) (t0 (cW 15) Z)),[(1,cU p 1)],[aY 15 4 fI p 6,aY 13000000 58 [.sl true 60 eY] p 7],1⟩)]),
 (4,[λp=>(.exit 4,⟨(t0 (t2 (.pb 1 0 0) (cW 13000000) (aE p 0)) (t0 (cW 15) (aE p 1))),[(1,cU p 2)],[aY 15 4 fI p 7,aY 13000000 58 [.sl true 60 eY] p 8],1⟩)]),
 (6,[λp=>(.exit 6,⟨(t0 (t2 (.pb 1 0 0) (t2 (cE 13000000) (t1 (.pb 7 0 0)) Z) (aE p 0)) (t0 (t2 (cE 15) (aE p 1) Z) (aE p 2))),[(1,cU p 3),(7,RI p 8)],[aY 15 4 fI p 15,aY 13000000 58 [.sl true 60 eY] p 16],1⟩)])]
theorem vH:eJ gX vG:=cJ
def Fd:FD:=cI 21 1 [0,2,4,6] OF [(0,nQ),(2,nR),(4,nS),(6,nT)] [(0,λp=>⟨(t0 (t2 (.pb 1 0 0) (aE p 0) Z) Z),[(1,dC p 1)],[],1⟩),
 (2,λp=>⟨(t0 lM (t0 (aE p 0) Z)),[(1,dC p 1)],[],1⟩),
 (4,λp=>⟨(t0 lM (t0 Z (aE p 0))),[(1,dC p 1)],[],1⟩),
 (6,λp=>⟨(t0 lM (t0 (t0 (aE p 0) Z) Z)),[(1,dC p 1)],[],1⟩)] [(0,[λp=>(.ret,⟨(t0 lM (iV p 0)),[(1,dC p 1)],[],1⟩),
 λp=>(.exit 0,⟨(t0 lM eI),[(1,dC p 0)],[],1⟩)]),
 (2,[λp=>(.ret,⟨(t0 lM (iV p 0)),[(1,dC p 1)],[],1⟩),
 λp=>(.exit 2,⟨(t0 lM eI),[(1,dC p 0)],[],1⟩)]),
 (4,[λp=>(.ret,⟨(t0 lM (iV p 0)),[(1,dC p 1)],[],1⟩),
 λp=>(.exit 4,⟨(t0 lM eI),[(1,dC p 0)],[],1⟩)]),
 (6,[λp=>(.ret,eD (t0 Z (iV p 0))),
 λp=>(.exit 6,eD (t0 Z eI))])]
theorem vJ:eJ Av Fd:=cJ
def uJ:FD:=cI 25 1 [0,2,4,6,8] UE [(0,wX),(2,wY),(4,wZ),(6,xA),(8,xB)] [(0,λp=>⟨(t0 (t2 (.pb 1 0 0) (aE p 0) Z) Z),[(1,cU p 1)],[],1⟩),
 (2,λp=>⟨(t0 (t2 (.pb 1 0 0) (aE p 0) (aE p 1)) (t0 (t1 (fL 50 KK p 2)) Z)),[(1,cU p 3)],[],1⟩),
 (4,λp=>⟨(t0 (t2 (.pb 1 0 0) (t2 (nI p 0) (aE p 1) Z) Z) (t0 Z (t1 (.pb 6 0 0)))),[(1,cU p 2),(6,RI p 7)],[],1⟩),
 (6,λp=>⟨(t0 (t2 (.pb 1 0 0) Z (t0 (cW 116000000) Z)) (t0 (t0 (cW 114000000) Z) (t0 (aE p 0) Z))),[(1,cU p 1)],[aY 114000000 4 fI p 6,aY 116000000 39 [.sl true 3 dL] p 7],1⟩),
 (8,λp=>⟨(t0 (t2 (.pb 1 0 0) (t0 Z (t1 (fL 50 KK p 0))) (t0 (cW 116000000) Z)) (t0 (t0 (cW 114000000) (aE p 1)) (t0 (aE p 2) Z))),[(1,cU p 3)],[aY 114000000 4 fI p 8,aY 116000000 39 [.sl true 3 dL] p 9],1⟩)] [(0,[λp=>(.ret,⟨(t0 lM (iV p 0)),[(1,cU p 1)],[],1⟩),
 λp=>(.exit 0,⟨(t0 lM eI),[(1,cU p 0)],[],1⟩)]),
 (2,[λp=>(.ret,⟨(t0 (t2 (.pb 1 0 0) (aE p 0) Z) (t2 (nB p 1) (t1 (fL 50 KK p 2)) Z)),[(1,cU p 3)],[],1⟩),
 λp=>(.exit 2,⟨(t0 (t2 (.pb 1 0 0) (aE p 0) Z) (t0 (t1 (fL 50 KK p 1)) Z)),[(1,cU p 2)],[],1⟩)]),
 (4,[λp=>(.ret,⟨(t0 (t2 (.pb 1 0 0) (aE p 0) Z) (t2 (nB p 1) Z (t1 (.pb 6 0 0)))),[(1,cU p 2),(6,RI p 7)],[],1⟩),
 λp=>(.exit 4,⟨(t0 (t2 (.pb 1 0 0) (aE p 0) Z) (t0 Z (t1 (.pb 6 0 0)))),[(1,cU p 1),(6,RI p 6)],[],1⟩)]),
 (6,[λp=>(.ret,eD (t0 Z (iV p 0))),
 λp=>(.exit 6,eD (t0 Z eI))]),
 (8,[λp=>(.ret,⟨(t0 (t2 (.pb 1 0 0) Z (t0 (cW 116000000) Z)) (t2 (nB p 0) (t0 (cW 114000000) Z) (t0 (aE p 1) Z))),[(1,cU p 2)],[aY 114000000 4 fI p 7,aY 116000000 39 [.sl true 3 dL] p 8],1⟩),
 λp=>(.exit 8,⟨(t0 (t2 (.pb 1 0 0) Z (t0 (cW 116000000) Z)) (t0 (t0 (cW 114000000) Z) (t0 (aE p 0) Z))),[(1,cU p 1)],[aY 114000000 4 fI p 6,aY 116000000 39 [.sl true 3 dL] p 7],1⟩)])]
theorem uK:eJ Kn uJ:=cJ
def vM:FD:=cI 29 1 [] iU [] [] []
theorem vN:eJ bK vM:=cJ
def KU:FD:=cI 33 2 [0,2] UF [(0,xC),(2,xD)] [(0,λp=>⟨(t0 (t2 (fL 60 eY p 0) Z (cW 200005)) (t0 Z (aE p 1))),[],[aY 200005 60 eY p 2],1⟩),
 (2,λp=>⟨(t0 (t2 (fL 60 eY p 0) (t0 (aE p 1) Z) (cW 200005)) (t0 Z (aE p 2))),[],[aY 200005 60 eY p 3],1⟩)] [(0,[λp=>(.exit 0,⟨(t0 (t0 Z (cW 200005)) (t0 eI Z)),[],[aY 200005 60 eY p 0],1⟩)]),
 (2,[λp=>(.exit 2,⟨(t0 (t2 (fL 60 eY p 0) (t0 (aE p 1) Z) (cW 200005)) (t0 eI (aE p 2))),[],[aY 200005 60 eY p 3],1⟩)])]
theorem KV:eJ EO KU:=cJ
def Qd:FD:=cI 37 1 [] cV [] [] []
theorem Qe:eJ Un Qd:=cJ
def Ca:FD:=cI 42 2 [0] Bm [(0,BF)] [(0,λp=>eD (t2 (qG p 0) (t2 (qG p 1) Z (aE p 2)) Z))] [(0,[λp=>(.ret,eD (t0 Z (t0 (iV p 0) Z))),
 λp=>(.exit 0,eD (t0 Z (t0 eI Z)))])]
theorem Cb:eJ QK Ca:=cJ
def EW:FD:=cI 46 1 [1,3,5] UG [(1,xE),(3,xF),(5,xG)] [(1,λp=>⟨(t0 (t2 (.pb 1 0 0) (t0 Z (t0 Z (aE p 0))) Z) (t0 (t0 Z (t0 Z (aE p 1))) (t0 (t0 Z (t1 (fL 42 LV p 2))) Z))),[(1,dC p 3)],[],1⟩),
 (3,λp=>⟨(t0 (t2 (.pb 1 0 0) (t0 (t0 Z (t0 (aE p 0) Z)) Z) (t0 Z (t0 (t0 (t1 (fL 42 LV p 1)) Z) Z))) (t0 Z (t0 Z (t0 (t0 (aE p 2) Z) Z)))),[(1,dC p 3)],[],1⟩),
 (5,λp=>⟨(t0 (t2 (.pb 1 0 0) Z (t0 (t0 (t0 Z (aE p 0)) Z) Z)) (t0 (t0 (t0 (t0 Z (t1 (fL 42 LV p 1))) Z) Z) (t0 (t0 (t0 Z (aE p 2)) Z) Z))),[(1,dC p 3)],[],1⟩)] [(1,[λp=>(.ret,⟨(t0 lM (aE p 0)),[(1,dC p 1)],[],1⟩),
 λp=>(.exit 1,⟨(t0 lM eI),[(1,dC p 0)],[],1⟩)]),
 (3,[λp=>(.ret,⟨(t0 lM (aE p 0)),[(1,dC p 1)],[],1⟩),
 λp=>(.exit 3,⟨(t0 lM eI),[(1,dC p 0)],[],1⟩)]),
 (5,[λp=>(.ret,eD (t0 Z (aE p 0))),
 λp=>(.exit 5,eD (t0 Z eI))])]
theorem EX:eJ XZ EW:=cJ
def Fe:FD:=cI 51 2 [] OG [] [] []
theorem Ff:eJ Aw Fe:=cJ
def Cc:FD:=cI 55 2 [0] Bn [(0,BG)] [(0,λp=>⟨(t0 (t0 (t0 (cW 200007) Z) (t1 (.pb 5 0 0))) (t2 (.pb 2 0 0) (t0 (aE p 0) Z) Z)),[(2,cU p 1),(5,RI p 6)],[aY 200007 3 dL p 13],1⟩)] [(0,[λp=>(.exit 0,⟨(t0 (t0 (t0 (cW 200007) Z) Z) (t0 eI Z)),[],[aY 200007 3 dL p 0],1⟩)])]
theorem Cd:eJ Hg Cc:=cJ
def pO:FD:=cI 59 1 [0,2,4,6,8] UH [(0,xH),(2,xI),(4,xJ),(6,xK),(8,xL)] [(0,λp=>⟨(t0 (t2 (.pb 1 0 0) (t0 (t0 (t1 (.fz [] 67 [.str,.sl false 3 dL] (gL p 0))) Z) Z) (t0 (t0 (aE p 1) Z) Z)) (t0 (t0 (t0 (aE p 2) Z) Z) Z)),[(1,dC p 3)],[],1⟩),
 (2,λp=>⟨(t0 (t2 (.pb 1 0 0) (t0 (t0 (t1 (.fz [] 67 [.str,.sl false 3 dL] (gL p 0))) (aE p 1)) Z) (t0 (t0 (aE p 2) Z) Z)) (t0 (t0 (t0 (aE p 3) (aE p 4)) Z) (t0 Z (t0 (t1 (qG p 5)) Z)))),[(1,dC p 6)],[],1⟩),
 (4,λp=>⟨(t0 (t2 (.pb 1 0 0) Z (t0 (t0 Z (t0 (aE p 0) Z)) Z)) (t0 (t0 (t0 Z (t0 (t1 (fL 42 LV p 1)) Z)) Z) (t0 (t0 Z (t0 (aE p 2) Z)) Z))),[(1,dC p 3)],[],1⟩),
 (6,λp=>⟨(t0 (t2 (.pb 1 0 0) (t0 (t0 (t0 Z (t1 (fL 47 zY p 0))) Z) Z) (t0 (t0 (t0 Z (aE p 1)) (t0 (aE p 2) Z)) Z)) (t0 (t0 (t0 (t0 Z (aE p 3)) (t0 (t1 (fL 42 LV p 4)) Z)) Z) (t0 (t0 Z (t0 (aE p 5) Z)) Z))),[(1,dC p 6)],[],1⟩),
 (8,λp=>⟨(t0 (t2 (.pb 1 0 0) (t0 (t0 (t0 Z (t1 (fL 47 zY p 0))) (t0 Z (aE p 1))) Z) (t0 (t0 (t0 Z (aE p 2)) (t0 (aE p 3) Z)) Z)) (t0 (t0 (t0 (t0 Z (aE p 4)) (t0 (t1 (fL 42 LV p 5)) (aE p 6))) Z) (t0 (t0 Z (t0 (aE p 7) Z)) (t0 (t0 Z (t1 (fL 50 KK p 8))) Z)))),[(1,dC p 9)],[],1⟩)] [(0,[λp=>(.ret,⟨(t0 lM (iV p 0)),[(1,dC p 1)],[],1⟩),
 λp=>(.exit 0,⟨(t0 lM eI),[(1,dC p 0)],[],1⟩)]),
 (2,[λp=>(.ret,⟨(t0 (t2 (.pb 1 0 0) (t0 (t0 (t1 (.fz [] 67 [.str,.sl false 3 dL] (gL p 0))) Z) Z) (t0 (t0 (aE p 1) Z) Z)) (t2 (nB p 2) (t0 (t0 (aE p 3) Z) Z) Z)),[(1,dC p 4)],[],1⟩),
 λp=>(.exit 2,⟨(t0 (t2 (.pb 1 0 0) (t0 (t0 (t1 (.fz [] 67 [.str,.sl false 3 dL] (gL p 0))) Z) Z) (t0 (t0 (aE p 1) Z) Z)) (t0 (t0 (t0 (aE p 2) Z) Z) Z)),[(1,dC p 3)],[],1⟩)]),
 (4,[λp=>(.ret,eD (t0 Z (iV p 0))),
 λp=>(.exit 4,eD (t0 Z eI))]),
 (6,[λp=>(.ret,⟨(t0 (t2 (.pb 1 0 0) Z (t0 (t0 Z (t0 (aE p 0) Z)) Z)) (t2 (nB p 1) (t0 (t0 Z (t0 (t1 (fL 42 LV p 2)) Z)) Z) (t0 (t0 Z (t0 (aE p 3) Z)) Z))),[(1,dC p 4)],[],1⟩),
 λp=>(.exit 6,⟨(t0 (t2 (.pb 1 0 0) Z (t0 (t0 Z (t0 (aE p 0) Z)) Z)) (t0 (t0 (t0 Z (t0 (t1 (fL 42 LV p 1)) Z)) Z) (t0 (t0 Z (t0 (aE p 2) Z)) Z))),[(1,dC p 3)],[],1⟩)]),
 (8,[λp=>(.ret,⟨(t0 (t2 (.pb 1 0 0) (t0 (t0 (t0 Z (t1 (fL 47 zY p 0))) Z) Z) (t0 (t0 (t0 Z (aE p 1)) (t0 (aE p 2) Z)) Z)) (t2 (nB p 3) (t0 (t0 (t0 Z (aE p 4)) (t0 (t1 (fL 42 LV p 5)) Z)) Z) (t0 (t0 Z (t0 (aE p 6) Z)) Z))),[(1,dC p 7)],[],1⟩),
 λp=>(.exit 8,⟨(t0 (t2 (.pb 1 0 0) (t0 (t0 (t0 Z (t1 (fL 47 zY p 0))) Z) Z) (t0 (t0 (t0 Z (aE p 1)) (t0 (aE p 2) Z)) Z)) (t0 (t0 (t0 (t0 Z (aE p 3)) (t0 (t1 (fL 42 LV p 4)) Z)) Z) (t0 (t0 Z (t0 (aE p 5) Z)) Z))),[(1,dC p 6)],[],1⟩)])]
theorem uL:eJ Kt pO:=cJ
def KW:FD:=cI 63 1 [0,2] UI [(0,xM),(2,xN)] [(0,λp=>⟨(t0 (t0 (t2 (cE 200003) (t0 (aE p 0) Z) Z) (t0 Z (t1 (fL 47 zY p 1)))) (t0 Z (t0 Z (aE p 2)))),[],[aY 200003 3 dL p 3],1⟩),
 (2,λp=>⟨(t0 (t0 (t2 (cE 200003) (t0 (aE p 0) Z) Z) (t0 Z (t2 (fL 47 zY p 1) (aE p 2) Z))) (t0 (t0 Z (t0 (t1 (fL 50 KK p 3)) Z)) (t0 Z (t2 (nI p 4) (aE p 5) Z)))),[],[aY 200003 3 dL p 6],1⟩)] [(0,[λp=>(.exit 0,⟨(t0 (t0 (cW 200003) Z) eI),[],[aY 200003 3 dL p 0],1⟩)]),
 (2,[λp=>(.exit 2,⟨(t0 (t0 (t2 (cE 200003) (t0 (aE p 0) Z) Z) (t0 Z (t1 (fL 47 zY p 1)))) (t0 Z (t0 Z (aE p 2)))),[],[aY 200003 3 dL p 3],1⟩)])]
theorem KX:eJ YB KW:=cJ
def Vd:FD:=cI 67 2 [0] Ux [(0,IA)] [(0,λp=>eD (t2 (qG p 0) (t2 (nI p 1) Z (aE p 2)) Z))] [(0,[λp=>(.ret,eD (t0 Z (t0 (iV p 0) Z))),
 λp=>(.exit 0,eD (t0 Z (t0 eI Z)))])]
theorem Ve:eJ aCM Vd:=cJ
def Ce:FD:=cI 71 1 [0] Bo [(0,BH)] [(0,λp=>eD (t2 (.str (gS p 0)) (t0 (t0 (t0 (aE p 1) Z) Z) Z) (t0 (t0 (t0 (aE p 2) Z) Z) Z)))] [(0,[λp=>(.ret,eD (t0 Z (iV p 0))),
 λp=>(.exit 0,eD (t0 Z eI))])]
theorem Cf:eJ Uu Ce:=cJ
def GQ:FD:=cI 75 1 [0,2] OI [(0,tL),(2,tM)] [(0,λp=>⟨(t0 (t2 (.pb 1 0 0) (cW 10) (t0 Z (aE p 0))) (t0 Z (t0 Z (aE p 1)))),[(1,cU p 2)],[aY 10 39 [.sl true 3 dL] p 7],1⟩),
 (2,λp=>⟨(t0 (t2 (.pb 1 0 0) (t2 (cE 10) Z (t0 (cW 20000000) Z)) (t0 Z (t2 (nI p 0) (aE p 1) Z))) (t0 (t2 (nI p 2) Z (t0 (aE p 3) Z)) (t0 Z (aE p 4)))),[(1,cU p 5)],[aY 10 39 [.sl true 3 dL] p 10,aY 20000000 3 dL p 11],1⟩)] [(0,[λp=>(.exit 0,⟨(t0 (t0 (cW 10) Z) eI),[],[aY 10 39 [.sl true 3 dL] p 0],1⟩)]),
 (2,[λp=>(.exit 2,⟨(t0 (t2 (.pb 1 0 0) (cW 10) (t0 Z (aE p 0))) (t0 Z (t0 Z (aE p 1)))),[(1,cU p 2)],[aY 10 39 [.sl true 3 dL] p 7],1⟩)])]
theorem GR:eJ Az GQ:=cJ
def YG:FD:=cI 79 4 [] YC [] [] []
theorem YH:eJ KJ YG:=cJ
def Qf:FD:=cI 85 1 [] QN [] [] []
theorem Qg:eJ QM Qf:=cJ
def tN:FD:=cI 89 1 [0,2] HJ [(0,pU),(2,fT)] [(0,λp=>⟨(t2 (.fz [] 36 [.sl false 4 fI] (gL p 0)) (t0 (t2 (cE 8) Z (aE p 1)) Z) (t0 Z (t0 (aE p 2) Z))),[],[aY 8 3 dL p 3],1⟩),
 (2,λp=>⟨(t2 (.fz [] 36 [.sl false 4 fI] (gL p 0)) (t0 (t2 (cE 8) Z (t2 (nI p 1) (aE p 2) Z)) Z) (t0 (aE p 3) (t0 (t2 (nI p 4) (aE p 5) Z) Z))),[],[aY 8 3 dL p 6],1⟩)] [(0,[λp=>(.exit 0,⟨(t0 (t0 (cW 8) Z) eI),[],[aY 8 3 dL p 0],1⟩)]),
 (2,[λp=>(.exit 2,⟨(t2 (.fz [] 36 [.sl false 4 fI] (gL p 0)) (t0 (t2 (cE 8) Z (aE p 1)) Z) (t0 Z (t0 (aE p 2) Z))),[],[aY 8 3 dL p 3],1⟩)])]
theorem AC:eJ NY tN:=cJ
def IE:FD:=cI 96 2 [] zI [] [] []
theorem IF:eJ EP IE:=cJ
def kR:FD:=cI 110 2 [0] iR [(0,dH)] [(0,λp=>eD (t2 (qG p 0) (t2 (nI p 1) (t0 (aE p 2) Z) Z) (t0 (t0 (aE p 3) Z) Z)))] [(0,[λp=>(.ret,eD (t0 Z (t0 (aE p 0) Z))),
 λp=>(.exit 0,eD (t0 Z (t0 eI Z)))])]
theorem iS:eJ qF kR:=cJ
def EY:FD:=cI 6 1 [0,2,4] UJ [(0,xO),(2,xP),(4,xQ)] [(0,λp=>⟨(t0 (t2 (.pb 1 0 0) (aE p 0) Z) Z),[(1,dC p 1)],[],1⟩),
 (2,λp=>⟨(t0 lM (t0 (aE p 0) Z)),[(1,dC p 1)],[],1⟩),
 (4,λp=>⟨(t0 (t2 (.pb 1 0 0) Z (aE p 0)) Z),[(1,dC p 1)],[],1⟩)] [(0,[λp=>(.ret,⟨(t0 lM (aE p 0)),[(1,dC p 1)],[],1⟩),
 λp=>(.exit 0,⟨(t0 lM eI),[(1,dC p 0)],[],1⟩)]),
 (2,[λp=>(.ret,⟨(t0 lM (aE p 0)),[(1,dC p 1)],[],1⟩),
 λp=>(.exit 2,⟨(t0 lM eI),[(1,dC p 0)],[],1⟩)]),
 (4,[λp=>(.ret,eD (t0 Z (aE p 0))),
 λp=>(.exit 4,eD (t0 Z eI))])]
theorem EZ:eJ Ki EY:=cJ
def Fg:FD:=cI 10 4 [] Zp [] [] []
theorem Zr:eJ bR Fg:=cJ
def YI:FD:=cI 14 2 [0,2] Uy [(0,La),(2,Lb)] [(0,λp=>eD (t2 (.fz [] 58 [.sl false 60 eY] (gL p 0)) (t2 (.fz [] 58 [.sl false 60 eY] (gL p 1)) Z (aE p 2)) Z)),
 (2,λp=>eD (t2 (.fz [] 58 [.sl false 60 eY] (gL p 0)) (t2 (.fz [] 58 [.sl false 60 eY] (gL p 1)) Z (aE p 2)) (t0 Z (aE p 3))))] [(0,[λp=>(.ret,eD (t0 Z (t0 (iV p 0) Z))),
 λp=>(.exit 0,eD (t0 Z (t0 eI Z)))]),
 (2,[λp=>(.ret,eD (t2 (.fz [] 58 [.sl false 60 eY] (gL p 0)) (t2 (.fz [] 58 [.sl false 60 eY] (gL p 1)) Z (aE p 2)) (t0 (iV p 3) Z))),
 λp=>(.exit 2,eD (t2 (.fz [] 58 [.sl false 60 eY] (gL p 0)) (t2 (.fz [] 58 [.sl false 60 eY] (gL p 1)) Z (aE p 2)) (t0 eI Z)))])]
theorem Vf:eJ TT YI:=cJ
def SJ:FD:=cI 18 1 [] Ny [] [] []
theorem Oa:eJ AM SJ:=cJ
def rE:FD:=cI 22 1 [0,2,4,6,8,10] UK [(0,lL),(2,pD),(4,jG),(6,pE),(8,pF),(10,nU)] [(0,λp=>⟨(t0 (t2 (.pb 1 0 0) (aE p 0) Z) Z),[(1,dC p 1)],[],1⟩),
 (2,λp=>⟨(t0 (t2 (.pb 1 0 0) (aE p 0) (aE p 1)) (t0 (t1 (.pb 4 0 0)) Z)),[(1,dC p 2),(4,⟨0,[.str (gS p 6),qG p 7,nI p 8],none⟩)],[],1⟩),
 (4,λp=>⟨(t0 lM (t0 Z (aE p 0))),[(1,dC p 1)],[],1⟩),
 (6,λp=>⟨(t0 (t2 (.pb 1 0 0) (t0 (t1 (.pb 7 0 0)) Z) Z) (t0 (t0 (aE p 0) Z) (aE p 1))),[(1,dC p 2),(7,cU p 6)],[],1⟩),
 (8,λp=>⟨(t0 (t2 (.pb 1 0 0) (t0 (t1 (.pb 7 0 0)) Z) (t0 (aE p 0) Z)) (t0 Z (aE p 1))),[(1,dC p 2),(7,cU p 6)],[],1⟩),
 (10,λp=>⟨(t0 (t2 (.pb 1 0 0) (t0 (t1 (.pb 7 0 0)) Z) (t0 (aE p 0) Z)) (t0 Z (t2 (nI p 1) (aE p 2) Z))),[(1,dC p 3),(7,cU p 7)],[],1⟩)] [(0,[λp=>(.ret,⟨(t0 lM (iV p 0)),[(1,dC p 1)],[],1⟩),
 λp=>(.exit 0,⟨(t0 lM eI),[(1,dC p 0)],[],1⟩)]),
 (2,[λp=>(.ret,⟨(t0 (t2 (.pb 1 0 0) (aE p 0) Z) (iV p 1)),[(1,dC p 2)],[],1⟩),
 λp=>(.exit 2,⟨(t0 (t2 (.pb 1 0 0) (aE p 0) Z) eI),[(1,dC p 1)],[],1⟩)]),
 (4,[λp=>(.ret,eD (t0 Z (iV p 0))),
 λp=>(.exit 4,eD (t0 Z eI))]),
 (6,[λp=>(.ret,⟨(t0 (t2 (.pb 1 0 0) (t0 (t1 (.pb 7 0 0)) Z) Z) (t2 (nB p 0) Z (aE p 1))),[(1,dC p 2),(7,cU p 6)],[],1⟩),
 λp=>(.exit 6,⟨(t0 (t2 (.pb 1 0 0) (t0 (t1 (.pb 7 0 0)) Z) Z) (t0 Z (aE p 0))),[(1,dC p 1),(7,cU p 5)],[],1⟩)]),
 (8,[λp=>(.ret,⟨(t0 lM (t2 (nB p 0) Z (aE p 1))),[(1,dC p 2)],[],1⟩),
 λp=>(.exit 8,⟨(t0 lM (t0 Z (aE p 0))),[(1,dC p 1)],[],1⟩)]),
 (10,[λp=>(.ret,⟨(t0 (t2 (.pb 1 0 0) (t0 (t1 (.pb 7 0 0)) Z) (t0 (aE p 0) Z)) (t2 (nB p 1) Z (aE p 2))),[(1,dC p 3),(7,cU p 7)],[],1⟩),
 λp=>(.exit 10,⟨(t0 (t2 (.pb 1 0 0) (t0 (t1 (.pb 7 0 0)) Z) (t0 (aE p 0) Z)) (t0 Z (aE p 1))),[(1,dC p 2),(7,cU p 6)],[],1⟩)])]
theorem rF:eJ Kl rE:=cJ
def rS:FD:=cI 26 1 [0,2,4,6,8] Bp [(0,vE),(2,vF),(4,BI),(6,BJ),(8,BK)] [(0,λp=>⟨(t0 (t2 (.pb 1 0 0) (aE p 0) Z) (t0 (aE p 1) Z)),[(1,cU p 2)],[],1⟩),
 (2,λp=>⟨(t0 (t2 (.pb 1 0 0) (aE p 0) (aE p 1)) (t0 (aE p 2) Z)),[(1,cU p 3)],[],1⟩),
 (4,λp=>⟨(t0 (t2 (.pb 1 0 0) (t2 (nI p 0) (cW 56000000) Z) (t0 (aE p 1) Z)) (t0 (t0 (cW 58000000) Z) Z)),[(1,cU p 2)],[aY 56000000 97 eY p 7,aY 58000000 36 [.sl true 4 fI] p 8],1⟩),
 (6,λp=>⟨(t0 (t2 (.pb 1 0 0) (t2 (nI p 0) (cW 56000000) Z) (t0 (aE p 1) Z)) (t0 (t0 (cW 58000000) Z) (t0 (aE p 2) Z))),[(1,cU p 3)],[aY 56000000 97 eY p 8,aY 58000000 36 [.sl true 4 fI] p 9],1⟩),
 (8,λp=>⟨(t0 (t2 (.pb 1 0 0) (t2 (nI p 0) (cW 56000000) (t1 (.pb 11 0 0))) (t0 (aE p 1) Z)) (t0 (t0 (cW 58000000) (aE p 2)) (t0 (aE p 3) Z))),[(1,cU p 4),(11,RI p 9)],[aY 56000000 97 eY p 16,aY 58000000 36 [.sl true 4 fI] p 17],1⟩)] [(0,[λp=>(.ret,⟨(t0 (t2 (.pb 1 0 0) (aE p 0) Z) (iV p 1)),[(1,cU p 2)],[],1⟩),
 λp=>(.exit 0,⟨(t0 (t2 (.pb 1 0 0) (aE p 0) Z) eI),[(1,cU p 1)],[],1⟩)]),
 (2,[λp=>(.ret,⟨(t0 (t2 (.pb 1 0 0) (aE p 0) Z) (t2 (nB p 1) (aE p 2) Z)),[(1,cU p 3)],[],1⟩),
 λp=>(.exit 2,⟨(t0 (t2 (.pb 1 0 0) (aE p 0) Z) (t0 (aE p 1) Z)),[(1,cU p 2)],[],1⟩)]),
 (4,[λp=>(.ret,eD (t0 Z (iV p 0))),
 λp=>(.exit 4,eD (t0 Z eI))]),
 (6,[λp=>(.ret,⟨(t0 (t2 (.pb 1 0 0) (t2 (nI p 0) (cW 56000000) Z) (t0 (aE p 1) Z)) (t2 (nB p 2) (t0 (cW 58000000) Z) Z)),[(1,cU p 3)],[aY 56000000 97 eY p 8,aY 58000000 36 [.sl true 4 fI] p 9],1⟩),
 λp=>(.exit 6,⟨(t0 (t2 (.pb 1 0 0) (t2 (nI p 0) (cW 56000000) Z) (t0 (aE p 1) Z)) (t0 (t0 (cW 58000000) Z) Z)),[(1,cU p 2)],[aY 56000000 97 eY p 7,aY 58000000 36 [.sl true 4 fI] p 8],1⟩)]),
 (8,[λp=>(.ret,⟨(t0 (t2 (.pb 1 0 0) (t2 (nI p 0) (cW 56000000) Z) (t0 (aE p 1) Z)) (t2 (nB p 2) (t0 (cW 58000000) Z) (t0 (aE p 3) Z))),[(1,cU p 4)],[aY 56000000 97 eY p 9,aY 58000000 36 [.sl true 4 fI] p 10],1⟩),
 λp=>(.exit 8,⟨(t0 (t2 (.pb 1 0 0) (t2 (nI p 0) (cW 56000000) Z) (t0 (aE p 1) Z)) (t0 (t0 (cW 58000000) Z) (t0 (aE p 2) Z))),[(1,cU p 3)],[aY 56000000 97 eY p 8,aY 58000000 36 [.sl true 4 fI] p 9],1⟩)])]
theorem zM:eJ Ul rS:=cJ
def KY:FD:=cI 34 1 [0,2] UL [(0,xR),(2,xS)] [(0,λp=>⟨(t0 (t2 (.pb 1 0 0) (cW 200003) Z) (t0 (aE p 0) Z)),[(1,cU p 1)],[aY 200003 3 dL p 6],1⟩),
 (2,λp=>⟨(t0 (t2 (.pb 1 0 0) (cW 200003) (aE p 0)) (t0 (aE p 1) Z)),[(1,cU p 2)],[aY 200003 3 dL p 7],1⟩)] [(0,[λp=>(.exit 0,⟨(t0 (t0 (cW 200003) Z) eI),[],[aY 200003 3 dL p 0],1⟩)]),
 (2,[λp=>(.exit 2,⟨(t0 (t2 (.pb 1 0 0) (cW 200003) Z) (t0 (aE p 0) Z)),[(1,cU p 1)],[aY 200003 3 dL p 6],1⟩)])]
theorem KZ:eJ NV KY:=cJ
def Qh:FD:=cI 39 1 [] aAq [] [] []
theorem Qi:eJ CS Qh:=cJ
def zN:FD:=cI 43 1 [0,2,4] UM [(0,xT),(2,xU),(4,xV)] [(0,λp=>⟨(t0 (t2 (.pb 1 0 0) (cW 11) Z) (t0 (aE p 0) Z)),[(1,cU p 1)],[aY 11 97 eY p 6],1⟩),
 (2,λp=>⟨(t0 (t2 (.pb 1 0 0) (cW 11) (aE p 0)) (t0 Z (aE p 1))),[(1,cU p 2)],[aY 11 97 eY p 7],1⟩),
 (4,λp=>⟨(t0 (t2 (.pb 1 0 0) (t2 (cE 11) (aE p 0) Z) (aE p 1)) (t0 Z (aE p 2))),[(1,cU p 3)],[aY 11 97 eY p 8],1⟩)] [(0,[λp=>(.exit 0,⟨(t0 (t2 (.pb 1 0 0) (cW 11) Z) eI),[(1,cU p 0)],[aY 11 97 eY p 5],1⟩)]),
 (2,[λp=>(.exit 2,⟨(t0 (t0 (cW 11) Z) eI),[],[aY 11 97 eY p 0],1⟩)]),
 (4,[λp=>(.exit 4,⟨(t0 (t2 (.pb 1 0 0) (cW 11) (aE p 0)) (t0 Z (aE p 1))),[(1,cU p 2)],[aY 11 97 eY p 7],1⟩)])]
theorem FA:eJ Kp zN:=cJ
def uM:FD:=cI 47 1 [0,2,4,6,8] UN [(0,xW),(2,pG),(4,xX),(6,xY),(8,pH)] [(0,λp=>⟨(t0 (t2 (.pb 1 0 0) (t2 (.pb 21 0 0) (t0 Z (t1 (.fz [] 67 [.str,.sl false 3 dL] (gL p 0)))) Z) (t0 (t0 Z (aE p 1)) Z)) (t0 (t0 (t0 Z (aE p 2)) Z) Z)),[(1,dC p 3),(21,⟨0,[fL 62 Zl p 7,OR p 8,OS p 9,fL 42 LV p 10,cE 19,.nils],none⟩)],[aY 19 4 fI p 11],1⟩),
 (2,λp=>⟨(t0 (t2 (.pb 1 0 0) (t2 (.pb 21 0 0) (t0 (t0 (aE p 0) Z) (t1 (.fz [] 67 [.str,.sl false 3 dL] (gL p 1)))) Z) (t0 (t0 Z (aE p 2)) Z)) (t0 (t0 (t0 (t0 (aE p 3) Z) (aE p 4)) Z) (t0 Z (t0 Z (t1 (qG p 5)))))),[(1,dC p 6),(21,⟨0,[fL 62 Zl p 10,OR p 11,OS p 12,fL 42 LV p 13,cE 19,.nils],none⟩)],[aY 19 4 fI p 14],1⟩),
 (4,λp=>⟨(t0 (t0 (t2 (.pb 21 0 0) (t0 (t0 Z (t1 (fL 42 LV p 0))) Z) Z) (t0 (t0 (t0 Z (aE p 1)) Z) Z)) (t0 (t0 (t0 (t0 Z (aE p 2)) Z) Z) Z)),[(21,⟨0,[fL 62 Zl p 3,OR p 4,OS p 5,fL 42 LV p 6,cE 19,cE 301349],none⟩)],[aY 19 4 fI p 7,aY 301349 74 lt0 p 8],1⟩),
 (6,λp=>⟨(t0 (t0 (t2 (.pb 21 0 0) (t0 (t0 (t0 (aE p 0) Z) (t1 (fL 42 LV p 1))) Z) Z) (t0 (t2 (.pb 9 0 0) (t0 Z (aE p 2)) Z) Z)) (t0 (t0 (t0 (t0 (t0 (aE p 3) Z) (aE p 4)) Z) Z) (t0 (t1 (.pb 10 0 0)) (t0 Z (t0 Z (t1 (fL 47 zY p 5))))))),[(9,cU p 6),(10,⟨0,[cE 55000000,.nils,.nils,cE 59],none⟩),(21,⟨0,[fL 62 Zl p 11,OR p 12,OS p 13,fL 42 LV p 14,cE 19,cE 301349],none⟩)],[aY 19 4 fI p 15,aY 59 50 KK p 16,aY 301349 74 lt0 p 17,aY 55000000 3 dL p 18],1⟩),
 (8,λp=>⟨(t0 (t0 (t2 (.pb 21 0 0) (t0 (t0 (t0 (aE p 0) Z) (t1 (fL 42 LV p 1))) (t0 (t0 (aE p 2) Z) Z)) Z) (t0 (t2 (.pb 9 0 0) (t0 Z (aE p 3)) Z) (t0 (t0 (t0 (t1 (fL 50 KK p 4)) Z) Z) Z))) (t0 (t0 (t0 (t0 (t0 (aE p 5) Z) (aE p 6)) Z) Z) (t0 (t1 (.pb 10 0 0)) (t0 (t0 (t0 (aE p 7) Z) Z) (t0 Z (t1 (fL 47 zY p 8))))))),[(9,cU p 9),(10,⟨0,[cE 55000000,.nils,.nils,cE 59],none⟩),(21,⟨0,[fL 62 Zl p 14,OR p 15,OS p 16,fL 42 LV p 17,cE 19,cE 301349],none⟩)],[aY 19 4 fI p 18,aY 59 50 KK p 19,aY 301349 74 lt0 p 20,aY 55000000 3 dL p 21],1⟩)] [(0,[λp=>(.exit 0,⟨(t0 (t2 (.pb 1 0 0) (t1 (.pb 21 0 0)) Z) eI),[(1,dC p 0),(21,⟨0,[fL 62 Zl p 4,OR p 5,OS p 6,fL 42 LV p 7,cE 19,.nils],none⟩)],[aY 19 4 fI p 8],1⟩)]),
 (2,[λp=>(.exit 2,⟨(t0 (t2 (.pb 1 0 0) (t2 (.pb 21 0 0) (t0 Z (t1 (.fz [] 67 [.str,.sl false 3 dL] (gL p 0)))) Z) (t0 (t0 Z (aE p 1)) Z)) (t0 (t0 (t0 Z (aE p 2)) Z) Z)),[(1,dC p 3),(21,⟨0,[fL 62 Zl p 7,OR p 8,OS p 9,fL 42 LV p 10,cE 19,.nils],none⟩)],[aY 19 4 fI p 11],1⟩)]),
 (4,[λp=>(.exit 4,⟨(t0 (t0 (t1 (.pb 21 0 0)) Z) eI),[(21,⟨0,[fL 62 Zl p 0,OR p 1,OS p 2,fL 42 LV p 3,cE 19,cE 301349],none⟩)],[aY 19 4 fI p 4,aY 301349 74 lt0 p 5],1⟩)]),
 (6,[λp=>(.exit 6,⟨(t0 (t0 (t2 (.pb 21 0 0) (t0 (t0 Z (t1 (fL 42 LV p 0))) Z) Z) (t0 (t2 (.pb 9 0 0) (t0 Z (aE p 1)) Z) Z)) (t0 (t0 (t0 (t0 Z (aE p 2)) Z) Z) (t0 (t1 (.pb 10 0 0)) Z))),[(9,cU p 3),(10,⟨0,[cE 55000000,.nils,.nils,cE 59],none⟩),(21,⟨0,[fL 62 Zl p 8,OR p 9,OS p 10,fL 42 LV p 11,cE 19,cE 301349],none⟩)],[aY 19 4 fI p 12,aY 59 50 KK p 13,aY 301349 74 lt0 p 14,aY 55000000 3 dL p 15],1⟩)]),
 (8,[λp=>(.exit 8,⟨(t0 (t0 (t2 (.pb 21 0 0) (t0 (t0 (t0 (aE p 0) Z) (t1 (fL 42 LV p 1))) Z) Z) (t0 (t2 (.pb 9 0 0) (t0 Z (aE p 2)) Z) Z)) (t0 (t0 (t0 (t0 (t0 (aE p 3) Z) (aE p 4)) Z) Z) (t0 (t1 (.pb 10 0 0)) (t0 Z (t0 Z (t1 (fL 47 zY p 5))))))),[(9,cU p 6),(10,⟨0,[cE 55000000,.nils,.nils,cE 59],none⟩),(21,⟨0,[fL 62 Zl p 11,OR p 12,OS p 13,fL 42 LV p 14,cE 19,cE 301349],none⟩)],[aY 19 4 fI p 15,aY 59 50 KK p 16,aY 301349 74 lt0 p 17,aY 55000000 3 dL p 18],1⟩)])]
theorem uN:eJ Kq uM:=cJ
def Qj:FD:=cI 52 1 [] Py [] [] []
theorem Qk:eJ QL Qj:=cJ
def Ln:FD:=cI 56 1 [0,2,4,6] UO [(0,pI),(2,pJ),(4,pK),(6,pL)] [(0,λp=>⟨(t0 (t2 (.pb 1 0 0) (t0 Z (t0 (t0 (aE p 0) Z) Z)) Z) (t0 (t0 Z (t0 (t0 (aE p 1) Z) Z)) (t0 (t0 (t0 (t1 (fL 62 Zl p 2)) Z) Z) Z))),[(1,dC p 3)],[],1⟩),
 (2,λp=>⟨(t0 (t2 (.pb 1 0 0) (t0 (t0 (t0 Z (aE p 0)) Z) Z) Z) (t0 (t0 (t0 (t0 Z (aE p 1)) Z) Z) (t0 Z (t0 Z (t0 (t1 (.fz [] 65 [.str,.sl false 2 dL] (gL p 2))) Z))))),[(1,dC p 3)],[],1⟩),
 (4,λp=>⟨(t0 (t2 (.pb 1 0 0) Z (t0 (t0 (t0 (t0 (aE p 0) Z) Z) Z) Z)) (t0 (t0 (t0 (t0 (t0 (t1 (.fz [] 67 [.str,.sl false 3 dL] (gL p 1))) Z) Z) Z) Z) (t0 (t0 (t0 (t0 (aE p 2) Z) Z) Z) Z))),[(1,dC p 3)],[],1⟩),
 (6,λp=>eD (t0 (t0 (t0 Z (t0 (t0 Z (t0 (aE p 0) Z)) Z)) Z) (t0 (t0 Z (t0 (t0 Z (t0 (aE p 1) Z)) Z)) (t0 (t0 (t0 Z (t0 (t1 (fL 42 LV p 2)) Z)) Z) Z))))] [(0,[λp=>(.ret,⟨(t0 lM (iV p 0)),[(1,dC p 1)],[],1⟩),
 λp=>(.exit 0,⟨(t0 lM eI),[(1,dC p 0)],[],1⟩)]),
 (2,[λp=>(.ret,⟨(t0 lM (iV p 0)),[(1,dC p 1)],[],1⟩),
 λp=>(.exit 2,⟨(t0 lM eI),[(1,dC p 0)],[],1⟩)]),
 (4,[λp=>(.ret,⟨(t0 lM (iV p 0)),[(1,dC p 1)],[],1⟩),
 λp=>(.exit 4,⟨(t0 lM eI),[(1,dC p 0)],[],1⟩)]),
 (6,[λp=>(.ret,eD (t0 Z (iV p 0))),
 λp=>(.exit 6,eD (t0 Z eI))])]
theorem zO:eJ Kr Ln:=cJ
def uO:FD:=cI 60 1 [0,2,4,6,8] UP [(0,xZ),(2,yA),(4,yB),(6,yC),(8,yD)] [(0,λp=>⟨(t0 (t2 (.pb 1 0 0) (t0 Z (t0 (aE p 0) Z)) (t0 (t0 (t1 (fL 47 zY p 1)) Z) Z)) (t0 Z (t0 (t0 (aE p 2) Z) Z))),[(1,cU p 3)],[],1⟩),
 (2,λp=>⟨(t0 (t2 (.pb 1 0 0) (t2 (nI p 0) (t0 (t0 (aE p 1) Z) Z) (t0 (aE p 2) Z)) (t2 (nB p 3) (t0 (t1 (fL 47 zY p 4)) Z) (t0 Z (t1 (fL 50 KK p 5))))) (t0 (t1 (.pb 4 0 0)) (t0 (t0 (aE p 6) Z) (t0 Z (aE p 7))))),[(1,cU p 8),(4,⟨0,[fL 50 KK p 13],none⟩)],[],1⟩),
 (4,λp=>⟨(t0 (t2 (.pb 1 0 0) (t0 Z (t0 (aE p 0) (t0 (t0 (aE p 1) Z) Z))) (t0 (t0 (t1 (fL 47 zY p 2)) Z) Z)) (t0 (t0 (t1 (qG p 3)) (t0 Z (t0 (t0 (aE p 4) Z) Z))) (t0 (t0 (aE p 5) (t0 (t0 (t1 (qG p 6)) Z) Z)) Z))),[(1,cU p 7)],[],1⟩),
 (6,λp=>⟨(t0 (t0 (t0 (t0 (t0 Z (t0 Z (aE p 0))) Z) (cW 108000000)) (t0 Z (t0 Z (t0 (t0 Z (t1 (fL 47 zY p 1))) Z)))) (t0 Z (t0 Z (t0 Z (t0 (t0 Z (aE p 2)) Z))))),[],[aY 108000000 39 [.sl true 3 dL] p 3],1⟩),
 (8,λp=>⟨(t0 (t0 (t0 (t0 (t0 Z (t0 Z (aE p 0))) (t0 Z (t0 Z (aE p 1)))) (cW 108000000)) (t0 Z (t0 (t0 Z (t0 Z (t1 (fL 50 KK p 2)))) (t0 (t0 Z (t1 (fL 47 zY p 3))) Z)))) (t0 (t0 Z (aE p 4)) (t0 Z (t0 (t0 Z (t0 Z (aE p 5))) (t0 (t0 Z (aE p 6)) Z))))),[],[aY 108000000 39 [.sl true 3 dL] p 7],1⟩)] [(0,[λp=>(.ret,⟨(t0 lM (iV p 0)),[(1,cU p 1)],[],1⟩),
 λp=>(.exit 0,⟨(t0 lM eI),[(1,cU p 0)],[],1⟩)]),
 (2,[λp=>(.ret,⟨(t0 (t2 (.pb 1 0 0) (t0 Z (t0 (aE p 0) Z)) (t0 (t0 (t1 (fL 47 zY p 1)) Z) Z)) (t2 (nB p 2) (t1 (.pb 4 0 0)) (t0 (t0 (aE p 3) Z) Z))),[(1,cU p 4),(4,⟨0,[fL 50 KK p 9],none⟩)],[],1⟩),
 λp=>(.exit 2,⟨(t0 (t2 (.pb 1 0 0) (t0 Z (t0 (aE p 0) Z)) (t0 (t0 (t1 (fL 47 zY p 1)) Z) Z)) (t0 (t1 (.pb 4 0 0)) (t0 (t0 (aE p 2) Z) Z))),[(1,cU p 3),(4,⟨0,[fL 50 KK p 8],none⟩)],[],1⟩)]),
 (4,[λp=>(.ret,⟨(t0 (t2 (.pb 1 0 0) (t0 Z (t0 (aE p 0) Z)) (t0 (t0 (t1 (fL 47 zY p 1)) Z) Z)) (t2 (nB p 2) (t0 (t1 (qG p 3)) Z) (t0 (t0 (aE p 4) Z) Z))),[(1,cU p 5)],[],1⟩),
 λp=>(.exit 4,⟨(t0 (t2 (.pb 1 0 0) (t0 Z (t0 (aE p 0) Z)) (t0 (t0 (t1 (fL 47 zY p 1)) Z) Z)) (t0 (t0 (t1 (qG p 2)) Z) (t0 (t0 (aE p 3) Z) Z))),[(1,cU p 4)],[],1⟩)]),
 (6,[λp=>(.ret,eD (t0 Z (iV p 0))),
 λp=>(.exit 6,eD (t0 Z eI))]),
 (8,[λp=>(.ret,⟨(t0 (t0 (t0 (t0 (t0 Z (t0 Z (aE p 0))) Z) (cW 108000000)) (t0 Z (t0 Z (t0 (t0 Z (t1 (fL 47 zY p 1))) Z)))) (t2 (nB p 2) Z (t0 Z (t0 Z (t0 (t0 Z (aE p 3)) Z))))),[],[aY 108000000 39 [.sl true 3 dL] p 4],1⟩),
 λp=>(.exit 8,⟨(t0 (t0 (t0 (t0 (t0 Z (t0 Z (aE p 0))) Z) (cW 108000000)) (t0 Z (t0 Z (t0 (t0 Z (t1 (fL 47 zY p 1))) Z)))) (t0 Z (t0 Z (t0 Z (t0 (t0 Z (aE p 2)) Z))))),[],[aY 108000000 39 [.sl true 3 dL] p 3],1⟩)])]
theorem uP:eJ YA uO:=cJ
def eV:FD:=cI 64 2 [0,2,4,7] uG [(0,kG),(2,kH),(4,gH),(7,kI)] [(0,λp=>⟨(t2 (.pb 500 0 0) (t0 (t0 (t0 Z (aE p 0)) Z) Z) (t0 (t0 (t0 Z (aE p 1)) Z) (t0 Z (t0 (t1 (qG p 2)) Z)))),[(500,⟨0,[cE 501000000,cE 18,cE 501000002,cE 501000003],none⟩)],[aY 18 58 [.sl true 60 eY] p 3,aY 501000000 3 dL p 4,aY 501000002 57 eY p 5,aY 501000003 50 KK p 6],1⟩),
 (2,λp=>⟨(t2 (.pb 500 0 0) Z (t0 Z (iV p 0))),[(500,⟨0,[cE 501000000,cE 18,cE 501000002,cE 501000003],none⟩)],[aY 18 58 [.sl true 60 eY] p 1,aY 501000000 3 dL p 2,aY 501000002 57 eY p 3,aY 501000003 50 KK p 4],1⟩),
 (4,λp=>⟨(t2 (.pb 500 0 0) (t0 (t0 (t0 (t0 Z (cW 501000003)) Z) Z) (t0 (t0 (t0 Z (aE p 0)) Z) Z)) (t0 (t0 (t0 (t0 Z (aE p 1)) Z) Z) (iV p 2))),[(500,⟨0,[cE 501000000,cE 18,cE 501000002,cE 501000003],none⟩)],[aY 18 58 [.sl true 60 eY] p 3,aY 501000000 3 dL p 4,aY 501000002 57 eY p 5,aY 501000003 50 KK p 6],1⟩),
 (7,λp=>⟨(t2 (.pb 500 0 0) (t0 (t0 (t2 (nI p 0) (t0 Z (t2 (cE 501000003) Z (aE p 1))) Z) Z) (t0 (t2 (cE 200009) (t0 Z (aE p 2)) Z) (t0 Z (t0 (t0 Z (t1 (qG p 3))) Z)))) (t0 (t0 (t0 (t0 Z (aE p 4)) Z) Z) (t2 (nB p 5) Z (t0 Z (t0 (t0 Z (aE p 6)) Z))))),[(500,⟨0,[cE 501000000,cE 18,cE 501000002,cE 501000003],none⟩)],[aY 18 58 [.sl true 60 eY] p 7,aY 200009 60 eY p 8,aY 501000000 3 dL p 9,aY 501000002 57 eY p 10,aY 501000003 50 KK p 11],1⟩)] [(0,[λp=>(.exit 0,⟨(t1 (.pb 500 0 0)),[(500,⟨0,[cE 501000000,cE 18,cE 501000002,cE 501000003],none⟩)],[aY 18 58 [.sl true 60 eY] p 0,aY 501000000 3 dL p 1,aY 501000002 57 eY p 2,aY 501000003 50 KK p 3],1⟩)]),
 (2,[λp=>(.exit 2,⟨(t1 (.pb 500 0 0)),[(500,⟨0,[cE 501000000,cE 18,cE 501000002,cE 501000003],none⟩)],[aY 18 58 [.sl true 60 eY] p 0,aY 501000000 3 dL p 1,aY 501000002 57 eY p 2,aY 501000003 50 KK p 3],1⟩)]),
 (4,[λp=>(.exit 4,⟨(t2 (.pb 500 0 0) Z (t0 Z (iV p 0))),[(500,⟨0,[cE 501000000,cE 18,cE 501000002,cE 501000003],none⟩)],[aY 18 58 [.sl true 60 eY] p 1,aY 501000000 3 dL p 2,aY 501000002 57 eY p 3,aY 501000003 50 KK p 4],1⟩)]),
 (7,[λp=>(.exit 7,⟨(t2 (.pb 500 0 0) (t0 (t0 (t2 (nI p 0) (t0 Z (cW 501000003)) Z) Z) (t0 (t2 (cE 200009) (t0 Z (aE p 1)) Z) Z)) (t0 (t0 (t0 (t0 Z (aE p 2)) Z) Z) (iV p 3))),[(500,⟨0,[cE 501000000,cE 18,cE 501000002,cE 501000003],none⟩)],[aY 18 58 [.sl true 60 eY] p 4,aY 200009 60 eY p 5,aY 501000000 3 dL p 6,aY 501000002 57 eY p 7,aY 501000003 50 KK p 8],1⟩)])]
theorem jU:eJ zH eV:=cJ
def Ql:FD:=cI 68 1 [0] Bq [(0,BL)] [(0,λp=>eD (t0 (t0 (t2 (nI p 0) (t1 (fL 47 zY p 1)) Z) (t0 (aE p 2) Z)) (t0 (t0 (aE p 3) Z) Z)))] [(0,[λp=>(.exit 0,eD (t0 (t0 (aE p 0) Z) eI))])]
theorem Cg:eJ Ut Ql:=cJ
def Qm:FD:=cI 72 1 [] aAr [] [] []
theorem Qn:eJ GM Qm:=cJ
def oM:FD:=cI 76 2 [0] oJ [(0,gO)] [(0,λp=>eD (t2 (qG p 0) (t2 (qG p 1) Z (t0 Z (aE p 2))) (t0 (t0 Z (aE p 3)) Z)))] [(0,[λp=>(.ret,eD (t0 Z (t0 (iV p 0) Z))),
 λp=>(.exit 0,eD (t0 Z (t0 eI Z)))])]
theorem oN:eJ mR oM:=cJ
def fO:FD:=cI 80 1 [0,2] iN [(0,cL),(2,cM)] [(0,λp=>eD (t2 (.fz [] 58 [.sl false 60 eY] (gL p 0)) (t0 (t2 (nI p 1) Z (aE p 2)) (t0 (t1 (.fz [] 58 [.sl false 60 eY] (gL p 3))) Z)) (t0 Z (t0 (aE p 4) Z)))),
 (2,λp=>⟨(t0 (t0 (t0 Z (t0 Z (aE p 0))) (t0 (t0 Z (t1 (.fz [] 58 [.sl false 60 eY] (gL p 1)))) Z)) (t0 Z (t2 (cE 200006) (t0 Z (aE p 2)) Z))),[],[aY 200006 60 eY p 3],1⟩)] [(0,[λp=>(.exit 0,eD (t2 (.fz [] 58 [.sl false 60 eY] (gL p 0)) (t0 (aE p 1) Z) eI))]),
 (2,[λp=>(.exit 2,⟨(t0 Z (t0 Z (cW 200006))),[],[aY 200006 60 eY p 0],1⟩)])]
theorem cF:eJ jE fO:=cJ
def jQ:FD:=cI 86 2 [0] gQ [(0,cY)] [(0,λp=>eD (t2 (fL 4 fI p 0) (t2 (nB p 1) (t0 (aE p 2) Z) Z) (t0 (t0 (aE p 3) Z) Z)))] [(0,[λp=>(.ret,eD (t0 Z (t0 (aE p 0) Z))),
 λp=>(.exit 0,eD (t0 Z (t0 eI Z)))])]
theorem gR:eJ oI jQ:=cJ
def FB:FD:=cI 90 1 [0,2,4] UQ [(0,yE),(2,yF),(4,yG)] [(0,λp=>⟨(t0 (t2 (.pb 1 0 0) (aE p 0) (t0 (t0 (aE p 1) Z) Z)) (t0 (t2 (cE 15) (t0 (aE p 2) Z) Z) Z)),[(1,cU p 3)],[aY 15 39 [.sl true 3 dL] p 8],1⟩),
 (2,λp=>⟨(t0 (t0 (t2 (nI p 0) (t2 (cE 30) (t0 (aE p 1) Z) Z) Z) Z) (t0 (t2 (cE 15) (t0 (t0 (aE p 2) Z) Z) Z) (cW 29000000))),[],[aY 15 39 [.sl true 3 dL] p 3,aY 30 36 [.sl true 4 fI] p 4,aY 29000000 4 fI p 5],1⟩),
 (4,λp=>⟨(t0 (t0 (t2 (nI p 0) (t2 (cE 30) (t0 (aE p 1) Z) Z) Z) (t0 (t2 (cE 48000000) (t0 Z (aE p 2)) Z) Z)) (t0 (t2 (cE 15) (t2 (nI p 3) (t0 (aE p 4) (aE p 5)) Z) Z) (cW 29000000))),[],[aY 15 39 [.sl true 3 dL] p 6,aY 30 36 [.sl true 4 fI] p 7,aY 29000000 4 fI p 8,aY 48000000 4 fI p 9],1⟩)] [(0,[λp=>(.exit 0,⟨(t0 (t2 (.pb 1 0 0) (aE p 0) Z) (t0 (cW 15) Z)),[(1,cU p 1)],[aY 15 39 [.sl true 3 dL] p 6],1⟩)]),
 (2,[λp=>(.exit 2,⟨(t0 (t0 (t0 (cW 30) Z) Z) eI),[],[aY 30 36 [.sl true 4 fI] p 0],1⟩)]),
 (4,[λp=>(.exit 4,⟨(t0 (t0 (t2 (nI p 0) (t2 (cE 30) (t0 (aE p 1) Z) Z) Z) Z) (t0 (t2 (cE 15) (t0 (t0 (aE p 2) Z) Z) Z) (cW 29000000))),[],[aY 15 39 [.sl true 3 dL] p 3,aY 30 36 [.sl true 4 fI] p 4,aY 29000000 4 fI p 5],1⟩)])]
theorem FC:eJ Kx FB:=cJ
def CG:FD:=cI 97 2 [0] sF [(0,eH)] [(0,λp=>⟨(t2 (.pb 500 0 0) (t2 (nI p 0) (t0 Z (t0 (aE p 1) Z)) (t0 (t0 (cW 18000000) Z) Z)) (t0 Z (t0 (t0 (aE p 2) Z) Z))),[(500,⟨0,[.str (gS p 3),nB p 4,qG p 5,nI p 6,fL 47 zY p 7,cE 332005,cE 332006,nB p 8],none⟩)],[aY 332005 3 dL p 9,aY 332006 3 dL p 10,aY 18000000 3 dL p 11],1⟩)] [(0,[λp=>(.exit 0,⟨(t2 (.pb 500 0 0) (aE p 0) Z),[(500,⟨0,[.str (gS p 1),nB p 2,qG p 3,nI p 4,fL 47 zY p 5,cE 332005,cE 332006,nB p 6],none⟩)],[aY 332005 3 dL p 7,aY 332006 3 dL p 8],1⟩)])]
theorem sM:eJ kQ CG:=cJ
def jK:FD:=cI 30 2 [] RH [(5000,iF),(5002,iG),(6000,iH),(6002,iI)] [(5000,λp=>⟨(t0 (t0 (t0 Z (t0 (aE p 0) Z)) Z) (t2 (.fn 49 [.pb 5 0 0,.pb 6 0 0]) (t0 Z (t0 (aE p 1) Z)) (t0 (t0 (t1 (fL 47 zY p 2)) Z) (t0 (t0 Z (t0 (t0 (t0 (t0 Z (t0 Z (t0 Z (t0 (t0 (t1 (.pb 6 0 0)) Z) Z)))) Z) Z) Z)) Z)))),[(5,⟨0,[.pz [] lt5 (gD p 3) 0],none⟩),(6,⟨0,[cE 300384],none⟩)],[aY 300384 4 fI p 4],1⟩),
 (5002,λp=>⟨(t0 (t0 (t0 Z (t0 (aE p 0) (aE p 1))) (t0 (t0 Z (t1 (fL 50 KK p 2))) Z)) (t2 (.fn 49 [.pb 5 0 0,.pb 6 0 0]) (t0 Z (t0 (aE p 3) Z)) (t0 (t0 (t1 (fL 47 zY p 4)) (aE p 5)) (t0 (t0 Z (t0 (t0 (t0 (t0 Z (t0 Z (t0 Z (t0 (t0 (t1 (.pb 6 0 0)) Z) Z)))) Z) Z) Z)) Z)))),[(5,⟨0,[.pz [] lt5 (gD p 6) 0],none⟩),(6,⟨0,[cE 300384],none⟩)],[aY 300384 4 fI p 7],1⟩),
 (6000,λp=>⟨(t0 (t2 (.pb 5 0 0) (t0 Z (t0 (t2 (nI p 0) Z (t0 Z (t0 Z (t0 Z (t0 (t0 Z (t0 Z (t0 Z (t0 (aE p 1) Z)))) Z))))) (t0 Z (t0 Z (t0 Z (t0 Z (t0 (t0 Z (t0 Z (t0 Z (t0 (aE p 2) Z)))) Z))))))) (t0 (t0 (t1 (qG p 3)) (t0 Z (t0 Z (t0 Z (t0 Z (t0 (t0 Z (t0 Z (t0 Z (t0 (t1 (fL 50 KK p 4)) Z)))) Z)))))) Z)) (t2 (.pb 6 0 0) (t0 Z (t0 (t0 Z (t0 Z (t0 Z (t0 Z (t0 (t0 Z (t0 Z (t0 Z (t0 (aE p 5) Z)))) Z))))) Z)) (t0 (t0 (t2 (nI p 6) (t0 Z (t0 Z (t0 Z (t0 (t0 Z (t0 Z (t0 Z (t0 (t1 (.fn 49 [.pb 5 0 0,.pb 6 0 0])) Z)))) Z)))) (t0 Z (t0 Z (t0 Z (t0 (t0 Z (t0 Z (t0 Z (t0 (t1 (fL 47 zY p 7)) Z)))) Z))))) (t0 Z (t0 Z (t0 Z (t0 Z (t0 (t0 Z (t0 Z (t0 Z (t0 (aE p 8) Z)))) Z)))))) (t0 (t0 Z (t0 (t0 (t0 (t0 Z (t0 Z (t0 Z (t0 (t0 (t1 (.pb 6 0 0)) Z) Z)))) Z) Z) Z)) Z)))),[(5,⟨0,[.pz [] lt5 (gD p 9) 0],none⟩),(6,⟨0,[cE 300384],none⟩)],[aY 300384 4 fI p 10],1⟩),
 (6002,λp=>⟨(t0 (t2 (.pb 5 0 0) (t0 (t0 (t0 (aE p 0) Z) Z) (t0 (t2 (nI p 1) Z (t0 Z (t0 Z (t0 Z (t0 (t0 Z (t0 Z (t0 Z (t0 (aE p 2) Z)))) Z))))) (t0 Z (t0 Z (t0 Z (t0 Z (t0 (t0 Z (t0 Z (t0 Z (t0 (aE p 3) Z)))) Z))))))) (t0 (t0 (t1 (qG p 4)) (t0 Z (t0 Z (t0 Z (t0 Z (t0 (t0 Z (t0 Z (t0 Z (t0 (t1 (fL 50 KK p 5)) Z)))) Z)))))) (t0 Z (t1 (fL 60 eY p 6))))) (t2 (.pb 6 0 0) (t0 Z (t0 (t0 Z (t0 Z (t0 Z (t0 Z (t0 (t0 Z (t0 Z (t0 Z (t0 (aE p 7) Z)))) Z))))) Z)) (t0 (t0 (t2 (nI p 8) (t0 Z (t0 Z (t0 Z (t0 (t0 Z (t0 Z (t0 Z (t0 (t1 (.fn 49 [.pb 5 0 0,.pb 6 0 0])) Z)))) Z)))) (t0 Z (t0 Z (t0 Z (t0 (t0 Z (t0 Z (t0 Z (t0 (t1 (fL 47 zY p 9)) Z)))) Z))))) (t0 Z (t0 Z (t0 Z (t0 Z (t0 (t0 Z (t0 Z (t0 Z (t0 (aE p 10) Z)))) Z)))))) (t0 (t0 Z (t0 (t0 (t0 (t0 Z (t0 Z (t0 Z (t0 (t0 (t1 (.pb 6 0 0)) Z) Z)))) Z) Z) Z)) (aE p 11))))),[(5,⟨0,[.pz [] lt5 (gD p 12) 0],none⟩),(6,⟨0,[cE 300384],none⟩)],[aY 300384 4 fI p 13],1⟩)] [(5000,[λp=>(.exit 0,⟨(t0 Z (t0 Z (t0 Z (t0 (t0 Z (t0 (t0 (t0 (t0 Z (t0 Z (t0 Z (t0 (t0 (t1 (.pb 6 0 0)) Z) Z)))) Z) Z) Z)) Z)))),[(6,⟨0,[cE 300384],none⟩)],[aY 300384 4 fI p 0],1⟩)]),
 (5002,[λp=>(.exit 2,⟨(t0 (t0 (t0 Z (t0 (aE p 0) Z)) Z) (t2 (.fn 49 [.pb 5 0 0,.pb 6 0 0]) (t0 Z (t0 (aE p 1) Z)) (t0 (t0 (t1 (fL 47 zY p 2)) Z) (t0 (t0 Z (t0 (t0 (t0 (t0 Z (t0 Z (t0 Z (t0 (t0 (t1 (.pb 6 0 0)) Z) Z)))) Z) Z) Z)) Z)))),[(5,⟨0,[.pz [] lt5 (gD p 3) 0],none⟩),(6,⟨0,[cE 300384],none⟩)],[aY 300384 4 fI p 4],1⟩)]),
 (6000,[λp=>(.exit 0,⟨(t0 (t0 (t0 Z (t0 (t0 Z (t0 Z (t0 Z (t0 Z (t0 (t0 Z (t0 Z (t0 Z (t0 (aE p 0) Z)))) Z))))) (t0 Z (t0 Z (t0 Z (t0 Z (t0 (t0 Z (t0 Z (t0 Z (t0 (aE p 1) Z)))) Z))))))) (t0 (t0 Z (t0 Z (t0 Z (t0 Z (t0 Z (t0 (t0 Z (t0 Z (t0 Z (t0 (t1 (fL 50 KK p 2)) Z)))) Z)))))) Z)) (t0 (t0 Z (t0 (t0 Z (t0 Z (t0 Z (t0 Z (t0 (t0 Z (t0 Z (t0 Z (t0 (aE p 3) Z)))) Z))))) Z)) (t0 (t0 (t0 (t0 Z (t0 Z (t0 Z (t0 (t0 Z (t0 Z (t0 Z (t0 (t1 (.fn 49 [.pb 5 0 0,.pb 6 0 0])) Z)))) Z)))) (t0 Z (t0 Z (t0 Z (t0 (t0 Z (t0 Z (t0 Z (t0 (t1 (fL 47 zY p 4)) Z)))) Z))))) (t0 Z (t0 Z (t0 Z (t0 Z (t0 (t0 Z (t0 Z (t0 Z (t0 (aE p 5) Z)))) Z)))))) (t0 (t0 Z (t0 (t0 (t0 (t0 Z (t0 Z (t0 Z (t0 (t0 (t1 (.pb 6 0 0)) Z) Z)))) Z) Z) Z)) Z)))),[(5,⟨0,[.pz [] lt5 (gD p 6) 0],none⟩),(6,⟨0,[cE 300384],none⟩)],[aY 300384 4 fI p 7],1⟩)]),
 (6002,[λp=>(.exit 2,⟨(t0 (t2 (.pb 5 0 0) (t0 Z (t0 (t2 (nI p 0) Z (t0 Z (t0 Z (t0 Z (t0 (t0 Z (t0 Z (t0 Z (t0 (aE p 1) Z)))) Z))))) (t0 Z (t0 Z (t0 Z (t0 Z (t0 (t0 Z (t0 Z (t0 Z (t0 (aE p 2) Z)))) Z))))))) (t0 (t0 (t1 (qG p 3)) (t0 Z (t0 Z (t0 Z (t0 Z (t0 (t0 Z (t0 Z (t0 Z (t0 (t1 (fL 50 KK p 4)) Z)))) Z)))))) Z)) (t2 (.pb 6 0 0) (t0 Z (t0 (t0 Z (t0 Z (t0 Z (t0 Z (t0 (t0 Z (t0 Z (t0 Z (t0 (aE p 5) Z)))) Z))))) Z)) (t0 (t0 (t2 (nI p 6) (t0 Z (t0 Z (t0 Z (t0 (t0 Z (t0 Z (t0 Z (t0 (t1 (.fn 49 [.pb 5 0 0,.pb 6 0 0])) Z)))) Z)))) (t0 Z (t0 Z (t0 Z (t0 (t0 Z (t0 Z (t0 Z (t0 (t1 (fL 47 zY p 7)) Z)))) Z))))) (t0 Z (t0 Z (t0 Z (t0 Z (t0 (t0 Z (t0 Z (t0 Z (t0 (aE p 8) Z)))) Z)))))) (t0 (t0 Z (t0 (t0 (t0 (t0 Z (t0 Z (t0 Z (t0 (t0 (t1 (.pb 6 0 0)) Z) Z)))) Z) Z) Z)) Z)))),[(5,⟨0,[.pz [] lt5 (gD p 9) 0],none⟩),(6,⟨0,[cE 300384],none⟩)],[aY 300384 4 fI p 10],1⟩)])]
theorem lD:eJ GL jK:=cJ
def YJ:FD:=cI 9 2 [] Uz [] [] []
theorem Vg:eJ mD YJ:=cJ
def GS:FD:=cI 3 4 [] YD [] [] []
theorem YK:eJ Gd GS:=cJ
abbrev eP:BT Fn:=.nil
def aFj:BT Fn:=(eT 51 Fe (eT 25 uJ (eT 14 YI (eT 8 Lk (eT 5 pM (eT 4 SI (eT 3 GS eP eP) eP) (eT 7 Pz (eT 6 EY eP eP) eP)) (eT 11 lU (eT 10 Fg (eT 9 YJ eP eP) eP) (eT 13 Ll (eT 12 UR eP eP) eP))) (eT 20 Qa (eT 17 vG (eT 16 YE (eT 15 Eu eP eP) eP) (eT 19 CV (eT 18 SJ eP eP) eP)) (eT 23 nV (eT 22 rE (eT 21 Fd eP eP) eP) (eT 24 rR eP eP)))) (eT 37 Qd (eT 32 Ez (eT 28 YF (eT 27 ES (eT 26 rS eP eP) eP) (eT 31 EU (eT 30 jK eP eP) eP)) (eT 35 Br (eT 34 KY (eT 33 KU eP eP) eP) (eT 36 qB eP eP))) (eT 44 QO (eT 41 QQ (eT 40 Lc (eT 39 Qh eP eP) eP) (eT 43 zN (eT 42 Ca eP eP) eP)) (eT 47 uM (eT 46 EW (eT 45 Bv eP eP) eP) (eT 50 qC eP eP))))) (eT 74 KQ (eT 63 KW (eT 57 oV (eT 54 IB (eT 53 Bs (eT 52 Qj eP eP) eP) (eT 56 Ln (eT 55 Cc eP eP) eP)) (eT 60 uO (eT 59 pO (eT 58 uH eP eP) eP) (eT 62 KO (eT 61 lY eP eP) eP))) (eT 69 Ew (eT 66 Qb (eT 65 yH (eT 64 eV eP eP) eP) (eT 68 Ql (eT 67 Vd eP eP) eP)) (eT 72 Qm (eT 71 Ce (eT 70 Fb eP eP) eP) (eT 73 pV eP eP)))) (eT 87 SG (eT 80 fO (eT 77 Lg (eT 76 oM (eT 75 GQ eP eP) eP) (eT 79 YG (eT 78 KS eP eP) eP)) (eT 85 Qf (eT 84 ID (eT 83 cD eP eP) eP) (eT 86 jQ eP eP))) (eT 96 IE (eT 90 FB (eT 89 tN (eT 88 OT eP eP) eP) (eT 92 By (eT 91 Li eP eP) eP)) (eT 99 AA (eT 98 rC (eT 97 CG eP eP) eP) (eT 110 kR eP eP))))))
theorem aAt:Zj E aZ sites aFj:=(eS Ff (eS uK (eS Vf (eS N8 (eS pN (eS Nz (eS YK eO eO) eO) (eS aAs (eS EZ eO eO) eO)) (eS rB (eS Zr (eS Vg eO eO) eO) (eS Lm (eS US eO eO) eO))) (eS Bu (eS vH (eS Vb (eS Zq eO eO) eO) (eS rQ (eS Oa eO eO) eO)) (eS zJ (eS rF (eS vJ eO eO) eO) (eS zL eO eO)))) (eS Qe (eS Fa (eS Vc (eS ET (eS zM eO eO) eO) (eS EV (eS lD eO eO) eO)) (eS zK (eS KZ (eS KV eO eO) eO) (eS DJ eO eO))) (eS QP (eS QR (eS Ld (eS Qi eO eO) eO) (eS FA (eS Cb eO eO) eO)) (eS uN (eS EX (eS Bw eO eO) eO) (eS zZ eO eO))))) (eS KR (eS KX (eS oW (eS IC (eS Bt (eS Qk eO eO) eO) (eS zO (eS Cd eO eO) eO)) (eS uP (eS uL (eS uI eO eO) eO) (eS KP (eS oK eO eO) eO))) (eS Ey (eS Qc (eS yI (eS jU eO eO) eO) (eS Cg (eS Ve eO eO) eO)) (eS Qn (eS Cf (eS Fc eO eO) eO) (eS pW eO eO)))) (eS SH (eS cF (eS Lh (eS oN (eS GR eO eO) eO) (eS YH (eS KT eO eO) eO)) (eS Qg (eS lZ (eS eB eO eO) eO) (eS gR eO eO))) (eS IF (eS FC (eS AC (eS OU eO eO) eO) (eS Bz (eS Lj eO eO) eO)) (eS AB (eS rD (eS sM eO eO) eO) (eS iS eO eO))))))
end
end Go.Eng.Q
