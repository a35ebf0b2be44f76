/- Part 6 of the proof: the trees are the functions'. -/
import Derived.Test.YtglojhiigapkbaaGreatTrA
set_option linter.unusedVariables false
namespace Go.Eng.Q
open Go.Eng Go.Proofs
noncomputable section
abbrev tZ:List LT:=[.int .i64]
abbrev aBu:List LT:=[.int .i64,.int .i64]
abbrev aBE:List LT:=[.bool]
abbrev aCx:List LT:=[.str]
abbrev aCf(p:List D)(n:Nat):A:=fL 3 tZ p n
abbrev aCp(p:List D)(n:Nat):A:=.fz [] 66 [.str,.sl false 2 tZ] (gL p n)
abbrev aCs(p:List D)(n:Nat):A:=.fz [] 77 [.str,.sl false 3 tZ] (gL p n)
abbrev tP(p:List D)(n:Nat):Bx:=⟨0,[.str (gS p n),nB p (n+1),aCf p (n+2),nI p (n+3),fL 40 CT p (n+4)],none⟩
abbrev tV(p:List D)(n:Nat):Bx:=⟨0,[fL 75 Xd p n,aCp p (n+1),aCs p (n+2),fL 33 JT p (n+3)],none⟩
abbrev aCw(p:List D)(n:Nat):Bx:=⟨0,[nI p n,nI p (n+1),nI p (n+2),nI p (n+3),nI p (n+4),aCf p (n+5),aCf p (n+6)],none⟩
abbrev bM(k:Nat)(t:TypeId)(l:List LT)(p:List D)(n:Nat):Nat×xA:=aR k t l (gL p n)
abbrev aQ(p:List D)(n:Nat):Tr:=t1 (nI p n)
abbrev aBJ(p:List D)(n:Nat):Tr:=t1 (nB p n)
abbrev bN(n:Nat):A:=.vw n 0 []
abbrev nF(n:Nat):Tr:=t1 (bN n)
abbrev aBK:Tr:=t1 (.pb 1 0 0)
abbrev vW:Tr:=t0 Z Z
abbrev Ct(t:Tr):St:=⟨t,[],[],1⟩
def aCy(n:Nat):Func×eV:=match aY.look n with
 |some x=>x
 |none=>(Tryz.f3,{})
def fI(n k:Nat)(b:List Nat)(M:List D->Sh)(l:List (Nat×(List D->Sh)))(S:aBt)(T:d9):FD:={f:=(aCy n).1,h:=(aCy n).2,c:=cd (aCy n).1,s:=Ry Hv n,F:={np:=k,bs:=b,main:=M,lps:=l},S:=S,T:=T}
abbrev Z0:=AU E aY sites
theorem mT{m:Nat}{d:FD}(a:aY.look m=some (d.f,d.h):=by kernel_rfl)(b:E.sg.look m=some d.s:=by kernel_rfl)(c:d.f.body=some d.c:=by kernel_rfl)(e:dF 0 d.c=d.F.bs.map λb=>(b,sK b d.c):=by kernel_rfl)(f:BM (λb=>Nat.ble (b+1) 1000) d.F.bs=true:=by kernel_rfl)(g:BM (λq=>Nat.ble 1000 q.1||has d.F.bs q.1) d.F.lps=true:=by kernel_rfl)(i:BM (λq=>Nat.ble (q.1+1) 1000||siteLoopB sites q.1) d.F.lps=true:=by kernel_rfl)(j:Nat.beq m E.srt=false:=by kernel_rfl)
  (k:KM d:=by intro _;kernel_rfl)
  (l:∀b g,Go.Eng.look d.F.lps b=some g->KL d b g:=by
   repeat(first
    |exact aBA
    |refine H2 (by intro _;kernel_rfl) ?_)):Z0 m d:=⟨a,b,c,e,f,g,Xb,i,j,k,l⟩
theorem aAj{m:Nat}{d:FD}{l r:BT Fn}(c:Z0 m d)(x:Xa E aY sites l)(e:Xa E aY sites r)(h:d.h.fork=false:=by kernel_rfl):Xa E aY sites (.node m d.F l r):=⟨⟨d,rfl,c,h⟩,x,e⟩
theorem aAe:Xa E aY sites .nil:=trivial
abbrev aAl(m:Nat)(d:FD)(l r:BT Fn):BT Fn:=.node m d.F l r
def oS:FD:=fI 3 1 [0,2,4] AG [(0,lT),(2,lU),(4,lV)] [(0,λp=>⟨(t0 (t2 (.pb 1 0 0) (aQ p 0) Z) Z),[(1,tV p 1)],[],1⟩),
 (2,λp=>⟨(t0 (t2 (.pb 1 0 0) (t2 (nI p 0) (aQ p 1) Z) (nF 30000000)) (t0 (t1 (.pb 4 0 0)) (nF 32000000))),[(1,tV p 2),(4,tP p 6)],[bM 30000000 50 [.sl true 52 aBu] p 11,bM 32000000 49 aBu p 12],1⟩),
 (4,λp=>⟨(t0 (t2 (.pb 1 0 0) (t2 (nI p 0) (aQ p 1) Z) (nF 30000000)) (t0 (t2 (.pb 4 0 0) (aQ p 2) Z) (nF 32000000))),[(1,tV p 3),(4,tP p 7)],[bM 30000000 50 [.sl true 52 aBu] p 12,bM 32000000 49 aBu p 13],1⟩)] [(0,[λp=>(.ret,Ct (t0 Z (aBJ p 0))),
 λp=>(.exit 0,Ct (t0 Z vW))]),
 (2,[λp=>(.ret,⟨(t0 (t2 (.pb 1 0 0) (aQ p 0) Z) (aBJ p 1)),[(1,tV p 2)],[],1⟩),
 λp=>(.exit 2,⟨(t0 (t2 (.pb 1 0 0) (aQ p 0) Z) vW),[(1,tV p 1)],[],1⟩)]),
 (4,[λp=>(.ret,⟨(t0 (t2 (.pb 1 0 0) (t2 (nI p 0) (aQ p 1) Z) (nF 30000000)) (t2 (nB p 2) (t1 (.pb 4 0 0)) (nF 32000000))),[(1,tV p 3),(4,tP p 7)],[bM 30000000 50 [.sl true 52 aBu] p 12,bM 32000000 49 aBu p 13],1⟩),
 λp=>(.exit 4,⟨(t0 (t2 (.pb 1 0 0) (t2 (nI p 0) (aQ p 1) Z) (nF 30000000)) (t0 (t1 (.pb 4 0 0)) (nF 32000000))),[(1,tV p 2),(4,tP p 6)],[bM 30000000 50 [.sl true 52 aBu] p 11,bM 32000000 49 aBu p 12],1⟩)])]
theorem oU:Z0 PZ oS:=mT
def SL:FD:=fI 7 1 [0] RO [(0,uM)] [(0,λp=>⟨(t0 (t2 (.pb 1 0 0) (nF 8000000) (aQ p 0)) (t0 (nF 10) Z)),[(1,tP p 1)],[bM 10 49 aBu p 6,bM 8000000 3 tZ p 7],1⟩)] [(0,[λp=>(.exit 0,⟨(t0 Z (t0 (nF 10) Z)),[],[bM 10 49 aBu p 0],1⟩)])]
theorem SM:Z0 Hx SL:=mT
def QA:FD:=fI 11 1 [] Lm [] [] []
theorem Lp:Z0 yY QA:=mT
def Cf:FD:=fI 15 1 [] LY [] [] []
theorem Cg:Z0 OF Cf:=mT
def VV:FD:=fI 19 2 [] IM [] [] []
theorem VW:Z0 CR VV:=mT
def AY:FD:=fI 23 1 [0,2] nS [(0,iC),(2,kZ)] [(0,λp=>⟨(t0 (t2 (.pb 1 0 0) (aQ p 0) Z) (t0 (aQ p 1) Z)),[(1,tP p 2)],[],1⟩),
 (2,λp=>⟨(t0 (t2 (.pb 1 0 0) (aQ p 0) (aQ p 1)) (t0 (aQ p 2) Z)),[(1,tP p 3)],[],1⟩)] [(0,[λp=>(.ret,Ct (t0 Z (aBJ p 0))),
 λp=>(.exit 0,Ct (t0 Z vW))]),
 (2,[λp=>(.ret,⟨(t0 (t2 (.pb 1 0 0) (aQ p 0) Z) (t2 (nB p 1) (aQ p 2) Z)),[(1,tP p 3)],[],1⟩),
 λp=>(.exit 2,⟨(t0 (t2 (.pb 1 0 0) (aQ p 0) Z) (t0 (aQ p 1) Z)),[(1,tP p 2)],[],1⟩)])]
theorem qM:Z0 RN AY:=mT
def mP:FD:=fI 27 1 [0,2,4,6] RP [(0,uN),(2,uO),(4,uP),(6,uQ)] [(0,λp=>⟨(t0 (t2 (.pb 1 0 0) (t1 (.mp 9 0)) (aQ p 0)) (t0 (aQ p 1) Z)),[(1,tV p 2),(9,⟨0,[],some ⟨.str,.int .i64,(gL p 6)⟩⟩)],[],1⟩),
 (2,λp=>⟨(t0 (t2 (.pb 1 0 0) (t1 (.mp 9 0)) Z) (t0 (aQ p 0) (aQ p 1))),[(1,tV p 2),(9,⟨0,[],some ⟨.str,.int .i64,(gL p 6)⟩⟩)],[],1⟩),
 (4,λp=>⟨(t0 (t2 (.pb 1 0 0) (t2 (.mp 9 0) (aQ p 0) Z) Z) (t0 (aQ p 1) Z)),[(1,tV p 2),(9,⟨0,[],some ⟨.str,.int .i64,(gL p 6)⟩⟩)],[],1⟩),
 (6,λp=>⟨(t0 (t2 (.pb 1 0 0) (t1 (.mp 9 0)) Z) (t0 (t2 (nI p 0) (aQ p 1) Z) Z)),[(1,tV p 2),(9,⟨0,[],some ⟨.str,.int .i64,(gL p 6)⟩⟩)],[],1⟩)] [(0,[λp=>(.exit 0,⟨(t0 (t2 (.pb 1 0 0) (t1 (.mp 9 0)) Z) (t0 (aQ p 0) Z)),[(1,tV p 1),(9,⟨0,[],some ⟨.str,.int .i64,(gL p 5)⟩⟩)],[],1⟩)]),
 (2,[λp=>(.exit 2,⟨(t0 (t2 (.pb 1 0 0) (t1 (.mp 9 0)) Z) (t0 (aQ p 0) Z)),[(1,tV p 1),(9,⟨0,[],some ⟨.str,.int .i64,(gL p 5)⟩⟩)],[],1⟩)]),
 (4,[λp=>(.exit 4,⟨(t0 (t2 (.pb 1 0 0) (t1 (.mp 9 0)) Z) (t0 (aQ p 0) Z)),[(1,tV p 1),(9,⟨0,[],some ⟨.str,.int .i64,(gL p 5)⟩⟩)],[],1⟩)]),
 (6,[λp=>(.exit 6,Ct (t0 Z (t0 (aQ p 0) Z)))])]
theorem xW:Z0 Ib mP:=mT
def CX:FD:=fI 31 2 [0,2,4] RQ [(0,uR),(2,uS),(4,uT)] [(0,λp=>⟨(t0 (t0 (t1 (.pb 3 0 0)) (nF 13000000)) (t2 (.pb 2 0 0) Z (aQ p 0))),[(2,tV p 1),(3,tP p 5)],[bM 13000000 3 tZ p 10],1⟩),
 (2,λp=>⟨(t0 (t0 (t2 (.pb 3 0 0) (aQ p 0) Z) (nF 13000000)) (t2 (.pb 2 0 0) Z (aQ p 1))),[(2,tV p 2),(3,tP p 6)],[bM 13000000 3 tZ p 11],1⟩),
 (4,λp=>⟨(t0 (t0 (t2 (.pb 3 0 0) (aQ p 0) Z) (t2 (bN 13000000) (nF 200009) Z)) (t2 (.pb 2 0 0) (t0 (t1 (.pb 8 0 0)) Z) (t2 (nI p 1) (aQ p 2) Z))),[(2,tV p 3),(3,tP p 7),(8,aCw p 12)],[bM 200009 3 tZ p 19,bM 13000000 3 tZ p 20],1⟩)] [(0,[λp=>(.ret,Ct (t0 Z (t0 (aBJ p 0) Z))),
 λp=>(.exit 0,Ct (t0 Z (t0 vW Z)))]),
 (2,[λp=>(.ret,⟨(t0 (t0 (t1 (.pb 3 0 0)) (nF 13000000)) (t2 (.pb 2 0 0) (aBJ p 0) (aQ p 1))),[(2,tV p 2),(3,tP p 6)],[bM 13000000 3 tZ p 11],1⟩),
 λp=>(.exit 2,⟨(t0 (t0 (t1 (.pb 3 0 0)) (nF 13000000)) (t2 (.pb 2 0 0) vW (aQ p 0))),[(2,tV p 1),(3,tP p 5)],[bM 13000000 3 tZ p 10],1⟩)]),
 (4,[λp=>(.exit 4,⟨(t0 (t0 (t2 (.pb 3 0 0) (aQ p 0) Z) (t2 (bN 13000000) (nF 200009) Z)) (t2 (.pb 2 0 0) (t0 (t1 (.pb 8 0 0)) Z) (aQ p 1))),[(2,tV p 2),(3,tP p 6),(8,aCw p 11)],[bM 200009 3 tZ p 18,bM 13000000 3 tZ p 19],1⟩)])]
theorem CY:Z0 Id CX:=mT
def sN:FD:=fI 35 1 [0,2,4,6,8] RR [(0,uU),(2,nT),(4,uV),(6,uW),(8,nU)] [(0,λp=>⟨(t0 (t2 (.pb 1 0 0) (t2 (.pb 21 0 0) (t0 Z (t1 (.fz [] 77 [.str,.sl false 3 tZ] (gL p 0)))) Z) (t0 (t0 Z (aQ p 1)) Z)) (t0 (t0 (t0 Z (aQ p 2)) Z) Z)),[(1,tV p 3),(21,⟨0,[fL 75 Xd p 7,aCp p 8,aCs p 9,fL 33 JT p 10,bN 19,.nils],none⟩)],[bM 19 4 aBE p 11],1⟩),
 (2,λp=>⟨(t0 (t2 (.pb 1 0 0) (t2 (.pb 21 0 0) (t0 (t0 (aQ p 0) Z) (t1 (.fz [] 77 [.str,.sl false 3 tZ] (gL p 1)))) Z) (t0 (t0 Z (aQ p 2)) Z)) (t0 (t0 (t0 (t0 (aQ p 3) Z) (aQ p 4)) Z) (t0 Z (t0 Z (t1 (aCf p 5)))))),[(1,tV p 6),(21,⟨0,[fL 75 Xd p 10,aCp p 11,aCs p 12,fL 33 JT p 13,bN 19,.nils],none⟩)],[bM 19 4 aBE p 14],1⟩),
 (4,λp=>⟨(t0 (t0 (t2 (.pb 21 0 0) (t0 (t0 Z (t1 (fL 33 JT p 0))) Z) Z) (t0 (t0 (t0 Z (aQ p 1)) Z) Z)) (t0 (t0 (t0 (t0 Z (aQ p 2)) Z) Z) Z)),[(21,⟨0,[fL 75 Xd p 3,aCp p 4,aCs p 5,fL 33 JT p 6,bN 19,bN 301349],none⟩)],[bM 19 4 aBE p 7,bM 301349 68 lt3 p 8],1⟩),
 (6,λp=>⟨(t0 (t0 (t2 (.pb 21 0 0) (t0 (t0 (t0 (aQ p 0) Z) (t1 (fL 33 JT p 1))) Z) Z) (t0 (t2 (.pb 9 0 0) (t0 Z (aQ p 2)) Z) Z)) (t0 (t0 (t0 (t0 (t0 (aQ p 3) Z) (aQ p 4)) Z) Z) (t0 (t1 (.pb 10 0 0)) (t0 Z (t0 Z (t1 (fL 40 CT p 5))))))),[(9,tP p 6),(10,⟨0,[bN 55000000,.nils,.nils,bN 59],none⟩),(21,⟨0,[fL 75 Xd p 11,aCp p 12,aCs p 13,fL 33 JT p 14,bN 19,bN 301349],none⟩)],[bM 19 4 aBE p 15,bM 59 42 OJ p 16,bM 301349 68 lt3 p 17,bM 55000000 3 tZ p 18],1⟩),
 (8,λp=>⟨(t0 (t0 (t2 (.pb 21 0 0) (t0 (t0 (t0 (aQ p 0) Z) (t1 (fL 33 JT p 1))) (t0 (t0 (aQ p 2) Z) Z)) Z) (t0 (t2 (.pb 9 0 0) (t0 Z (aQ p 3)) Z) (t0 (t0 (t0 (t1 (fL 42 OJ p 4)) Z) Z) Z))) (t0 (t0 (t0 (t0 (t0 (aQ p 5) Z) (aQ p 6)) Z) Z) (t0 (t1 (.pb 10 0 0)) (t0 (t0 (t0 (aQ p 7) Z) Z) (t0 Z (t1 (fL 40 CT p 8))))))),[(9,tP p 9),(10,⟨0,[bN 55000000,.nils,.nils,bN 59],none⟩),(21,⟨0,[fL 75 Xd p 14,aCp p 15,aCs p 16,fL 33 JT p 17,bN 19,bN 301349],none⟩)],[bM 19 4 aBE p 18,bM 59 42 OJ p 19,bM 301349 68 lt3 p 20,bM 55000000 3 tZ p 21],1⟩)] [(0,[λp=>(.exit 0,⟨(t0 (t2 (.pb 1 0 0) (t1 (.pb 21 0 0)) Z) vW),[(1,tV p 0),(21,⟨0,[fL 75 Xd p 4,aCp p 5,aCs p 6,fL 33 JT p 7,bN 19,.nils],none⟩)],[bM 19 4 aBE p 8],1⟩)]),
 (2,[λp=>(.exit 2,⟨(t0 (t2 (.pb 1 0 0) (t2 (.pb 21 0 0) (t0 Z (t1 (.fz [] 77 [.str,.sl false 3 tZ] (gL p 0)))) Z) (t0 (t0 Z (aQ p 1)) Z)) (t0 (t0 (t0 Z (aQ p 2)) Z) Z)),[(1,tV p 3),(21,⟨0,[fL 75 Xd p 7,aCp p 8,aCs p 9,fL 33 JT p 10,bN 19,.nils],none⟩)],[bM 19 4 aBE p 11],1⟩)]),
 (4,[λp=>(.exit 4,⟨(t0 (t0 (t1 (.pb 21 0 0)) Z) vW),[(21,⟨0,[fL 75 Xd p 0,aCp p 1,aCs p 2,fL 33 JT p 3,bN 19,bN 301349],none⟩)],[bM 19 4 aBE p 4,bM 301349 68 lt3 p 5],1⟩)]),
 (6,[λp=>(.exit 6,⟨(t0 (t0 (t2 (.pb 21 0 0) (t0 (t0 Z (t1 (fL 33 JT p 0))) Z) Z) (t0 (t2 (.pb 9 0 0) (t0 Z (aQ p 1)) Z) Z)) (t0 (t0 (t0 (t0 Z (aQ p 2)) Z) Z) (t0 (t1 (.pb 10 0 0)) Z))),[(9,tP p 3),(10,⟨0,[bN 55000000,.nils,.nils,bN 59],none⟩),(21,⟨0,[fL 75 Xd p 8,aCp p 9,aCs p 10,fL 33 JT p 11,bN 19,bN 301349],none⟩)],[bM 19 4 aBE p 12,bM 59 42 OJ p 13,bM 301349 68 lt3 p 14,bM 55000000 3 tZ p 15],1⟩)]),
 (8,[λp=>(.exit 8,⟨(t0 (t0 (t2 (.pb 21 0 0) (t0 (t0 (t0 (aQ p 0) Z) (t1 (fL 33 JT p 1))) Z) Z) (t0 (t2 (.pb 9 0 0) (t0 Z (aQ p 2)) Z) Z)) (t0 (t0 (t0 (t0 (t0 (aQ p 3) Z) (aQ p 4)) Z) Z) (t0 (t1 (.pb 10 0 0)) (t0 Z (t0 Z (t1 (fL 40 CT p 5))))))),[(9,tP p 6),(10,⟨0,[bN 55000000,.nils,.nils,bN 59],none⟩),(21,⟨0,[fL 75 Xd p 11,aCp p 12,aCs p 13,fL 33 JT p 14,bN 19,bN 301349],none⟩)],[bM 19 4 aBE p 15,bM 59 42 OJ p 16,bM 301349 68 lt3 p 17,bM 55000000 3 tZ p 18],1⟩)])]
theorem sO:Z0 If sN:=mT
def OL:FD:=fI 40 1 [0,2] YT [(0,yZ),(2,zA)] [(0,λp=>⟨(t0 (t2 (.pb 1 0 0) (nF 10) Z) (t0 (aQ p 0) Z)),[(1,tP p 1)],[bM 10 30 [.sl true 3 tZ] p 6],1⟩),
 (2,λp=>⟨(t0 (t2 (.pb 1 0 0) (nF 10) (nF 21000000)) (t0 (aQ p 0) (aQ p 1))),[(1,tP p 2)],[bM 10 30 [.sl true 3 tZ] p 7,bM 21000000 3 tZ p 8],1⟩)] [(0,[λp=>(.exit 0,⟨(t0 (t0 (nF 10) Z) vW),[],[bM 10 30 [.sl true 3 tZ] p 0],1⟩)]),
 (2,[λp=>(.exit 2,⟨(t0 (t2 (.pb 1 0 0) (nF 10) Z) (t0 (aQ p 0) Z)),[(1,tP p 1)],[bM 10 30 [.sl true 3 tZ] p 6],1⟩)])]
theorem OM:Z0 Sg OL:=mT
def ZJ:FD:=fI 44 4 [1] Np [(1,zB)] [(1,λp=>⟨(t0 (t0 (t1 (aCf p 0)) (t0 (aQ p 1) Z)) (t0 Z (t1 (.pb 6 0 0)))),[(6,aCw p 2)],[],1⟩)] [(1,[λp=>(.ret,Ct (t0 Z (t0 (t0 (aBJ p 0) Z) Z))),
 λp=>(.exit 1,Ct (t0 Z (t0 (t0 vW Z) Z)))])]
theorem ZK:Z0 Ee ZJ:=mT
def oI:FD:=fI 48 1 [0,2,4,6,8] RT [(0,uX),(2,uY),(4,uZ),(6,vA),(8,vC)] [(0,λp=>⟨(t0 (t2 (.pb 1 0 0) (t0 (t0 (t1 (.fz [] 77 [.str,.sl false 3 tZ] (gL p 0))) Z) Z) (t0 (t0 (aQ p 1) Z) Z)) (t0 (t0 (t0 (aQ p 2) Z) Z) Z)),[(1,tV p 3)],[],1⟩),
 (2,λp=>⟨(t0 (t2 (.pb 1 0 0) (t0 (t0 (t1 (.fz [] 77 [.str,.sl false 3 tZ] (gL p 0))) (aQ p 1)) Z) (t0 (t0 (aQ p 2) Z) Z)) (t0 (t0 (t0 (aQ p 3) (aQ p 4)) Z) (t0 Z (t0 (t1 (aCf p 5)) Z)))),[(1,tV p 6)],[],1⟩),
 (4,λp=>⟨(t0 (t2 (.pb 1 0 0) Z (t0 (t0 Z (t0 (aQ p 0) Z)) Z)) (t0 (t0 (t0 Z (t0 (t1 (fL 33 JT p 1)) Z)) Z) (t0 (t0 Z (t0 (aQ p 2) Z)) Z))),[(1,tV p 3)],[],1⟩),
 (6,λp=>⟨(t0 (t2 (.pb 1 0 0) (t0 (t0 (t0 Z (t1 (fL 40 CT p 0))) Z) Z) (t0 (t0 (t0 Z (aQ p 1)) (t0 (aQ p 2) Z)) Z)) (t0 (t0 (t0 (t0 Z (aQ p 3)) (t0 (t1 (fL 33 JT p 4)) Z)) Z) (t0 (t0 Z (t0 (aQ p 5) Z)) Z))),[(1,tV p 6)],[],1⟩),
 (8,λp=>⟨(t0 (t2 (.pb 1 0 0) (t0 (t0 (t0 Z (t1 (fL 40 CT p 0))) (t0 Z (aQ p 1))) Z) (t0 (t0 (t0 Z (aQ p 2)) (t0 (aQ p 3) Z)) Z)) (t0 (t0 (t0 (t0 Z (aQ p 4)) (t0 (t1 (fL 33 JT p 5)) (aQ p 6))) Z) (t0 (t0 Z (t0 (aQ p 7) Z)) (t0 (t0 Z (t1 (fL 42 OJ p 8))) Z)))),[(1,tV p 9)],[],1⟩)] [(0,[λp=>(.ret,⟨(t0 aBK (aBJ p 0)),[(1,tV p 1)],[],1⟩),
 λp=>(.exit 0,⟨(t0 aBK vW),[(1,tV p 0)],[],1⟩)]),
 (2,[λp=>(.ret,⟨(t0 (t2 (.pb 1 0 0) (t0 (t0 (t1 (.fz [] 77 [.str,.sl false 3 tZ] (gL p 0))) Z) Z) (t0 (t0 (aQ p 1) Z) Z)) (t2 (nB p 2) (t0 (t0 (aQ p 3) Z) Z) Z)),[(1,tV p 4)],[],1⟩),
 λp=>(.exit 2,⟨(t0 (t2 (.pb 1 0 0) (t0 (t0 (t1 (.fz [] 77 [.str,.sl false 3 tZ] (gL p 0))) Z) Z) (t0 (t0 (aQ p 1) Z) Z)) (t0 (t0 (t0 (aQ p 2) Z) Z) Z)),[(1,tV p 3)],[],1⟩)]),
 (4,[λp=>(.ret,Ct (t0 Z (aBJ p 0))),
 λp=>(.exit 4,Ct (t0 Z vW))]),
 (6,[λp=>(.ret,⟨(t0 (t2 (.pb 1 0 0) Z (t0 (t0 Z (t0 (aQ p 0) Z)) Z)) (t2 (nB p 1) (t0 (t0 Z (t0 (t1 (fL 33 JT p 2)) Z)) Z) (t0 (t0 Z (t0 (aQ p 3) Z)) Z))),[(1,tV p 4)],[],1⟩),
 λp=>(.exit 6,⟨(t0 (t2 (.pb 1 0 0) Z (t0 (t0 Z (t0 (aQ p 0) Z)) Z)) (t0 (t0 (t0 Z (t0 (t1 (fL 33 JT p 1)) Z)) Z) (t0 (t0 Z (t0 (aQ p 2) Z)) Z))),[(1,tV p 3)],[],1⟩)]),
 (8,[λp=>(.ret,⟨(t0 (t2 (.pb 1 0 0) (t0 (t0 (t0 Z (t1 (fL 40 CT p 0))) Z) Z) (t0 (t0 (t0 Z (aQ p 1)) (t0 (aQ p 2) Z)) Z)) (t2 (nB p 3) (t0 (t0 (t0 Z (aQ p 4)) (t0 (t1 (fL 33 JT p 5)) Z)) Z) (t0 (t0 Z (t0 (aQ p 6) Z)) Z))),[(1,tV p 7)],[],1⟩),
 λp=>(.exit 8,⟨(t0 (t2 (.pb 1 0 0) (t0 (t0 (t0 Z (t1 (fL 40 CT p 0))) Z) Z) (t0 (t0 (t0 Z (aQ p 1)) (t0 (aQ p 2) Z)) Z)) (t0 (t0 (t0 (t0 Z (aQ p 3)) (t0 (t1 (fL 33 JT p 4)) Z)) Z) (t0 (t0 Z (t0 (aQ p 5) Z)) Z))),[(1,tV p 6)],[],1⟩)])]
theorem sP:Z0 Ij oI:=mT
def aC9:FD:=fI 52 1 [0,2] RU [(0,vD),(2,vE)] [(0,λp=>⟨(t0 (t0 (t2 (bN 200003) (t0 (aQ p 0) Z) Z) (t0 Z (t1 (fL 40 CT p 1)))) (t0 Z (t0 Z (aQ p 2)))),[],[bM 200003 3 tZ p 3],1⟩),
 (2,λp=>⟨(t0 (t0 (t2 (bN 200003) (t0 (aQ p 0) Z) Z) (t0 Z (t2 (fL 40 CT p 1) (aQ p 2) Z))) (t0 (t0 Z (t0 (t1 (fL 42 OJ p 3)) Z)) (t0 Z (t2 (nI p 4) (aQ p 5) Z)))),[],[bM 200003 3 tZ p 6],1⟩)] [(0,[λp=>(.exit 0,⟨(t0 (t0 (nF 200003) Z) vW),[],[bM 200003 3 tZ p 0],1⟩)]),
 (2,[λp=>(.exit 2,⟨(t0 (t0 (t2 (bN 200003) (t0 (aQ p 0) Z) Z) (t0 Z (t1 (fL 40 CT p 1)))) (t0 Z (t0 Z (aQ p 2)))),[],[bM 200003 3 tZ p 3],1⟩)])]
theorem IP:Z0 VT aC9:=mT
def ZL:FD:=fI 56 1 [0] YU [(0,zC)] [(0,λp=>Ct (t2 (.str (gS p 0)) (t0 (aQ p 1) Z) Z))] [(0,[λp=>(.ret,Ct (t0 Z (aBJ p 0))),
 λp=>(.exit 0,Ct (t0 Z vW))])]
theorem ZM:Z0 IJ ZL:=mT
def Ch:FD:=fI 60 1 [] Xe [] [] []
theorem Ci:Z0 BK Ch:=mT
def oV:FD:=fI 64 2 [] jU [] [] []
theorem oW:Z0 kY oV:=mT
def Ip:FD:=fI 68 1 [] RV [] [] []
theorem Iq:Z0 Il Ip:=mT
def cB:FD:=fI 74 1 [0,2] fX [(0,cE),(2,dI)] [(0,λp=>⟨(t2 (bN 500) (t0 (aQ p 0) Z) Z),[],[bM 500 52 aBu p 1],1⟩),
 (2,λp=>⟨(t2 (bN 500) (t0 (aQ p 0) (aQ p 1)) (t0 (t1 (.sx 500 0 2 (gN p 2) (gN p 3))) Z)),[],[bM 500 52 aBu p 4],1⟩)] [(0,[λp=>(.ret,⟨(t0 Z (nF 59)),[],[bM 59 52 aBu p 0],1⟩),
 λp=>(.exit 0,⟨(t2 (bN 500) Z vW),[],[bM 500 52 aBu p 0],1⟩)]),
 (2,[λp=>(.exit 2,⟨(t2 (bN 500) (t0 (aQ p 0) Z) vW),[],[bM 500 52 aBu p 1],1⟩)])]
theorem dN:Z0 bV cB:=mT
def Nr:FD:=fI 78 1 [] OK [] [] []
theorem Ns:Z0 OI Nr:=mT
def rT:FD:=fI 82 1 [0,2] FL [(0,oQ),(2,eW)] [(0,λp=>⟨(t2 (.fz [] 69 [.sl false 4 aBE] (gL p 0)) (t0 (t2 (bN 8) Z (aQ p 1)) Z) (t0 Z (t0 (aQ p 2) Z))),[],[bM 8 3 tZ p 3],1⟩),
 (2,λp=>⟨(t2 (.fz [] 69 [.sl false 4 aBE] (gL p 0)) (t0 (t2 (bN 8) Z (t2 (nI p 1) (aQ p 2) Z)) Z) (t0 (aQ p 3) (t0 (t2 (nI p 4) (aQ p 5) Z) Z))),[],[bM 8 3 tZ p 6],1⟩)] [(0,[λp=>(.exit 0,⟨(t0 (t0 (nF 8) Z) vW),[],[bM 8 3 tZ p 0],1⟩)]),
 (2,[λp=>(.exit 2,⟨(t2 (.fz [] 69 [.sl false 4 aBE] (gL p 0)) (t0 (t2 (bN 8) Z (aQ p 1)) Z) (t0 Z (t0 (aQ p 2) Z))),[],[bM 8 3 tZ p 3],1⟩)])]
theorem yL:Z0 LW rT:=mT
def GG:FD:=fI 89 2 [] xV [] [] []
theorem GH:Z0 CS GG:=mT
def jQ:FD:=fI 103 2 [0] gQ [(0,cY)] [(0,λp=>Ct (t2 (aCf p 0) (t2 (nI p 1) (t0 (aQ p 2) Z) Z) (t0 (t0 (aQ p 3) Z) Z)))] [(0,[λp=>(.ret,Ct (t0 Z (t0 (aQ p 0) Z))),
 λp=>(.exit 0,Ct (t0 Z (t0 vW Z)))])]
theorem gR:Z0 pE jQ:=mT
def QB:FD:=fI 4 0 [] Ln [] [] []
theorem Lq:Z0 tK QB:=mT
def Cj:FD:=fI 8 4 [] ME [] [] []
theorem Ck:Z0 BJ Cj:=mT
def Nt:FD:=fI 12 2 [0] j9 [(0,Xf)] [(0,λp=>⟨(t0 (t0 (t0 (t0 (t0 (t1 (.vw 12000005 0 [((gN p 0),1)])) Z) Z) Z) (t0 (t0 (t0 (aQ p 1) Z) Z) Z)) (t0 (t0 (t0 (t0 (aQ p 2) Z) Z) Z) (nF 23))),[],[bM 23 50 [.sl true 52 aBu] p 3,bM 12000005 68 lt3 p 4],1⟩)] [(0,[λp=>(.exit 0,⟨(t0 Z (t0 vW (nF 23))),[],[bM 23 50 [.sl true 52 aBu] p 0],1⟩)])]
theorem l7:Z0 T9 Nt:=mT
def IQ:FD:=fI 16 2 [0,2] RW [(0,vF),(2,vG)] [(0,λp=>⟨(t0 (t2 (fL 52 aBu p 0) Z (nF 200005)) (t0 Z (aQ p 1))),[],[bM 200005 52 aBu p 2],1⟩),
 (2,λp=>⟨(t0 (t2 (fL 52 aBu p 0) (t0 (aQ p 1) Z) (nF 200005)) (t0 Z (aQ p 2))),[],[bM 200005 52 aBu p 3],1⟩)] [(0,[λp=>(.exit 0,⟨(t0 (t0 Z (nF 200005)) (t0 vW Z)),[],[bM 200005 52 aBu p 0],1⟩)]),
 (2,[λp=>(.exit 2,⟨(t0 (t2 (fL 52 aBu p 0) (t0 (aQ p 1) Z) (nF 200005)) (t0 vW (aQ p 2))),[],[bM 200005 52 aBu p 3],1⟩)])]
theorem IR:Z0 CQ IQ:=mT
def CZ:FD:=fI 20 3 [] sL [] [] []
theorem DA:Z0 xT CZ:=mT
def Nu:FD:=fI 24 1 [0] YV [(0,zD)] [(0,λp=>⟨(t0 (t2 (.pb 1 0 0) (aQ p 0) Z) (t0 (aQ p 1) Z)),[(1,tP p 2)],[],1⟩)] [(0,[λp=>(.exit 0,Ct (t0 (t0 (aQ p 0) Z) vW))])]
theorem ZN:Z0 Ed Nu:=mT
def qN:FD:=fI 28 1 [0,2,4,6,8] YW [(0,zE),(2,zF),(4,zG),(6,zH),(8,zI)] [(0,λp=>⟨(t0 (t2 (.pb 1 0 0) (aQ p 0) Z) Z),[(1,tV p 1)],[],1⟩),
 (2,λp=>⟨(t0 (t2 (.pb 1 0 0) (aQ p 0) Z) (t0 (aQ p 1) Z)),[(1,tV p 2)],[],1⟩),
 (4,λp=>⟨(t0 aBK (t0 Z (aQ p 0))),[(1,tV p 1)],[],1⟩),
 (6,λp=>⟨(t0 (t2 (.pb 1 0 0) (t0 (aQ p 0) Z) Z) (t0 Z (aQ p 1))),[(1,tV p 2)],[],1⟩),
 (8,λp=>⟨(t0 (t2 (.pb 1 0 0) (t0 (aQ p 0) Z) Z) (t0 (t0 (aQ p 1) Z) (aQ p 2))),[(1,tV p 3)],[],1⟩)] [(0,[λp=>(.ret,⟨(t0 aBK (aBJ p 0)),[(1,tV p 1)],[],1⟩),
 λp=>(.exit 0,⟨(t0 aBK vW),[(1,tV p 0)],[],1⟩)]),
 (2,[λp=>(.ret,⟨(t0 (t2 (.pb 1 0 0) (aQ p 0) Z) (aBJ p 1)),[(1,tV p 2)],[],1⟩),
 λp=>(.exit 2,⟨(t0 (t2 (.pb 1 0 0) (aQ p 0) Z) vW),[(1,tV p 1)],[],1⟩)]),
 (4,[λp=>(.ret,Ct (t0 Z (aBJ p 0))),
 λp=>(.exit 4,Ct (t0 Z vW))]),
 (6,[λp=>(.ret,⟨(t0 aBK (t2 (nB p 0) Z (aQ p 1))),[(1,tV p 2)],[],1⟩),
 λp=>(.exit 6,⟨(t0 aBK (t0 Z (aQ p 0))),[(1,tV p 1)],[],1⟩)]),
 (8,[λp=>(.ret,⟨(t0 (t2 (.pb 1 0 0) (t0 (aQ p 0) Z) Z) (t2 (nB p 1) Z (aQ p 2))),[(1,tV p 3)],[],1⟩),
 λp=>(.exit 8,⟨(t0 (t2 (.pb 1 0 0) (t0 (aQ p 0) Z) Z) (t0 Z (aQ p 1))),[(1,tV p 2)],[],1⟩)])]
theorem xX:Z0 Sd qN:=mT
def pA:FD:=fI 32 2 [0] FM [(0,jV)] [(0,λp=>⟨(t2 (fL 52 aBu p 0) (t0 (t1 (.pb 3 0 0)) (aQ p 1)) Z),[(3,⟨0,[nI p 2,nI p 3],none⟩)],[],1⟩)] [(0,[λp=>(.ret,Ct (t0 Z (t0 (aBJ p 0) Z))),
 λp=>(.exit 0,Ct (t0 Z (t0 vW Z)))])]
theorem yM:Z0 LU pA:=mT
def Nv:FD:=fI 36 1 [] cM [] [] []
theorem Nw:Z0 Sf Nv:=mT
def ZO:FD:=fI 41 2 [0] YX [(0,zJ)] [(0,λp=>Ct (t2 (aCf p 0) (t2 (aCf p 1) Z (aQ p 2)) Z))] [(0,[λp=>(.ret,Ct (t0 Z (t0 (aBJ p 0) Z))),
 λp=>(.exit 0,Ct (t0 Z (t0 vW Z)))])]
theorem ZP:Z0 OG ZO:=mT
def Ir:FD:=fI 45 1 [0,2,4,6] RX [(0,nV),(2,nW),(4,nY),(6,nZ)] [(0,λp=>⟨(t0 (t2 (.pb 1 0 0) (t0 Z (t0 (t0 (aQ p 0) Z) Z)) Z) (t0 (t0 Z (t0 (t0 (aQ p 1) Z) Z)) (t0 (t0 (t0 (t1 (fL 75 Xd p 2)) Z) Z) Z))),[(1,tV p 3)],[],1⟩),
 (2,λp=>⟨(t0 (t2 (.pb 1 0 0) (t0 (t0 (t0 Z (aQ p 0)) Z) Z) Z) (t0 (t0 (t0 (t0 Z (aQ p 1)) Z) Z) (t0 Z (t0 Z (t0 (t1 (.fz [] 66 [.str,.sl false 2 tZ] (gL p 2))) Z))))),[(1,tV p 3)],[],1⟩),
 (4,λp=>⟨(t0 (t2 (.pb 1 0 0) Z (t0 (t0 (t0 (t0 (aQ p 0) Z) Z) Z) Z)) (t0 (t0 (t0 (t0 (t0 (t1 (.fz [] 77 [.str,.sl false 3 tZ] (gL p 1))) Z) Z) Z) Z) (t0 (t0 (t0 (t0 (aQ p 2) Z) Z) Z) Z))),[(1,tV p 3)],[],1⟩),
 (6,λp=>Ct (t0 (t0 (t0 Z (t0 (t0 Z (t0 (aQ p 0) Z)) Z)) Z) (t0 (t0 Z (t0 (t0 Z (t0 (aQ p 1) Z)) Z)) (t0 (t0 (t0 Z (t0 (t1 (fL 33 JT p 2)) Z)) Z) Z))))] [(0,[λp=>(.ret,⟨(t0 aBK (aBJ p 0)),[(1,tV p 1)],[],1⟩),
 λp=>(.exit 0,⟨(t0 aBK vW),[(1,tV p 0)],[],1⟩)]),
 (2,[λp=>(.ret,⟨(t0 aBK (aBJ p 0)),[(1,tV p 1)],[],1⟩),
 λp=>(.exit 2,⟨(t0 aBK vW),[(1,tV p 0)],[],1⟩)]),
 (4,[λp=>(.ret,⟨(t0 aBK (aBJ p 0)),[(1,tV p 1)],[],1⟩),
 λp=>(.exit 4,⟨(t0 aBK vW),[(1,tV p 0)],[],1⟩)]),
 (6,[λp=>(.ret,Ct (t0 Z (aBJ p 0))),
 λp=>(.exit 6,Ct (t0 Z vW))])]
theorem xY:Z0 Ih Ir:=mT
def sQ:FD:=fI 49 1 [0,2,4,6,8] RY [(0,vH),(2,vJ),(4,vK),(6,vL),(8,vM)] [(0,λp=>⟨(t0 (t2 (.pb 1 0 0) (t0 Z (t0 (aQ p 0) Z)) (t0 (t0 (t1 (fL 40 CT p 1)) Z) Z)) (t0 Z (t0 (t0 (aQ p 2) Z) Z))),[(1,tP p 3)],[],1⟩),
 (2,λp=>⟨(t0 (t2 (.pb 1 0 0) (t2 (nI p 0) (t0 (t0 (aQ p 1) Z) Z) (t0 (aQ p 2) Z)) (t2 (nB p 3) (t0 (t1 (fL 40 CT p 4)) Z) (t0 Z (t1 (fL 42 OJ p 5))))) (t0 (t1 (.pb 4 0 0)) (t0 (t0 (aQ p 6) Z) (t0 Z (aQ p 7))))),[(1,tP p 8),(4,⟨0,[fL 42 OJ p 13],none⟩)],[],1⟩),
 (4,λp=>⟨(t0 (t2 (.pb 1 0 0) (t0 Z (t0 (aQ p 0) (t0 (t0 (aQ p 1) Z) Z))) (t0 (t0 (t1 (fL 40 CT p 2)) Z) Z)) (t0 (t0 (t1 (aCf p 3)) (t0 Z (t0 (t0 (aQ p 4) Z) Z))) (t0 (t0 (aQ p 5) (t0 (t0 (t1 (aCf p 6)) Z) Z)) Z))),[(1,tP p 7)],[],1⟩),
 (6,λp=>⟨(t0 (t0 (t0 (t0 (t0 Z (t0 Z (aQ p 0))) Z) (nF 108000000)) (t0 Z (t0 Z (t0 (t0 Z (t1 (fL 40 CT p 1))) Z)))) (t0 Z (t0 Z (t0 Z (t0 (t0 Z (aQ p 2)) Z))))),[],[bM 108000000 30 [.sl true 3 tZ] p 3],1⟩),
 (8,λp=>⟨(t0 (t0 (t0 (t0 (t0 Z (t0 Z (aQ p 0))) (t0 Z (t0 Z (aQ p 1)))) (nF 108000000)) (t0 Z (t0 (t0 Z (t0 Z (t1 (fL 42 OJ p 2)))) (t0 (t0 Z (t1 (fL 40 CT p 3))) Z)))) (t0 (t0 Z (aQ p 4)) (t0 Z (t0 (t0 Z (t0 Z (aQ p 5))) (t0 (t0 Z (aQ p 6)) Z))))),[],[bM 108000000 30 [.sl true 3 tZ] p 7],1⟩)] [(0,[λp=>(.ret,⟨(t0 aBK (aBJ p 0)),[(1,tP p 1)],[],1⟩),
 λp=>(.exit 0,⟨(t0 aBK vW),[(1,tP p 0)],[],1⟩)]),
 (2,[λp=>(.ret,⟨(t0 (t2 (.pb 1 0 0) (t0 Z (t0 (aQ p 0) Z)) (t0 (t0 (t1 (fL 40 CT p 1)) Z) Z)) (t2 (nB p 2) (t1 (.pb 4 0 0)) (t0 (t0 (aQ p 3) Z) Z))),[(1,tP p 4),(4,⟨0,[fL 42 OJ p 9],none⟩)],[],1⟩),
 λp=>(.exit 2,⟨(t0 (t2 (.pb 1 0 0) (t0 Z (t0 (aQ p 0) Z)) (t0 (t0 (t1 (fL 40 CT p 1)) Z) Z)) (t0 (t1 (.pb 4 0 0)) (t0 (t0 (aQ p 2) Z) Z))),[(1,tP p 3),(4,⟨0,[fL 42 OJ p 8],none⟩)],[],1⟩)]),
 (4,[λp=>(.ret,⟨(t0 (t2 (.pb 1 0 0) (t0 Z (t0 (aQ p 0) Z)) (t0 (t0 (t1 (fL 40 CT p 1)) Z) Z)) (t2 (nB p 2) (t0 (t1 (aCf p 3)) Z) (t0 (t0 (aQ p 4) Z) Z))),[(1,tP p 5)],[],1⟩),
 λp=>(.exit 4,⟨(t0 (t2 (.pb 1 0 0) (t0 Z (t0 (aQ p 0) Z)) (t0 (t0 (t1 (fL 40 CT p 1)) Z) Z)) (t0 (t0 (t1 (aCf p 2)) Z) (t0 (t0 (aQ p 3) Z) Z))),[(1,tP p 4)],[],1⟩)]),
 (6,[λp=>(.ret,Ct (t0 Z (aBJ p 0))),
 λp=>(.exit 6,Ct (t0 Z vW))]),
 (8,[λp=>(.ret,⟨(t0 (t0 (t0 (t0 (t0 Z (t0 Z (aQ p 0))) Z) (nF 108000000)) (t0 Z (t0 Z (t0 (t0 Z (t1 (fL 40 CT p 1))) Z)))) (t2 (nB p 2) Z (t0 Z (t0 Z (t0 (t0 Z (aQ p 3)) Z))))),[],[bM 108000000 30 [.sl true 3 tZ] p 4],1⟩),
 λp=>(.exit 8,⟨(t0 (t0 (t0 (t0 (t0 Z (t0 Z (aQ p 0))) Z) (nF 108000000)) (t0 Z (t0 Z (t0 (t0 Z (t1 (fL 40 CT p 1))) Z)))) (t0 Z (t0 Z (t0 Z (t0 (t0 Z (aQ p 2)) Z))))),[],[bM 108000000 30 [.sl true 3 tZ] p 3],1⟩)])]
theorem sR:Z0 VS sQ:=mT
def eC:FD:=fI 53 2 [0,2,4,7] sM [(0,jE),(2,jF),(4,fJ),(7,jG)] [(0,λp=>⟨(t2 (.pb 500 0 0) (t0 (t0 (t0 Z (aQ p 0)) Z) Z) (t0 (t0 (t0 Z (aQ p 1)) Z) (t0 Z (t0 (t1 (aCf p 2)) Z)))),[(500,⟨0,[bN 501000000,bN 18,bN 501000002,bN 501000003],none⟩)],[bM 18 50 [.sl true 52 aBu] p 3,bM 501000000 3 tZ p 4,bM 501000002 49 aBu p 5,bM 501000003 42 OJ p 6],1⟩),
 (2,λp=>⟨(t2 (.pb 500 0 0) Z (t0 Z (aBJ p 0))),[(500,⟨0,[bN 501000000,bN 18,bN 501000002,bN 501000003],none⟩)],[bM 18 50 [.sl true 52 aBu] p 1,bM 501000000 3 tZ p 2,bM 501000002 49 aBu p 3,bM 501000003 42 OJ p 4],1⟩),
 (4,λp=>⟨(t2 (.pb 500 0 0) (t0 (t0 (t0 (t0 Z (nF 501000003)) Z) Z) (t0 (t0 (t0 Z (aQ p 0)) Z) Z)) (t0 (t0 (t0 (t0 Z (aQ p 1)) Z) Z) (aBJ p 2))),[(500,⟨0,[bN 501000000,bN 18,bN 501000002,bN 501000003],none⟩)],[bM 18 50 [.sl true 52 aBu] p 3,bM 501000000 3 tZ p 4,bM 501000002 49 aBu p 5,bM 501000003 42 OJ p 6],1⟩),
 (7,λp=>⟨(t2 (.pb 500 0 0) (t0 (t0 (t2 (nI p 0) (t0 Z (t2 (bN 501000003) Z (aQ p 1))) Z) Z) (t0 (t2 (bN 200009) (t0 Z (aQ p 2)) Z) (t0 Z (t0 (t0 Z (t1 (aCf p 3))) Z)))) (t0 (t0 (t0 (t0 Z (aQ p 4)) Z) Z) (t2 (nB p 5) Z (t0 Z (t0 (t0 Z (aQ p 6)) Z))))),[(500,⟨0,[bN 501000000,bN 18,bN 501000002,bN 501000003],none⟩)],[bM 18 50 [.sl true 52 aBu] p 7,bM 200009 52 aBu p 8,bM 501000000 3 tZ p 9,bM 501000002 49 aBu p 10,bM 501000003 42 OJ p 11],1⟩)] [(0,[λp=>(.exit 0,⟨(t1 (.pb 500 0 0)),[(500,⟨0,[bN 501000000,bN 18,bN 501000002,bN 501000003],none⟩)],[bM 18 50 [.sl true 52 aBu] p 0,bM 501000000 3 tZ p 1,bM 501000002 49 aBu p 2,bM 501000003 42 OJ p 3],1⟩)]),
 (2,[λp=>(.exit 2,⟨(t1 (.pb 500 0 0)),[(500,⟨0,[bN 501000000,bN 18,bN 501000002,bN 501000003],none⟩)],[bM 18 50 [.sl true 52 aBu] p 0,bM 501000000 3 tZ p 1,bM 501000002 49 aBu p 2,bM 501000003 42 OJ p 3],1⟩)]),
 (4,[λp=>(.exit 4,⟨(t2 (.pb 500 0 0) Z (t0 Z (aBJ p 0))),[(500,⟨0,[bN 501000000,bN 18,bN 501000002,bN 501000003],none⟩)],[bM 18 50 [.sl true 52 aBu] p 1,bM 501000000 3 tZ p 2,bM 501000002 49 aBu p 3,bM 501000003 42 OJ p 4],1⟩)]),
 (7,[λp=>(.exit 7,⟨(t2 (.pb 500 0 0) (t0 (t0 (t2 (nI p 0) (t0 Z (nF 501000003)) Z) Z) (t0 (t2 (bN 200009) (t0 Z (aQ p 1)) Z) Z)) (t0 (t0 (t0 (t0 Z (aQ p 2)) Z) Z) (aBJ p 3))),[(500,⟨0,[bN 501000000,bN 18,bN 501000002,bN 501000003],none⟩)],[bM 18 50 [.sl true 52 aBu] p 4,bM 200009 52 aBu p 5,bM 501000000 3 tZ p 6,bM 501000002 49 aBu p 7,bM 501000003 42 OJ p 8],1⟩)])]
theorem iT:Z0 xU eC:=mT
def GI:FD:=fI 57 3 [0,2,4] YY [(0,zK),(2,pT),(4,lX)] [(0,λp=>⟨(t0 (t0 (t2 (.pb 3 0 0) (nF 15) Z) Z) (t2 (nI p 0) (t0 (aBJ p 1) Z) Z)),[(3,tP p 2)],[bM 15 4 aBE p 7],1⟩),
 (2,λp=>⟨(t0 (t0 (t2 (.pb 3 0 0) (nF 15) Z) (t0 (aQ p 0) Z)) (t2 (nI p 1) (t0 (aBJ p 2) Z) Z)),[(3,tP p 3)],[bM 15 4 aBE p 8],1⟩),
 (4,λp=>⟨(t0 (t0 (t2 (.pb 3 0 0) (nF 15) (aQ p 0)) (t0 (aQ p 1) Z)) (t2 (nI p 2) (t0 (aBJ p 3) Z) (t0 (nF 48000000) Z))),[(3,tP p 4)],[bM 15 4 aBE p 9,bM 48000000 3 tZ p 10],1⟩)] [(0,[λp=>(.exit 0,⟨(t0 (t0 (t0 (nF 15) Z) Z) (t0 Z vW)),[],[bM 15 4 aBE p 0],1⟩)]),
 (2,[λp=>(.exit 2,⟨(t0 (t0 (t2 (.pb 3 0 0) (nF 15) Z) Z) (t2 (nI p 0) (t0 (aBJ p 1) Z) vW)),[(3,tP p 2)],[bM 15 4 aBE p 7],1⟩)]),
 (4,[λp=>(.exit 4,⟨(t0 (t0 (t2 (.pb 3 0 0) (nF 15) Z) (t0 (aQ p 0) Z)) (t2 (nI p 1) (t0 (aBJ p 2) Z) vW)),[(3,tP p 3)],[bM 15 4 aBE p 8],1⟩)])]
theorem GJ:Z0 Ef GI:=mT
def Cm:FD:=fI 61 1 [] bU [] [] []
theorem Cn:Z0 YQ Cm:=mT
def IS:FD:=fI 65 1 [0] IN [(0,pU)] [(0,λp=>⟨(t0 (t0 Z (t0 (t0 (aQ p 0) Z) Z)) (t0 (t2 (bN 12) (t0 (nF 9000005) Z) Z) (t0 (t0 (aQ p 1) Z) Z))),[],[bM 12 4 aBE p 2,bM 9000005 3 tZ p 3],1⟩)] [(0,[λp=>(.exit 0,⟨(t0 Z (t0 (nF 12) Z)),[],[bM 12 4 aBE p 0],1⟩)])]
theorem IT:Z0 IK IS:=mT
def IU:FD:=fI 69 2 [0,2] RZ [(0,vN),(2,vO)] [(0,λp=>Ct (t0 (t0 Z (t2 (nI p 0) (t0 (aQ p 1) Z) Z)) (t0 (t0 (t0 (t1 (fL 40 CT p 2)) Z) Z) (t0 (t0 (aQ p 3) Z) Z)))),
 (2,λp=>Ct (t0 (t0 (t0 (t0 Z (t1 (fL 42 OJ p 0))) Z) (t2 (nI p 1) (t0 (aQ p 2) (aQ p 3)) Z)) (t0 (t0 (t0 (t1 (fL 40 CT p 4)) (aQ p 5)) Z) (t0 (t0 (aQ p 6) Z) Z))))] [(0,[λp=>(.exit 0,Ct (t0 (t0 Z (aQ p 0)) (t0 vW Z)))]),
 (2,[λp=>(.exit 2,Ct (t0 (t0 Z (t2 (nI p 0) (t0 (aQ p 1) Z) Z)) (t0 (t0 (t0 (t1 (fL 40 CT p 2)) Z) Z) (t0 (t0 (aQ p 3) Z) Z))))])]
theorem IV:Z0 Im IU:=mT
def GK:FD:=fI 75 2 [] eK [] [] []
theorem kT:Z0 uK GK:=mT
def iO:FD:=fI 79 2 [0] fP [(0,cN)] [(0,λp=>Ct (t2 (fL 4 aBE p 0) (t2 (nB p 1) (t0 (aQ p 2) Z) Z) (t0 (t0 (aQ p 3) Z) Z)))] [(0,[λp=>(.ret,Ct (t0 Z (t0 (aQ p 0) Z))),
 λp=>(.exit 0,Ct (t0 Z (t0 vW Z)))])]
theorem fR:Z0 mY iO:=mT
def DB:FD:=fI 83 1 [0,2,4] SA [(0,vP),(2,vQ),(4,vR)] [(0,λp=>⟨(t0 (t2 (.pb 1 0 0) (aQ p 0) (t0 (t0 (aQ p 1) Z) Z)) (t0 (t2 (bN 15) (t0 (aQ p 2) Z) Z) Z)),[(1,tP p 3)],[bM 15 30 [.sl true 3 tZ] p 8],1⟩),
 (2,λp=>⟨(t0 (t0 (t2 (nI p 0) (t2 (bN 30) (t0 (aQ p 1) Z) Z) Z) Z) (t0 (t2 (bN 15) (t0 (t0 (aQ p 2) Z) Z) Z) (nF 29000000))),[],[bM 15 30 [.sl true 3 tZ] p 3,bM 30 69 [.sl true 4 aBE] p 4,bM 29000000 4 aBE p 5],1⟩),
 (4,λp=>⟨(t0 (t0 (t2 (nI p 0) (t2 (bN 30) (t0 (aQ p 1) Z) Z) Z) (t0 (t2 (bN 48000000) (t0 Z (aQ p 2)) Z) Z)) (t0 (t2 (bN 15) (t2 (nI p 3) (t0 (aQ p 4) (aQ p 5)) Z) Z) (nF 29000000))),[],[bM 15 30 [.sl true 3 tZ] p 6,bM 30 69 [.sl true 4 aBE] p 7,bM 29000000 4 aBE p 8,bM 48000000 4 aBE p 9],1⟩)] [(0,[λp=>(.exit 0,⟨(t0 (t2 (.pb 1 0 0) (aQ p 0) Z) (t0 (nF 15) Z)),[(1,tP p 1)],[bM 15 30 [.sl true 3 tZ] p 6],1⟩)]),
 (2,[λp=>(.exit 2,⟨(t0 (t0 (t0 (nF 30) Z) Z) vW),[],[bM 30 69 [.sl true 4 aBE] p 0],1⟩)]),
 (4,[λp=>(.exit 4,⟨(t0 (t0 (t2 (nI p 0) (t2 (bN 30) (t0 (aQ p 1) Z) Z) Z) Z) (t0 (t2 (bN 15) (t0 (t0 (aQ p 2) Z) Z) Z) (nF 29000000))),[],[bM 15 30 [.sl true 3 tZ] p 3,bM 30 69 [.sl true 4 aBE] p 4,bM 29000000 4 aBE p 5],1⟩)])]
theorem DC:Z0 In DB:=mT
def AK:FD:=fI 90 2 [0] rA [(0,dT)] [(0,λp=>⟨(t2 (.pb 500 0 0) (t2 (nI p 0) (t0 Z (t0 (aQ p 1) Z)) (t0 (t0 (nF 18000000) Z) Z)) (t0 Z (t0 (t0 (aQ p 2) Z) Z))),[(500,⟨0,[.str (gS p 3),nB p 4,aCf p 5,nI p 6,fL 40 CT p 7,bN 332005,bN 332006,nB p 8],none⟩)],[bM 332005 3 tZ p 9,bM 332006 3 tZ p 10,bM 18000000 3 tZ p 11],1⟩)] [(0,[λp=>(.exit 0,⟨(t2 (.pb 500 0 0) (aQ p 0) Z),[(500,⟨0,[.str (gS p 1),nB p 2,aCf p 3,nI p 4,fL 40 CT p 5,bN 332005,bN 332006,nB p 6],none⟩)],[bM 332005 3 tZ p 7,bM 332006 3 tZ p 8],1⟩)])]
theorem rB:Z0 jP AK:=mT
def Is:FD:=fI 5 1 [] CV [] [] []
theorem SN:Z0 Hw Is:=mT
def It:FD:=fI 9 5 [] SB [] [] []
theorem Iu:Z0 Hy It:=mT
def oJ:FD:=fI 13 1 [0,2,4,6] kI [(0,lA),(2,lB),(4,lC),(6,lD)] [(0,λp=>⟨(t0 (t2 (.pb 1 0 0) (aQ p 0) Z) Z),[(1,tV p 1)],[],1⟩),
 (2,λp=>⟨(t0 aBK (t0 (aQ p 0) Z)),[(1,tV p 1)],[],1⟩),
 (4,λp=>⟨(t0 (t2 (.pb 1 0 0) Z (aQ p 0)) Z),[(1,tV p 1)],[],1⟩),
 (6,λp=>⟨(t0 (t2 (.pb 1 0 0) (t0 (aQ p 0) Z) Z) (t0 Z (aQ p 1))),[(1,tV p 2)],[],1⟩)] [(0,[λp=>(.ret,⟨(t0 aBK (aBJ p 0)),[(1,tV p 1)],[],1⟩),
 λp=>(.exit 0,⟨(t0 aBK vW),[(1,tV p 0)],[],1⟩)]),
 (2,[λp=>(.ret,⟨(t0 aBK (aBJ p 0)),[(1,tV p 1)],[],1⟩),
 λp=>(.exit 2,⟨(t0 aBK vW),[(1,tV p 0)],[],1⟩)]),
 (4,[λp=>(.ret,⟨(t0 aBK (aBJ p 0)),[(1,tV p 1)],[],1⟩),
 λp=>(.exit 4,⟨(t0 aBK vW),[(1,tV p 0)],[],1⟩)]),
 (6,[λp=>(.ret,Ct (t0 Z (t2 (nB p 0) Z (aQ p 1)))),
 λp=>(.exit 6,Ct (t0 Z (t0 Z (aQ p 0))))])]
theorem oK:Z0 II oJ:=mT
def IW:FD:=fI 17 1 [0,2] SC [(0,vS),(2,vT)] [(0,λp=>⟨(t0 (t2 (.pb 1 0 0) (nF 200003) Z) (t0 (aQ p 0) Z)),[(1,tP p 1)],[bM 200003 3 tZ p 6],1⟩),
 (2,λp=>⟨(t0 (t2 (.pb 1 0 0) (nF 200003) (aQ p 0)) (t0 (aQ p 1) Z)),[(1,tP p 2)],[bM 200003 3 tZ p 7],1⟩)] [(0,[λp=>(.exit 0,⟨(t0 (t0 (nF 200003) Z) vW),[],[bM 200003 3 tZ p 0],1⟩)]),
 (2,[λp=>(.exit 2,⟨(t0 (t2 (.pb 1 0 0) (nF 200003) Z) (t0 (aQ p 0) Z)),[(1,tP p 1)],[bM 200003 3 tZ p 6],1⟩)])]
theorem IY:Z0 LS IW:=mT
def pB:FD:=fI 21 2 [0,2] YZ [(0,pV),(2,pW)] [(0,λp=>⟨(t0 (aQ p 0) (t2 (.pb 2 0 0) Z (aQ p 1))),[(2,tP p 2)],[],1⟩),
 (2,λp=>⟨(t0 (t2 (nI p 0) (t0 (aQ p 1) Z) Z) (t2 (.pb 2 0 0) Z (aQ p 2))),[(2,tP p 3)],[],1⟩)] [(0,[λp=>(.ret,Ct (t0 (t0 Z (aQ p 0)) (t0 (aQ p 1) Z))),
 λp=>(.exit 0,Ct (t0 (t0 Z vW) (t0 vW Z)))]),
 (2,[λp=>(.ret,⟨(t0 (t2 (nI p 0) Z (aQ p 1)) (t2 (.pb 2 0 0) (aQ p 2) (aQ p 3))),[(2,tP p 4)],[],1⟩),
 λp=>(.exit 2,⟨(t0 (t2 (nI p 0) Z vW) (t2 (.pb 2 0 0) vW (aQ p 1))),[(2,tP p 2)],[],1⟩)])]
theorem BL:Z0 VQ pB:=mT
def Co:FD:=fI 25 1 [0,2,4,6] MF [(0,mI),(2,mJ),(4,mK),(6,mL)] [(0,λp=>⟨(t0 (t2 (.pb 1 0 0) (aQ p 0) Z) Z),[(1,tV p 1)],[],1⟩),
 (2,λp=>⟨(t0 aBK (t0 (aQ p 0) Z)),[(1,tV p 1)],[],1⟩),
 (4,λp=>⟨(t0 aBK (t0 Z (aQ p 0))),[(1,tV p 1)],[],1⟩),
 (6,λp=>⟨(t0 aBK (t0 (t0 (aQ p 0) Z) Z)),[(1,tV p 1)],[],1⟩)] [(0,[λp=>(.ret,⟨(t0 aBK (aBJ p 0)),[(1,tV p 1)],[],1⟩),
 λp=>(.exit 0,⟨(t0 aBK vW),[(1,tV p 0)],[],1⟩)]),
 (2,[λp=>(.ret,⟨(t0 aBK (aBJ p 0)),[(1,tV p 1)],[],1⟩),
 λp=>(.exit 2,⟨(t0 aBK vW),[(1,tV p 0)],[],1⟩)]),
 (4,[λp=>(.ret,⟨(t0 aBK (aBJ p 0)),[(1,tV p 1)],[],1⟩),
 λp=>(.exit 4,⟨(t0 aBK vW),[(1,tV p 0)],[],1⟩)]),
 (6,[λp=>(.ret,Ct (t0 Z (aBJ p 0))),
 λp=>(.exit 6,Ct (t0 Z vW))])]
theorem tN:Z0 YN Co:=mT
def sS:FD:=fI 29 1 [0,2,4,6,8] SD [(0,vU),(2,vV),(4,vX),(6,vY),(8,vZ)] [(0,λp=>⟨(t0 (t2 (.pb 1 0 0) (aQ p 0) Z) Z),[(1,tP p 1)],[],1⟩),
 (2,λp=>⟨(t0 (t2 (.pb 1 0 0) (aQ p 0) (aQ p 1)) (t0 (t1 (fL 42 OJ p 2)) Z)),[(1,tP p 3)],[],1⟩),
 (4,λp=>⟨(t0 (t2 (.pb 1 0 0) (t2 (nI p 0) (aQ p 1) Z) Z) (t0 Z (t1 (.pb 6 0 0)))),[(1,tP p 2),(6,aCw p 7)],[],1⟩),
 (6,λp=>⟨(t0 (t2 (.pb 1 0 0) Z (t0 (nF 116000000) Z)) (t0 (t0 (nF 114000000) Z) (t0 (aQ p 0) Z))),[(1,tP p 1)],[bM 114000000 4 aBE p 6,bM 116000000 30 [.sl true 3 tZ] p 7],1⟩),
 (8,λp=>⟨(t0 (t2 (.pb 1 0 0) (t0 Z (t1 (fL 42 OJ p 0))) (t0 (nF 116000000) Z)) (t0 (t0 (nF 114000000) (aQ p 1)) (t0 (aQ p 2) Z))),[(1,tP p 3)],[bM 114000000 4 aBE p 8,bM 116000000 30 [.sl true 3 tZ] p 9],1⟩)] [(0,[λp=>(.ret,⟨(t0 aBK (aBJ p 0)),[(1,tP p 1)],[],1⟩),
 λp=>(.exit 0,⟨(t0 aBK vW),[(1,tP p 0)],[],1⟩)]),
 (2,[λp=>(.ret,⟨(t0 (t2 (.pb 1 0 0) (aQ p 0) Z) (t2 (nB p 1) (t1 (fL 42 OJ p 2)) Z)),[(1,tP p 3)],[],1⟩),
 λp=>(.exit 2,⟨(t0 (t2 (.pb 1 0 0) (aQ p 0) Z) (t0 (t1 (fL 42 OJ p 1)) Z)),[(1,tP p 2)],[],1⟩)]),
 (4,[λp=>(.ret,⟨(t0 (t2 (.pb 1 0 0) (aQ p 0) Z) (t2 (nB p 1) Z (t1 (.pb 6 0 0)))),[(1,tP p 2),(6,aCw p 7)],[],1⟩),
 λp=>(.exit 4,⟨(t0 (t2 (.pb 1 0 0) (aQ p 0) Z) (t0 Z (t1 (.pb 6 0 0)))),[(1,tP p 1),(6,aCw p 6)],[],1⟩)]),
 (6,[λp=>(.ret,Ct (t0 Z (aBJ p 0))),
 λp=>(.exit 6,Ct (t0 Z vW))]),
 (8,[λp=>(.ret,⟨(t0 (t2 (.pb 1 0 0) Z (t0 (nF 116000000) Z)) (t2 (nB p 0) (t0 (nF 114000000) Z) (t0 (aQ p 1) Z))),[(1,tP p 2)],[bM 114000000 4 aBE p 7,bM 116000000 30 [.sl true 3 tZ] p 8],1⟩),
 λp=>(.exit 8,⟨(t0 (t2 (.pb 1 0 0) Z (t0 (nF 116000000) Z)) (t0 (t0 (nF 114000000) Z) (t0 (aQ p 0) Z))),[(1,tP p 1)],[bM 114000000 4 aBE p 6,bM 116000000 30 [.sl true 3 tZ] p 7],1⟩)])]
theorem sT:Z0 Ic sS:=mT
def Cp:FD:=fI 33 2 [] MG [] [] []
theorem Cq:Z0 YO Cp:=mT
def Nx:FD:=fI 38 1 [] k9 [] [] []
theorem Ny:Z0 AV Nx:=mT
def xZ:FD:=fI 42 1 [0,2,4] SE [(0,wA),(2,wC),(4,wD)] [(0,λp=>⟨(t0 (t2 (.pb 1 0 0) (nF 11) Z) (t0 (aQ p 0) Z)),[(1,tP p 1)],[bM 11 97 aBu p 6],1⟩),
 (2,λp=>⟨(t0 (t2 (.pb 1 0 0) (nF 11) (aQ p 0)) (t0 Z (aQ p 1))),[(1,tP p 2)],[bM 11 97 aBu p 7],1⟩),
 (4,λp=>⟨(t0 (t2 (.pb 1 0 0) (t2 (bN 11) (aQ p 0) Z) (aQ p 1)) (t0 Z (aQ p 2))),[(1,tP p 3)],[bM 11 97 aBu p 8],1⟩)] [(0,[λp=>(.exit 0,⟨(t0 (t2 (.pb 1 0 0) (nF 11) Z) vW),[(1,tP p 0)],[bM 11 97 aBu p 5],1⟩)]),
 (2,[λp=>(.exit 2,⟨(t0 (t0 (nF 11) Z) vW),[],[bM 11 97 aBu p 0],1⟩)]),
 (4,[λp=>(.exit 4,⟨(t0 (t2 (.pb 1 0 0) (nF 11) (aQ p 0)) (t0 Z (aQ p 1))),[(1,tP p 2)],[bM 11 97 aBu p 7],1⟩)])]
theorem DD:Z0 Ig xZ:=mT
def nM:FD:=fI 46 1 [0,2,4,6,8,10] MH [(0,fY),(2,mM),(4,dM),(6,fZ),(8,mN),(10,lE)] [(0,λp=>⟨(t0 (t2 (.pb 1 0 0) Z (t0 (t0 (aQ p 0) Z) Z)) (t0 (t0 (t0 (t1 (fL 75 Xd p 1)) Z) Z) (t0 (t0 (aQ p 2) Z) Z))),[(1,tV p 3)],[],1⟩),
 (2,λp=>⟨(t0 (t2 (.pb 1 0 0) (t0 (t0 Z (t1 (aCf p 0))) Z) (t0 (t0 (aQ p 1) (aQ p 2)) Z)) (t0 (t2 (.pb 4 0 0) (t0 (t1 (fL 75 Xd p 3)) (aQ p 4)) Z) (t0 (t0 (aQ p 5) Z) Z))),[(1,tV p 6),(4,⟨0,[.str (gS p 10),aCf p 11,nI p 12],none⟩)],[],1⟩),
 (4,λp=>Ct (t0 (t0 Z (t0 Z (t0 Z (t0 (aQ p 0) Z)))) (t0 (t0 Z (t0 Z (t0 (t1 (fL 33 JT p 1)) Z))) (t0 Z (t0 Z (t0 (aQ p 2) Z)))))),
 (6,λp=>⟨(t0 (t0 (t0 (t0 Z (t0 (t0 (aQ p 0) Z) Z)) Z) (t0 Z (t0 (t0 (t0 (t1 (aCf p 1)) Z) Z) (t0 (aQ p 2) Z)))) (t0 (t0 (t1 (.pb 8 0 0)) (t0 Z (t0 (t1 (fL 33 JT p 3)) Z))) (t0 Z (t0 (t0 (t0 (aQ p 4) Z) Z) (t0 (aQ p 5) Z))))),[(8,tP p 6)],[],1⟩),
 (8,λp=>Ct (t0 (t0 Z (t0 Z (t0 Z (t0 (aQ p 0) (t0 (aQ p 1) Z))))) (t0 (t0 Z (t0 Z (t0 (t1 (fL 33 JT p 2)) (t0 (t1 (fL 40 CT p 3)) Z)))) (t0 Z (t0 Z (t0 (aQ p 4) (t0 (aQ p 5) Z))))))),
 (10,λp=>Ct (t0 (t0 (t0 Z (t0 (t0 (t0 Z (t1 (fL 42 OJ p 0))) Z) Z)) (t0 Z (t0 (t0 (t0 Z (aQ p 1)) Z) (t0 (aQ p 2) (t0 (aQ p 3) Z))))) (t0 (t0 Z (t0 (t0 (t0 Z (aQ p 4)) Z) (t0 (t1 (fL 33 JT p 5)) (t0 (t1 (fL 40 CT p 6)) Z)))) (t0 Z (t0 Z (t0 (aQ p 7) (t0 (aQ p 8) Z)))))))] [(0,[λp=>(.ret,⟨(t0 aBK (aBJ p 0)),[(1,tV p 1)],[],1⟩),
 λp=>(.exit 0,⟨(t0 aBK vW),[(1,tV p 0)],[],1⟩)]),
 (2,[λp=>(.ret,⟨(t0 (t2 (.pb 1 0 0) Z (t0 (t0 (aQ p 0) Z) Z)) (t2 (nB p 1) (t2 (.pb 4 0 0) (t0 (t1 (fL 75 Xd p 2)) Z) Z) (t0 (t0 (aQ p 3) Z) Z))),[(1,tV p 4),(4,⟨0,[.str (gS p 8),aCf p 9,nI p 10],none⟩)],[],1⟩),
 λp=>(.exit 2,⟨(t0 (t2 (.pb 1 0 0) Z (t0 (t0 (aQ p 0) Z) Z)) (t0 (t2 (.pb 4 0 0) (t0 (t1 (fL 75 Xd p 1)) Z) Z) (t0 (t0 (aQ p 2) Z) Z))),[(1,tV p 3),(4,⟨0,[.str (gS p 7),aCf p 8,nI p 9],none⟩)],[],1⟩)]),
 (4,[λp=>(.ret,Ct (t0 Z (aBJ p 0))),
 λp=>(.exit 4,Ct (t0 Z vW))]),
 (6,[λp=>(.ret,⟨(t0 (t0 Z (t0 Z (t0 Z (t0 (aQ p 0) Z)))) (t2 (nB p 1) (t0 (t1 (.pb 8 0 0)) (t0 Z (t0 (t1 (fL 33 JT p 2)) Z))) (t0 Z (t0 Z (t0 (aQ p 3) Z))))),[(8,tP p 4)],[],1⟩),
 λp=>(.exit 6,⟨(t0 (t0 Z (t0 Z (t0 Z (t0 (aQ p 0) Z)))) (t0 (t0 (t1 (.pb 8 0 0)) (t0 Z (t0 (t1 (fL 33 JT p 1)) Z))) (t0 Z (t0 Z (t0 (aQ p 2) Z))))),[(8,tP p 3)],[],1⟩)]),
 (8,[λp=>(.ret,Ct (t0 (t0 Z (t0 Z (t0 Z (t0 (aQ p 0) Z)))) (t2 (nB p 1) (t0 Z (t0 Z (t0 (t1 (fL 33 JT p 2)) Z))) (t0 Z (t0 Z (t0 (aQ p 3) Z)))))),
 λp=>(.exit 8,Ct (t0 (t0 Z (t0 Z (t0 Z (t0 (aQ p 0) Z)))) (t0 (t0 Z (t0 Z (t0 (t1 (fL 33 JT p 1)) Z))) (t0 Z (t0 Z (t0 (aQ p 2) Z))))))]),
 (10,[λp=>(.ret,Ct (t0 (t0 Z (t0 Z (t0 Z (t0 (aQ p 0) (t0 (aQ p 1) Z))))) (t2 (nB p 2) (t0 Z (t0 Z (t0 (t1 (fL 33 JT p 3)) (t0 (t1 (fL 40 CT p 4)) Z)))) (t0 Z (t0 Z (t0 (aQ p 5) (t0 (aQ p 6) Z))))))),
 λp=>(.exit 10,Ct (t0 (t0 Z (t0 Z (t0 Z (t0 (aQ p 0) (t0 (aQ p 1) Z))))) (t0 (t0 Z (t0 Z (t0 (t1 (fL 33 JT p 2)) (t0 (t1 (fL 40 CT p 3)) Z)))) (t0 Z (t0 Z (t0 (aQ p 4) (t0 (aQ p 5) Z)))))))])]
theorem nN:Z0 YP nM:=mT
def qO:FD:=fI 50 1 [0,2,4,6,8,10,12] ZA [(0,zL),(2,zM),(4,zN),(6,zO),(8,zP),(10,wE),(12,wF)] [(0,λp=>⟨(t0 (t2 (.pb 1 0 0) (aQ p 0) (t0 Z (t0 Z (aQ p 1)))) (t0 (t2 (bN 200004) Z (t0 Z (t1 (fL 40 CT p 2)))) (t0 Z (t0 Z (aQ p 3))))),[(1,tP p 4)],[bM 200004 3 tZ p 9],1⟩),
 (2,λp=>⟨(t0 (t2 (.pb 1 0 0) (aQ p 0) (t2 (nI p 1) Z (t0 (t0 (aQ p 2) Z) (aQ p 3)))) (t0 (t2 (bN 200004) Z (t0 (t0 (t1 (fL 42 OJ p 4)) Z) (t1 (fL 40 CT p 5)))) (t0 Z (t0 (t0 (aQ p 6) Z) (aQ p 7))))),[(1,tP p 8)],[bM 200004 3 tZ p 13],1⟩),
 (4,λp=>⟨(t0 (t2 (.pb 1 0 0) (aQ p 0) (t0 (t2 (bN 60) (t0 (t0 (aQ p 1) Z) Z) Z) Z)) (t0 (t2 (bN 200004) (t0 (t0 (t0 (aQ p 2) Z) Z) Z) Z) (t0 (nF 63000000) Z))),[(1,tP p 3)],[bM 60 69 [.sl true 4 aBE] p 8,bM 200004 3 tZ p 9,bM 63000000 3 tZ p 10],1⟩),
 (6,λp=>⟨(t0 (t2 (.pb 1 0 0) (t2 (nI p 0) Z (aQ p 1)) (t0 (t2 (bN 60) (t0 (t0 (aQ p 2) Z) Z) Z) Z)) (t0 (t2 (bN 200004) (t0 (t0 (t0 (aQ p 3) Z) Z) Z) (aQ p 4)) (t0 (nF 63000000) Z))),[(1,tP p 5)],[bM 60 69 [.sl true 4 aBE] p 10,bM 200004 3 tZ p 11,bM 63000000 3 tZ p 12],1⟩),
 (8,λp=>⟨(t0 (t2 (.pb 1 0 0) (t2 (nI p 0) Z (t0 Z (t0 Z (t0 (aQ p 1) Z)))) (t0 (nF 60) Z)) (t0 (t2 (bN 200004) Z (t0 Z (t0 Z (t0 (aQ p 2) Z)))) (t0 (t0 Z (t0 Z (t0 (t1 (fL 40 CT p 3)) Z))) Z))),[(1,tP p 4)],[bM 60 69 [.sl true 4 aBE] p 9,bM 200004 3 tZ p 10],1⟩),
 (10,λp=>⟨(t0 (t2 (.pb 1 0 0) (t2 (nI p 0) (t0 (aQ p 1) Z) (t0 Z (t0 Z (t0 (aQ p 2) Z)))) (t0 (nF 60) (t2 (nI p 3) Z (t0 (t0 Z (aQ p 4)) Z)))) (t0 (t2 (bN 200004) Z (t0 Z (t0 (t0 Z (t1 (fL 42 OJ p 5))) (t0 (aQ p 6) Z)))) (t0 (t0 Z (t0 Z (t0 (t1 (fL 40 CT p 7)) Z))) (t0 Z (t0 (t0 Z (aQ p 8)) Z))))),[(1,tP p 9)],[bM 60 69 [.sl true 4 aBE] p 14,bM 200004 3 tZ p 15],1⟩),
 (12,λp=>⟨(t0 (t2 (.pb 1 0 0) (t2 (nI p 0) (t0 (aQ p 1) Z) (t0 (t0 Z (t0 Z (t1 (aCf p 2)))) (t0 Z (t0 (aQ p 3) Z)))) (t0 (t2 (bN 60) (t1 (.pb 17 0 0)) Z) (t2 (nI p 4) (t0 Z (t0 Z (aQ p 5))) (t0 (t0 Z (aQ p 6)) Z)))) (t0 (t2 (bN 200004) Z (t0 (t0 Z (t0 Z (aQ p 7))) (t0 (t0 Z (t1 (fL 42 OJ p 8))) (t0 (aQ p 9) Z)))) (t0 (t0 Z (t0 Z (t0 (t1 (fL 40 CT p 10)) Z))) (t0 Z (t0 (t0 Z (aQ p 11)) Z))))),[(1,tP p 12),(17,aCw p 17)],[bM 60 69 [.sl true 4 aBE] p 24,bM 200004 3 tZ p 25],1⟩)] [(0,[λp=>(.ret,⟨(t0 (t2 (.pb 1 0 0) (aQ p 0) Z) (t2 (nB p 1) (nF 200004) Z)),[(1,tP p 2)],[bM 200004 3 tZ p 7],1⟩),
 λp=>(.exit 0,⟨(t0 (t2 (.pb 1 0 0) (aQ p 0) Z) (t0 (nF 200004) Z)),[(1,tP p 1)],[bM 200004 3 tZ p 6],1⟩)]),
 (2,[λp=>(.ret,⟨(t0 (t2 (.pb 1 0 0) (aQ p 0) (t0 Z (t0 Z (aQ p 1)))) (t2 (nB p 2) (t2 (bN 200004) Z (t0 Z (t1 (fL 40 CT p 3)))) (t0 Z (t0 Z (aQ p 4))))),[(1,tP p 5)],[bM 200004 3 tZ p 10],1⟩),
 λp=>(.exit 2,⟨(t0 (t2 (.pb 1 0 0) (aQ p 0) (t0 Z (t0 Z (aQ p 1)))) (t0 (t2 (bN 200004) Z (t0 Z (t1 (fL 40 CT p 2)))) (t0 Z (t0 Z (aQ p 3))))),[(1,tP p 4)],[bM 200004 3 tZ p 9],1⟩)]),
 (4,[λp=>(.exit 4,⟨(t0 (t2 (.pb 1 0 0) (aQ p 0) (t0 (nF 60) Z)) (t0 (nF 200004) Z)),[(1,tP p 1)],[bM 60 69 [.sl true 4 aBE] p 6,bM 200004 3 tZ p 7],1⟩)]),
 (6,[λp=>(.exit 6,⟨(t0 (t2 (.pb 1 0 0) (aQ p 0) (t0 (t2 (bN 60) (t0 (t0 (aQ p 1) Z) Z) Z) Z)) (t0 (t2 (bN 200004) (t0 (t0 (t0 (aQ p 2) Z) Z) Z) Z) (t0 (nF 63000000) Z))),[(1,tP p 3)],[bM 60 69 [.sl true 4 aBE] p 8,bM 200004 3 tZ p 9,bM 63000000 3 tZ p 10],1⟩)]),
 (8,[λp=>(.ret,Ct (t0 Z (aBJ p 0))),
 λp=>(.exit 8,Ct (t0 Z vW))]),
 (10,[λp=>(.ret,⟨(t0 (t2 (.pb 1 0 0) (t2 (nI p 0) Z (t0 Z (t0 Z (t0 (aQ p 1) Z)))) (t0 (nF 60) Z)) (t2 (nB p 2) (t2 (bN 200004) Z (t0 Z (t0 Z (t0 (aQ p 3) Z)))) (t0 (t0 Z (t0 Z (t0 (t1 (fL 40 CT p 4)) Z))) Z))),[(1,tP p 5)],[bM 60 69 [.sl true 4 aBE] p 10,bM 200004 3 tZ p 11],1⟩),
 λp=>(.exit 10,⟨(t0 (t2 (.pb 1 0 0) (t2 (nI p 0) Z (t0 Z (t0 Z (t0 (aQ p 1) Z)))) (t0 (nF 60) Z)) (t0 (t2 (bN 200004) Z (t0 Z (t0 Z (t0 (aQ p 2) Z)))) (t0 (t0 Z (t0 Z (t0 (t1 (fL 40 CT p 3)) Z))) Z))),[(1,tP p 4)],[bM 60 69 [.sl true 4 aBE] p 9,bM 200004 3 tZ p 10],1⟩)]),
 (12,[λp=>(.ret,⟨(t0 (t2 (.pb 1 0 0) (t2 (nI p 0) (t0 (aQ p 1) Z) (t0 Z (t0 Z (t0 (aQ p 2) Z)))) (t0 (t2 (bN 60) (t1 (.pb 17 0 0)) Z) (t2 (nI p 3) Z (t0 (t0 Z (aQ p 4)) Z)))) (t2 (nB p 5) (t2 (bN 200004) Z (t0 Z (t0 (t0 Z (t1 (fL 42 OJ p 6))) (t0 (aQ p 7) Z)))) (t0 (t0 Z (t0 Z (t0 (t1 (fL 40 CT p 8)) Z))) (t0 Z (t0 (t0 Z (aQ p 9)) Z))))),[(1,tP p 10),(17,aCw p 15)],[bM 60 69 [.sl true 4 aBE] p 22,bM 200004 3 tZ p 23],1⟩),
 λp=>(.exit 12,⟨(t0 (t2 (.pb 1 0 0) (t2 (nI p 0) (t0 (aQ p 1) Z) (t0 Z (t0 Z (t0 (aQ p 2) Z)))) (t0 (t2 (bN 60) (t1 (.pb 17 0 0)) Z) (t2 (nI p 3) Z (t0 (t0 Z (aQ p 4)) Z)))) (t0 (t2 (bN 200004) Z (t0 Z (t0 (t0 Z (t1 (fL 42 OJ p 5))) (t0 (aQ p 6) Z)))) (t0 (t0 Z (t0 Z (t0 (t1 (fL 40 CT p 7)) Z))) (t0 Z (t0 (t0 Z (aQ p 8)) Z))))),[(1,tP p 9),(17,aCw p 14)],[bM 60 69 [.sl true 4 aBE] p 21,bM 200004 3 tZ p 22],1⟩)])]
theorem qP:Z0 Sj qO:=mT
def wT:FD:=fI 54 1 [0] wG [(0,kC)] [(0,λp=>⟨(t2 (.pb 500 0 0) (t0 Z (t0 (t0 (aQ p 0) Z) Z)) (t0 (t0 (t0 (aQ p 1) Z) Z) Z)),[(500,⟨0,[bN 332000,bN 332001,bN 332002,bN 332003],none⟩)],[bM 332000 3 tZ p 2,bM 332001 50 [.sl true 52 aBu] p 3,bM 332002 49 aBu p 4,bM 332003 42 OJ p 5],1⟩)] [(0,[λp=>(.exit 0,⟨(t1 (.pb 500 0 0)),[(500,⟨0,[bN 332000,bN 332001,bN 332002,bN 332003],none⟩)],[bM 332000 3 tZ p 0,bM 332001 50 [.sl true 52 aBu] p 1,bM 332002 49 aBu p 2,bM 332003 42 OJ p 3],1⟩)])]
theorem wU:Z0 AF wT:=mT
def ZQ:FD:=fI 58 2 [0] ZB [(0,zQ)] [(0,λp=>⟨(t0 (t0 (t0 (nF 200007) Z) (t1 (.pb 5 0 0))) (t2 (.pb 2 0 0) (t0 (aQ p 0) Z) Z)),[(2,tP p 1),(5,aCw p 6)],[bM 200007 3 tZ p 13],1⟩)] [(0,[λp=>(.exit 0,⟨(t0 (t0 (t0 (nF 200007) Z) Z) (t0 vW Z)),[],[bM 200007 3 tZ p 0],1⟩)])]
theorem ZR:Z0 Eg ZQ:=mT
def ZS:FD:=fI 62 1 [0] ZC [(0,zR)] [(0,λp=>Ct (t2 (.str (gS p 0)) (t0 (t0 (t0 (aQ p 1) Z) Z) Z) (t0 (t0 (t0 (aQ p 2) Z) Z) Z)))] [(0,[λp=>(.ret,Ct (t0 Z (aBJ p 0))),
 λp=>(.exit 0,Ct (t0 Z vW))])]
theorem ZT:Z0 Sl ZS:=mT
def ES:FD:=fI 66 1 [0,2] MK [(0,rM),(2,rN)] [(0,λp=>⟨(t0 (t2 (.pb 1 0 0) (nF 10) (t0 Z (aQ p 0))) (t0 Z (t0 Z (aQ p 1)))),[(1,tP p 2)],[bM 10 30 [.sl true 3 tZ] p 7],1⟩),
 (2,λp=>⟨(t0 (t2 (.pb 1 0 0) (t2 (bN 10) Z (t0 (nF 20000000) Z)) (t0 Z (t2 (nI p 0) (aQ p 1) Z))) (t0 (t2 (nI p 2) Z (t0 (aQ p 3) Z)) (t0 Z (aQ p 4)))),[(1,tP p 5)],[bM 10 30 [.sl true 3 tZ] p 10,bM 20000000 3 tZ p 11],1⟩)] [(0,[λp=>(.exit 0,⟨(t0 (t0 (nF 10) Z) vW),[],[bM 10 30 [.sl true 3 tZ] p 0],1⟩)]),
 (2,[λp=>(.exit 2,⟨(t0 (t2 (.pb 1 0 0) (nF 10) (t0 Z (aQ p 0))) (t0 Z (t0 Z (aQ p 1)))),[(1,tP p 2)],[bM 10 30 [.sl true 3 tZ] p 7],1⟩)])]
theorem ET:Z0 YR ES:=mT
def VX:FD:=fI 70 4 [] VU [] [] []
theorem VY:Z0 IL VX:=mT
def Nz:FD:=fI 76 2 [] ZD [] [] []
theorem Oa:Z0 Sm Nz:=mT
def QC:FD:=fI 80 1 [] FN [] [] []
theorem QD:Z0 LV QC:=mT
def Iv:FD:=fI 84 3 [0] Io [(0,CW)] [(0,λp=>Ct (t2 (aCf p 0) (t0 (t0 Z (aQ p 1)) (t0 (t1 (aCf p 2)) Z)) (t2 (nI p 3) Z (t0 (aQ p 4) Z))))] [(0,[λp=>(.ret,Ct (t0 Z (t0 Z (aBJ p 0)))),
 λp=>(.exit 0,Ct (t0 Z (t0 Z vW)))])]
theorem Iw:Z0 YS Iv:=mT
def pX:FD:=fI 91 2 [] lF [] [] []
theorem pY:Z0 mH pX:=mT
def kQ:FD:=fI 6 1 [0,2,4,6,9] MO [(0,rO),(2,rP),(4,rQ),(6,iY),(9,rR)] [(0,λp=>⟨(t0 (t2 (.pb 1 0 0) (nF 14) Z) (t0 (aQ p 0) Z)),[(1,tP p 1)],[bM 14 50 [.sl true 52 aBu] p 6],1⟩),
 (2,λp=>⟨(t0 (t2 (.pb 1 0 0) (nF 14) (aBJ p 0)) Z),[(1,tP p 1)],[bM 14 50 [.sl true 52 aBu] p 6],1⟩),
 (4,λp=>⟨(t0 (t2 (.pb 1 0 0) (nF 14) (aBJ p 0)) (t0 Z (aQ p 1))),[(1,tP p 2)],[bM 14 50 [.sl true 52 aBu] p 7],1⟩),
 (6,λp=>⟨(t0 (t2 (.pb 1 0 0) (t2 (bN 14) (aQ p 0) Z) (aBJ p 1)) (t0 Z (aQ p 2))),[(1,tP p 3)],[bM 14 50 [.sl true 52 aBu] p 8],1⟩),
 (9,λp=>⟨(t0 (t2 (.pb 1 0 0) (t2 (bN 14) (aQ p 0) Z) (t2 (nB p 1) (aQ p 2) Z)) (t0 (t0 (t1 (.pb 8 0 0)) Z) (t2 (nI p 3) (aQ p 4) Z))),[(1,tP p 5),(8,aCw p 10)],[bM 14 50 [.sl true 52 aBu] p 17],1⟩)] [(0,[λp=>(.exit 0,⟨(t0 (t2 (.pb 1 0 0) (nF 14) Z) vW),[(1,tP p 0)],[bM 14 50 [.sl true 52 aBu] p 5],1⟩)]),
 (2,[λp=>(.exit 2,⟨(t0 (t0 (nF 14) Z) vW),[],[bM 14 50 [.sl true 52 aBu] p 0],1⟩)]),
 (4,[λp=>(.exit 4,⟨(t0 (t2 (.pb 1 0 0) (nF 14) (aBJ p 0)) vW),[(1,tP p 1)],[bM 14 50 [.sl true 52 aBu] p 6],1⟩)]),
 (6,[λp=>(.exit 6,⟨(t0 (t2 (.pb 1 0 0) (nF 14) (aBJ p 0)) (t0 Z (aQ p 1))),[(1,tP p 2)],[bM 14 50 [.sl true 52 aBu] p 7],1⟩)]),
 (9,[λp=>(.exit 9,⟨(t0 (t2 (.pb 1 0 0) (t2 (bN 14) (aQ p 0) Z) (t2 (nB p 1) (aQ p 2) Z)) (t0 (t0 (t1 (.pb 8 0 0)) Z) (aQ p 3))),[(1,tP p 4),(8,aCw p 9)],[bM 14 50 [.sl true 52 aBu] p 16],1⟩)])]
theorem pZ:Z0 YM kQ:=mT
def Ix:FD:=fI 10 2 [] H4 [] [] []
theorem H5:Z0 Xc Ix:=mT
def DE:FD:=fI 14 1 [0,2,4] SF [(0,wH),(2,wI),(4,wJ)] [(0,λp=>⟨(t0 (t2 (.pb 1 0 0) (aQ p 0) Z) Z),[(1,tV p 1)],[],1⟩),
 (2,λp=>⟨(t0 aBK (t0 (aQ p 0) Z)),[(1,tV p 1)],[],1⟩),
 (4,λp=>⟨(t0 (t2 (.pb 1 0 0) Z (aQ p 0)) Z),[(1,tV p 1)],[],1⟩)] [(0,[λp=>(.ret,⟨(t0 aBK (aQ p 0)),[(1,tV p 1)],[],1⟩),
 λp=>(.exit 0,⟨(t0 aBK vW),[(1,tV p 0)],[],1⟩)]),
 (2,[λp=>(.ret,⟨(t0 aBK (aQ p 0)),[(1,tV p 1)],[],1⟩),
 λp=>(.exit 2,⟨(t0 aBK vW),[(1,tV p 0)],[],1⟩)]),
 (4,[λp=>(.ret,Ct (t0 Z (aQ p 0))),
 λp=>(.exit 4,Ct (t0 Z vW))])]
theorem DF:Z0 Hz DE:=mT
def ZU:FD:=fI 18 2 [0] ZE [(0,jH)] [(0,λp=>⟨(t0 (t2 (nI p 0) Z (aQ p 1)) (t2 (.pb 2 0 0) (t1 (.pb 4 0 0)) Z)),[(2,tP p 2),(4,⟨0,[nI p 7,nI p 8],none⟩)],[],1⟩)] [(0,[λp=>(.ret,⟨(t0 Z (t0 (t1 (.pb 4 0 0)) Z)),[(4,⟨0,[nI p 0,nI p 1],none⟩)],[],1⟩)])]
theorem yA:Z0 Sc ZU:=mT
def tR:FD:=fI 22 1 [] gV [] [] []
theorem tT:Z0 bH tR:=mT
def qA:FD:=fI 26 1 [0,2,4,6,8,10] SG [(0,kJ),(2,oB),(4,iF),(6,oD),(8,oG),(10,mO)] [(0,λp=>⟨(t0 (t2 (.pb 1 0 0) (aQ p 0) Z) Z),[(1,tV p 1)],[],1⟩),
 (2,λp=>⟨(t0 (t2 (.pb 1 0 0) (aQ p 0) (aQ p 1)) (t0 (t1 (.pb 4 0 0)) Z)),[(1,tV p 2),(4,⟨0,[.str (gS p 6),aCf p 7,nI p 8],none⟩)],[],1⟩),
 (4,λp=>⟨(t0 aBK (t0 Z (aQ p 0))),[(1,tV p 1)],[],1⟩),
 (6,λp=>⟨(t0 (t2 (.pb 1 0 0) (t0 (t1 (.pb 7 0 0)) Z) Z) (t0 (t0 (aQ p 0) Z) (aQ p 1))),[(1,tV p 2),(7,tP p 6)],[],1⟩),
 (8,λp=>⟨(t0 (t2 (.pb 1 0 0) (t0 (t1 (.pb 7 0 0)) Z) (t0 (aQ p 0) Z)) (t0 Z (aQ p 1))),[(1,tV p 2),(7,tP p 6)],[],1⟩),
 (10,λp=>⟨(t0 (t2 (.pb 1 0 0) (t0 (t1 (.pb 7 0 0)) Z) (t0 (aQ p 0) Z)) (t0 Z (t2 (nI p 1) (aQ p 2) Z))),[(1,tV p 3),(7,tP p 7)],[],1⟩)] [(0,[λp=>(.ret,⟨(t0 aBK (aBJ p 0)),[(1,tV p 1)],[],1⟩),
 λp=>(.exit 0,⟨(t0 aBK vW),[(1,tV p 0)],[],1⟩)]),
 (2,[λp=>(.ret,⟨(t0 (t2 (.pb 1 0 0) (aQ p 0) Z) (aBJ p 1)),[(1,tV p 2)],[],1⟩),
 λp=>(.exit 2,⟨(t0 (t2 (.pb 1 0 0) (aQ p 0) Z) vW),[(1,tV p 1)],[],1⟩)]),
 (4,[λp=>(.ret,Ct (t0 Z (aBJ p 0))),
 λp=>(.exit 4,Ct (t0 Z vW))]),
 (6,[λp=>(.ret,⟨(t0 (t2 (.pb 1 0 0) (t0 (t1 (.pb 7 0 0)) Z) Z) (t2 (nB p 0) Z (aQ p 1))),[(1,tV p 2),(7,tP p 6)],[],1⟩),
 λp=>(.exit 6,⟨(t0 (t2 (.pb 1 0 0) (t0 (t1 (.pb 7 0 0)) Z) Z) (t0 Z (aQ p 0))),[(1,tV p 1),(7,tP p 5)],[],1⟩)]),
 (8,[λp=>(.ret,⟨(t0 aBK (t2 (nB p 0) Z (aQ p 1))),[(1,tV p 2)],[],1⟩),
 λp=>(.exit 8,⟨(t0 aBK (t0 Z (aQ p 0))),[(1,tV p 1)],[],1⟩)]),
 (10,[λp=>(.ret,⟨(t0 (t2 (.pb 1 0 0) (t0 (t1 (.pb 7 0 0)) Z) (t0 (aQ p 0) Z)) (t2 (nB p 1) Z (aQ p 2))),[(1,tV p 3),(7,tP p 7)],[],1⟩),
 λp=>(.exit 10,⟨(t0 (t2 (.pb 1 0 0) (t0 (t1 (.pb 7 0 0)) Z) (t0 (aQ p 0) Z)) (t0 Z (aQ p 1))),[(1,tV p 2),(7,tP p 6)],[],1⟩)])]
theorem qB:Z0 Ia qA:=mT
def qQ:FD:=fI 30 1 [0,2,4,6,8] ZF [(0,tL),(2,tM),(4,zT),(6,zU),(8,zV)] [(0,λp=>⟨(t0 (t2 (.pb 1 0 0) (aQ p 0) Z) (t0 (aQ p 1) Z)),[(1,tP p 2)],[],1⟩),
 (2,λp=>⟨(t0 (t2 (.pb 1 0 0) (aQ p 0) (aQ p 1)) (t0 (aQ p 2) Z)),[(1,tP p 3)],[],1⟩),
 (4,λp=>⟨(t0 (t2 (.pb 1 0 0) (t2 (nI p 0) (nF 56000000) Z) (t0 (aQ p 1) Z)) (t0 (t0 (nF 58000000) Z) Z)),[(1,tP p 2)],[bM 56000000 97 aBu p 7,bM 58000000 69 [.sl true 4 aBE] p 8],1⟩),
 (6,λp=>⟨(t0 (t2 (.pb 1 0 0) (t2 (nI p 0) (nF 56000000) Z) (t0 (aQ p 1) Z)) (t0 (t0 (nF 58000000) Z) (t0 (aQ p 2) Z))),[(1,tP p 3)],[bM 56000000 97 aBu p 8,bM 58000000 69 [.sl true 4 aBE] p 9],1⟩),
 (8,λp=>⟨(t0 (t2 (.pb 1 0 0) (t2 (nI p 0) (nF 56000000) (t1 (.pb 11 0 0))) (t0 (aQ p 1) Z)) (t0 (t0 (nF 58000000) (aQ p 2)) (t0 (aQ p 3) Z))),[(1,tP p 4),(11,aCw p 9)],[bM 56000000 97 aBu p 16,bM 58000000 69 [.sl true 4 aBE] p 17],1⟩)] [(0,[λp=>(.ret,⟨(t0 (t2 (.pb 1 0 0) (aQ p 0) Z) (aBJ p 1)),[(1,tP p 2)],[],1⟩),
 λp=>(.exit 0,⟨(t0 (t2 (.pb 1 0 0) (aQ p 0) Z) vW),[(1,tP p 1)],[],1⟩)]),
 (2,[λp=>(.ret,⟨(t0 (t2 (.pb 1 0 0) (aQ p 0) Z) (t2 (nB p 1) (aQ p 2) Z)),[(1,tP p 3)],[],1⟩),
 λp=>(.exit 2,⟨(t0 (t2 (.pb 1 0 0) (aQ p 0) Z) (t0 (aQ p 1) Z)),[(1,tP p 2)],[],1⟩)]),
 (4,[λp=>(.ret,Ct (t0 Z (aBJ p 0))),
 λp=>(.exit 4,Ct (t0 Z vW))]),
 (6,[λp=>(.ret,⟨(t0 (t2 (.pb 1 0 0) (t2 (nI p 0) (nF 56000000) Z) (t0 (aQ p 1) Z)) (t2 (nB p 2) (t0 (nF 58000000) Z) Z)),[(1,tP p 3)],[bM 56000000 97 aBu p 8,bM 58000000 69 [.sl true 4 aBE] p 9],1⟩),
 λp=>(.exit 6,⟨(t0 (t2 (.pb 1 0 0) (t2 (nI p 0) (nF 56000000) Z) (t0 (aQ p 1) Z)) (t0 (t0 (nF 58000000) Z) Z)),[(1,tP p 2)],[bM 56000000 97 aBu p 7,bM 58000000 69 [.sl true 4 aBE] p 8],1⟩)]),
 (8,[λp=>(.ret,⟨(t0 (t2 (.pb 1 0 0) (t2 (nI p 0) (nF 56000000) Z) (t0 (aQ p 1) Z)) (t2 (nB p 2) (t0 (nF 58000000) Z) (t0 (aQ p 3) Z))),[(1,tP p 4)],[bM 56000000 97 aBu p 9,bM 58000000 69 [.sl true 4 aBE] p 10],1⟩),
 λp=>(.exit 8,⟨(t0 (t2 (.pb 1 0 0) (t2 (nI p 0) (nF 56000000) Z) (t0 (aQ p 1) Z)) (t0 (t0 (nF 58000000) Z) (t0 (aQ p 2) Z))),[(1,tP p 3)],[bM 56000000 97 aBu p 8,bM 58000000 69 [.sl true 4 aBE] p 9],1⟩)])]
theorem yB:Z0 Se qQ:=mT
def DG:FD:=fI 34 1 [1,3,5] SH [(1,wK),(3,wL),(5,wM)] [(1,λp=>⟨(t0 (t2 (.pb 1 0 0) (t0 Z (t0 Z (aQ p 0))) Z) (t0 (t0 Z (t0 Z (aQ p 1))) (t0 (t0 Z (t1 (fL 33 JT p 2))) Z))),[(1,tV p 3)],[],1⟩),
 (3,λp=>⟨(t0 (t2 (.pb 1 0 0) (t0 (t0 Z (t0 (aQ p 0) Z)) Z) (t0 Z (t0 (t0 (t1 (fL 33 JT p 1)) Z) Z))) (t0 Z (t0 Z (t0 (t0 (aQ p 2) Z) Z)))),[(1,tV p 3)],[],1⟩),
 (5,λp=>⟨(t0 (t2 (.pb 1 0 0) Z (t0 (t0 (t0 Z (aQ p 0)) Z) Z)) (t0 (t0 (t0 (t0 Z (t1 (fL 33 JT p 1))) Z) Z) (t0 (t0 (t0 Z (aQ p 2)) Z) Z))),[(1,tV p 3)],[],1⟩)] [(1,[λp=>(.ret,⟨(t0 aBK (aQ p 0)),[(1,tV p 1)],[],1⟩),
 λp=>(.exit 1,⟨(t0 aBK vW),[(1,tV p 0)],[],1⟩)]),
 (3,[λp=>(.ret,⟨(t0 aBK (aQ p 0)),[(1,tV p 1)],[],1⟩),
 λp=>(.exit 3,⟨(t0 aBK vW),[(1,tV p 0)],[],1⟩)]),
 (5,[λp=>(.ret,Ct (t0 Z (aQ p 0))),
 λp=>(.exit 5,Ct (t0 Z vW))])]
theorem DH:Z0 Ie DG:=mT
def Iy:FD:=fI 39 1 [] SI [] [] []
theorem Iz:Z0 VR Iy:=mT
def ON:FD:=fI 43 1 [0,2] ZG [(0,zW),(2,zX)] [(0,λp=>⟨(t0 (t2 (.pb 1 0 0) (nF 11) (aQ p 0)) (t0 (nF 14000000) Z)),[(1,tP p 1)],[bM 11 69 [.sl true 4 aBE] p 6,bM 14000000 4 aBE p 7],1⟩),
 (2,λp=>⟨(t0 (t2 (.pb 1 0 0) (t2 (bN 11) (aQ p 0) Z) (aQ p 1)) (t0 (nF 14000000) (nF 34000000))),[(1,tP p 2)],[bM 11 69 [.sl true 4 aBE] p 7,bM 14000000 4 aBE p 8,bM 34000000 4 aBE p 9],1⟩)] [(0,[λp=>(.exit 0,⟨(t0 (t0 (nF 11) Z) vW),[],[bM 11 69 [.sl true 4 aBE] p 0],1⟩)]),
 (2,[λp=>(.exit 2,⟨(t0 (t2 (.pb 1 0 0) (nF 11) (aQ p 0)) (t0 (nF 14000000) Z)),[(1,tP p 1)],[bM 11 69 [.sl true 4 aBE] p 6,bM 14000000 4 aBE p 7],1⟩)])]
theorem OO:Z0 Si ON:=mT
def sU:FD:=fI 47 1 [0,2,4,6,8] SJ [(0,wN),(2,wO),(4,wP),(6,wQ),(8,oH)] [(0,λp=>⟨(t0 (t2 (.pb 1 0 0) (nF 200003) (t0 (t0 (aQ p 0) Z) Z)) (t0 (t0 (t0 (t1 (fL 75 Xd p 1)) Z) Z) (t0 (t0 (aQ p 2) Z) Z))),[(1,tV p 3)],[bM 200003 9 aCx p 7],1⟩),
 (2,λp=>⟨(t0 (t2 (.pb 1 0 0) (t2 (bN 200003) (t0 (t0 (aQ p 0) Z) Z) Z) (t0 Z (t0 Z (t1 (.fz [] 66 [.str,.sl false 2 tZ] (gL p 1)))))) (t0 Z (t0 Z (t0 Z (aQ p 2))))),[(1,tV p 3)],[bM 200003 9 aCx p 7],1⟩),
 (4,λp=>⟨(t0 (t2 (.pb 1 0 0) (t2 (bN 200003) Z (t0 Z (t0 (aQ p 0) Z))) Z) (t0 (t0 Z (t0 Z (t0 (aQ p 1) Z))) (t0 (t0 Z (t0 (t1 (.fz [] 77 [.str,.sl false 3 tZ] (gL p 2))) Z)) Z))),[(1,tV p 3)],[bM 200003 9 aCx p 7],1⟩),
 (6,λp=>⟨(t0 (t0 (t2 (bN 200003) (t0 Z (t0 Z (t1 (fL 33 JT p 0)))) Z) (t0 (t0 Z (t0 Z (aQ p 1))) Z)) (t0 (t0 (t0 Z (t0 Z (aQ p 2))) Z) Z)),[],[bM 200003 9 aCx p 3],1⟩),
 (8,λp=>⟨(t0 (t0 Z (t0 Z (t0 (t0 (t0 (aQ p 0) Z) Z) Z))) (t0 (t0 Z (t2 (.mp 67 0) (t0 (t0 (nF 200003) Z) Z) Z)) (t0 Z (t0 (t0 (t0 (aQ p 1) Z) Z) Z)))),[(67,⟨0,[],some ⟨.str,.int .i64,(gL p 2)⟩⟩)],[bM 200003 9 aCx p 3],1⟩)] [(0,[λp=>(.exit 0,⟨(t0 (t2 (.pb 1 0 0) (nF 200003) Z) vW),[(1,tV p 0)],[bM 200003 9 aCx p 4],1⟩)]),
 (2,[λp=>(.exit 2,⟨(t0 (t2 (.pb 1 0 0) (nF 200003) Z) vW),[(1,tV p 0)],[bM 200003 9 aCx p 4],1⟩)]),
 (4,[λp=>(.exit 4,⟨(t0 (t2 (.pb 1 0 0) (nF 200003) Z) vW),[(1,tV p 0)],[bM 200003 9 aCx p 4],1⟩)]),
 (6,[λp=>(.exit 6,⟨(t0 (t0 (nF 200003) Z) vW),[],[bM 200003 9 aCx p 0],1⟩)]),
 (8,[λp=>(.ret,Ct (t0 Z (aBJ p 0))),
 λp=>(.exit 8,Ct (t0 Z vW))])]
theorem sV:Z0 Ii sU:=mT
def IZ:FD:=fI 51 2 [0,2] SK [(0,wR),(2,wS)] [(0,λp=>⟨(t0 (t0 (t2 (.pb 3 0 0) (t0 (aQ p 0) Z) Z) (t2 (bN 12000000) Z (t1 (fL 40 CT p 1)))) (t2 (.pb 2 0 0) Z (t0 Z (aQ p 2)))),[(2,tV p 3),(3,tP p 7)],[bM 12000000 3 tZ p 12],1⟩),
 (2,λp=>⟨(t0 (t0 (t2 (.pb 3 0 0) (t0 (aQ p 0) Z) Z) (t2 (bN 12000000) Z (t2 (fL 40 CT p 1) (aQ p 2) Z))) (t2 (.pb 2 0 0) (t0 Z (t0 (t1 (fL 42 OJ p 3)) Z)) (t0 Z (t2 (nI p 4) (aQ p 5) Z)))),[(2,tV p 6),(3,tP p 10)],[bM 12000000 3 tZ p 15],1⟩)] [(0,[λp=>(.ret,Ct (t0 Z (t0 (aBJ p 0) Z))),
 λp=>(.exit 0,Ct (t0 Z (t0 vW Z)))]),
 (2,[λp=>(.ret,⟨(t0 (t0 (t2 (.pb 3 0 0) (t0 (aQ p 0) Z) Z) (t2 (bN 12000000) Z (t1 (fL 40 CT p 1)))) (t2 (.pb 2 0 0) (aBJ p 2) (t0 Z (aQ p 3)))),[(2,tV p 4),(3,tP p 8)],[bM 12000000 3 tZ p 13],1⟩),
 λp=>(.exit 2,⟨(t0 (t0 (t2 (.pb 3 0 0) (t0 (aQ p 0) Z) Z) (t2 (bN 12000000) Z (t1 (fL 40 CT p 1)))) (t2 (.pb 2 0 0) vW (t0 Z (aQ p 2)))),[(2,tV p 3),(3,tP p 7)],[bM 12000000 3 tZ p 12],1⟩)])]
theorem JA:Z0 Ik IZ:=mT
def Ob:FD:=fI 55 1 [] Nq [] [] []
theorem Oc:Z0 OH Ob:=mT
def Od:FD:=fI 59 1 [0] ZH [(0,zY)] [(0,λp=>Ct (t0 (t0 (t2 (nI p 0) (t1 (fL 40 CT p 1)) Z) (t0 (aQ p 2) Z)) (t0 (t0 (aQ p 3) Z) Z)))] [(0,[λp=>(.exit 0,Ct (t0 (t0 (aQ p 0) Z) vW))])]
theorem ZV:Z0 Sk Od:=mT
def Oe:FD:=fI 63 1 [] l5 [] [] []
theorem Of:Z0 EP Oe:=mT
def nA:FD:=fI 67 2 [0] mZ [(0,fQ)] [(0,λp=>Ct (t2 (aCf p 0) (t2 (aCf p 1) Z (t0 Z (aQ p 2))) (t0 (t0 Z (aQ p 3)) Z)))] [(0,[λp=>(.ret,Ct (t0 Z (t0 (aBJ p 0) Z))),
 λp=>(.exit 0,Ct (t0 Z (t0 vW Z)))])]
theorem nC:Z0 lL nA:=mT
def eS:FD:=fI 71 1 [0,2] gK [(0,cG),(2,cH)] [(0,λp=>Ct (t2 (.fz [] 50 [.sl false 52 aBu] (gL p 0)) (t0 (t2 (nI p 1) Z (aQ p 2)) (t0 (t1 (.fz [] 50 [.sl false 52 aBu] (gL p 3))) Z)) (t0 Z (t0 (aQ p 4) Z)))),
 (2,λp=>⟨(t0 (t0 (t0 Z (t0 Z (aQ p 0))) (t0 (t0 Z (t1 (.fz [] 50 [.sl false 52 aBu] (gL p 1)))) Z)) (t0 Z (t2 (bN 200006) (t0 Z (aQ p 2)) Z))),[],[bM 200006 52 aBu p 3],1⟩)] [(0,[λp=>(.exit 0,Ct (t2 (.fz [] 50 [.sl false 52 aBu] (gL p 0)) (t0 (aQ p 1) Z) vW))]),
 (2,[λp=>(.exit 2,⟨(t0 Z (t0 Z (nF 200006))),[],[bM 200006 52 aBu p 0],1⟩)])]
theorem cC:Z0 iB eS:=mT
def So:FD:=fI 77 2 [0] Sn [(0,GF)] [(0,λp=>Ct (t2 (aCf p 0) (t2 (nI p 1) Z (aQ p 2)) Z))] [(0,[λp=>(.ret,Ct (t0 Z (t0 (aBJ p 0) Z))),
 λp=>(.exit 0,Ct (t0 Z (t0 vW Z)))])]
theorem Sp:Z0 aBI So:=mT
def MQ:FD:=fI 81 2 [0] MP [(0,rS)] [(0,λp=>⟨(t0 (t0 (t0 (t0 Z (t0 Z (t1 (aCf p 0)))) Z) (t2 (bN 200005) (t0 Z (t0 Z (aQ p 1))) Z)) (t2 (.pb 2 0 0) (t0 (t0 Z (t0 Z (aQ p 2))) Z) Z)),[(2,tP p 3)],[bM 200005 3 tZ p 8],1⟩)] [(0,[λp=>(.exit 0,⟨(t0 (t0 Z (nF 200005)) (t0 vW Z)),[],[bM 200005 3 tZ p 0],1⟩)])]
theorem MR:Z0 GE MQ:=mT
def ZW:FD:=fI 85 3 [0] ZI [(0,zZ)] [(0,λp=>Ct (t2 (aCf p 0) (t0 (t0 (t0 (aQ p 1) Z) Z) Z) (t2 (aCf p 2) (t0 (t0 (aQ p 3) Z) Z) (t0 Z (t1 (aCf p 4))))))] [(0,[λp=>(.ret,Ct (t0 Z (t0 Z (aBJ p 0)))),
 λp=>(.exit 0,Ct (t0 Z (t0 Z vW)))])]
theorem ZX:Z0 uL ZW:=mT
def yN:FD:=fI 92 2 [0,2] FP [(0,oR),(2,jW)] [(0,λp=>⟨(t2 (.fz [] 30 [.sl false 3 tZ] (gL p 0)) (t2 (nI p 1) Z (nF 12)) (t0 Z (nF 200006))),[],[bM 12 4 aBE p 2,bM 200006 3 tZ p 3],1⟩),
 (2,λp=>⟨(t2 (.fz [] 30 [.sl false 3 tZ] (gL p 0)) (t2 (nI p 1) (t0 (t0 Z (t0 (aQ p 2) Z)) Z) (t2 (bN 12) Z (t0 (t0 (t1 (aCf p 3)) Z) Z))) (t0 Z (t2 (bN 200006) Z (t0 (t0 (aQ p 4) Z) Z)))),[],[bM 12 4 aBE p 5,bM 200006 3 tZ p 6],1⟩)] [(0,[λp=>(.exit 0,⟨(t0 (t0 Z (nF 12)) (t0 vW Z)),[],[bM 12 4 aBE p 0],1⟩)]),
 (2,[λp=>(.exit 2,⟨(t2 (.fz [] 30 [.sl false 3 tZ] (gL p 0)) (t2 (nI p 1) Z (nF 12)) (t0 vW (nF 200006))),[],[bM 12 4 aBE p 2,bM 200006 3 tZ p 3],1⟩)])]
theorem yO:Z0 LX yN:=mT
abbrev aAf:BT Fn:=.nil
def aDZ:BT Fn:=(aAl 47 sU (aAl 25 Co (aAl 13 oJ (aAl 8 Cj (aAl 5 Is (aAl 4 QB (aAl 3 oS aAf aAf) aAf) (aAl 7 SL (aAl 6 kQ aAf aAf) aAf)) (aAl 11 QA (aAl 10 Ix (aAl 9 It aAf aAf) aAf) (aAl 12 Nt aAf aAf))) (aAl 19 VV (aAl 16 IQ (aAl 15 Cf (aAl 14 DE aAf aAf) aAf) (aAl 18 ZU (aAl 17 IW aAf aAf) aAf)) (aAl 23 AY (aAl 21 pB (aAl 20 CZ aAf aAf) aAf) (aAl 24 Nu aAf aAf)))) (aAl 36 Nv (aAl 31 CX (aAl 28 qN (aAl 27 mP (aAl 26 qA aAf aAf) aAf) (aAl 30 qQ (aAl 29 sS aAf aAf) aAf)) (aAl 34 DG (aAl 33 Cp (aAl 32 pA aAf aAf) aAf) (aAl 35 sN aAf aAf))) (aAl 42 xZ (aAl 40 OL (aAl 39 Iy (aAl 38 Nx aAf aAf) aAf) (aAl 41 ZO aAf aAf)) (aAl 45 Ir (aAl 44 ZJ (aAl 43 ON aAf aAf) aAf) (aAl 46 nM aAf aAf))))) (aAl 68 Ip (aAl 58 ZQ (aAl 53 eC (aAl 50 qO (aAl 49 sQ (aAl 48 oI aAf aAf) aAf) (aAl 52 aC9 (aAl 51 IZ aAf aAf) aAf)) (aAl 56 ZL (aAl 55 Ob (aAl 54 wT aAf aAf) aAf) (aAl 57 GI aAf aAf))) (aAl 63 Oe (aAl 61 Cm (aAl 60 Ch (aAl 59 Od aAf aAf) aAf) (aAl 62 ZS aAf aAf)) (aAl 66 ES (aAl 65 IS (aAl 64 oV aAf aAf) aAf) (aAl 67 nA aAf aAf)))) (aAl 81 MQ (aAl 76 Nz (aAl 71 eS (aAl 70 VX (aAl 69 IU aAf aAf) aAf) (aAl 75 GK (aAl 74 cB aAf aAf) aAf)) (aAl 79 iO (aAl 78 Nr (aAl 77 So aAf aAf) aAf) (aAl 80 QC aAf aAf))) (aAl 89 GG (aAl 84 Iv (aAl 83 DB (aAl 82 rT aAf aAf) aAf) (aAl 85 ZW aAf aAf)) (aAl 92 yN (aAl 91 pX (aAl 90 AK aAf aAf) aAf) (aAl 103 jQ aAf aAf))))))
theorem l8:Xa E aY sites aDZ:=(aAj sV (aAj tN (aAj oK (aAj Ck (aAj SN (aAj Lq (aAj oU aAe aAe) aAe) (aAj SM (aAj pZ aAe aAe) aAe)) (aAj Lp (aAj H5 (aAj Iu aAe aAe) aAe) (aAj l7 aAe aAe))) (aAj VW (aAj IR (aAj Cg (aAj DF aAe aAe) aAe) (aAj yA (aAj IY aAe aAe) aAe)) (aAj qM (aAj BL (aAj DA aAe aAe) aAe) (aAj ZN aAe aAe)))) (aAj Nw (aAj CY (aAj xX (aAj xW (aAj qB aAe aAe) aAe) (aAj yB (aAj sT aAe aAe) aAe)) (aAj DH (aAj Cq (aAj yM aAe aAe) aAe) (aAj sO aAe aAe))) (aAj DD (aAj OM (aAj Iz (aAj Ny aAe aAe) aAe) (aAj ZP aAe aAe)) (aAj xY (aAj ZK (aAj OO aAe aAe) aAe) (aAj nN aAe aAe))))) (aAj Iq (aAj ZR (aAj iT (aAj qP (aAj sR (aAj sP aAe aAe) aAe) (aAj IP (aAj JA aAe aAe) aAe)) (aAj ZM (aAj Oc (aAj wU aAe aAe) aAe) (aAj GJ aAe aAe))) (aAj Of (aAj Cn (aAj Ci (aAj ZV aAe aAe) aAe) (aAj ZT aAe aAe)) (aAj ET (aAj IT (aAj oW aAe aAe) aAe) (aAj nC aAe aAe)))) (aAj MR (aAj Oa (aAj cC (aAj VY (aAj IV aAe aAe) aAe) (aAj kT (aAj dN aAe aAe) aAe)) (aAj fR (aAj Ns (aAj Sp aAe aAe) aAe) (aAj QD aAe aAe))) (aAj GH (aAj Iw (aAj DC (aAj yL aAe aAe) aAe) (aAj ZX aAe aAe)) (aAj yO (aAj pY (aAj rB aAe aAe) aAe) (aAj gR aAe aAe))))))
end
end Go.Eng.Q
