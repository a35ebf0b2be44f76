/- Part 6 of the proof: the trees are the functions'. -/
import Derived.Test.YtnajbpjhadmkpaaGreatTrA
set_option linter.unusedVariables false
namespace Go.Eng.Q
open Go.Eng Go.Proofs
noncomputable section
abbrev dK:List LT:=[.int .i64]
abbrev fY:List LT:=[.int .i64,.int .i64]
abbrev gX:List LT:=[.bool]
abbrev Um:List LT:=[.str]
abbrev rQ(p:LD)(n:Nat):A:=fL 3 dK p n
abbrev OE(p:LD)(n:Nat):A:=.fz [] 55 [.str,.sl false 2 dK] (gL p n)
abbrev OF(p:LD)(n:Nat):A:=.fz [] 57 [.str,.sl false 3 dK] (gL p n)
abbrev cW(p:LD)(n:Nat):Bx:=⟨0,[.str (gS p n),nB p (n+1),rQ p (n+2),nI p (n+3),fL 40 DZ p (n+4)],none⟩
abbrev cX(p:LD)(n:Nat):Bx:=⟨0,[fL 44 Zc p n,OE p (n+1),OF p (n+2),fL 33 LL p (n+3)],none⟩
abbrev Ay(p:LD)(n:Nat):Bx:=⟨0,[nI p n,nI p (n+1),nI p (n+2),nI p (n+3),nI p (n+4),rQ p (n+5),rQ p (n+6)],none⟩
abbrev aY(k:Nat)(t:TypeId)(l:List LT)(p:LD)(n:Nat):Nat×xZ:=aR k t l (gL p n)
abbrev aF(p:LD)(n:Nat):Tr:=t1 (nI p n)
abbrev iT(p:LD)(n:Nat):Tr:=t1 (nB p n)
abbrev cO(n:Nat):A:=.vw n 0 []
abbrev cY(n:Nat):Tr:=t1 (cO n)
abbrev lF:Tr:=t1 (.pb 1 0 0)
abbrev eI:Tr:=t0 Z Z
abbrev eL(t:Tr):St:=⟨t,[],[],1⟩
def N3(n:Nat):Func×fI:=match aW.look n with
 |some x=>x
 |none=>(Tryz.f3,{})
def cU(n k:Nat)(b:List Nat)(M:LD->Sh)(l:List (Nat×(LD->Sh)))(S:aCm)(T:x4):FD:={f:=(N3 n).1,h:=(N3 n).2,c:=cd (N3 n).1,s:=Tu Jn n,F:={np:=k,bs:=b,main:=M,lps:=l},S:=S,T:=T}
abbrev eP:=BY E aW sites
theorem cV{m:Nat}{d:FD}(a:aW.look m=some (d.f,d.h):=by kernel_rfl)(b:E.sg.look m=some d.s:=by kernel_rfl)(c:d.f.body=some d.c:=by kernel_rfl)(e:cM 0 d.c=d.F.bs.map λb=>(b,tT b d.c):=by kernel_rfl)(f:CS (λb=>Nat.ble (b+1) 1000) d.F.bs=true:=by kernel_rfl)(g:CS (λq=>Nat.ble 1000 q.1||has d.F.bs q.1) d.F.lps=true:=by kernel_rfl)(i:CS (λq=>Nat.ble (q.1+1) 1000||siteLoopB sites q.1) d.F.lps=true:=by kernel_rfl)(j:Nat.beq m E.srt=false:=by kernel_rfl)
  (k:KM d:=by intro _;kernel_rfl)
  (l:∀b g,Go.Eng.look d.F.lps b=some g->KL d b g:=by
   repeat(first
    |exact aCs
    |refine M9 (by intro _;kernel_rfl) ?_)):eP m d:=⟨a,b,c,e,f,g,Zb,i,j,k,l⟩
theorem fA{m:Nat}{d:FD}{l r:BT Fn}(c:eP m d)(x:Yz E aW sites l)(e:Yz E aW sites r)(h:d.h.fork=false:=by kernel_rfl):Yz E aW sites (.node m d.F l r):=⟨⟨d,rfl,c,h⟩,x,e⟩
theorem eU:Yz E aW sites .nil:=trivial
abbrev fB(m:Nat)(d:FD)(l r:BT Fn):BT Fn:=.node m d.F l r
def EZ:FD:=cU 3 1 [] xX [] [] []
theorem GT:eP TN EZ:=cV
def pV:FD:=cU 8 1 [0,2,4,6] sU [(0,mT),(2,mU),(4,mV),(6,pN)] [(0,λp=>⟨(t0 (t2 (.pb 1 0 0) (t2 (cO 18000000) Z (t0 (t1 (fL 44 Zc p 0)) Z)) (t0 Z (t0 (aF p 1) Z))) (t0 (t0 Z (t0 (aF p 2) Z)) Z)),[(1,⟨0,[fL 52 LL p 3,.fz [] 55 [.str,.sl false 2 dK] (gL p 4),.fz [] 57 [.str,.sl false 3 dK] (gL p 5),fL 44 Zc p 6],none⟩)],[aY 18000000 4 gX p 7],1⟩),
 (2,λp=>⟨(t0 (t0 (cY 18000000) (t0 (t0 Z (t0 (aF p 0) Z)) Z)) (t0 (t0 (t0 Z (t0 (t1 (fL 44 Zc p 1)) Z)) Z) (t0 (t0 Z (t0 (aF p 2) Z)) Z))),[],[aY 18000000 4 gX p 3],1⟩),
 (4,λp=>⟨(t0 (t0 (t2 (cO 18000000) Z (t0 (t0 Z (aF p 0)) Z)) (t0 (t0 (t0 Z (t1 (fL 47 DZ p 1))) (t0 (aF p 2) Z)) Z)) (t0 (t0 (t2 (cO 48000000) Z (t0 (t1 (fL 44 Zc p 3)) Z)) Z) (t0 (t0 (t0 Z (aF p 4)) (t0 (aF p 5) Z)) Z))),[],[aY 18000000 4 gX p 6,aY 48000000 3 dK p 7],1⟩),
 (6,λp=>⟨(t0 (t0 (t2 (cO 18000000) Z (t0 (t0 Z (aF p 0)) Z)) (t0 (t0 (t0 Z (t1 (fL 47 DZ p 1))) (t0 (aF p 2) (aF p 3))) Z)) (t0 (t0 (t2 (cO 48000000) Z (t0 (t1 (fL 44 Zc p 4)) (t1 (fL 50 PZ p 5)))) Z) (t0 (t0 (t0 Z (aF p 6)) (t0 (aF p 7) (aF p 8))) Z))),[],[aY 18000000 4 gX p 9,aY 48000000 3 dK p 10],1⟩)] [(0,[λp=>(.exit 0,⟨(t0 (t2 (.pb 1 0 0) (cY 18000000) Z) eI),[(1,⟨0,[fL 52 LL p 0,.fz [] 55 [.str,.sl false 2 dK] (gL p 1),.fz [] 57 [.str,.sl false 3 dK] (gL p 2),fL 44 Zc p 3],none⟩)],[aY 18000000 4 gX p 4],1⟩)]),
 (2,[λp=>(.exit 2,⟨(t0 (t0 (cY 18000000) Z) eI),[],[aY 18000000 4 gX p 0],1⟩)]),
 (4,[λp=>(.exit 4,⟨(t0 (t0 (cY 18000000) (t0 (t0 Z (t0 (aF p 0) Z)) Z)) (t0 (t0 (t0 Z (t0 (t1 (fL 44 Zc p 1)) Z)) Z) (t0 (t0 Z (t0 (aF p 2) Z)) Z))),[],[aY 18000000 4 gX p 3],1⟩)]),
 (6,[λp=>(.exit 6,⟨(t0 (t0 (t2 (cO 18000000) Z (t0 (t0 Z (aF p 0)) Z)) (t0 (t0 (t0 Z (t1 (fL 47 DZ p 1))) (t0 (aF p 2) Z)) Z)) (t0 (t0 (t2 (cO 48000000) Z (t0 (t1 (fL 44 Zc p 3)) Z)) Z) (t0 (t0 (t0 Z (aF p 4)) (t0 (aF p 5) Z)) Z))),[],[aY 18000000 4 gX p 6,aY 48000000 3 dK p 7],1⟩)])]
theorem mR:eP yU pV:=cV
def qY:FD:=cU 12 1 [0,2,4,6] NJ [(0,qA),(2,qB),(4,qQ),(6,qV)] [(0,λp=>⟨(t0 (t2 (.pb 1 0 0) (cY 13000000) (aF p 0)) (t0 (cY 16) Z)),[(1,⟨0,[fL 52 LL p 1,.fz [] 55 [.str,.sl false 2 dK] (gL p 2),.fz [] 57 [.str,.sl false 3 dK] (gL p 3),fL 44 Zc p 4],none⟩)],[aY 16 4 gX p 5,aY 13000000 4 gX p 6],1⟩),
 (2,λp=>⟨(t0 lF (t0 (cY 16) (aF p 0))),[(1,⟨0,[fL 52 LL p 1,.fz [] 55 [.str,.sl false 2 dK] (gL p 2),.fz [] 57 [.str,.sl false 3 dK] (gL p 3),fL 44 Zc p 4],none⟩)],[aY 16 4 gX p 5],1⟩),
 (4,λp=>⟨(t0 (t2 (.pb 1 0 0) (t0 (cY 61000000) Z) Z) (t0 (t2 (cO 16) (aF p 0) Z) (aF p 1))),[(1,⟨0,[fL 52 LL p 2,.fz [] 55 [.str,.sl false 2 dK] (gL p 3),.fz [] 57 [.str,.sl false 3 dK] (gL p 4),fL 44 Zc p 5],none⟩)],[aY 16 4 gX p 6,aY 61000000 3 dK p 7],1⟩),
 (6,λp=>⟨(t0 (t2 (.pb 1 0 0) (t0 (cY 61000000) Z) (t0 (aF p 0) Z)) (t0 (t2 (cO 16) (aF p 1) Z) (aF p 2))),[(1,⟨0,[fL 52 LL p 3,.fz [] 55 [.str,.sl false 2 dK] (gL p 4),.fz [] 57 [.str,.sl false 3 dK] (gL p 5),fL 44 Zc p 6],none⟩)],[aY 16 4 gX p 7,aY 61000000 3 dK p 8],1⟩)] [(0,[λp=>(.exit 0,⟨(t0 lF (t0 (cY 16) Z)),[(1,⟨0,[fL 52 LL p 0,.fz [] 55 [.str,.sl false 2 dK] (gL p 1),.fz [] 57 [.str,.sl false 3 dK] (gL p 2),fL 44 Zc p 3],none⟩)],[aY 16 4 gX p 4],1⟩)]),
 (2,[λp=>(.exit 2,⟨(t0 Z (t0 (cY 16) Z)),[],[aY 16 4 gX p 0],1⟩)]),
 (4,[λp=>(.exit 4,⟨(t0 lF (t0 (cY 16) (aF p 0))),[(1,⟨0,[fL 52 LL p 1,.fz [] 55 [.str,.sl false 2 dK] (gL p 2),.fz [] 57 [.str,.sl false 3 dK] (gL p 3),fL 44 Zc p 4],none⟩)],[aY 16 4 gX p 5],1⟩)]),
 (6,[λp=>(.exit 6,⟨(t0 (t2 (.pb 1 0 0) (t0 (cY 61000000) Z) Z) (t0 (t2 (cO 16) (aF p 0) Z) (aF p 1))),[(1,⟨0,[fL 52 LL p 2,.fz [] 55 [.str,.sl false 2 dK] (gL p 3),.fz [] 57 [.str,.sl false 3 dK] (gL p 4),fL 44 Zc p 5],none⟩)],[aY 16 4 gX p 6,aY 61000000 3 dK p 7],1⟩)])]
theorem rB:eP LB qY:=cV
def Eh:FD:=cU 18 1 [0,2,4,6] NU [(0,nK),(2,nL),(4,nM),(6,nN)] [(0,λp=>⟨(t0 (t2 (.pb 1 0 0) (aF p 0) Z) Z),[(1,⟨0,[fL 52 LL p 1,.fz [] 55 [.str,.sl false 2 dK] (gL p 2),.fz [] 57 [.str,.sl false 3 dK] (gL p 3),fL 44 Zc p 4],none⟩)],[],1⟩),
 (2,λp=>⟨(t0 lF (t0 (aF p 0) Z)),[(1,⟨0,[fL 52 LL p 1,.fz [] 55 [.str,.sl false 2 dK] (gL p 2),.fz [] 57 [.str,.sl false 3 dK] (gL p 3),fL 44 Zc p 4],none⟩)],[],1⟩),
 (4,λp=>⟨(t0 lF (t0 Z (aF p 0))),[(1,⟨0,[fL 52 LL p 1,.fz [] 55 [.str,.sl false 2 dK] (gL p 2),.fz [] 57 [.str,.sl false 3 dK] (gL p 3),fL 44 Zc p 4],none⟩)],[],1⟩),
 (6,λp=>⟨(t0 lF (t0 (t0 (aF p 0) Z) Z)),[(1,⟨0,[fL 52 LL p 1,.fz [] 55 [.str,.sl false 2 dK] (gL p 2),.fz [] 57 [.str,.sl false 3 dK] (gL p 3),fL 44 Zc p 4],none⟩)],[],1⟩)] [(0,[λp=>(.ret,⟨(t0 lF (iT p 0)),[(1,⟨0,[fL 52 LL p 1,.fz [] 55 [.str,.sl false 2 dK] (gL p 2),.fz [] 57 [.str,.sl false 3 dK] (gL p 3),fL 44 Zc p 4],none⟩)],[],1⟩),
 λp=>(.exit 0,⟨(t0 lF eI),[(1,⟨0,[fL 52 LL p 0,.fz [] 55 [.str,.sl false 2 dK] (gL p 1),.fz [] 57 [.str,.sl false 3 dK] (gL p 2),fL 44 Zc p 3],none⟩)],[],1⟩)]),
 (2,[λp=>(.ret,⟨(t0 lF (iT p 0)),[(1,⟨0,[fL 52 LL p 1,.fz [] 55 [.str,.sl false 2 dK] (gL p 2),.fz [] 57 [.str,.sl false 3 dK] (gL p 3),fL 44 Zc p 4],none⟩)],[],1⟩),
 λp=>(.exit 2,⟨(t0 lF eI),[(1,⟨0,[fL 52 LL p 0,.fz [] 55 [.str,.sl false 2 dK] (gL p 1),.fz [] 57 [.str,.sl false 3 dK] (gL p 2),fL 44 Zc p 3],none⟩)],[],1⟩)]),
 (4,[λp=>(.ret,⟨(t0 lF (iT p 0)),[(1,⟨0,[fL 52 LL p 1,.fz [] 55 [.str,.sl false 2 dK] (gL p 2),.fz [] 57 [.str,.sl false 3 dK] (gL p 3),fL 44 Zc p 4],none⟩)],[],1⟩),
 λp=>(.exit 4,⟨(t0 lF eI),[(1,⟨0,[fL 52 LL p 0,.fz [] 55 [.str,.sl false 2 dK] (gL p 1),.fz [] 57 [.str,.sl false 3 dK] (gL p 2),fL 44 Zc p 3],none⟩)],[],1⟩)]),
 (6,[λp=>(.ret,eL (t0 Z (iT p 0))),
 λp=>(.exit 6,eL (t0 Z eI))])]
theorem uT:eP Ad Eh:=cV
def tZ:FD:=cU 22 1 [0,2,4,6,8] TP [(0,wI),(2,wJ),(4,wK),(6,wL),(8,wM)] [(0,λp=>⟨(t0 (t2 (.pb 1 0 0) (aF p 0) Z) Z),[(1,⟨0,[.str (gS p 1),nB p 2,rQ p 3,nI p 4,fL 47 DZ p 5],none⟩)],[],1⟩),
 (2,λp=>⟨(t0 (t2 (.pb 1 0 0) (aF p 0) (aF p 1)) (t0 (t1 (fL 50 PZ p 2)) Z)),[(1,⟨0,[.str (gS p 3),nB p 4,rQ p 5,nI p 6,fL 47 DZ p 7],none⟩)],[],1⟩),
 (4,λp=>⟨(t0 (t2 (.pb 1 0 0) (t2 (nI p 0) (aF p 1) Z) Z) (t0 Z (t1 (.pb 6 0 0)))),[(1,⟨0,[.str (gS p 2),nB p 3,rQ p 4,nI p 5,fL 47 DZ p 6],none⟩),(6,Ay p 7)],[],1⟩),
 (6,λp=>⟨(t0 (t2 (.pb 1 0 0) Z (t0 (cY 116000000) Z)) (t0 (t0 (cY 114000000) Z) (t0 (aF p 0) Z))),[(1,⟨0,[.str (gS p 1),nB p 2,rQ p 3,nI p 4,fL 47 DZ p 5],none⟩)],[aY 114000000 4 gX p 6,aY 116000000 41 [.sl true 3 dK] p 7],1⟩),
 (8,λp=>⟨(t0 (t2 (.pb 1 0 0) (t0 Z (t1 (fL 50 PZ p 0))) (t0 (cY 116000000) Z)) (t0 (t0 (cY 114000000) (aF p 1)) (t0 (aF p 2) Z))),[(1,⟨0,[.str (gS p 3),nB p 4,rQ p 5,nI p 6,fL 47 DZ p 7],none⟩)],[aY 114000000 4 gX p 8,aY 116000000 41 [.sl true 3 dK] p 9],1⟩)] [(0,[λp=>(.ret,⟨(t0 lF (iT p 0)),[(1,⟨0,[.str (gS p 1),nB p 2,rQ p 3,nI p 4,fL 47 DZ p 5],none⟩)],[],1⟩),
 λp=>(.exit 0,⟨(t0 lF eI),[(1,⟨0,[.str (gS p 0),nB p 1,rQ p 2,nI p 3,fL 47 DZ p 4],none⟩)],[],1⟩)]),
 (2,[λp=>(.ret,⟨(t0 (t2 (.pb 1 0 0) (aF p 0) Z) (t2 (nB p 1) (t1 (fL 50 PZ p 2)) Z)),[(1,⟨0,[.str (gS p 3),nB p 4,rQ p 5,nI p 6,fL 47 DZ p 7],none⟩)],[],1⟩),
 λp=>(.exit 2,⟨(t0 (t2 (.pb 1 0 0) (aF p 0) Z) (t0 (t1 (fL 50 PZ p 1)) Z)),[(1,⟨0,[.str (gS p 2),nB p 3,rQ p 4,nI p 5,fL 47 DZ p 6],none⟩)],[],1⟩)]),
 (4,[λp=>(.ret,⟨(t0 (t2 (.pb 1 0 0) (aF p 0) Z) (t2 (nB p 1) Z (t1 (.pb 6 0 0)))),[(1,⟨0,[.str (gS p 2),nB p 3,rQ p 4,nI p 5,fL 47 DZ p 6],none⟩),(6,Ay p 7)],[],1⟩),
 λp=>(.exit 4,⟨(t0 (t2 (.pb 1 0 0) (aF p 0) Z) (t0 Z (t1 (.pb 6 0 0)))),[(1,⟨0,[.str (gS p 1),nB p 2,rQ p 3,nI p 4,fL 47 DZ p 5],none⟩),(6,Ay p 6)],[],1⟩)]),
 (6,[λp=>(.ret,eL (t0 Z (iT p 0))),
 λp=>(.exit 6,eL (t0 Z eI))]),
 (8,[λp=>(.ret,⟨(t0 (t2 (.pb 1 0 0) Z (t0 (cY 116000000) Z)) (t2 (nB p 0) (t0 (cY 114000000) Z) (t0 (aF p 1) Z))),[(1,⟨0,[.str (gS p 2),nB p 3,rQ p 4,nI p 5,fL 47 DZ p 6],none⟩)],[aY 114000000 4 gX p 7,aY 116000000 41 [.sl true 3 dK] p 8],1⟩),
 λp=>(.exit 8,⟨(t0 (t2 (.pb 1 0 0) Z (t0 (cY 116000000) Z)) (t0 (t0 (cY 114000000) Z) (t0 (aF p 0) Z))),[(1,⟨0,[.str (gS p 1),nB p 2,rQ p 3,nI p 4,fL 47 DZ p 5],none⟩)],[aY 114000000 4 gX p 6,aY 116000000 41 [.sl true 3 dK] p 7],1⟩)])]
theorem uA:eP Jx tZ:=cV
def UF:FD:=cU 26 1 [0] TV [(0,sV)] [(0,λp=>⟨(t0 (t0 (cY 8000004) (t0 Z (aF p 0))) (t0 (t0 Z (t1 (fL 44 Zc p 1))) (t0 Z (aF p 2)))),[],[aY 8000004 4 gX p 3],1⟩)] [(0,[λp=>(.exit 0,⟨(t0 (t0 (cY 8000004) Z) eI),[],[aY 8000004 4 gX p 0],1⟩)])]
theorem UG:eP YH UF:=cV
def Pw:FD:=cU 34 1 [] cQ [] [] []
theorem Px:eP Ue Pw:=cV
def yX:FD:=cU 39 1 [0,2,4] TK [(0,vY),(2,vZ),(4,wA)] [(0,λp=>⟨(t0 (t2 (.pb 1 0 0) (cY 11) Z) (t0 (aF p 0) Z)),[(1,⟨0,[.str (gS p 1),nB p 2,rQ p 3,nI p 4,fL 47 DZ p 5],none⟩)],[aY 11 78 fY p 6],1⟩),
 (2,λp=>⟨(t0 (t2 (.pb 1 0 0) (cY 11) (aF p 0)) (t0 Z (aF p 1))),[(1,⟨0,[.str (gS p 2),nB p 3,rQ p 4,nI p 5,fL 47 DZ p 6],none⟩)],[aY 11 78 fY p 7],1⟩),
 (4,λp=>⟨(t0 (t2 (.pb 1 0 0) (t2 (cO 11) (aF p 0) Z) (aF p 1)) (t0 Z (aF p 2))),[(1,⟨0,[.str (gS p 3),nB p 4,rQ p 5,nI p 6,fL 47 DZ p 7],none⟩)],[aY 11 78 fY p 8],1⟩)] [(0,[λp=>(.exit 0,⟨(t0 (t2 (.pb 1 0 0) (cY 11) Z) eI),[(1,⟨0,[.str (gS p 0),nB p 1,rQ p 2,nI p 3,fL 47 DZ p 4],none⟩)],[aY 11 78 fY p 5],1⟩)]),
 (2,[λp=>(.exit 2,⟨(t0 (t0 (cY 11) Z) eI),[],[aY 11 78 fY p 0],1⟩)]),
 (4,[λp=>(.exit 4,⟨(t0 (t2 (.pb 1 0 0) (cY 11) (aF p 0)) (t0 Z (aF p 1))),[(1,⟨0,[.str (gS p 2),nB p 3,rQ p 4,nI p 5,fL 47 DZ p 6],none⟩)],[aY 11 78 fY p 7],1⟩)])]
theorem EE:eP Ke yX:=cV
def Ku:FD:=cU 43 1 [0,2,4,6] TX [(0,pD),(2,pE),(4,pF),(6,pG)] [(0,λp=>⟨(t0 (t2 (.pb 1 0 0) (t0 Z (t0 (t0 (aF p 0) Z) Z)) Z) (t0 (t0 Z (t0 (t0 (aF p 1) Z) Z)) (t0 (t0 (t0 (t1 (fL 52 LL p 2)) Z) Z) Z))),[(1,⟨0,[fL 52 LL p 3,.fz [] 55 [.str,.sl false 2 dK] (gL p 4),.fz [] 57 [.str,.sl false 3 dK] (gL p 5),fL 44 Zc p 6],none⟩)],[],1⟩),
 (2,λp=>⟨(t0 (t2 (.pb 1 0 0) (t0 (t0 (t0 Z (aF p 0)) Z) Z) Z) (t0 (t0 (t0 (t0 Z (aF p 1)) Z) Z) (t0 Z (t0 Z (t0 (t1 (.fz [] 55 [.str,.sl false 2 dK] (gL p 2))) Z))))),[(1,⟨0,[fL 52 LL p 3,.fz [] 55 [.str,.sl false 2 dK] (gL p 4),.fz [] 57 [.str,.sl false 3 dK] (gL p 5),fL 44 Zc p 6],none⟩)],[],1⟩),
 (4,λp=>⟨(t0 (t2 (.pb 1 0 0) Z (t0 (t0 (t0 (t0 (aF p 0) Z) Z) Z) Z)) (t0 (t0 (t0 (t0 (t0 (t1 (.fz [] 57 [.str,.sl false 3 dK] (gL p 1))) Z) Z) Z) Z) (t0 (t0 (t0 (t0 (aF p 2) Z) Z) Z) Z))),[(1,⟨0,[fL 52 LL p 3,.fz [] 55 [.str,.sl false 2 dK] (gL p 4),.fz [] 57 [.str,.sl false 3 dK] (gL p 5),fL 44 Zc p 6],none⟩)],[],1⟩),
 (6,λp=>eL (t0 (t0 (t0 Z (t0 (t0 Z (t0 (aF p 0) Z)) Z)) Z) (t0 (t0 Z (t0 (t0 Z (t0 (aF p 1) Z)) Z)) (t0 (t0 (t0 Z (t0 (t1 (fL 44 Zc p 2)) Z)) Z) Z))))] [(0,[λp=>(.ret,⟨(t0 lF (iT p 0)),[(1,⟨0,[fL 52 LL p 1,.fz [] 55 [.str,.sl false 2 dK] (gL p 2),.fz [] 57 [.str,.sl false 3 dK] (gL p 3),fL 44 Zc p 4],none⟩)],[],1⟩),
 λp=>(.exit 0,⟨(t0 lF eI),[(1,⟨0,[fL 52 LL p 0,.fz [] 55 [.str,.sl false 2 dK] (gL p 1),.fz [] 57 [.str,.sl false 3 dK] (gL p 2),fL 44 Zc p 3],none⟩)],[],1⟩)]),
 (2,[λp=>(.ret,⟨(t0 lF (iT p 0)),[(1,⟨0,[fL 52 LL p 1,.fz [] 55 [.str,.sl false 2 dK] (gL p 2),.fz [] 57 [.str,.sl false 3 dK] (gL p 3),fL 44 Zc p 4],none⟩)],[],1⟩),
 λp=>(.exit 2,⟨(t0 lF eI),[(1,⟨0,[fL 52 LL p 0,.fz [] 55 [.str,.sl false 2 dK] (gL p 1),.fz [] 57 [.str,.sl false 3 dK] (gL p 2),fL 44 Zc p 3],none⟩)],[],1⟩)]),
 (4,[λp=>(.ret,⟨(t0 lF (iT p 0)),[(1,⟨0,[fL 52 LL p 1,.fz [] 55 [.str,.sl false 2 dK] (gL p 2),.fz [] 57 [.str,.sl false 3 dK] (gL p 3),fL 44 Zc p 4],none⟩)],[],1⟩),
 λp=>(.exit 4,⟨(t0 lF eI),[(1,⟨0,[fL 52 LL p 0,.fz [] 55 [.str,.sl false 2 dK] (gL p 1),.fz [] 57 [.str,.sl false 3 dK] (gL p 2),fL 44 Zc p 3],none⟩)],[],1⟩)]),
 (6,[λp=>(.ret,eL (t0 Z (iT p 0))),
 λp=>(.exit 6,eL (t0 Z eI))])]
theorem zA:eP Jz Ku:=cV
def uC:FD:=cU 47 1 [0,2,4,6,8] TY [(0,wZ),(2,xA),(4,xB),(6,xC),(8,xD)] [(0,λp=>⟨(t0 (t2 (.pb 1 0 0) (t0 Z (t0 (aF p 0) Z)) (t0 (t0 (t1 (fL 47 DZ p 1)) Z) Z)) (t0 Z (t0 (t0 (aF p 2) Z) Z))),[(1,⟨0,[.str (gS p 3),nB p 4,rQ p 5,nI p 6,fL 47 DZ p 7],none⟩)],[],1⟩),
 (2,λp=>⟨(t0 (t2 (.pb 1 0 0) (t2 (nI p 0) (t0 (t0 (aF p 1) Z) Z) (t0 (aF p 2) Z)) (t2 (nB p 3) (t0 (t1 (fL 47 DZ p 4)) Z) (t0 Z (t1 (fL 50 PZ p 5))))) (t0 (t1 (.pb 4 0 0)) (t0 (t0 (aF p 6) Z) (t0 Z (aF p 7))))),[(1,⟨0,[.str (gS p 8),nB p 9,rQ p 10,nI p 11,fL 47 DZ p 12],none⟩),(4,⟨0,[fL 50 PZ p 13],none⟩)],[],1⟩),
 (4,λp=>⟨(t0 (t2 (.pb 1 0 0) (t0 Z (t0 (aF p 0) (t0 (t0 (aF p 1) Z) Z))) (t0 (t0 (t1 (fL 47 DZ p 2)) Z) Z)) (t0 (t0 (t1 (rQ p 3)) (t0 Z (t0 (t0 (aF p 4) Z) Z))) (t0 (t0 (aF p 5) (t0 (t0 (t1 (rQ p 6)) Z) Z)) Z))),[(1,⟨0,[.str (gS p 7),nB p 8,rQ p 9,nI p 10,fL 47 DZ p 11],none⟩)],[],1⟩),
 (6,λp=>⟨(t0 (t0 (t0 (t0 (t0 Z (t0 Z (aF p 0))) Z) (cY 108000000)) (t0 Z (t0 Z (t0 (t0 Z (t1 (fL 47 DZ p 1))) Z)))) (t0 Z (t0 Z (t0 Z (t0 (t0 Z (aF p 2)) Z))))),[],[aY 108000000 41 [.sl true 3 dK] p 3],1⟩),
 (8,λp=>⟨(t0 (t0 (t0 (t0 (t0 Z (t0 Z (aF p 0))) (t0 Z (t0 Z (aF p 1)))) (cY 108000000)) (t0 Z (t0 (t0 Z (t0 Z (t1 (fL 50 PZ p 2)))) (t0 (t0 Z (t1 (fL 47 DZ p 3))) Z)))) (t0 (t0 Z (aF p 4)) (t0 Z (t0 (t0 Z (t0 Z (aF p 5))) (t0 (t0 Z (aF p 6)) Z))))),[],[aY 108000000 41 [.sl true 3 dK] p 7],1⟩)] [(0,[λp=>(.ret,⟨(t0 lF (iT p 0)),[(1,⟨0,[.str (gS p 1),nB p 2,rQ p 3,nI p 4,fL 47 DZ p 5],none⟩)],[],1⟩),
 λp=>(.exit 0,⟨(t0 lF eI),[(1,⟨0,[.str (gS p 0),nB p 1,rQ p 2,nI p 3,fL 47 DZ p 4],none⟩)],[],1⟩)]),
 (2,[λp=>(.ret,⟨(t0 (t2 (.pb 1 0 0) (t0 Z (t0 (aF p 0) Z)) (t0 (t0 (t1 (fL 47 DZ p 1)) Z) Z)) (t2 (nB p 2) (t1 (.pb 4 0 0)) (t0 (t0 (aF p 3) Z) Z))),[(1,⟨0,[.str (gS p 4),nB p 5,rQ p 6,nI p 7,fL 47 DZ p 8],none⟩),(4,⟨0,[fL 50 PZ p 9],none⟩)],[],1⟩),
 λp=>(.exit 2,⟨(t0 (t2 (.pb 1 0 0) (t0 Z (t0 (aF p 0) Z)) (t0 (t0 (t1 (fL 47 DZ p 1)) Z) Z)) (t0 (t1 (.pb 4 0 0)) (t0 (t0 (aF p 2) Z) Z))),[(1,⟨0,[.str (gS p 3),nB p 4,rQ p 5,nI p 6,fL 47 DZ p 7],none⟩),(4,⟨0,[fL 50 PZ p 8],none⟩)],[],1⟩)]),
 (4,[λp=>(.ret,⟨(t0 (t2 (.pb 1 0 0) (t0 Z (t0 (aF p 0) Z)) (t0 (t0 (t1 (fL 47 DZ p 1)) Z) Z)) (t2 (nB p 2) (t0 (t1 (rQ p 3)) Z) (t0 (t0 (aF p 4) Z) Z))),[(1,⟨0,[.str (gS p 5),nB p 6,rQ p 7,nI p 8,fL 47 DZ p 9],none⟩)],[],1⟩),
 λp=>(.exit 4,⟨(t0 (t2 (.pb 1 0 0) (t0 Z (t0 (aF p 0) Z)) (t0 (t0 (t1 (fL 47 DZ p 1)) Z) Z)) (t0 (t0 (t1 (rQ p 2)) Z) (t0 (t0 (aF p 3) Z) Z))),[(1,⟨0,[.str (gS p 4),nB p 5,rQ p 6,nI p 7,fL 47 DZ p 8],none⟩)],[],1⟩)]),
 (6,[λp=>(.ret,eL (t0 Z (iT p 0))),
 λp=>(.exit 6,eL (t0 Z eI))]),
 (8,[λp=>(.ret,⟨(t0 (t0 (t0 (t0 (t0 Z (t0 Z (aF p 0))) Z) (cY 108000000)) (t0 Z (t0 Z (t0 (t0 Z (t1 (fL 47 DZ p 1))) Z)))) (t2 (nB p 2) Z (t0 Z (t0 Z (t0 (t0 Z (aF p 3)) Z))))),[],[aY 108000000 41 [.sl true 3 dK] p 4],1⟩),
 λp=>(.exit 8,⟨(t0 (t0 (t0 (t0 (t0 Z (t0 Z (aF p 0))) Z) (cY 108000000)) (t0 Z (t0 Z (t0 (t0 Z (t1 (fL 47 DZ p 1))) Z)))) (t0 Z (t0 Z (t0 Z (t0 (t0 Z (aF p 2)) Z))))),[],[aY 108000000 41 [.sl true 3 dK] p 3],1⟩)])]
theorem uD:eP XK uC:=cV
def Ez:FD:=cU 51 1 [] TZ [] [] []
theorem Fa:eP Ca Ez:=cV
def HR:FD:=cU 59 3 [0,2,4] As [(0,AS),(2,rA),(4,mX)] [(0,λp=>⟨(t0 (t0 (t2 (.pb 3 0 0) (cY 15) Z) Z) (t2 (nI p 0) (t0 (iT p 1) Z) Z)),[(3,⟨0,[.str (gS p 2),nB p 3,rQ p 4,nI p 5,fL 47 DZ p 6],none⟩)],[aY 15 4 gX p 7],1⟩),
 (2,λp=>⟨(t0 (t0 (t2 (.pb 3 0 0) (cY 15) Z) (t0 (aF p 0) Z)) (t2 (nI p 1) (t0 (iT p 2) Z) Z)),[(3,⟨0,[.str (gS p 3),nB p 4,rQ p 5,nI p 6,fL 47 DZ p 7],none⟩)],[aY 15 4 gX p 8],1⟩),
 (4,λp=>⟨(t0 (t0 (t2 (.pb 3 0 0) (cY 15) (aF p 0)) (t0 (aF p 1) Z)) (t2 (nI p 2) (t0 (iT p 3) Z) (t0 (cY 48000000) Z))),[(3,⟨0,[.str (gS p 4),nB p 5,rQ p 6,nI p 7,fL 47 DZ p 8],none⟩)],[aY 15 4 gX p 9,aY 48000000 3 dK p 10],1⟩)] [(0,[λp=>(.exit 0,⟨(t0 (t0 (t0 (cY 15) Z) Z) (t0 Z eI)),[],[aY 15 4 gX p 0],1⟩)]),
 (2,[λp=>(.exit 2,⟨(t0 (t0 (t2 (.pb 3 0 0) (cY 15) Z) Z) (t2 (nI p 0) (t0 (iT p 1) Z) eI)),[(3,⟨0,[.str (gS p 2),nB p 3,rQ p 4,nI p 5,fL 47 DZ p 6],none⟩)],[aY 15 4 gX p 7],1⟩)]),
 (4,[λp=>(.exit 4,⟨(t0 (t0 (t2 (.pb 3 0 0) (cY 15) Z) (t0 (aF p 0) Z)) (t2 (nI p 1) (t0 (iT p 2) Z) eI)),[(3,⟨0,[.str (gS p 3),nB p 4,rQ p 5,nI p 6,fL 47 DZ p 7],none⟩)],[aY 15 4 gX p 8],1⟩)])]
theorem HS:eP Ge HR:=cV
def Ei:FD:=cU 63 1 [] bU [] [] []
theorem Ej:eP Af Ei:=cV
def KH:FD:=cU 67 1 [0] JZ [(0,qZ)] [(0,λp=>⟨(t0 (t0 Z (t0 (t0 (aF p 0) Z) Z)) (t0 (t2 (cO 12) (t0 (cY 9000005) Z) Z) (t0 (t0 (aF p 1) Z) Z))),[],[aY 12 4 gX p 2,aY 9000005 3 dK p 3],1⟩)] [(0,[λp=>(.exit 0,⟨(t0 Z (t0 (cY 12) Z)),[],[aY 12 4 gX p 0],1⟩)])]
theorem KI:eP JU KH:=cV
def KJ:FD:=cU 71 2 [0,2] TT [(0,wU),(2,wV)] [(0,λp=>eL (t0 (t0 Z (t2 (nI p 0) (t0 (aF p 1) Z) Z)) (t0 (t0 (t0 (t1 (fL 47 DZ p 2)) Z) Z) (t0 (t0 (aF p 3) Z) Z)))),
 (2,λp=>eL (t0 (t0 (t0 (t0 Z (t1 (fL 50 PZ p 0))) Z) (t2 (nI p 1) (t0 (aF p 2) (aF p 3)) Z)) (t0 (t0 (t0 (t1 (fL 47 DZ p 4)) (aF p 5)) Z) (t0 (t0 (aF p 6) Z) Z))))] [(0,[λp=>(.exit 0,eL (t0 (t0 Z (aF p 0)) (t0 eI Z)))]),
 (2,[λp=>(.exit 2,eL (t0 (t0 Z (t2 (nI p 0) (t0 (aF p 1) Z) Z)) (t0 (t0 (t0 (t1 (fL 47 DZ p 2)) Z) Z) (t0 (t0 (aF p 3) Z) Z))))])]
theorem KK:eP Kg KJ:=cV
def xU:FD:=cU 75 1 [0] xT [(0,kY)] [(0,λp=>⟨(t2 (.pb 500 0 0) (t0 Z (t0 (t0 (aF p 0) Z) Z)) (t0 (t0 (t0 (aF p 1) Z) Z) Z)),[(500,⟨0,[cO 332000,cO 332001,cO 332002,cO 332003],none⟩)],[aY 332000 3 dK p 2,aY 332001 119 [.sl true 118 fY] p 3,aY 332002 125 fY p 4,aY 332003 50 PZ p 5],1⟩)] [(0,[λp=>(.exit 0,⟨(t1 (.pb 500 0 0)),[(500,⟨0,[cO 332000,cO 332001,cO 332002,cO 332003],none⟩)],[aY 332000 3 dK p 0,aY 332001 119 [.sl true 118 fY] p 1,aY 332002 125 fY p 2,aY 332003 50 PZ p 3],1⟩)])]
theorem xV:eP BH xU:=cV
def jN:FD:=cU 80 2 [0] gK [(0,cZ)] [(0,λp=>eL (t2 (fL 4 gX p 0) (t2 (nB p 1) (t0 (aF p 2) Z) Z) (t0 (t0 (aF p 3) Z) Z)))] [(0,[λp=>(.ret,eL (t0 Z (t0 (aF p 0) Z))),
 λp=>(.exit 0,eL (t0 Z (t0 eI Z)))])]
theorem gO:eP oA jN:=cV
def EF:FD:=cU 84 1 [0,2,4] TM [(0,wC),(2,wD),(4,wE)] [(0,λp=>⟨(t0 (t2 (.pb 1 0 0) (aF p 0) (t0 (t0 (aF p 1) Z) Z)) (t0 (t2 (cO 15) (t0 (aF p 2) Z) Z) Z)),[(1,⟨0,[.str (gS p 3),nB p 4,rQ p 5,nI p 6,fL 47 DZ p 7],none⟩)],[aY 15 41 [.sl true 3 dK] p 8],1⟩),
 (2,λp=>⟨(t0 (t0 (t2 (nI p 0) (t2 (cO 30) (t0 (aF p 1) Z) Z) Z) Z) (t0 (t2 (cO 15) (t0 (t0 (aF p 2) Z) Z) Z) (cY 29000000))),[],[aY 15 41 [.sl true 3 dK] p 3,aY 30 34 [.sl true 4 gX] p 4,aY 29000000 4 gX p 5],1⟩),
 (4,λp=>⟨(t0 (t0 (t2 (nI p 0) (t2 (cO 30) (t0 (aF p 1) Z) Z) Z) (t0 (t2 (cO 48000000) (t0 Z (aF p 2)) Z) Z)) (t0 (t2 (cO 15) (t2 (nI p 3) (t0 (aF p 4) (aF p 5)) Z) Z) (cY 29000000))),[],[aY 15 41 [.sl true 3 dK] p 6,aY 30 34 [.sl true 4 gX] p 7,aY 29000000 4 gX p 8,aY 48000000 4 gX p 9],1⟩)] [(0,[λp=>(.exit 0,⟨(t0 (t2 (.pb 1 0 0) (aF p 0) Z) (t0 (cY 15) Z)),[(1,⟨0,[.str (gS p 1),nB p 2,rQ p 3,nI p 4,fL 47 DZ p 5],none⟩)],[aY 15 41 [.sl true 3 dK] p 6],1⟩)]),
 (2,[λp=>(.exit 2,⟨(t0 (t0 (t0 (cY 30) Z) Z) eI),[],[aY 30 34 [.sl true 4 gX] p 0],1⟩)]),
 (4,[λp=>(.exit 4,⟨(t0 (t0 (t2 (nI p 0) (t2 (cO 30) (t0 (aF p 1) Z) Z) Z) Z) (t0 (t2 (cO 15) (t0 (t0 (aF p 2) Z) Z) Z) (cY 29000000))),[],[aY 15 41 [.sl true 3 dK] p 3,aY 30 34 [.sl true 4 gX] p 4,aY 29000000 4 gX p 5],1⟩)])]
theorem EG:eP Kh EF:=cV
def uW:FD:=cU 88 1 [] iR [] [] []
theorem uX:eP bP uW:=cV
def rE:FD:=cU 94 2 [] lZ [] [] []
theorem rF:eP nJ rE:=cV
def pL:FD:=cU 5 1 [0,2,4,6] lD [(0,lV),(2,lW),(4,lX),(6,lY)] [(0,λp=>⟨(t0 (t2 (.pb 1 0 0) (aF p 0) Z) Z),[(1,⟨0,[fL 52 LL p 1,.fz [] 55 [.str,.sl false 2 dK] (gL p 2),.fz [] 57 [.str,.sl false 3 dK] (gL p 3),fL 44 Zc p 4],none⟩)],[],1⟩),
 (2,λp=>⟨(t0 lF (t0 (aF p 0) Z)),[(1,⟨0,[fL 52 LL p 1,.fz [] 55 [.str,.sl false 2 dK] (gL p 2),.fz [] 57 [.str,.sl false 3 dK] (gL p 3),fL 44 Zc p 4],none⟩)],[],1⟩),
 (4,λp=>⟨(t0 (t2 (.pb 1 0 0) Z (aF p 0)) Z),[(1,⟨0,[fL 52 LL p 1,.fz [] 55 [.str,.sl false 2 dK] (gL p 2),.fz [] 57 [.str,.sl false 3 dK] (gL p 3),fL 44 Zc p 4],none⟩)],[],1⟩),
 (6,λp=>⟨(t0 (t2 (.pb 1 0 0) (t0 (aF p 0) Z) Z) (t0 Z (aF p 1))),[(1,⟨0,[fL 52 LL p 2,.fz [] 55 [.str,.sl false 2 dK] (gL p 3),.fz [] 57 [.str,.sl false 3 dK] (gL p 4),fL 44 Zc p 5],none⟩)],[],1⟩)] [(0,[λp=>(.ret,⟨(t0 lF (iT p 0)),[(1,⟨0,[fL 52 LL p 1,.fz [] 55 [.str,.sl false 2 dK] (gL p 2),.fz [] 57 [.str,.sl false 3 dK] (gL p 3),fL 44 Zc p 4],none⟩)],[],1⟩),
 λp=>(.exit 0,⟨(t0 lF eI),[(1,⟨0,[fL 52 LL p 0,.fz [] 55 [.str,.sl false 2 dK] (gL p 1),.fz [] 57 [.str,.sl false 3 dK] (gL p 2),fL 44 Zc p 3],none⟩)],[],1⟩)]),
 (2,[λp=>(.ret,⟨(t0 lF (iT p 0)),[(1,⟨0,[fL 52 LL p 1,.fz [] 55 [.str,.sl false 2 dK] (gL p 2),.fz [] 57 [.str,.sl false 3 dK] (gL p 3),fL 44 Zc p 4],none⟩)],[],1⟩),
 λp=>(.exit 2,⟨(t0 lF eI),[(1,⟨0,[fL 52 LL p 0,.fz [] 55 [.str,.sl false 2 dK] (gL p 1),.fz [] 57 [.str,.sl false 3 dK] (gL p 2),fL 44 Zc p 3],none⟩)],[],1⟩)]),
 (4,[λp=>(.ret,⟨(t0 lF (iT p 0)),[(1,⟨0,[fL 52 LL p 1,.fz [] 55 [.str,.sl false 2 dK] (gL p 2),.fz [] 57 [.str,.sl false 3 dK] (gL p 3),fL 44 Zc p 4],none⟩)],[],1⟩),
 λp=>(.exit 4,⟨(t0 lF eI),[(1,⟨0,[fL 52 LL p 0,.fz [] 55 [.str,.sl false 2 dK] (gL p 1),.fz [] 57 [.str,.sl false 3 dK] (gL p 2),fL 44 Zc p 3],none⟩)],[],1⟩)]),
 (6,[λp=>(.ret,eL (t0 Z (t2 (nB p 0) Z (aF p 1)))),
 λp=>(.exit 6,eL (t0 Z (t0 Z (aF p 0))))])]
theorem pM:eP JT pL:=cV
def US:FD:=cU 9 2 [0] UA [(0,sW)] [(0,λp=>eL (t2 (.fz [] 41 [.sl false 3 dK] (gL p 0)) (t2 (.fz [] 41 [.sl false 3 dK] (gL p 1)) Z (aF p 2)) Z))] [(0,[λp=>(.ret,eL (t0 Z (t0 (iT p 0) Z))),
 λp=>(.exit 0,eL (t0 Z (t0 eI Z)))])]
theorem UT:eP Bz US:=cV
def Bj:FD:=cU 15 2 [0] Av [(0,AZ)] [(0,λp=>eL (t2 (rQ p 0) (t2 (rQ p 1) Z (aF p 2)) Z))] [(0,[λp=>(.ret,eL (t0 Z (t0 (iT p 0) Z))),
 λp=>(.exit 0,eL (t0 Z (t0 eI Z)))])]
theorem Bk:eP PW Bj:=cV
def rC:FD:=cU 19 1 [0,2,4,6,8,10] TW [(0,lE),(2,pA),(4,jB),(6,pB),(8,pC),(10,nO)] [(0,λp=>⟨(t0 (t2 (.pb 1 0 0) (aF p 0) Z) Z),[(1,⟨0,[fL 52 LL p 1,.fz [] 55 [.str,.sl false 2 dK] (gL p 2),.fz [] 57 [.str,.sl false 3 dK] (gL p 3),fL 44 Zc p 4],none⟩)],[],1⟩),
 (2,λp=>⟨(t0 (t2 (.pb 1 0 0) (aF p 0) (aF p 1)) (t0 (t1 (.pb 4 0 0)) Z)),[(1,⟨0,[fL 52 LL p 2,.fz [] 55 [.str,.sl false 2 dK] (gL p 3),.fz [] 57 [.str,.sl false 3 dK] (gL p 4),fL 44 Zc p 5],none⟩),(4,⟨0,[.str (gS p 6),rQ p 7,nI p 8],none⟩)],[],1⟩),
 (4,λp=>⟨(t0 lF (t0 Z (aF p 0))),[(1,⟨0,[fL 52 LL p 1,.fz [] 55 [.str,.sl false 2 dK] (gL p 2),.fz [] 57 [.str,.sl false 3 dK] (gL p 3),fL 44 Zc p 4],none⟩)],[],1⟩),
 (6,λp=>⟨(t0 (t2 (.pb 1 0 0) (t0 (t1 (.pb 7 0 0)) Z) Z) (t0 (t0 (aF p 0) Z) (aF p 1))),[(1,⟨0,[fL 52 LL p 2,.fz [] 55 [.str,.sl false 2 dK] (gL p 3),.fz [] 57 [.str,.sl false 3 dK] (gL p 4),fL 44 Zc p 5],none⟩),(7,⟨0,[.str (gS p 6),nB p 7,rQ p 8,nI p 9,fL 47 DZ p 10],none⟩)],[],1⟩),
 (8,λp=>⟨(t0 (t2 (.pb 1 0 0) (t0 (t1 (.pb 7 0 0)) Z) (t0 (aF p 0) Z)) (t0 Z (aF p 1))),[(1,⟨0,[fL 52 LL p 2,.fz [] 55 [.str,.sl false 2 dK] (gL p 3),.fz [] 57 [.str,.sl false 3 dK] (gL p 4),fL 44 Zc p 5],none⟩),(7,⟨0,[.str (gS p 6),nB p 7,rQ p 8,nI p 9,fL 47 DZ p 10],none⟩)],[],1⟩),
 (10,λp=>⟨(t0 (t2 (.pb 1 0 0) (t0 (t1 (.pb 7 0 0)) Z) (t0 (aF p 0) Z)) (t0 Z (t2 (nI p 1) (aF p 2) Z))),[(1,⟨0,[fL 52 LL p 3,.fz [] 55 [.str,.sl false 2 dK] (gL p 4),.fz [] 57 [.str,.sl false 3 dK] (gL p 5),fL 44 Zc p 6],none⟩),(7,⟨0,[.str (gS p 7),nB p 8,rQ p 9,nI p 10,fL 47 DZ p 11],none⟩)],[],1⟩)] [(0,[λp=>(.ret,⟨(t0 lF (iT p 0)),[(1,⟨0,[fL 52 LL p 1,.fz [] 55 [.str,.sl false 2 dK] (gL p 2),.fz [] 57 [.str,.sl false 3 dK] (gL p 3),fL 44 Zc p 4],none⟩)],[],1⟩),
 λp=>(.exit 0,⟨(t0 lF eI),[(1,⟨0,[fL 52 LL p 0,.fz [] 55 [.str,.sl false 2 dK] (gL p 1),.fz [] 57 [.str,.sl false 3 dK] (gL p 2),fL 44 Zc p 3],none⟩)],[],1⟩)]),
 (2,[λp=>(.ret,⟨(t0 (t2 (.pb 1 0 0) (aF p 0) Z) (iT p 1)),[(1,⟨0,[fL 52 LL p 2,.fz [] 55 [.str,.sl false 2 dK] (gL p 3),.fz [] 57 [.str,.sl false 3 dK] (gL p 4),fL 44 Zc p 5],none⟩)],[],1⟩),
 λp=>(.exit 2,⟨(t0 (t2 (.pb 1 0 0) (aF p 0) Z) eI),[(1,⟨0,[fL 52 LL p 1,.fz [] 55 [.str,.sl false 2 dK] (gL p 2),.fz [] 57 [.str,.sl false 3 dK] (gL p 3),fL 44 Zc p 4],none⟩)],[],1⟩)]),
 (4,[λp=>(.ret,eL (t0 Z (iT p 0))),
 λp=>(.exit 4,eL (t0 Z eI))]),
 (6,[λp=>(.ret,⟨(t0 (t2 (.pb 1 0 0) (t0 (t1 (.pb 7 0 0)) Z) Z) (t2 (nB p 0) Z (aF p 1))),[(1,⟨0,[fL 52 LL p 2,.fz [] 55 [.str,.sl false 2 dK] (gL p 3),.fz [] 57 [.str,.sl false 3 dK] (gL p 4),fL 44 Zc p 5],none⟩),(7,⟨0,[.str (gS p 6),nB p 7,rQ p 8,nI p 9,fL 47 DZ p 10],none⟩)],[],1⟩),
 λp=>(.exit 6,⟨(t0 (t2 (.pb 1 0 0) (t0 (t1 (.pb 7 0 0)) Z) Z) (t0 Z (aF p 0))),[(1,⟨0,[fL 52 LL p 1,.fz [] 55 [.str,.sl false 2 dK] (gL p 2),.fz [] 57 [.str,.sl false 3 dK] (gL p 3),fL 44 Zc p 4],none⟩),(7,⟨0,[.str (gS p 5),nB p 6,rQ p 7,nI p 8,fL 47 DZ p 9],none⟩)],[],1⟩)]),
 (8,[λp=>(.ret,⟨(t0 lF (t2 (nB p 0) Z (aF p 1))),[(1,⟨0,[fL 52 LL p 2,.fz [] 55 [.str,.sl false 2 dK] (gL p 3),.fz [] 57 [.str,.sl false 3 dK] (gL p 4),fL 44 Zc p 5],none⟩)],[],1⟩),
 λp=>(.exit 8,⟨(t0 lF (t0 Z (aF p 0))),[(1,⟨0,[fL 52 LL p 1,.fz [] 55 [.str,.sl false 2 dK] (gL p 2),.fz [] 57 [.str,.sl false 3 dK] (gL p 3),fL 44 Zc p 4],none⟩)],[],1⟩)]),
 (10,[λp=>(.ret,⟨(t0 (t2 (.pb 1 0 0) (t0 (t1 (.pb 7 0 0)) Z) (t0 (aF p 0) Z)) (t2 (nB p 1) Z (aF p 2))),[(1,⟨0,[fL 52 LL p 3,.fz [] 55 [.str,.sl false 2 dK] (gL p 4),.fz [] 57 [.str,.sl false 3 dK] (gL p 5),fL 44 Zc p 6],none⟩),(7,⟨0,[.str (gS p 7),nB p 8,rQ p 9,nI p 10,fL 47 DZ p 11],none⟩)],[],1⟩),
 λp=>(.exit 10,⟨(t0 (t2 (.pb 1 0 0) (t0 (t1 (.pb 7 0 0)) Z) (t0 (aF p 0) Z)) (t0 Z (aF p 1))),[(1,⟨0,[fL 52 LL p 2,.fz [] 55 [.str,.sl false 2 dK] (gL p 3),.fz [] 57 [.str,.sl false 3 dK] (gL p 4),fL 44 Zc p 5],none⟩),(7,⟨0,[.str (gS p 6),nB p 7,rQ p 8,nI p 9,fL 47 DZ p 10],none⟩)],[],1⟩)])]
theorem rD:eP Jv rC:=cV
def rS:FD:=cU 23 1 [0,2,4,6,8] Ap [(0,uR),(2,uS),(4,AL),(6,AM),(8,AN)] [(0,λp=>⟨(t0 (t2 (.pb 1 0 0) (aF p 0) Z) (t0 (aF p 1) Z)),[(1,⟨0,[.str (gS p 2),nB p 3,rQ p 4,nI p 5,fL 47 DZ p 6],none⟩)],[],1⟩),
 (2,λp=>⟨(t0 (t2 (.pb 1 0 0) (aF p 0) (aF p 1)) (t0 (aF p 2) Z)),[(1,⟨0,[.str (gS p 3),nB p 4,rQ p 5,nI p 6,fL 47 DZ p 7],none⟩)],[],1⟩),
 (4,λp=>⟨(t0 (t2 (.pb 1 0 0) (t2 (nI p 0) (cY 56000000) Z) (t0 (aF p 1) Z)) (t0 (t0 (cY 58000000) Z) Z)),[(1,⟨0,[.str (gS p 2),nB p 3,rQ p 4,nI p 5,fL 47 DZ p 6],none⟩)],[aY 56000000 78 fY p 7,aY 58000000 34 [.sl true 4 gX] p 8],1⟩),
 (6,λp=>⟨(t0 (t2 (.pb 1 0 0) (t2 (nI p 0) (cY 56000000) Z) (t0 (aF p 1) Z)) (t0 (t0 (cY 58000000) Z) (t0 (aF p 2) Z))),[(1,⟨0,[.str (gS p 3),nB p 4,rQ p 5,nI p 6,fL 47 DZ p 7],none⟩)],[aY 56000000 78 fY p 8,aY 58000000 34 [.sl true 4 gX] p 9],1⟩),
 (8,λp=>⟨(t0 (t2 (.pb 1 0 0) (t2 (nI p 0) (cY 56000000) (t1 (.pb 11 0 0))) (t0 (aF p 1) Z)) (t0 (t0 (cY 58000000) (aF p 2)) (t0 (aF p 3) Z))),[(1,⟨0,[.str (gS p 4),nB p 5,rQ p 6,nI p 7,fL 47 DZ p 8],none⟩),(11,Ay p 9)],[aY 56000000 78 fY p 16,aY 58000000 34 [.sl true 4 gX] p 17],1⟩)] [(0,[λp=>(.ret,⟨(t0 (t2 (.pb 1 0 0) (aF p 0) Z) (iT p 1)),[(1,⟨0,[.str (gS p 2),nB p 3,rQ p 4,nI p 5,fL 47 DZ p 6],none⟩)],[],1⟩),
 λp=>(.exit 0,⟨(t0 (t2 (.pb 1 0 0) (aF p 0) Z) eI),[(1,⟨0,[.str (gS p 1),nB p 2,rQ p 3,nI p 4,fL 47 DZ p 5],none⟩)],[],1⟩)]),
 (2,[λp=>(.ret,⟨(t0 (t2 (.pb 1 0 0) (aF p 0) Z) (t2 (nB p 1) (aF p 2) Z)),[(1,⟨0,[.str (gS p 3),nB p 4,rQ p 5,nI p 6,fL 47 DZ p 7],none⟩)],[],1⟩),
 λp=>(.exit 2,⟨(t0 (t2 (.pb 1 0 0) (aF p 0) Z) (t0 (aF p 1) Z)),[(1,⟨0,[.str (gS p 2),nB p 3,rQ p 4,nI p 5,fL 47 DZ p 6],none⟩)],[],1⟩)]),
 (4,[λp=>(.ret,eL (t0 Z (iT p 0))),
 λp=>(.exit 4,eL (t0 Z eI))]),
 (6,[λp=>(.ret,⟨(t0 (t2 (.pb 1 0 0) (t2 (nI p 0) (cY 56000000) Z) (t0 (aF p 1) Z)) (t2 (nB p 2) (t0 (cY 58000000) Z) Z)),[(1,⟨0,[.str (gS p 3),nB p 4,rQ p 5,nI p 6,fL 47 DZ p 7],none⟩)],[aY 56000000 78 fY p 8,aY 58000000 34 [.sl true 4 gX] p 9],1⟩),
 λp=>(.exit 6,⟨(t0 (t2 (.pb 1 0 0) (t2 (nI p 0) (cY 56000000) Z) (t0 (aF p 1) Z)) (t0 (t0 (cY 58000000) Z) Z)),[(1,⟨0,[.str (gS p 2),nB p 3,rQ p 4,nI p 5,fL 47 DZ p 6],none⟩)],[aY 56000000 78 fY p 7,aY 58000000 34 [.sl true 4 gX] p 8],1⟩)]),
 (8,[λp=>(.ret,⟨(t0 (t2 (.pb 1 0 0) (t2 (nI p 0) (cY 56000000) Z) (t0 (aF p 1) Z)) (t2 (nB p 2) (t0 (cY 58000000) Z) (t0 (aF p 3) Z))),[(1,⟨0,[.str (gS p 4),nB p 5,rQ p 6,nI p 7,fL 47 DZ p 8],none⟩)],[aY 56000000 78 fY p 9,aY 58000000 34 [.sl true 4 gX] p 10],1⟩),
 λp=>(.exit 8,⟨(t0 (t2 (.pb 1 0 0) (t2 (nI p 0) (cY 56000000) Z) (t0 (aF p 1) Z)) (t0 (t0 (cY 58000000) Z) (t0 (aF p 2) Z))),[(1,⟨0,[.str (gS p 3),nB p 4,rQ p 5,nI p 6,fL 47 DZ p 7],none⟩)],[aY 56000000 78 fY p 8,aY 58000000 34 [.sl true 4 gX] p 9],1⟩)])]
theorem yZ:eP Uc rS:=cV
def IG:FD:=cU 27 1 [0,2,4] Eb [(0,yY),(2,zN),(4,AA)] [(0,λp=>⟨(t0 (t0 (t2 (cO 13) (t0 (t1 (fL 47 DZ p 0)) Z) Z) (t0 (t0 (aF p 1) Z) Z)) (t0 (t0 (t0 (aF p 2) Z) Z) Z)),[],[aY 13 3 dK p 3],1⟩),
 (2,λp=>⟨(t0 (t0 (t2 (cO 13) (t0 (t1 (fL 47 DZ p 0)) (aF p 1)) Z) (t0 (t0 (aF p 2) Z) Z)) (t0 (t0 (t0 (aF p 3) (aF p 4)) Z) (t0 Z (t0 (t1 (fL 50 PZ p 5)) Z)))),[],[aY 13 3 dK p 6],1⟩),
 (4,λp=>⟨(t0 (t0 (t2 (cO 13) (t0 (t2 (fL 47 DZ p 0) (aF p 1) Z) (aF p 2)) Z) (t0 (t0 (aF p 3) Z) (t0 Z (t1 (rQ p 4))))) (t0 (t0 (t0 (aF p 5) (aF p 6)) Z) (t0 Z (t0 (t1 (fL 50 PZ p 7)) (aF p 8))))),[],[aY 13 3 dK p 9],1⟩)] [(0,[λp=>(.exit 0,⟨(t0 (t0 (cY 13) Z) eI),[],[aY 13 3 dK p 0],1⟩)]),
 (2,[λp=>(.exit 2,⟨(t0 (t0 (t2 (cO 13) (t0 (t1 (fL 47 DZ p 0)) Z) Z) (t0 (t0 (aF p 1) Z) Z)) (t0 (t0 (t0 (aF p 2) Z) Z) Z)),[],[aY 13 3 dK p 3],1⟩)]),
 (4,[λp=>(.exit 4,⟨(t0 (t0 (t2 (cO 13) (t0 (t1 (fL 47 DZ p 0)) (aF p 1)) Z) (t0 (t0 (aF p 2) Z) Z)) (t0 (t0 (t0 (aF p 3) (aF p 4)) Z) (t0 Z (t0 (t1 (fL 50 PZ p 5)) Z)))),[],[aY 13 3 dK p 6],1⟩)])]
theorem II:eP Jo IG:=cV
def Po:FD:=cU 36 1 [] aAi [] [] []
theorem Pp:eP BZ Po:=cV
def QB:FD:=cU 40 1 [0,2] An [(0,AI),(2,AJ)] [(0,λp=>⟨(t0 (t2 (.pb 1 0 0) (cY 11) (aF p 0)) (t0 (cY 14000000) Z)),[(1,⟨0,[.str (gS p 1),nB p 2,rQ p 3,nI p 4,fL 47 DZ p 5],none⟩)],[aY 11 34 [.sl true 4 gX] p 6,aY 14000000 4 gX p 7],1⟩),
 (2,λp=>⟨(t0 (t2 (.pb 1 0 0) (t2 (cO 11) (aF p 0) Z) (aF p 1)) (t0 (cY 14000000) (cY 34000000))),[(1,⟨0,[.str (gS p 2),nB p 3,rQ p 4,nI p 5,fL 47 DZ p 6],none⟩)],[aY 11 34 [.sl true 4 gX] p 7,aY 14000000 4 gX p 8,aY 34000000 4 gX p 9],1⟩)] [(0,[λp=>(.exit 0,⟨(t0 (t0 (cY 11) Z) eI),[],[aY 11 34 [.sl true 4 gX] p 0],1⟩)]),
 (2,[λp=>(.exit 2,⟨(t0 (t2 (.pb 1 0 0) (cY 11) (aF p 0)) (t0 (cY 14000000) Z)),[(1,⟨0,[.str (gS p 1),nB p 2,rQ p 3,nI p 4,fL 47 DZ p 5],none⟩)],[aY 11 34 [.sl true 4 gX] p 6,aY 14000000 4 gX p 7],1⟩)])]
theorem QC:eP Ug QB:=cV
def oR:FD:=cU 44 1 [0,2,4,6,8,10] OC [(0,iC),(2,nP),(4,dX),(6,iF),(8,nQ),(10,mB)] [(0,λp=>⟨(t0 (t2 (.pb 1 0 0) Z (t0 (t0 (aF p 0) Z) Z)) (t0 (t0 (t0 (t1 (fL 52 LL p 1)) Z) Z) (t0 (t0 (aF p 2) Z) Z))),[(1,⟨0,[fL 52 LL p 3,.fz [] 55 [.str,.sl false 2 dK] (gL p 4),.fz [] 57 [.str,.sl false 3 dK] (gL p 5),fL 44 Zc p 6],none⟩)],[],1⟩),
 (2,λp=>⟨(t0 (t2 (.pb 1 0 0) (t0 (t0 Z (t1 (rQ p 0))) Z) (t0 (t0 (aF p 1) (aF p 2)) Z)) (t0 (t2 (.pb 4 0 0) (t0 (t1 (fL 52 LL p 3)) (aF p 4)) Z) (t0 (t0 (aF p 5) Z) Z))),[(1,⟨0,[fL 52 LL p 6,.fz [] 55 [.str,.sl false 2 dK] (gL p 7),.fz [] 57 [.str,.sl false 3 dK] (gL p 8),fL 44 Zc p 9],none⟩),(4,⟨0,[.str (gS p 10),rQ p 11,nI p 12],none⟩)],[],1⟩),
 (4,λp=>eL (t0 (t0 Z (t0 Z (t0 Z (t0 (aF p 0) Z)))) (t0 (t0 Z (t0 Z (t0 (t1 (fL 44 Zc p 1)) Z))) (t0 Z (t0 Z (t0 (aF p 2) Z)))))),
 (6,λp=>⟨(t0 (t0 (t0 (t0 Z (t0 (t0 (aF p 0) Z) Z)) Z) (t0 Z (t0 (t0 (t0 (t1 (rQ p 1)) Z) Z) (t0 (aF p 2) Z)))) (t0 (t0 (t1 (.pb 8 0 0)) (t0 Z (t0 (t1 (fL 44 Zc p 3)) Z))) (t0 Z (t0 (t0 (t0 (aF p 4) Z) Z) (t0 (aF p 5) Z))))),[(8,⟨0,[.str (gS p 6),nB p 7,rQ p 8,nI p 9,fL 47 DZ p 10],none⟩)],[],1⟩),
 (8,λp=>eL (t0 (t0 Z (t0 Z (t0 Z (t0 (aF p 0) (t0 (aF p 1) Z))))) (t0 (t0 Z (t0 Z (t0 (t1 (fL 44 Zc p 2)) (t0 (t1 (fL 47 DZ p 3)) Z)))) (t0 Z (t0 Z (t0 (aF p 4) (t0 (aF p 5) Z))))))),
 (10,λp=>eL (t0 (t0 (t0 Z (t0 (t0 (t0 Z (t1 (fL 50 PZ p 0))) Z) Z)) (t0 Z (t0 (t0 (t0 Z (aF p 1)) Z) (t0 (aF p 2) (t0 (aF p 3) Z))))) (t0 (t0 Z (t0 (t0 (t0 Z (aF p 4)) Z) (t0 (t1 (fL 44 Zc p 5)) (t0 (t1 (fL 47 DZ p 6)) Z)))) (t0 Z (t0 Z (t0 (aF p 7) (t0 (aF p 8) Z)))))))] [(0,[λp=>(.ret,⟨(t0 lF (iT p 0)),[(1,⟨0,[fL 52 LL p 1,.fz [] 55 [.str,.sl false 2 dK] (gL p 2),.fz [] 57 [.str,.sl false 3 dK] (gL p 3),fL 44 Zc p 4],none⟩)],[],1⟩),
 λp=>(.exit 0,⟨(t0 lF eI),[(1,⟨0,[fL 52 LL p 0,.fz [] 55 [.str,.sl false 2 dK] (gL p 1),.fz [] 57 [.str,.sl false 3 dK] (gL p 2),fL 44 Zc p 3],none⟩)],[],1⟩)]),
 (2,[λp=>(.ret,⟨(t0 (t2 (.pb 1 0 0) Z (t0 (t0 (aF p 0) Z) Z)) (t2 (nB p 1) (t2 (.pb 4 0 0) (t0 (t1 (fL 52 LL p 2)) Z) Z) (t0 (t0 (aF p 3) Z) Z))),[(1,⟨0,[fL 52 LL p 4,.fz [] 55 [.str,.sl false 2 dK] (gL p 5),.fz [] 57 [.str,.sl false 3 dK] (gL p 6),fL 44 Zc p 7],none⟩),(4,⟨0,[.str (gS p 8),rQ p 9,nI p 10],none⟩)],[],1⟩),
 λp=>(.exit 2,⟨(t0 (t2 (.pb 1 0 0) Z (t0 (t0 (aF p 0) Z) Z)) (t0 (t2 (.pb 4 0 0) (t0 (t1 (fL 52 LL p 1)) Z) Z) (t0 (t0 (aF p 2) Z) Z))),[(1,⟨0,[fL 52 LL p 3,.fz [] 55 [.str,.sl false 2 dK] (gL p 4),.fz [] 57 [.str,.sl false 3 dK] (gL p 5),fL 44 Zc p 6],none⟩),(4,⟨0,[.str (gS p 7),rQ p 8,nI p 9],none⟩)],[],1⟩)]),
 (4,[λp=>(.ret,eL (t0 Z (iT p 0))),
 λp=>(.exit 4,eL (t0 Z eI))]),
 (6,[λp=>(.ret,⟨(t0 (t0 Z (t0 Z (t0 Z (t0 (aF p 0) Z)))) (t2 (nB p 1) (t0 (t1 (.pb 8 0 0)) (t0 Z (t0 (t1 (fL 44 Zc p 2)) Z))) (t0 Z (t0 Z (t0 (aF p 3) Z))))),[(8,⟨0,[.str (gS p 4),nB p 5,rQ p 6,nI p 7,fL 47 DZ p 8],none⟩)],[],1⟩),
 λp=>(.exit 6,⟨(t0 (t0 Z (t0 Z (t0 Z (t0 (aF p 0) Z)))) (t0 (t0 (t1 (.pb 8 0 0)) (t0 Z (t0 (t1 (fL 44 Zc p 1)) Z))) (t0 Z (t0 Z (t0 (aF p 2) Z))))),[(8,⟨0,[.str (gS p 3),nB p 4,rQ p 5,nI p 6,fL 47 DZ p 7],none⟩)],[],1⟩)]),
 (8,[λp=>(.ret,eL (t0 (t0 Z (t0 Z (t0 Z (t0 (aF p 0) Z)))) (t2 (nB p 1) (t0 Z (t0 Z (t0 (t1 (fL 44 Zc p 2)) Z))) (t0 Z (t0 Z (t0 (aF p 3) Z)))))),
 λp=>(.exit 8,eL (t0 (t0 Z (t0 Z (t0 Z (t0 (aF p 0) Z)))) (t0 (t0 Z (t0 Z (t0 (t1 (fL 44 Zc p 1)) Z))) (t0 Z (t0 Z (t0 (aF p 2) Z))))))]),
 (10,[λp=>(.ret,eL (t0 (t0 Z (t0 Z (t0 Z (t0 (aF p 0) (t0 (aF p 1) Z))))) (t2 (nB p 2) (t0 Z (t0 Z (t0 (t1 (fL 44 Zc p 3)) (t0 (t1 (fL 47 DZ p 4)) Z)))) (t0 Z (t0 Z (t0 (aF p 5) (t0 (aF p 6) Z))))))),
 λp=>(.exit 10,eL (t0 (t0 Z (t0 Z (t0 Z (t0 (aF p 0) (t0 (aF p 1) Z))))) (t0 (t0 Z (t0 Z (t0 (t1 (fL 44 Zc p 2)) (t0 (t1 (fL 47 DZ p 3)) Z)))) (t0 Z (t0 Z (t0 (aF p 4) (t0 (aF p 5) Z)))))))])]
theorem oS:eP Ae oR:=cV
def rU:FD:=cU 48 1 [0,2,4,6,8,10,12] Au [(0,AU),(2,AV),(4,AW),(6,AX),(8,AY),(10,xR),(12,xS)] [(0,λp=>⟨(t0 (t2 (.pb 1 0 0) (aF p 0) (t0 Z (t0 Z (aF p 1)))) (t0 (t2 (cO 200004) Z (t0 Z (t1 (fL 47 DZ p 2)))) (t0 Z (t0 Z (aF p 3))))),[(1,⟨0,[.str (gS p 4),nB p 5,rQ p 6,nI p 7,fL 47 DZ p 8],none⟩)],[aY 200004 3 dK p 9],1⟩),
 (2,λp=>⟨(t0 (t2 (.pb 1 0 0) (aF p 0) (t2 (nI p 1) Z (t0 (t0 (aF p 2) Z) (aF p 3)))) (t0 (t2 (cO 200004) Z (t0 (t0 (t1 (fL 50 PZ p 4)) Z) (t1 (fL 47 DZ p 5)))) (t0 Z (t0 (t0 (aF p 6) Z) (aF p 7))))),[(1,⟨0,[.str (gS p 8),nB p 9,rQ p 10,nI p 11,fL 47 DZ p 12],none⟩)],[aY 200004 3 dK p 13],1⟩),
 (4,λp=>⟨(t0 (t2 (.pb 1 0 0) (aF p 0) (t0 (t2 (cO 60) (t0 (t0 (aF p 1) Z) Z) Z) Z)) (t0 (t2 (cO 200004) (t0 (t0 (t0 (aF p 2) Z) Z) Z) Z) (t0 (cY 63000000) Z))),[(1,⟨0,[.str (gS p 3),nB p 4,rQ p 5,nI p 6,fL 47 DZ p 7],none⟩)],[aY 60 34 [.sl true 4 gX] p 8,aY 200004 3 dK p 9,aY 63000000 3 dK p 10],1⟩),
 (6,λp=>⟨(t0 (t2 (.pb 1 0 0) (t2 (nI p 0) Z (aF p 1)) (t0 (t2 (cO 60) (t0 (t0 (aF p 2) Z) Z) Z) Z)) (t0 (t2 (cO 200004) (t0 (t0 (t0 (aF p 3) Z) Z) Z) (aF p 4)) (t0 (cY 63000000) Z))),[(1,⟨0,[.str (gS p 5),nB p 6,rQ p 7,nI p 8,fL 47 DZ p 9],none⟩)],[aY 60 34 [.sl true 4 gX] p 10,aY 200004 3 dK p 11,aY 63000000 3 dK p 12],1⟩),
 (8,λp=>⟨(t0 (t2 (.pb 1 0 0) (t2 (nI p 0) Z (t0 Z (t0 Z (t0 (aF p 1) Z)))) (t0 (cY 60) Z)) (t0 (t2 (cO 200004) Z (t0 Z (t0 Z (t0 (aF p 2) Z)))) (t0 (t0 Z (t0 Z (t0 (t1 (fL 47 DZ p 3)) Z))) Z))),[(1,⟨0,[.str (gS p 4),nB p 5,rQ p 6,nI p 7,fL 47 DZ p 8],none⟩)],[aY 60 34 [.sl true 4 gX] p 9,aY 200004 3 dK p 10],1⟩),
 (10,λp=>⟨(t0 (t2 (.pb 1 0 0) (t2 (nI p 0) (t0 (aF p 1) Z) (t0 Z (t0 Z (t0 (aF p 2) Z)))) (t0 (cY 60) (t2 (nI p 3) Z (t0 (t0 Z (aF p 4)) Z)))) (t0 (t2 (cO 200004) Z (t0 Z (t0 (t0 Z (t1 (fL 50 PZ p 5))) (t0 (aF p 6) Z)))) (t0 (t0 Z (t0 Z (t0 (t1 (fL 47 DZ p 7)) Z))) (t0 Z (t0 (t0 Z (aF p 8)) Z))))),[(1,⟨0,[.str (gS p 9),nB p 10,rQ p 11,nI p 12,fL 47 DZ p 13],none⟩)],[aY 60 34 [.sl true 4 gX] p 14,aY 200004 3 dK p 15],1⟩),
 (12,λp=>⟨(t0 (t2 (.pb 1 0 0) (t2 (nI p 0) (t0 (aF p 1) Z) (t0 (t0 Z (t0 Z (t1 (rQ p 2)))) (t0 Z (t0 (aF p 3) Z)))) (t0 (t2 (cO 60) (t1 (.pb 17 0 0)) Z) (t2 (nI p 4) (t0 Z (t0 Z (aF p 5))) (t0 (t0 Z (aF p 6)) Z)))) (t0 (t2 (cO 200004) Z (t0 (t0 Z (t0 Z (aF p 7))) (t0 (t0 Z (t1 (fL 50 PZ p 8))) (t0 (aF p 9) Z)))) (t0 (t0 Z (t0 Z (t0 (t1 (fL 47 DZ p 10)) Z))) (t0 Z (t0 (t0 Z (aF p 11)) Z))))),[(1,⟨0,[.str (gS p 12),nB p 13,rQ p 14,nI p 15,fL 47 DZ p 16],none⟩),(17,Ay p 17)],[aY 60 34 [.sl true 4 gX] p 24,aY 200004 3 dK p 25],1⟩)] [(0,[λp=>(.ret,⟨(t0 (t2 (.pb 1 0 0) (aF p 0) Z) (t2 (nB p 1) (cY 200004) Z)),[(1,⟨0,[.str (gS p 2),nB p 3,rQ p 4,nI p 5,fL 47 DZ p 6],none⟩)],[aY 200004 3 dK p 7],1⟩),
 λp=>(.exit 0,⟨(t0 (t2 (.pb 1 0 0) (aF p 0) Z) (t0 (cY 200004) Z)),[(1,⟨0,[.str (gS p 1),nB p 2,rQ p 3,nI p 4,fL 47 DZ p 5],none⟩)],[aY 200004 3 dK p 6],1⟩)]),
 (2,[λp=>(.ret,⟨(t0 (t2 (.pb 1 0 0) (aF p 0) (t0 Z (t0 Z (aF p 1)))) (t2 (nB p 2) (t2 (cO 200004) Z (t0 Z (t1 (fL 47 DZ p 3)))) (t0 Z (t0 Z (aF p 4))))),[(1,⟨0,[.str (gS p 5),nB p 6,rQ p 7,nI p 8,fL 47 DZ p 9],none⟩)],[aY 200004 3 dK p 10],1⟩),
 λp=>(.exit 2,⟨(t0 (t2 (.pb 1 0 0) (aF p 0) (t0 Z (t0 Z (aF p 1)))) (t0 (t2 (cO 200004) Z (t0 Z (t1 (fL 47 DZ p 2)))) (t0 Z (t0 Z (aF p 3))))),[(1,⟨0,[.str (gS p 4),nB p 5,rQ p 6,nI p 7,fL 47 DZ p 8],none⟩)],[aY 200004 3 dK p 9],1⟩)]),
 (4,[λp=>(.exit 4,⟨(t0 (t2 (.pb 1 0 0) (aF p 0) (t0 (cY 60) Z)) (t0 (cY 200004) Z)),[(1,⟨0,[.str (gS p 1),nB p 2,rQ p 3,nI p 4,fL 47 DZ p 5],none⟩)],[aY 60 34 [.sl true 4 gX] p 6,aY 200004 3 dK p 7],1⟩)]),
 (6,[λp=>(.exit 6,⟨(t0 (t2 (.pb 1 0 0) (aF p 0) (t0 (t2 (cO 60) (t0 (t0 (aF p 1) Z) Z) Z) Z)) (t0 (t2 (cO 200004) (t0 (t0 (t0 (aF p 2) Z) Z) Z) Z) (t0 (cY 63000000) Z))),[(1,⟨0,[.str (gS p 3),nB p 4,rQ p 5,nI p 6,fL 47 DZ p 7],none⟩)],[aY 60 34 [.sl true 4 gX] p 8,aY 200004 3 dK p 9,aY 63000000 3 dK p 10],1⟩)]),
 (8,[λp=>(.ret,eL (t0 Z (iT p 0))),
 λp=>(.exit 8,eL (t0 Z eI))]),
 (10,[λp=>(.ret,⟨(t0 (t2 (.pb 1 0 0) (t2 (nI p 0) Z (t0 Z (t0 Z (t0 (aF p 1) Z)))) (t0 (cY 60) Z)) (t2 (nB p 2) (t2 (cO 200004) Z (t0 Z (t0 Z (t0 (aF p 3) Z)))) (t0 (t0 Z (t0 Z (t0 (t1 (fL 47 DZ p 4)) Z))) Z))),[(1,⟨0,[.str (gS p 5),nB p 6,rQ p 7,nI p 8,fL 47 DZ p 9],none⟩)],[aY 60 34 [.sl true 4 gX] p 10,aY 200004 3 dK p 11],1⟩),
 λp=>(.exit 10,⟨(t0 (t2 (.pb 1 0 0) (t2 (nI p 0) Z (t0 Z (t0 Z (t0 (aF p 1) Z)))) (t0 (cY 60) Z)) (t0 (t2 (cO 200004) Z (t0 Z (t0 Z (t0 (aF p 2) Z)))) (t0 (t0 Z (t0 Z (t0 (t1 (fL 47 DZ p 3)) Z))) Z))),[(1,⟨0,[.str (gS p 4),nB p 5,rQ p 6,nI p 7,fL 47 DZ p 8],none⟩)],[aY 60 34 [.sl true 4 gX] p 9,aY 200004 3 dK p 10],1⟩)]),
 (12,[λp=>(.ret,⟨(t0 (t2 (.pb 1 0 0) (t2 (nI p 0) (t0 (aF p 1) Z) (t0 Z (t0 Z (t0 (aF p 2) Z)))) (t0 (t2 (cO 60) (t1 (.pb 17 0 0)) Z) (t2 (nI p 3) Z (t0 (t0 Z (aF p 4)) Z)))) (t2 (nB p 5) (t2 (cO 200004) Z (t0 Z (t0 (t0 Z (t1 (fL 50 PZ p 6))) (t0 (aF p 7) Z)))) (t0 (t0 Z (t0 Z (t0 (t1 (fL 47 DZ p 8)) Z))) (t0 Z (t0 (t0 Z (aF p 9)) Z))))),[(1,⟨0,[.str (gS p 10),nB p 11,rQ p 12,nI p 13,fL 47 DZ p 14],none⟩),(17,Ay p 15)],[aY 60 34 [.sl true 4 gX] p 22,aY 200004 3 dK p 23],1⟩),
 λp=>(.exit 12,⟨(t0 (t2 (.pb 1 0 0) (t2 (nI p 0) (t0 (aF p 1) Z) (t0 Z (t0 Z (t0 (aF p 2) Z)))) (t0 (t2 (cO 60) (t1 (.pb 17 0 0)) Z) (t2 (nI p 3) Z (t0 (t0 Z (aF p 4)) Z)))) (t0 (t2 (cO 200004) Z (t0 Z (t0 (t0 Z (t1 (fL 50 PZ p 5))) (t0 (aF p 6) Z)))) (t0 (t0 Z (t0 Z (t0 (t1 (fL 47 DZ p 7)) Z))) (t0 Z (t0 (t0 Z (aF p 8)) Z))))),[(1,⟨0,[.str (gS p 9),nB p 10,rQ p 11,nI p 12,fL 47 DZ p 13],none⟩),(17,Ay p 14)],[aY 60 34 [.sl true 4 gX] p 21,aY 200004 3 dK p 22],1⟩)])]
theorem rV:eP Ud rU:=cV
def Ek:FD:=cU 52 1 [] NW [] [] []
theorem El:eP PV Ek:=cV
def Bm:FD:=cU 60 2 [0] Ax [(0,BB)] [(0,λp=>⟨(t0 (t0 (t0 (cY 200007) Z) (t1 (.pb 5 0 0))) (t2 (.pb 2 0 0) (t0 (aF p 0) Z) Z)),[(2,⟨0,[.str (gS p 1),nB p 2,rQ p 3,nI p 4,fL 47 DZ p 5],none⟩),(5,Ay p 6)],[aY 200007 3 dK p 13],1⟩)] [(0,[λp=>(.exit 0,⟨(t0 (t0 (t0 (cY 200007) Z) Z) (t0 eI Z)),[],[aY 200007 3 dK p 0],1⟩)])]
theorem Bn:eP Gg Bm:=cV
def Bf:FD:=cU 64 1 [0] Ar [(0,AR)] [(0,λp=>eL (t2 (.str (gS p 0)) (t0 (t0 (t0 (aF p 1) Z) Z) Z) (t0 (t0 (t0 (aF p 2) Z) Z) Z)))] [(0,[λp=>(.ret,eL (t0 Z (iT p 0))),
 λp=>(.exit 0,eL (t0 Z eI))])]
theorem Bg:eP Ui Bf:=cV
def GA:FD:=cU 68 1 [0,2] NX [(0,sX),(2,sY)] [(0,λp=>⟨(t0 (t2 (.pb 1 0 0) (cY 10) (t0 Z (aF p 0))) (t0 Z (t0 Z (aF p 1)))),[(1,⟨0,[.str (gS p 2),nB p 3,rQ p 4,nI p 5,fL 47 DZ p 6],none⟩)],[aY 10 41 [.sl true 3 dK] p 7],1⟩),
 (2,λp=>⟨(t0 (t2 (.pb 1 0 0) (t2 (cO 10) Z (t0 (cY 20000000) Z)) (t0 Z (t2 (nI p 0) (aF p 1) Z))) (t0 (t2 (nI p 2) Z (t0 (aF p 3) Z)) (t0 Z (aF p 4)))),[(1,⟨0,[.str (gS p 5),nB p 6,rQ p 7,nI p 8,fL 47 DZ p 9],none⟩)],[aY 10 41 [.sl true 3 dK] p 10,aY 20000000 3 dK p 11],1⟩)] [(0,[λp=>(.exit 0,⟨(t0 (t0 (cY 10) Z) eI),[],[aY 10 41 [.sl true 3 dK] p 0],1⟩)]),
 (2,[λp=>(.exit 2,⟨(t0 (t2 (.pb 1 0 0) (cY 10) (t0 Z (aF p 0))) (t0 Z (t0 Z (aF p 1)))),[(1,⟨0,[.str (gS p 2),nB p 3,rQ p 4,nI p 5,fL 47 DZ p 6],none⟩)],[aY 10 41 [.sl true 3 dK] p 7],1⟩)])]
theorem GB:eP Ag GA:=cV
def KF:FD:=cU 72 1 [0,2] TR [(0,wS),(2,wT)] [(0,λp=>⟨(t0 (t0 (t2 (cO 200003) (t0 (aF p 0) Z) Z) (t0 Z (t1 (fL 47 DZ p 1)))) (t0 Z (t0 Z (aF p 2)))),[],[aY 200003 3 dK p 3],1⟩),
 (2,λp=>⟨(t0 (t0 (t2 (cO 200003) (t0 (aF p 0) Z) Z) (t0 Z (t2 (fL 47 DZ p 1) (aF p 2) Z))) (t0 (t0 Z (t0 (t1 (fL 50 PZ p 3)) Z)) (t0 Z (t2 (nI p 4) (aF p 5) Z)))),[],[aY 200003 3 dK p 6],1⟩)] [(0,[λp=>(.exit 0,⟨(t0 (t0 (cY 200003) Z) eI),[],[aY 200003 3 dK p 0],1⟩)]),
 (2,[λp=>(.exit 2,⟨(t0 (t0 (t2 (cO 200003) (t0 (aF p 0) Z) Z) (t0 Z (t1 (fL 47 DZ p 1)))) (t0 Z (t0 Z (aF p 2)))),[],[aY 200003 3 dK p 3],1⟩)])]
theorem KG:eP XL KF:=cV
def Pu:FD:=cU 77 2 [] Ak [] [] []
theorem Pv:eP Uj Pu:=cV
def RR:FD:=cU 81 1 [] GV [] [] []
theorem RT:eP NK RR:=cV
def Kq:FD:=cU 85 3 [0] Ki [(0,EB)] [(0,λp=>eL (t2 (rQ p 0) (t0 (t0 Z (aF p 1)) (t0 (t1 (rQ p 2)) Z)) (t2 (nI p 3) Z (t0 (aF p 4) Z))))] [(0,[λp=>(.ret,eL (t0 Z (t0 Z (iT p 0)))),
 λp=>(.exit 0,eL (t0 Z (t0 Z eI)))])]
theorem Kr:eP Ah Kq:=cV
def cB:FD:=cU 91 1 [0,2] hZ [(0,cF),(2,dS)] [(0,λp=>⟨(t2 (cO 500) (t0 (aF p 0) Z) Z),[],[aY 500 118 fY p 1],1⟩),
 (2,λp=>⟨(t2 (cO 500) (t0 (aF p 0) (aF p 1)) (t0 (t1 (.sx 500 0 2 (gN p 2) (gN p 3))) Z)),[],[aY 500 118 fY p 4],1⟩)] [(0,[λp=>(.ret,⟨(t0 Z (cY 59)),[],[aY 59 118 fY p 0],1⟩),
 λp=>(.exit 0,⟨(t2 (cO 500) Z eI),[],[aY 500 118 fY p 0],1⟩)]),
 (2,[λp=>(.exit 2,⟨(t2 (cO 500) (t0 (aF p 0) Z) eI),[],[aY 500 118 fY p 1],1⟩)])]
theorem dY:eP bV cB:=cV
def zP:FD:=cU 95 2 [0,2] GX [(0,pU),(2,kS)] [(0,λp=>⟨(t2 (.fz [] 41 [.sl false 3 dK] (gL p 0)) (t2 (nI p 1) Z (cY 12)) (t0 Z (cY 200006))),[],[aY 12 4 gX p 2,aY 200006 3 dK p 3],1⟩),
 (2,λp=>⟨(t2 (.fz [] 41 [.sl false 3 dK] (gL p 0)) (t2 (nI p 1) (t0 (t0 Z (t0 (aF p 2) Z)) Z) (t2 (cO 12) Z (t0 (t0 (t1 (rQ p 3)) Z) Z))) (t0 Z (t2 (cO 200006) Z (t0 (t0 (aF p 4) Z) Z)))),[],[aY 12 4 gX p 5,aY 200006 3 dK p 6],1⟩)] [(0,[λp=>(.exit 0,⟨(t0 (t0 Z (cY 12)) (t0 eI Z)),[],[aY 12 4 gX p 0],1⟩)]),
 (2,[λp=>(.exit 2,⟨(t2 (.fz [] 41 [.sl false 3 dK] (gL p 0)) (t2 (nI p 1) Z (cY 12)) (t0 eI (cY 200006))),[],[aY 12 4 gX p 2,aY 200006 3 dK p 3],1⟩)])]
theorem zQ:eP NM zP:=cV
def EH:FD:=cU 6 1 [0,2,4] TO [(0,wF),(2,wG),(4,wH)] [(0,λp=>⟨(t0 (t2 (.pb 1 0 0) (aF p 0) Z) Z),[(1,⟨0,[fL 52 LL p 1,.fz [] 55 [.str,.sl false 2 dK] (gL p 2),.fz [] 57 [.str,.sl false 3 dK] (gL p 3),fL 44 Zc p 4],none⟩)],[],1⟩),
 (2,λp=>⟨(t0 lF (t0 (aF p 0) Z)),[(1,⟨0,[fL 52 LL p 1,.fz [] 55 [.str,.sl false 2 dK] (gL p 2),.fz [] 57 [.str,.sl false 3 dK] (gL p 3),fL 44 Zc p 4],none⟩)],[],1⟩),
 (4,λp=>⟨(t0 (t2 (.pb 1 0 0) Z (aF p 0)) Z),[(1,⟨0,[fL 52 LL p 1,.fz [] 55 [.str,.sl false 2 dK] (gL p 2),.fz [] 57 [.str,.sl false 3 dK] (gL p 3),fL 44 Zc p 4],none⟩)],[],1⟩)] [(0,[λp=>(.ret,⟨(t0 lF (aF p 0)),[(1,⟨0,[fL 52 LL p 1,.fz [] 55 [.str,.sl false 2 dK] (gL p 2),.fz [] 57 [.str,.sl false 3 dK] (gL p 3),fL 44 Zc p 4],none⟩)],[],1⟩),
 λp=>(.exit 0,⟨(t0 lF eI),[(1,⟨0,[fL 52 LL p 0,.fz [] 55 [.str,.sl false 2 dK] (gL p 1),.fz [] 57 [.str,.sl false 3 dK] (gL p 2),fL 44 Zc p 3],none⟩)],[],1⟩)]),
 (2,[λp=>(.ret,⟨(t0 lF (aF p 0)),[(1,⟨0,[fL 52 LL p 1,.fz [] 55 [.str,.sl false 2 dK] (gL p 2),.fz [] 57 [.str,.sl false 3 dK] (gL p 3),fL 44 Zc p 4],none⟩)],[],1⟩),
 λp=>(.exit 2,⟨(t0 lF eI),[(1,⟨0,[fL 52 LL p 0,.fz [] 55 [.str,.sl false 2 dK] (gL p 1),.fz [] 57 [.str,.sl false 3 dK] (gL p 2),fL 44 Zc p 3],none⟩)],[],1⟩)]),
 (4,[λp=>(.ret,eL (t0 Z (aF p 0))),
 λp=>(.exit 4,eL (t0 Z eI))])]
theorem EI:eP Jr EH:=cV
def NN:FD:=cU 10 1 [0,2] YL [(0,xF),(2,xG)] [(0,λp=>⟨(t0 (t2 (.pb 1 0 0) (cY 11000000) (aF p 0)) (t0 (cY 14) Z)),[(1,⟨0,[fL 52 LL p 1,.fz [] 55 [.str,.sl false 2 dK] (gL p 2),.fz [] 57 [.str,.sl false 3 dK] (gL p 3),fL 44 Zc p 4],none⟩)],[aY 14 41 [.sl true 3 dK] p 5,aY 11000000 4 gX p 6],1⟩),
 (2,λp=>⟨(t0 (t2 (.pb 1 0 0) (t2 (cO 11000000) (cY 36000000) Z) (aF p 0)) (t0 (t2 (cO 14) (aF p 1) Z) (t1 (.pb 6 0 0)))),[(1,⟨0,[fL 52 LL p 2,.fz [] 55 [.str,.sl false 2 dK] (gL p 3),.fz [] 57 [.str,.sl false 3 dK] (gL p 4),fL 44 Zc p 5],none⟩),(6,⟨0,[.str (gS p 6),nB p 7,rQ p 8,nI p 9,fL 47 DZ p 10],none⟩)],[aY 14 41 [.sl true 3 dK] p 11,aY 11000000 4 gX p 12,aY 36000000 3 dK p 13],1⟩)] [(0,[λp=>(.exit 0,⟨(t0 Z (t0 (cY 14) Z)),[],[aY 14 41 [.sl true 3 dK] p 0],1⟩)]),
 (2,[λp=>(.exit 2,⟨(t0 (t2 (.pb 1 0 0) (cY 11000000) (aF p 0)) (t0 (cY 14) Z)),[(1,⟨0,[fL 52 LL p 1,.fz [] 55 [.str,.sl false 2 dK] (gL p 2),.fz [] 57 [.str,.sl false 3 dK] (gL p 3),fL 44 Zc p 4],none⟩)],[aY 14 41 [.sl true 3 dK] p 5,aY 11000000 4 gX p 6],1⟩)])]
theorem NT:eP Jq NN:=cV
def CE:FD:=cU 16 1 [0,2] pK [(0,jC),(2,mA)] [(0,λp=>⟨(t0 (t2 (.pb 1 0 0) (aF p 0) Z) (t0 (aF p 1) Z)),[(1,⟨0,[.str (gS p 2),nB p 3,rQ p 4,nI p 5,fL 47 DZ p 6],none⟩)],[],1⟩),
 (2,λp=>⟨(t0 (t2 (.pb 1 0 0) (aF p 0) (aF p 1)) (t0 (aF p 2) Z)),[(1,⟨0,[.str (gS p 3),nB p 4,rQ p 5,nI p 6,fL 47 DZ p 7],none⟩)],[],1⟩)] [(0,[λp=>(.ret,eL (t0 Z (iT p 0))),
 λp=>(.exit 0,eL (t0 Z eI))]),
 (2,[λp=>(.ret,⟨(t0 (t2 (.pb 1 0 0) (aF p 0) Z) (t2 (nB p 1) (aF p 2) Z)),[(1,⟨0,[.str (gS p 3),nB p 4,rQ p 5,nI p 6,fL 47 DZ p 7],none⟩)],[],1⟩),
 λp=>(.exit 2,⟨(t0 (t2 (.pb 1 0 0) (aF p 0) Z) (t0 (aF p 1) Z)),[(1,⟨0,[.str (gS p 2),nB p 3,rQ p 4,nI p 5,fL 47 DZ p 6],none⟩)],[],1⟩)])]
theorem rT:eP TF CE:=cV
def nR:FD:=cU 20 1 [0,2,4,6] UC [(0,xK),(2,xL),(4,xM),(6,xN)] [(0,λp=>⟨(t0 (t2 (.pb 1 0 0) (t1 (.mp 9 0)) (aF p 0)) (t0 (aF p 1) Z)),[(1,⟨0,[fL 52 LL p 2,.fz [] 55 [.str,.sl false 2 dK] (gL p 3),.fz [] 57 [.str,.sl false 3 dK] (gL p 4),fL 44 Zc p 5],none⟩),(9,⟨0,[],some ⟨.str,.int .i64,(gL p 6)⟩⟩)],[],1⟩),
 (2,λp=>⟨(t0 (t2 (.pb 1 0 0) (t1 (.mp 9 0)) Z) (t0 (aF p 0) (aF p 1))),[(1,⟨0,[fL 52 LL p 2,.fz [] 55 [.str,.sl false 2 dK] (gL p 3),.fz [] 57 [.str,.sl false 3 dK] (gL p 4),fL 44 Zc p 5],none⟩),(9,⟨0,[],some ⟨.str,.int .i64,(gL p 6)⟩⟩)],[],1⟩),
 (4,λp=>⟨(t0 (t2 (.pb 1 0 0) (t2 (.mp 9 0) (aF p 0) Z) Z) (t0 (aF p 1) Z)),[(1,⟨0,[fL 52 LL p 2,.fz [] 55 [.str,.sl false 2 dK] (gL p 3),.fz [] 57 [.str,.sl false 3 dK] (gL p 4),fL 44 Zc p 5],none⟩),(9,⟨0,[],some ⟨.str,.int .i64,(gL p 6)⟩⟩)],[],1⟩),
 (6,λp=>⟨(t0 (t2 (.pb 1 0 0) (t1 (.mp 9 0)) Z) (t0 (t2 (nI p 0) (aF p 1) Z) Z)),[(1,⟨0,[fL 52 LL p 2,.fz [] 55 [.str,.sl false 2 dK] (gL p 3),.fz [] 57 [.str,.sl false 3 dK] (gL p 4),fL 44 Zc p 5],none⟩),(9,⟨0,[],some ⟨.str,.int .i64,(gL p 6)⟩⟩)],[],1⟩)] [(0,[λp=>(.exit 0,⟨(t0 (t2 (.pb 1 0 0) (t1 (.mp 9 0)) Z) (t0 (aF p 0) Z)),[(1,⟨0,[fL 52 LL p 1,.fz [] 55 [.str,.sl false 2 dK] (gL p 2),.fz [] 57 [.str,.sl false 3 dK] (gL p 3),fL 44 Zc p 4],none⟩),(9,⟨0,[],some ⟨.str,.int .i64,(gL p 5)⟩⟩)],[],1⟩)]),
 (2,[λp=>(.exit 2,⟨(t0 (t2 (.pb 1 0 0) (t1 (.mp 9 0)) Z) (t0 (aF p 0) Z)),[(1,⟨0,[fL 52 LL p 1,.fz [] 55 [.str,.sl false 2 dK] (gL p 2),.fz [] 57 [.str,.sl false 3 dK] (gL p 3),fL 44 Zc p 4],none⟩),(9,⟨0,[],some ⟨.str,.int .i64,(gL p 5)⟩⟩)],[],1⟩)]),
 (4,[λp=>(.exit 4,⟨(t0 (t2 (.pb 1 0 0) (t1 (.mp 9 0)) Z) (t0 (aF p 0) Z)),[(1,⟨0,[fL 52 LL p 1,.fz [] 55 [.str,.sl false 2 dK] (gL p 2),.fz [] 57 [.str,.sl false 3 dK] (gL p 3),fL 44 Zc p 4],none⟩),(9,⟨0,[],some ⟨.str,.int .i64,(gL p 5)⟩⟩)],[],1⟩)]),
 (6,[λp=>(.exit 6,eL (t0 Z (t0 (aF p 0) Z)))])]
theorem zB:eP Jw nR:=cV
def EN:FD:=cU 24 2 [0,2,4] UD [(0,xO),(2,xP),(4,xQ)] [(0,λp=>⟨(t0 (t0 (t1 (.pb 3 0 0)) (cY 13000000)) (t2 (.pb 2 0 0) Z (aF p 0))),[(2,⟨0,[fL 52 LL p 1,.fz [] 55 [.str,.sl false 2 dK] (gL p 2),.fz [] 57 [.str,.sl false 3 dK] (gL p 3),fL 44 Zc p 4],none⟩),(3,⟨0,[.str (gS p 5),nB p 6,rQ p 7,nI p 8,fL 47 DZ p 9],none⟩)],[aY 13000000 3 dK p 10],1⟩),
 (2,λp=>⟨(t0 (t0 (t2 (.pb 3 0 0) (aF p 0) Z) (cY 13000000)) (t2 (.pb 2 0 0) Z (aF p 1))),[(2,⟨0,[fL 52 LL p 2,.fz [] 55 [.str,.sl false 2 dK] (gL p 3),.fz [] 57 [.str,.sl false 3 dK] (gL p 4),fL 44 Zc p 5],none⟩),(3,⟨0,[.str (gS p 6),nB p 7,rQ p 8,nI p 9,fL 47 DZ p 10],none⟩)],[aY 13000000 3 dK p 11],1⟩),
 (4,λp=>⟨(t0 (t0 (t2 (.pb 3 0 0) (aF p 0) Z) (t2 (cO 13000000) (cY 200009) Z)) (t2 (.pb 2 0 0) (t0 (t1 (.pb 8 0 0)) Z) (t2 (nI p 1) (aF p 2) Z))),[(2,⟨0,[fL 52 LL p 3,.fz [] 55 [.str,.sl false 2 dK] (gL p 4),.fz [] 57 [.str,.sl false 3 dK] (gL p 5),fL 44 Zc p 6],none⟩),(3,⟨0,[.str (gS p 7),nB p 8,rQ p 9,nI p 10,fL 47 DZ p 11],none⟩),(8,Ay p 12)],[aY 200009 3 dK p 19,aY 13000000 3 dK p 20],1⟩)] [(0,[λp=>(.ret,eL (t0 Z (t0 (iT p 0) Z))),
 λp=>(.exit 0,eL (t0 Z (t0 eI Z)))]),
 (2,[λp=>(.ret,⟨(t0 (t0 (t1 (.pb 3 0 0)) (cY 13000000)) (t2 (.pb 2 0 0) (iT p 0) (aF p 1))),[(2,⟨0,[fL 52 LL p 2,.fz [] 55 [.str,.sl false 2 dK] (gL p 3),.fz [] 57 [.str,.sl false 3 dK] (gL p 4),fL 44 Zc p 5],none⟩),(3,⟨0,[.str (gS p 6),nB p 7,rQ p 8,nI p 9,fL 47 DZ p 10],none⟩)],[aY 13000000 3 dK p 11],1⟩),
 λp=>(.exit 2,⟨(t0 (t0 (t1 (.pb 3 0 0)) (cY 13000000)) (t2 (.pb 2 0 0) eI (aF p 0))),[(2,⟨0,[fL 52 LL p 1,.fz [] 55 [.str,.sl false 2 dK] (gL p 2),.fz [] 57 [.str,.sl false 3 dK] (gL p 3),fL 44 Zc p 4],none⟩),(3,⟨0,[.str (gS p 5),nB p 6,rQ p 7,nI p 8,fL 47 DZ p 9],none⟩)],[aY 13000000 3 dK p 10],1⟩)]),
 (4,[λp=>(.exit 4,⟨(t0 (t0 (t2 (.pb 3 0 0) (aF p 0) Z) (t2 (cO 13000000) (cY 200009) Z)) (t2 (.pb 2 0 0) (t0 (t1 (.pb 8 0 0)) Z) (aF p 1))),[(2,⟨0,[fL 52 LL p 2,.fz [] 55 [.str,.sl false 2 dK] (gL p 3),.fz [] 57 [.str,.sl false 3 dK] (gL p 4),fL 44 Zc p 5],none⟩),(3,⟨0,[.str (gS p 6),nB p 7,rQ p 8,nI p 9,fL 47 DZ p 10],none⟩),(8,Ay p 11)],[aY 200009 3 dK p 18,aY 13000000 3 dK p 19],1⟩)])]
theorem EO:eP Jy EN:=cV
def qW:FD:=cU 28 1 [0,2,4,6,8] UE [(0,tH),(2,lM),(4,tU),(6,tV),(8,mO)] [(0,λp=>⟨(t0 (t2 (.pb 1 0 0) (cY 14) Z) (t0 (aF p 0) Z)),[(1,⟨0,[fL 52 LL p 1,.fz [] 55 [.str,.sl false 2 dK] (gL p 2),.fz [] 57 [.str,.sl false 3 dK] (gL p 3),fL 44 Zc p 4],none⟩)],[aY 14 4 gX p 5],1⟩),
 (2,λp=>⟨(t0 (t2 (.pb 1 0 0) (cY 14) (aF p 0)) (t0 (aF p 1) Z)),[(1,⟨0,[fL 52 LL p 2,.fz [] 55 [.str,.sl false 2 dK] (gL p 3),.fz [] 57 [.str,.sl false 3 dK] (gL p 4),fL 44 Zc p 5],none⟩)],[aY 14 4 gX p 6],1⟩),
 (4,λp=>⟨(t0 (t2 (.pb 1 0 0) (t2 (cO 14) (aF p 0) Z) Z) Z),[(1,⟨0,[fL 52 LL p 1,.fz [] 55 [.str,.sl false 2 dK] (gL p 2),.fz [] 57 [.str,.sl false 3 dK] (gL p 3),fL 44 Zc p 4],none⟩)],[aY 14 4 gX p 5],1⟩),
 (6,λp=>⟨(t0 (t2 (.pb 1 0 0) (t2 (cO 14) (aF p 0) Z) Z) (t0 (t0 (aF p 1) Z) Z)),[(1,⟨0,[fL 52 LL p 2,.fz [] 55 [.str,.sl false 2 dK] (gL p 3),.fz [] 57 [.str,.sl false 3 dK] (gL p 4),fL 44 Zc p 5],none⟩)],[aY 14 4 gX p 6],1⟩),
 (8,λp=>⟨(t0 (t2 (.pb 1 0 0) (t2 (cO 14) (aF p 0) Z) (t0 (aF p 1) Z)) (t0 (t0 (aF p 2) Z) Z)),[(1,⟨0,[fL 52 LL p 3,.fz [] 55 [.str,.sl false 2 dK] (gL p 4),.fz [] 57 [.str,.sl false 3 dK] (gL p 5),fL 44 Zc p 6],none⟩)],[aY 14 4 gX p 7],1⟩)] [(0,[λp=>(.exit 0,⟨(t0 (t2 (.pb 1 0 0) (cY 14) Z) eI),[(1,⟨0,[fL 52 LL p 0,.fz [] 55 [.str,.sl false 2 dK] (gL p 1),.fz [] 57 [.str,.sl false 3 dK] (gL p 2),fL 44 Zc p 3],none⟩)],[aY 14 4 gX p 4],1⟩)]),
 (2,[λp=>(.exit 2,⟨(t0 (t2 (.pb 1 0 0) (cY 14) Z) (t0 (aF p 0) Z)),[(1,⟨0,[fL 52 LL p 1,.fz [] 55 [.str,.sl false 2 dK] (gL p 2),.fz [] 57 [.str,.sl false 3 dK] (gL p 3),fL 44 Zc p 4],none⟩)],[aY 14 4 gX p 5],1⟩)]),
 (4,[λp=>(.exit 4,⟨(t0 (t0 (cY 14) Z) eI),[],[aY 14 4 gX p 0],1⟩)]),
 (6,[λp=>(.exit 6,⟨(t0 (t2 (.pb 1 0 0) (t2 (cO 14) (aF p 0) Z) Z) eI),[(1,⟨0,[fL 52 LL p 1,.fz [] 55 [.str,.sl false 2 dK] (gL p 2),.fz [] 57 [.str,.sl false 3 dK] (gL p 3),fL 44 Zc p 4],none⟩)],[aY 14 4 gX p 5],1⟩)]),
 (8,[λp=>(.exit 8,⟨(t0 (t2 (.pb 1 0 0) (t2 (cO 14) (aF p 0) Z) Z) (t0 (t0 (aF p 1) Z) Z)),[(1,⟨0,[fL 52 LL p 2,.fz [] 55 [.str,.sl false 2 dK] (gL p 3),.fz [] 57 [.str,.sl false 3 dK] (gL p 4),fL 44 Zc p 5],none⟩)],[aY 14 4 gX p 6],1⟩)])]
theorem qX:eP YI qW:=cV
def Ko:FD:=cU 37 1 [] TS [] [] []
theorem Kp:eP XM Ko:=cV
def KA:FD:=cU 41 1 [0,2] TG [(0,vQ),(2,vR)] [(0,λp=>⟨(t0 (t2 (.pb 1 0 0) (cY 200003) Z) (t0 (aF p 0) Z)),[(1,⟨0,[.str (gS p 1),nB p 2,rQ p 3,nI p 4,fL 47 DZ p 5],none⟩)],[aY 200003 3 dK p 6],1⟩),
 (2,λp=>⟨(t0 (t2 (.pb 1 0 0) (cY 200003) (aF p 0)) (t0 (aF p 1) Z)),[(1,⟨0,[.str (gS p 2),nB p 3,rQ p 4,nI p 5,fL 47 DZ p 6],none⟩)],[aY 200003 3 dK p 7],1⟩)] [(0,[λp=>(.exit 0,⟨(t0 (t0 (cY 200003) Z) eI),[],[aY 200003 3 dK p 0],1⟩)]),
 (2,[λp=>(.exit 2,⟨(t0 (t2 (.pb 1 0 0) (cY 200003) Z) (t0 (aF p 0) Z)),[(1,⟨0,[.str (gS p 1),nB p 2,rQ p 3,nI p 4,fL 47 DZ p 5],none⟩)],[aY 200003 3 dK p 6],1⟩)])]
theorem KB:eP NI KA:=cV
def tX:FD:=cU 45 1 [0,2,4,6,8] TH [(0,vS),(2,vT),(4,vU),(6,vV),(8,oZ)] [(0,λp=>⟨(t0 (t2 (.pb 1 0 0) (cY 200003) (t0 (t0 (aF p 0) Z) Z)) (t0 (t0 (t0 (t1 (fL 52 LL p 1)) Z) Z) (t0 (t0 (aF p 2) Z) Z))),[(1,⟨0,[fL 52 LL p 3,.fz [] 55 [.str,.sl false 2 dK] (gL p 4),.fz [] 57 [.str,.sl false 3 dK] (gL p 5),fL 44 Zc p 6],none⟩)],[aY 200003 9 Um p 7],1⟩),
 (2,λp=>⟨(t0 (t2 (.pb 1 0 0) (t2 (cO 200003) (t0 (t0 (aF p 0) Z) Z) Z) (t0 Z (t0 Z (t1 (.fz [] 55 [.str,.sl false 2 dK] (gL p 1)))))) (t0 Z (t0 Z (t0 Z (aF p 2))))),[(1,⟨0,[fL 52 LL p 3,.fz [] 55 [.str,.sl false 2 dK] (gL p 4),.fz [] 57 [.str,.sl false 3 dK] (gL p 5),fL 44 Zc p 6],none⟩)],[aY 200003 9 Um p 7],1⟩),
 (4,λp=>⟨(t0 (t2 (.pb 1 0 0) (t2 (cO 200003) Z (t0 Z (t0 (aF p 0) Z))) Z) (t0 (t0 Z (t0 Z (t0 (aF p 1) Z))) (t0 (t0 Z (t0 (t1 (.fz [] 57 [.str,.sl false 3 dK] (gL p 2))) Z)) Z))),[(1,⟨0,[fL 52 LL p 3,.fz [] 55 [.str,.sl false 2 dK] (gL p 4),.fz [] 57 [.str,.sl false 3 dK] (gL p 5),fL 44 Zc p 6],none⟩)],[aY 200003 9 Um p 7],1⟩),
 (6,λp=>⟨(t0 (t0 (t2 (cO 200003) (t0 Z (t0 Z (t1 (fL 44 Zc p 0)))) Z) (t0 (t0 Z (t0 Z (aF p 1))) Z)) (t0 (t0 (t0 Z (t0 Z (aF p 2))) Z) Z)),[],[aY 200003 9 Um p 3],1⟩),
 (8,λp=>⟨(t0 (t0 Z (t0 Z (t0 (t0 (t0 (aF p 0) Z) Z) Z))) (t0 (t0 Z (t2 (.mp 67 0) (t0 (t0 (cY 200003) Z) Z) Z)) (t0 Z (t0 (t0 (t0 (aF p 1) Z) Z) Z)))),[(67,⟨0,[],some ⟨.str,.int .i64,(gL p 2)⟩⟩)],[aY 200003 9 Um p 3],1⟩)] [(0,[λp=>(.exit 0,⟨(t0 (t2 (.pb 1 0 0) (cY 200003) Z) eI),[(1,⟨0,[fL 52 LL p 0,.fz [] 55 [.str,.sl false 2 dK] (gL p 1),.fz [] 57 [.str,.sl false 3 dK] (gL p 2),fL 44 Zc p 3],none⟩)],[aY 200003 9 Um p 4],1⟩)]),
 (2,[λp=>(.exit 2,⟨(t0 (t2 (.pb 1 0 0) (cY 200003) Z) eI),[(1,⟨0,[fL 52 LL p 0,.fz [] 55 [.str,.sl false 2 dK] (gL p 1),.fz [] 57 [.str,.sl false 3 dK] (gL p 2),fL 44 Zc p 3],none⟩)],[aY 200003 9 Um p 4],1⟩)]),
 (4,[λp=>(.exit 4,⟨(t0 (t2 (.pb 1 0 0) (cY 200003) Z) eI),[(1,⟨0,[fL 52 LL p 0,.fz [] 55 [.str,.sl false 2 dK] (gL p 1),.fz [] 57 [.str,.sl false 3 dK] (gL p 2),fL 44 Zc p 3],none⟩)],[aY 200003 9 Um p 4],1⟩)]),
 (6,[λp=>(.exit 6,⟨(t0 (t0 (cY 200003) Z) eI),[],[aY 200003 9 Um p 0],1⟩)]),
 (8,[λp=>(.ret,eL (t0 Z (iT p 0))),
 λp=>(.exit 8,eL (t0 Z eI))])]
theorem tY:eP Ka tX:=cV
def KC:FD:=cU 49 2 [0,2] TJ [(0,vW),(2,vX)] [(0,λp=>⟨(t0 (t0 (t2 (.pb 3 0 0) (t0 (aF p 0) Z) Z) (t2 (cO 12000000) Z (t1 (fL 47 DZ p 1)))) (t2 (.pb 2 0 0) Z (t0 Z (aF p 2)))),[(2,⟨0,[fL 52 LL p 3,.fz [] 55 [.str,.sl false 2 dK] (gL p 4),.fz [] 57 [.str,.sl false 3 dK] (gL p 5),fL 44 Zc p 6],none⟩),(3,⟨0,[.str (gS p 7),nB p 8,rQ p 9,nI p 10,fL 47 DZ p 11],none⟩)],[aY 12000000 3 dK p 12],1⟩),
 (2,λp=>⟨(t0 (t0 (t2 (.pb 3 0 0) (t0 (aF p 0) Z) Z) (t2 (cO 12000000) Z (t2 (fL 47 DZ p 1) (aF p 2) Z))) (t2 (.pb 2 0 0) (t0 Z (t0 (t1 (fL 50 PZ p 3)) Z)) (t0 Z (t2 (nI p 4) (aF p 5) Z)))),[(2,⟨0,[fL 52 LL p 6,.fz [] 55 [.str,.sl false 2 dK] (gL p 7),.fz [] 57 [.str,.sl false 3 dK] (gL p 8),fL 44 Zc p 9],none⟩),(3,⟨0,[.str (gS p 10),nB p 11,rQ p 12,nI p 13,fL 47 DZ p 14],none⟩)],[aY 12000000 3 dK p 15],1⟩)] [(0,[λp=>(.ret,eL (t0 Z (t0 (iT p 0) Z))),
 λp=>(.exit 0,eL (t0 Z (t0 eI Z)))]),
 (2,[λp=>(.ret,⟨(t0 (t0 (t2 (.pb 3 0 0) (t0 (aF p 0) Z) Z) (t2 (cO 12000000) Z (t1 (fL 47 DZ p 1)))) (t2 (.pb 2 0 0) (iT p 2) (t0 Z (aF p 3)))),[(2,⟨0,[fL 52 LL p 4,.fz [] 55 [.str,.sl false 2 dK] (gL p 5),.fz [] 57 [.str,.sl false 3 dK] (gL p 6),fL 44 Zc p 7],none⟩),(3,⟨0,[.str (gS p 8),nB p 9,rQ p 10,nI p 11,fL 47 DZ p 12],none⟩)],[aY 12000000 3 dK p 13],1⟩),
 λp=>(.exit 2,⟨(t0 (t0 (t2 (.pb 3 0 0) (t0 (aF p 0) Z) Z) (t2 (cO 12000000) Z (t1 (fL 47 DZ p 1)))) (t2 (.pb 2 0 0) eI (t0 Z (aF p 2)))),[(2,⟨0,[fL 52 LL p 3,.fz [] 55 [.str,.sl false 2 dK] (gL p 4),.fz [] 57 [.str,.sl false 3 dK] (gL p 5),fL 44 Zc p 6],none⟩),(3,⟨0,[.str (gS p 7),nB p 8,rQ p 9,nI p 10,fL 47 DZ p 11],none⟩)],[aY 12000000 3 dK p 12],1⟩)])]
theorem KD:eP Kc KC:=cV
def Pq:FD:=cU 57 1 [] Pl [] [] []
theorem Pr:eP PX Pq:=cV
def Py:FD:=cU 61 1 [0] Aw [(0,BA)] [(0,λp=>eL (t0 (t0 (t2 (nI p 0) (t1 (fL 47 DZ p 1)) Z) (t0 (aF p 2) Z)) (t0 (t0 (aF p 3) Z) Z)))] [(0,[λp=>(.exit 0,eL (t0 (t0 (aF p 0) Z) eI))])]
theorem Bl:eP Uh Py:=cV
def Pz:FD:=cU 65 1 [] aAj [] [] []
theorem Qa:eP FX Pz:=cV
def oD:FD:=cU 69 2 [0] oB [(0,gM)] [(0,λp=>eL (t2 (rQ p 0) (t2 (rQ p 1) Z (t0 Z (aF p 2))) (t0 (t0 Z (aF p 3)) Z)))] [(0,[λp=>(.ret,eL (t0 Z (t0 (iT p 0) Z))),
 λp=>(.exit 0,eL (t0 Z (t0 eI Z)))])]
theorem oG:eP mH oD:=cV
def XP:FD:=cU 73 4 [] XN [] [] []
theorem XQ:eP JV XP:=cV
def Un:FD:=cU 78 2 [0] Uk [(0,HN)] [(0,λp=>eL (t2 (rQ p 0) (t2 (nI p 1) Z (aF p 2)) Z))] [(0,[λp=>(.ret,eL (t0 Z (t0 (iT p 0) Z))),
 λp=>(.exit 0,eL (t0 Z (t0 eI Z)))])]
theorem Uo:eP aCB Un:=cV
def OG:FD:=cU 82 2 [0] OB [(0,sZ)] [(0,λp=>⟨(t0 (t0 (t0 (t0 Z (t0 Z (t1 (rQ p 0)))) Z) (t2 (cO 200005) (t0 Z (t0 Z (aF p 1))) Z)) (t2 (.pb 2 0 0) (t0 (t0 Z (t0 Z (aF p 2))) Z) Z)),[(2,⟨0,[.str (gS p 3),nB p 4,rQ p 5,nI p 6,fL 47 DZ p 7],none⟩)],[aY 200005 3 dK p 8],1⟩)] [(0,[λp=>(.exit 0,⟨(t0 (t0 Z (cY 200005)) (t0 eI Z)),[],[aY 200005 3 dK p 0],1⟩)])]
theorem OH:eP HM OG:=cV
def Bh:FD:=cU 86 3 [0] At [(0,AT)] [(0,λp=>eL (t2 (rQ p 0) (t0 (t0 (t0 (aF p 1) Z) Z) Z) (t2 (rQ p 2) (t0 (t0 (aF p 3) Z) Z) (t0 Z (t1 (rQ p 4))))))] [(0,[λp=>(.ret,eL (t0 Z (t0 Z (iT p 0)))),
 λp=>(.exit 0,eL (t0 Z (t0 Z eI)))])]
theorem Bi:eP vP Bh:=cV
def HQ:FD:=cU 92 2 [] fE [] [] []
theorem lP:eP vO HQ:=cV
def HO:FD:=cU 99 2 [] yV [] [] []
theorem HP:eP lT HO:=cV
def EJ:FD:=cU 7 1 [0,2] AH [(0,vN),(2,xE)] [(0,λp=>⟨(t0 (t2 (.pb 1 0 0) (cY 14) (t0 (t0 (aF p 0) Z) Z)) (t0 (t0 (t0 (cY 17000000) Z) Z) (t0 (t0 (aF p 1) Z) Z))),[(1,⟨0,[fL 52 LL p 2,.fz [] 55 [.str,.sl false 2 dK] (gL p 3),.fz [] 57 [.str,.sl false 3 dK] (gL p 4),fL 44 Zc p 5],none⟩)],[aY 14 41 [.sl true 3 dK] p 6,aY 17000000 4 gX p 7],1⟩),
 (2,λp=>⟨(t0 (t2 (.pb 1 0 0) (cY 14) (t0 (t0 (aF p 0) Z) (t0 (t0 (aF p 1) Z) Z))) (t0 (t2 (nI p 2) (t0 (cY 17000000) Z) Z) (t2 (cO 31000000) (t0 (aF p 3) Z) (t0 (t0 (aF p 4) Z) Z)))),[(1,⟨0,[fL 52 LL p 5,.fz [] 55 [.str,.sl false 2 dK] (gL p 6),.fz [] 57 [.str,.sl false 3 dK] (gL p 7),fL 44 Zc p 8],none⟩)],[aY 14 41 [.sl true 3 dK] p 9,aY 17000000 4 gX p 10,aY 31000000 3 dK p 11],1⟩)] [(0,[λp=>(.exit 0,⟨(t0 (t0 (cY 14) Z) eI),[],[aY 14 41 [.sl true 3 dK] p 0],1⟩)]),
 (2,[λp=>(.exit 2,⟨(t0 (t2 (.pb 1 0 0) (cY 14) (t0 (t0 (aF p 0) Z) Z)) (t0 (t0 (t0 (cY 17000000) Z) Z) (t0 (t0 (aF p 1) Z) Z))),[(1,⟨0,[fL 52 LL p 2,.fz [] 55 [.str,.sl false 2 dK] (gL p 3),.fz [] 57 [.str,.sl false 3 dK] (gL p 4),fL 44 Zc p 5],none⟩)],[aY 14 41 [.sl true 3 dK] p 6,aY 17000000 4 gX p 7],1⟩)])]
theorem BN:eP EY EJ:=cV
def XO:FD:=cU 11 2 [0] Ul [(0,Kj)] [(0,λp=>eL (t2 (fL 4 gX p 0) (t2 (fL 4 gX p 1) Z (aF p 2)) Z))] [(0,[λp=>(.ret,eL (t0 Z (t0 (iT p 0) Z))),
 λp=>(.exit 0,eL (t0 Z (t0 eI Z)))])]
theorem Uq:eP N2 XO:=cV
def Pn:FD:=cU 17 1 [0] Ai [(0,AB)] [(0,λp=>⟨(t0 (t2 (.pb 1 0 0) (aF p 0) Z) (t0 (aF p 1) Z)),[(1,⟨0,[.str (gS p 2),nB p 3,rQ p 4,nI p 5,fL 47 DZ p 6],none⟩)],[],1⟩)] [(0,[λp=>(.exit 0,eL (t0 (t0 (aF p 0) Z) eI))])]
theorem Az:eP Gb Pn:=cV
def rR:FD:=cU 21 1 [0,2,4,6,8] Aj [(0,AC),(2,AD),(4,AE),(6,AF),(8,AG)] [(0,λp=>⟨(t0 (t2 (.pb 1 0 0) (aF p 0) Z) Z),[(1,⟨0,[fL 52 LL p 1,.fz [] 55 [.str,.sl false 2 dK] (gL p 2),.fz [] 57 [.str,.sl false 3 dK] (gL p 3),fL 44 Zc p 4],none⟩)],[],1⟩),
 (2,λp=>⟨(t0 (t2 (.pb 1 0 0) (aF p 0) Z) (t0 (aF p 1) Z)),[(1,⟨0,[fL 52 LL p 2,.fz [] 55 [.str,.sl false 2 dK] (gL p 3),.fz [] 57 [.str,.sl false 3 dK] (gL p 4),fL 44 Zc p 5],none⟩)],[],1⟩),
 (4,λp=>⟨(t0 lF (t0 Z (aF p 0))),[(1,⟨0,[fL 52 LL p 1,.fz [] 55 [.str,.sl false 2 dK] (gL p 2),.fz [] 57 [.str,.sl false 3 dK] (gL p 3),fL 44 Zc p 4],none⟩)],[],1⟩),
 (6,λp=>⟨(t0 (t2 (.pb 1 0 0) (t0 (aF p 0) Z) Z) (t0 Z (aF p 1))),[(1,⟨0,[fL 52 LL p 2,.fz [] 55 [.str,.sl false 2 dK] (gL p 3),.fz [] 57 [.str,.sl false 3 dK] (gL p 4),fL 44 Zc p 5],none⟩)],[],1⟩),
 (8,λp=>⟨(t0 (t2 (.pb 1 0 0) (t0 (aF p 0) Z) Z) (t0 (t0 (aF p 1) Z) (aF p 2))),[(1,⟨0,[fL 52 LL p 3,.fz [] 55 [.str,.sl false 2 dK] (gL p 4),.fz [] 57 [.str,.sl false 3 dK] (gL p 5),fL 44 Zc p 6],none⟩)],[],1⟩)] [(0,[λp=>(.ret,⟨(t0 lF (iT p 0)),[(1,⟨0,[fL 52 LL p 1,.fz [] 55 [.str,.sl false 2 dK] (gL p 2),.fz [] 57 [.str,.sl false 3 dK] (gL p 3),fL 44 Zc p 4],none⟩)],[],1⟩),
 λp=>(.exit 0,⟨(t0 lF eI),[(1,⟨0,[fL 52 LL p 0,.fz [] 55 [.str,.sl false 2 dK] (gL p 1),.fz [] 57 [.str,.sl false 3 dK] (gL p 2),fL 44 Zc p 3],none⟩)],[],1⟩)]),
 (2,[λp=>(.ret,⟨(t0 (t2 (.pb 1 0 0) (aF p 0) Z) (iT p 1)),[(1,⟨0,[fL 52 LL p 2,.fz [] 55 [.str,.sl false 2 dK] (gL p 3),.fz [] 57 [.str,.sl false 3 dK] (gL p 4),fL 44 Zc p 5],none⟩)],[],1⟩),
 λp=>(.exit 2,⟨(t0 (t2 (.pb 1 0 0) (aF p 0) Z) eI),[(1,⟨0,[fL 52 LL p 1,.fz [] 55 [.str,.sl false 2 dK] (gL p 2),.fz [] 57 [.str,.sl false 3 dK] (gL p 3),fL 44 Zc p 4],none⟩)],[],1⟩)]),
 (4,[λp=>(.ret,eL (t0 Z (iT p 0))),
 λp=>(.exit 4,eL (t0 Z eI))]),
 (6,[λp=>(.ret,⟨(t0 lF (t2 (nB p 0) Z (aF p 1))),[(1,⟨0,[fL 52 LL p 2,.fz [] 55 [.str,.sl false 2 dK] (gL p 3),.fz [] 57 [.str,.sl false 3 dK] (gL p 4),fL 44 Zc p 5],none⟩)],[],1⟩),
 λp=>(.exit 6,⟨(t0 lF (t0 Z (aF p 0))),[(1,⟨0,[fL 52 LL p 1,.fz [] 55 [.str,.sl false 2 dK] (gL p 2),.fz [] 57 [.str,.sl false 3 dK] (gL p 3),fL 44 Zc p 4],none⟩)],[],1⟩)]),
 (8,[λp=>(.ret,⟨(t0 (t2 (.pb 1 0 0) (t0 (aF p 0) Z) Z) (t2 (nB p 1) Z (aF p 2))),[(1,⟨0,[fL 52 LL p 3,.fz [] 55 [.str,.sl false 2 dK] (gL p 4),.fz [] 57 [.str,.sl false 3 dK] (gL p 5),fL 44 Zc p 6],none⟩)],[],1⟩),
 λp=>(.exit 8,⟨(t0 (t2 (.pb 1 0 0) (t0 (aF p 0) Z) Z) (t0 Z (aF p 1))),[(1,⟨0,[fL 52 LL p 2,.fz [] 55 [.str,.sl false 2 dK] (gL p 3),.fz [] 57 [.str,.sl false 3 dK] (gL p 4),fL 44 Zc p 5],none⟩)],[],1⟩)])]
theorem yW:eP Ub rR:=cV
def EL:FD:=cU 25 1 [1,3,5] TU [(1,wW),(3,wX),(5,wY)] [(1,λp=>⟨(t0 (t2 (.pb 1 0 0) (t0 Z (t0 Z (aF p 0))) Z) (t0 (t0 Z (t0 Z (aF p 1))) (t0 (t0 Z (t1 (fL 44 Zc p 2))) Z))),[(1,⟨0,[fL 52 LL p 3,.fz [] 55 [.str,.sl false 2 dK] (gL p 4),.fz [] 57 [.str,.sl false 3 dK] (gL p 5),fL 44 Zc p 6],none⟩)],[],1⟩),
 (3,λp=>⟨(t0 (t2 (.pb 1 0 0) (t0 (t0 Z (t0 (aF p 0) Z)) Z) (t0 Z (t0 (t0 (t1 (fL 44 Zc p 1)) Z) Z))) (t0 Z (t0 Z (t0 (t0 (aF p 2) Z) Z)))),[(1,⟨0,[fL 52 LL p 3,.fz [] 55 [.str,.sl false 2 dK] (gL p 4),.fz [] 57 [.str,.sl false 3 dK] (gL p 5),fL 44 Zc p 6],none⟩)],[],1⟩),
 (5,λp=>⟨(t0 (t2 (.pb 1 0 0) Z (t0 (t0 (t0 Z (aF p 0)) Z) Z)) (t0 (t0 (t0 (t0 Z (t1 (fL 44 Zc p 1))) Z) Z) (t0 (t0 (t0 Z (aF p 2)) Z) Z))),[(1,⟨0,[fL 52 LL p 3,.fz [] 55 [.str,.sl false 2 dK] (gL p 4),.fz [] 57 [.str,.sl false 3 dK] (gL p 5),fL 44 Zc p 6],none⟩)],[],1⟩)] [(1,[λp=>(.ret,⟨(t0 lF (aF p 0)),[(1,⟨0,[fL 52 LL p 1,.fz [] 55 [.str,.sl false 2 dK] (gL p 2),.fz [] 57 [.str,.sl false 3 dK] (gL p 3),fL 44 Zc p 4],none⟩)],[],1⟩),
 λp=>(.exit 1,⟨(t0 lF eI),[(1,⟨0,[fL 52 LL p 0,.fz [] 55 [.str,.sl false 2 dK] (gL p 1),.fz [] 57 [.str,.sl false 3 dK] (gL p 2),fL 44 Zc p 3],none⟩)],[],1⟩)]),
 (3,[λp=>(.ret,⟨(t0 lF (aF p 0)),[(1,⟨0,[fL 52 LL p 1,.fz [] 55 [.str,.sl false 2 dK] (gL p 2),.fz [] 57 [.str,.sl false 3 dK] (gL p 3),fL 44 Zc p 4],none⟩)],[],1⟩),
 λp=>(.exit 3,⟨(t0 lF eI),[(1,⟨0,[fL 52 LL p 0,.fz [] 55 [.str,.sl false 2 dK] (gL p 1),.fz [] 57 [.str,.sl false 3 dK] (gL p 2),fL 44 Zc p 3],none⟩)],[],1⟩)]),
 (5,[λp=>(.ret,eL (t0 Z (aF p 0))),
 λp=>(.exit 5,eL (t0 Z eI))])]
theorem EM:eP Js EL:=cV
def IJ:FD:=cU 29 1 [0,2,4] Ec [(0,BF),(2,BI),(4,BM)] [(0,λp=>⟨(t0 (t2 (.pb 1 0 0) (cY 11) Z) (t0 (aF p 0) Z)),[(1,⟨0,[.str (gS p 1),nB p 2,rQ p 3,nI p 4,fL 47 DZ p 5],none⟩)],[aY 11 3 dK p 6],1⟩),
 (2,λp=>⟨(t0 (t2 (.pb 1 0 0) (cY 11) (aF p 0)) (t0 (aF p 1) Z)),[(1,⟨0,[.str (gS p 2),nB p 3,rQ p 4,nI p 5,fL 47 DZ p 6],none⟩)],[aY 11 3 dK p 7],1⟩),
 (4,λp=>⟨(t0 (t2 (.pb 1 0 0) (t2 (cO 11) (aF p 0) Z) (aF p 1)) (t0 (aF p 2) (t1 (rQ p 3)))),[(1,⟨0,[.str (gS p 4),nB p 5,rQ p 6,nI p 7,fL 47 DZ p 8],none⟩)],[aY 11 3 dK p 9],1⟩)] [(0,[λp=>(.exit 0,⟨(t0 (t0 (cY 11) Z) eI),[],[aY 11 3 dK p 0],1⟩)]),
 (2,[λp=>(.exit 2,⟨(t0 (t2 (.pb 1 0 0) (cY 11) Z) (t0 (aF p 0) Z)),[(1,⟨0,[.str (gS p 1),nB p 2,rQ p 3,nI p 4,fL 47 DZ p 5],none⟩)],[aY 11 3 dK p 6],1⟩)]),
 (4,[λp=>(.exit 4,⟨(t0 (t2 (.pb 1 0 0) (cY 11) (aF p 0)) (t0 (aF p 1) Z)),[(1,⟨0,[.str (gS p 2),nB p 3,rQ p 4,nI p 5,fL 47 DZ p 6],none⟩)],[aY 11 3 dK p 7],1⟩)])]
theorem JX:eP Jp IJ:=cV
def QD:FD:=cU 38 1 [0,2] Aq [(0,AO),(2,AP)] [(0,λp=>⟨(t0 (t2 (.pb 1 0 0) (cY 10) Z) (t0 (aF p 0) Z)),[(1,⟨0,[.str (gS p 1),nB p 2,rQ p 3,nI p 4,fL 47 DZ p 5],none⟩)],[aY 10 41 [.sl true 3 dK] p 6],1⟩),
 (2,λp=>⟨(t0 (t2 (.pb 1 0 0) (cY 10) (cY 21000000)) (t0 (aF p 0) (aF p 1))),[(1,⟨0,[.str (gS p 2),nB p 3,rQ p 4,nI p 5,fL 47 DZ p 6],none⟩)],[aY 10 41 [.sl true 3 dK] p 7,aY 21000000 3 dK p 8],1⟩)] [(0,[λp=>(.exit 0,⟨(t0 (t0 (cY 10) Z) eI),[],[aY 10 41 [.sl true 3 dK] p 0],1⟩)]),
 (2,[λp=>(.exit 2,⟨(t0 (t2 (.pb 1 0 0) (cY 10) Z) (t0 (aF p 0) Z)),[(1,⟨0,[.str (gS p 1),nB p 2,rQ p 3,nI p 4,fL 47 DZ p 5],none⟩)],[aY 10 41 [.sl true 3 dK] p 6],1⟩)])]
theorem QE:eP Uf QD:=cV
def Bd:FD:=cU 42 4 [1] Pm [(1,AQ)] [(1,λp=>⟨(t0 (t0 (t1 (rQ p 0)) (t0 (aF p 1) Z)) (t0 Z (t1 (.pb 6 0 0)))),[(6,Ay p 2)],[],1⟩)] [(1,[λp=>(.ret,eL (t0 Z (t0 (t0 (iT p 0) Z) Z))),
 λp=>(.exit 1,eL (t0 Z (t0 (t0 eI Z) Z)))])]
theorem Be:eP Gd Bd:=cV
def pO:FD:=cU 46 1 [0,2,4,6,8] TQ [(0,wN),(2,wO),(4,wP),(6,wQ),(8,wR)] [(0,λp=>⟨(t0 (t2 (.pb 1 0 0) (t0 (t0 (t1 (.fz [] 57 [.str,.sl false 3 dK] (gL p 0))) Z) Z) (t0 (t0 (aF p 1) Z) Z)) (t0 (t0 (t0 (aF p 2) Z) Z) Z)),[(1,⟨0,[fL 52 LL p 3,.fz [] 55 [.str,.sl false 2 dK] (gL p 4),.fz [] 57 [.str,.sl false 3 dK] (gL p 5),fL 44 Zc p 6],none⟩)],[],1⟩),
 (2,λp=>⟨(t0 (t2 (.pb 1 0 0) (t0 (t0 (t1 (.fz [] 57 [.str,.sl false 3 dK] (gL p 0))) (aF p 1)) Z) (t0 (t0 (aF p 2) Z) Z)) (t0 (t0 (t0 (aF p 3) (aF p 4)) Z) (t0 Z (t0 (t1 (rQ p 5)) Z)))),[(1,⟨0,[fL 52 LL p 6,.fz [] 55 [.str,.sl false 2 dK] (gL p 7),.fz [] 57 [.str,.sl false 3 dK] (gL p 8),fL 44 Zc p 9],none⟩)],[],1⟩),
 (4,λp=>⟨(t0 (t2 (.pb 1 0 0) Z (t0 (t0 Z (t0 (aF p 0) Z)) Z)) (t0 (t0 (t0 Z (t0 (t1 (fL 44 Zc p 1)) Z)) Z) (t0 (t0 Z (t0 (aF p 2) Z)) Z))),[(1,⟨0,[fL 52 LL p 3,.fz [] 55 [.str,.sl false 2 dK] (gL p 4),.fz [] 57 [.str,.sl false 3 dK] (gL p 5),fL 44 Zc p 6],none⟩)],[],1⟩),
 (6,λp=>⟨(t0 (t2 (.pb 1 0 0) (t0 (t0 (t0 Z (t1 (fL 47 DZ p 0))) Z) Z) (t0 (t0 (t0 Z (aF p 1)) (t0 (aF p 2) Z)) Z)) (t0 (t0 (t0 (t0 Z (aF p 3)) (t0 (t1 (fL 44 Zc p 4)) Z)) Z) (t0 (t0 Z (t0 (aF p 5) Z)) Z))),[(1,⟨0,[fL 52 LL p 6,.fz [] 55 [.str,.sl false 2 dK] (gL p 7),.fz [] 57 [.str,.sl false 3 dK] (gL p 8),fL 44 Zc p 9],none⟩)],[],1⟩),
 (8,λp=>⟨(t0 (t2 (.pb 1 0 0) (t0 (t0 (t0 Z (t1 (fL 47 DZ p 0))) (t0 Z (aF p 1))) Z) (t0 (t0 (t0 Z (aF p 2)) (t0 (aF p 3) Z)) Z)) (t0 (t0 (t0 (t0 Z (aF p 4)) (t0 (t1 (fL 44 Zc p 5)) (aF p 6))) Z) (t0 (t0 Z (t0 (aF p 7) Z)) (t0 (t0 Z (t1 (fL 50 PZ p 8))) Z)))),[(1,⟨0,[fL 52 LL p 9,.fz [] 55 [.str,.sl false 2 dK] (gL p 10),.fz [] 57 [.str,.sl false 3 dK] (gL p 11),fL 44 Zc p 12],none⟩)],[],1⟩)] [(0,[λp=>(.ret,⟨(t0 lF (iT p 0)),[(1,⟨0,[fL 52 LL p 1,.fz [] 55 [.str,.sl false 2 dK] (gL p 2),.fz [] 57 [.str,.sl false 3 dK] (gL p 3),fL 44 Zc p 4],none⟩)],[],1⟩),
 λp=>(.exit 0,⟨(t0 lF eI),[(1,⟨0,[fL 52 LL p 0,.fz [] 55 [.str,.sl false 2 dK] (gL p 1),.fz [] 57 [.str,.sl false 3 dK] (gL p 2),fL 44 Zc p 3],none⟩)],[],1⟩)]),
 (2,[λp=>(.ret,⟨(t0 (t2 (.pb 1 0 0) (t0 (t0 (t1 (.fz [] 57 [.str,.sl false 3 dK] (gL p 0))) Z) Z) (t0 (t0 (aF p 1) Z) Z)) (t2 (nB p 2) (t0 (t0 (aF p 3) Z) Z) Z)),[(1,⟨0,[fL 52 LL p 4,.fz [] 55 [.str,.sl false 2 dK] (gL p 5),.fz [] 57 [.str,.sl false 3 dK] (gL p 6),fL 44 Zc p 7],none⟩)],[],1⟩),
 λp=>(.exit 2,⟨(t0 (t2 (.pb 1 0 0) (t0 (t0 (t1 (.fz [] 57 [.str,.sl false 3 dK] (gL p 0))) Z) Z) (t0 (t0 (aF p 1) Z) Z)) (t0 (t0 (t0 (aF p 2) Z) Z) Z)),[(1,⟨0,[fL 52 LL p 3,.fz [] 55 [.str,.sl false 2 dK] (gL p 4),.fz [] 57 [.str,.sl false 3 dK] (gL p 5),fL 44 Zc p 6],none⟩)],[],1⟩)]),
 (4,[λp=>(.ret,eL (t0 Z (iT p 0))),
 λp=>(.exit 4,eL (t0 Z eI))]),
 (6,[λp=>(.ret,⟨(t0 (t2 (.pb 1 0 0) Z (t0 (t0 Z (t0 (aF p 0) Z)) Z)) (t2 (nB p 1) (t0 (t0 Z (t0 (t1 (fL 44 Zc p 2)) Z)) Z) (t0 (t0 Z (t0 (aF p 3) Z)) Z))),[(1,⟨0,[fL 52 LL p 4,.fz [] 55 [.str,.sl false 2 dK] (gL p 5),.fz [] 57 [.str,.sl false 3 dK] (gL p 6),fL 44 Zc p 7],none⟩)],[],1⟩),
 λp=>(.exit 6,⟨(t0 (t2 (.pb 1 0 0) Z (t0 (t0 Z (t0 (aF p 0) Z)) Z)) (t0 (t0 (t0 Z (t0 (t1 (fL 44 Zc p 1)) Z)) Z) (t0 (t0 Z (t0 (aF p 2) Z)) Z))),[(1,⟨0,[fL 52 LL p 3,.fz [] 55 [.str,.sl false 2 dK] (gL p 4),.fz [] 57 [.str,.sl false 3 dK] (gL p 5),fL 44 Zc p 6],none⟩)],[],1⟩)]),
 (8,[λp=>(.ret,⟨(t0 (t2 (.pb 1 0 0) (t0 (t0 (t0 Z (t1 (fL 47 DZ p 0))) Z) Z) (t0 (t0 (t0 Z (aF p 1)) (t0 (aF p 2) Z)) Z)) (t2 (nB p 3) (t0 (t0 (t0 Z (aF p 4)) (t0 (t1 (fL 44 Zc p 5)) Z)) Z) (t0 (t0 Z (t0 (aF p 6) Z)) Z))),[(1,⟨0,[fL 52 LL p 7,.fz [] 55 [.str,.sl false 2 dK] (gL p 8),.fz [] 57 [.str,.sl false 3 dK] (gL p 9),fL 44 Zc p 10],none⟩)],[],1⟩),
 λp=>(.exit 8,⟨(t0 (t2 (.pb 1 0 0) (t0 (t0 (t0 Z (t1 (fL 47 DZ p 0))) Z) Z) (t0 (t0 (t0 Z (aF p 1)) (t0 (aF p 2) Z)) Z)) (t0 (t0 (t0 (t0 Z (aF p 3)) (t0 (t1 (fL 44 Zc p 4)) Z)) Z) (t0 (t0 Z (t0 (aF p 5) Z)) Z))),[(1,⟨0,[fL 52 LL p 6,.fz [] 55 [.str,.sl false 2 dK] (gL p 7),.fz [] 57 [.str,.sl false 3 dK] (gL p 8),fL 44 Zc p 9],none⟩)],[],1⟩)])]
theorem uB:eP Kb pO:=cV
def uE:FD:=cU 50 1 [0,2,4,6,8] UB [(0,xH),(2,pI),(4,xI),(6,xJ),(8,pJ)] [(0,λp=>⟨(t0 (t2 (.pb 1 0 0) (t2 (.pb 21 0 0) (t0 Z (t1 (.fz [] 57 [.str,.sl false 3 dK] (gL p 0)))) Z) (t0 (t0 Z (aF p 1)) Z)) (t0 (t0 (t0 Z (aF p 2)) Z) Z)),[(1,⟨0,[fL 52 LL p 3,.fz [] 55 [.str,.sl false 2 dK] (gL p 4),.fz [] 57 [.str,.sl false 3 dK] (gL p 5),fL 44 Zc p 6],none⟩),(21,⟨0,[fL 52 LL p 7,.fz [] 55 [.str,.sl false 2 dK] (gL p 8),.fz [] 57 [.str,.sl false 3 dK] (gL p 9),fL 44 Zc p 10,cO 19,.nils],none⟩)],[aY 19 4 gX p 11],1⟩),
 (2,λp=>⟨(t0 (t2 (.pb 1 0 0) (t2 (.pb 21 0 0) (t0 (t0 (aF p 0) Z) (t1 (.fz [] 57 [.str,.sl false 3 dK] (gL p 1)))) Z) (t0 (t0 Z (aF p 2)) Z)) (t0 (t0 (t0 (t0 (aF p 3) Z) (aF p 4)) Z) (t0 Z (t0 Z (t1 (rQ p 5)))))),[(1,⟨0,[fL 52 LL p 6,.fz [] 55 [.str,.sl false 2 dK] (gL p 7),.fz [] 57 [.str,.sl false 3 dK] (gL p 8),fL 44 Zc p 9],none⟩),(21,⟨0,[fL 52 LL p 10,.fz [] 55 [.str,.sl false 2 dK] (gL p 11),.fz [] 57 [.str,.sl false 3 dK] (gL p 12),fL 44 Zc p 13,cO 19,.nils],none⟩)],[aY 19 4 gX p 14],1⟩),
 (4,λp=>⟨(t0 (t0 (t2 (.pb 21 0 0) (t0 (t0 Z (t1 (fL 44 Zc p 0))) Z) Z) (t0 (t0 (t0 Z (aF p 1)) Z) Z)) (t0 (t0 (t0 (t0 Z (aF p 2)) Z) Z) Z)),[(21,⟨0,[fL 52 LL p 3,.fz [] 55 [.str,.sl false 2 dK] (gL p 4),.fz [] 57 [.str,.sl false 3 dK] (gL p 5),fL 44 Zc p 6,cO 19,cO 301349],none⟩)],[aY 19 4 gX p 7,aY 301349 102 lt4 p 8],1⟩),
 (6,λp=>⟨(t0 (t0 (t2 (.pb 21 0 0) (t0 (t0 (t0 (aF p 0) Z) (t1 (fL 44 Zc p 1))) Z) Z) (t0 (t2 (.pb 9 0 0) (t0 Z (aF p 2)) Z) Z)) (t0 (t0 (t0 (t0 (t0 (aF p 3) Z) (aF p 4)) Z) Z) (t0 (t1 (.pb 10 0 0)) (t0 Z (t0 Z (t1 (fL 47 DZ p 5))))))),[(9,⟨0,[.str (gS p 6),nB p 7,rQ p 8,nI p 9,fL 47 DZ p 10],none⟩),(10,⟨0,[cO 55000000,.nils,.nils,cO 59],none⟩),(21,⟨0,[fL 52 LL p 11,.fz [] 55 [.str,.sl false 2 dK] (gL p 12),.fz [] 57 [.str,.sl false 3 dK] (gL p 13),fL 44 Zc p 14,cO 19,cO 301349],none⟩)],[aY 19 4 gX p 15,aY 59 50 PZ p 16,aY 301349 102 lt4 p 17,aY 55000000 3 dK p 18],1⟩),
 (8,λp=>⟨(t0 (t0 (t2 (.pb 21 0 0) (t0 (t0 (t0 (aF p 0) Z) (t1 (fL 44 Zc p 1))) (t0 (t0 (aF p 2) Z) Z)) Z) (t0 (t2 (.pb 9 0 0) (t0 Z (aF p 3)) Z) (t0 (t0 (t0 (t1 (fL 50 PZ p 4)) Z) Z) Z))) (t0 (t0 (t0 (t0 (t0 (aF p 5) Z) (aF p 6)) Z) Z) (t0 (t1 (.pb 10 0 0)) (t0 (t0 (t0 (aF p 7) Z) Z) (t0 Z (t1 (fL 47 DZ p 8))))))),[(9,⟨0,[.str (gS p 9),nB p 10,rQ p 11,nI p 12,fL 47 DZ p 13],none⟩),(10,⟨0,[cO 55000000,.nils,.nils,cO 59],none⟩),(21,⟨0,[fL 52 LL p 14,.fz [] 55 [.str,.sl false 2 dK] (gL p 15),.fz [] 57 [.str,.sl false 3 dK] (gL p 16),fL 44 Zc p 17,cO 19,cO 301349],none⟩)],[aY 19 4 gX p 18,aY 59 50 PZ p 19,aY 301349 102 lt4 p 20,aY 55000000 3 dK p 21],1⟩)] [(0,[λp=>(.exit 0,⟨(t0 (t2 (.pb 1 0 0) (t1 (.pb 21 0 0)) Z) eI),[(1,⟨0,[fL 52 LL p 0,.fz [] 55 [.str,.sl false 2 dK] (gL p 1),.fz [] 57 [.str,.sl false 3 dK] (gL p 2),fL 44 Zc p 3],none⟩),(21,⟨0,[fL 52 LL p 4,.fz [] 55 [.str,.sl false 2 dK] (gL p 5),.fz [] 57 [.str,.sl false 3 dK] (gL p 6),fL 44 Zc p 7,cO 19,.nils],none⟩)],[aY 19 4 gX p 8],1⟩)]),
 (2,[λp=>(.exit 2,⟨(t0 (t2 (.pb 1 0 0) (t2 (.pb 21 0 0) (t0 Z (t1 (.fz [] 57 [.str,.sl false 3 dK] (gL p 0)))) Z) (t0 (t0 Z (aF p 1)) Z)) (t0 (t0 (t0 Z (aF p 2)) Z) Z)),[(1,⟨0,[fL 52 LL p 3,.fz [] 55 [.str,.sl false 2 dK] (gL p 4),.fz [] 57 [.str,.sl false 3 dK] (gL p 5),fL 44 Zc p 6],none⟩),(21,⟨0,[fL 52 LL p 7,.fz [] 55 [.str,.sl false 2 dK] (gL p 8),.fz [] 57 [.str,.sl false 3 dK] (gL p 9),fL 44 Zc p 10,cO 19,.nils],none⟩)],[aY 19 4 gX p 11],1⟩)]),
 (4,[λp=>(.exit 4,⟨(t0 (t0 (t1 (.pb 21 0 0)) Z) eI),[(21,⟨0,[fL 52 LL p 0,.fz [] 55 [.str,.sl false 2 dK] (gL p 1),.fz [] 57 [.str,.sl false 3 dK] (gL p 2),fL 44 Zc p 3,cO 19,cO 301349],none⟩)],[aY 19 4 gX p 4,aY 301349 102 lt4 p 5],1⟩)]),
 (6,[λp=>(.exit 6,⟨(t0 (t0 (t2 (.pb 21 0 0) (t0 (t0 Z (t1 (fL 44 Zc p 0))) Z) Z) (t0 (t2 (.pb 9 0 0) (t0 Z (aF p 1)) Z) Z)) (t0 (t0 (t0 (t0 Z (aF p 2)) Z) Z) (t0 (t1 (.pb 10 0 0)) Z))),[(9,⟨0,[.str (gS p 3),nB p 4,rQ p 5,nI p 6,fL 47 DZ p 7],none⟩),(10,⟨0,[cO 55000000,.nils,.nils,cO 59],none⟩),(21,⟨0,[fL 52 LL p 8,.fz [] 55 [.str,.sl false 2 dK] (gL p 9),.fz [] 57 [.str,.sl false 3 dK] (gL p 10),fL 44 Zc p 11,cO 19,cO 301349],none⟩)],[aY 19 4 gX p 12,aY 59 50 PZ p 13,aY 301349 102 lt4 p 14,aY 55000000 3 dK p 15],1⟩)]),
 (8,[λp=>(.exit 8,⟨(t0 (t0 (t2 (.pb 21 0 0) (t0 (t0 (t0 (aF p 0) Z) (t1 (fL 44 Zc p 1))) Z) Z) (t0 (t2 (.pb 9 0 0) (t0 Z (aF p 2)) Z) Z)) (t0 (t0 (t0 (t0 (t0 (aF p 3) Z) (aF p 4)) Z) Z) (t0 (t1 (.pb 10 0 0)) (t0 Z (t0 Z (t1 (fL 47 DZ p 5))))))),[(9,⟨0,[.str (gS p 6),nB p 7,rQ p 8,nI p 9,fL 47 DZ p 10],none⟩),(10,⟨0,[cO 55000000,.nils,.nils,cO 59],none⟩),(21,⟨0,[fL 52 LL p 11,.fz [] 55 [.str,.sl false 2 dK] (gL p 12),.fz [] 57 [.str,.sl false 3 dK] (gL p 13),fL 44 Zc p 14,cO 19,cO 301349],none⟩)],[aY 19 4 gX p 15,aY 59 50 PZ p 16,aY 301349 102 lt4 p 17,aY 55000000 3 dK p 18],1⟩)])]
theorem uF:eP Jt uE:=cV
def Bb:FD:=cU 58 1 [0] Ao [(0,AK)] [(0,λp=>eL (t2 (.str (gS p 0)) (t0 (aF p 1) Z) Z))] [(0,[λp=>(.ret,eL (t0 Z (iT p 0))),
 λp=>(.exit 0,eL (t0 Z eI))])]
theorem Bc:eP JW Bb:=cV
def Ed:FD:=cU 62 1 [] Zd [] [] []
theorem Ee:eP CQ Ed:=cV
def pW:FD:=cU 66 2 [] kR [] [] []
theorem pX:eP lU pW:=cV
def Kk:FD:=cU 70 1 [] TL [] [] []
theorem Kl:eP Kf Kk:=cV
def eQ:FD:=cU 74 2 [0,2,4,7] tW [(0,kC),(2,kD),(4,gF),(7,kE)] [(0,λp=>⟨(t2 (.pb 500 0 0) (t0 (t0 (t0 Z (aF p 0)) Z) Z) (t0 (t0 (t0 Z (aF p 1)) Z) (t0 Z (t0 (t1 (rQ p 2)) Z)))),[(500,⟨0,[cO 501000000,cO 18,cO 501000002,cO 501000003],none⟩)],[aY 18 119 [.sl true 118 fY] p 3,aY 501000000 3 dK p 4,aY 501000002 125 fY p 5,aY 501000003 50 PZ p 6],1⟩),
 (2,λp=>⟨(t2 (.pb 500 0 0) Z (t0 Z (iT p 0))),[(500,⟨0,[cO 501000000,cO 18,cO 501000002,cO 501000003],none⟩)],[aY 18 119 [.sl true 118 fY] p 1,aY 501000000 3 dK p 2,aY 501000002 125 fY p 3,aY 501000003 50 PZ p 4],1⟩),
 (4,λp=>⟨(t2 (.pb 500 0 0) (t0 (t0 (t0 (t0 Z (cY 501000003)) Z) Z) (t0 (t0 (t0 Z (aF p 0)) Z) Z)) (t0 (t0 (t0 (t0 Z (aF p 1)) Z) Z) (iT p 2))),[(500,⟨0,[cO 501000000,cO 18,cO 501000002,cO 501000003],none⟩)],[aY 18 119 [.sl true 118 fY] p 3,aY 501000000 3 dK p 4,aY 501000002 125 fY p 5,aY 501000003 50 PZ p 6],1⟩),
 (7,λp=>⟨(t2 (.pb 500 0 0) (t0 (t0 (t2 (nI p 0) (t0 Z (t2 (cO 501000003) Z (aF p 1))) Z) Z) (t0 (t2 (cO 200009) (t0 Z (aF p 2)) Z) (t0 Z (t0 (t0 Z (t1 (rQ p 3))) Z)))) (t0 (t0 (t0 (t0 Z (aF p 4)) Z) Z) (t2 (nB p 5) Z (t0 Z (t0 (t0 Z (aF p 6)) Z))))),[(500,⟨0,[cO 501000000,cO 18,cO 501000002,cO 501000003],none⟩)],[aY 18 119 [.sl true 118 fY] p 7,aY 200009 118 fY p 8,aY 501000000 3 dK p 9,aY 501000002 125 fY p 10,aY 501000003 50 PZ p 11],1⟩)] [(0,[λp=>(.exit 0,⟨(t1 (.pb 500 0 0)),[(500,⟨0,[cO 501000000,cO 18,cO 501000002,cO 501000003],none⟩)],[aY 18 119 [.sl true 118 fY] p 0,aY 501000000 3 dK p 1,aY 501000002 125 fY p 2,aY 501000003 50 PZ p 3],1⟩)]),
 (2,[λp=>(.exit 2,⟨(t1 (.pb 500 0 0)),[(500,⟨0,[cO 501000000,cO 18,cO 501000002,cO 501000003],none⟩)],[aY 18 119 [.sl true 118 fY] p 0,aY 501000000 3 dK p 1,aY 501000002 125 fY p 2,aY 501000003 50 PZ p 3],1⟩)]),
 (4,[λp=>(.exit 4,⟨(t2 (.pb 500 0 0) Z (t0 Z (iT p 0))),[(500,⟨0,[cO 501000000,cO 18,cO 501000002,cO 501000003],none⟩)],[aY 18 119 [.sl true 118 fY] p 1,aY 501000000 3 dK p 2,aY 501000002 125 fY p 3,aY 501000003 50 PZ p 4],1⟩)]),
 (7,[λp=>(.exit 7,⟨(t2 (.pb 500 0 0) (t0 (t0 (t2 (nI p 0) (t0 Z (cY 501000003)) Z) Z) (t0 (t2 (cO 200009) (t0 Z (aF p 1)) Z) Z)) (t0 (t0 (t0 (t0 Z (aF p 2)) Z) Z) (iT p 3))),[(500,⟨0,[cO 501000000,cO 18,cO 501000002,cO 501000003],none⟩)],[aY 18 119 [.sl true 118 fY] p 4,aY 200009 118 fY p 5,aY 501000000 3 dK p 6,aY 501000002 125 fY p 7,aY 501000003 50 PZ p 8],1⟩)])]
theorem jS:eP yT eQ:=cV
def Ps:FD:=cU 79 1 [] QA [] [] []
theorem Pt:eP PY Ps:=cV
def tC:FD:=cU 83 1 [0,2] GW [(0,pT),(2,fP)] [(0,λp=>⟨(t2 (.fz [] 34 [.sl false 4 gX] (gL p 0)) (t0 (t2 (cO 8) Z (aF p 1)) Z) (t0 Z (t0 (aF p 2) Z))),[],[aY 8 3 dK p 3],1⟩),
 (2,λp=>⟨(t2 (.fz [] 34 [.sl false 4 gX] (gL p 0)) (t0 (t2 (cO 8) Z (t2 (nI p 1) (aF p 2) Z)) Z) (t0 (aF p 3) (t0 (t2 (nI p 4) (aF p 5) Z) Z))),[],[aY 8 3 dK p 6],1⟩)] [(0,[λp=>(.exit 0,⟨(t0 (t0 (cY 8) Z) eI),[],[aY 8 3 dK p 0],1⟩)]),
 (2,[λp=>(.exit 2,⟨(t2 (.fz [] 34 [.sl false 4 gX] (gL p 0)) (t0 (t2 (cO 8) Z (aF p 1)) Z) (t0 Z (t0 (aF p 2) Z))),[],[aY 8 3 dK p 3],1⟩)])]
theorem zO:eP NL tC:=cV
def fN:FD:=cU 87 1 [0,2] iJ [(0,cG),(2,cH)] [(0,λp=>eL (t2 (.fz [] 119 [.sl false 118 fY] (gL p 0)) (t0 (t2 (nI p 1) Z (aF p 2)) (t0 (t1 (.fz [] 119 [.sl false 118 fY] (gL p 3))) Z)) (t0 Z (t0 (aF p 4) Z)))),
 (2,λp=>⟨(t0 (t0 (t0 Z (t0 Z (aF p 0))) (t0 (t0 Z (t1 (.fz [] 119 [.sl false 118 fY] (gL p 1)))) Z)) (t0 Z (t2 (cO 200006) (t0 Z (aF p 2)) Z))),[],[aY 200006 118 fY p 3],1⟩)] [(0,[λp=>(.exit 0,eL (t2 (.fz [] 119 [.sl false 118 fY] (gL p 0)) (t0 (aF p 1) Z) eI))]),
 (2,[λp=>(.exit 2,⟨(t0 Z (t0 Z (cY 200006))),[],[aY 200006 118 fY p 0],1⟩)])]
theorem cD:eP jA fN:=cV
def BO:FD:=cU 93 2 [0] sG [(0,eE)] [(0,λp=>⟨(t2 (.pb 500 0 0) (t2 (nI p 0) (t0 Z (t0 (aF p 1) Z)) (t0 (t0 (cY 18000000) Z) Z)) (t0 Z (t0 (t0 (aF p 2) Z) Z))),[(500,⟨0,[.str (gS p 3),nB p 4,rQ p 5,nI p 6,fL 47 DZ p 7,cO 332005,cO 332006,nB p 8],none⟩)],[aY 332005 3 dK p 9,aY 332006 3 dK p 10,aY 18000000 3 dK p 11],1⟩)] [(0,[λp=>(.exit 0,⟨(t2 (.pb 500 0 0) (aF p 0) Z),[(500,⟨0,[.str (gS p 1),nB p 2,rQ p 3,nI p 4,fL 47 DZ p 5,cO 332005,cO 332006,nB p 6],none⟩)],[aY 332005 3 dK p 7,aY 332006 3 dK p 8],1⟩)])]
theorem sH:eP kL BO:=cV
def kM:FD:=cU 100 2 [0] iN [(0,dH)] [(0,λp=>eL (t2 (rQ p 0) (t2 (nI p 1) (t0 (aF p 2) Z) Z) (t0 (t0 (aF p 3) Z) Z)))] [(0,[λp=>(.ret,eL (t0 Z (t0 (aF p 0) Z))),
 λp=>(.exit 0,eL (t0 Z (t0 eI Z)))])]
theorem iO:eP qE kM:=cV
def JY:FD:=cU 53 1 [] mS [] [] []
theorem KE:eP kQ JY:=cV
def CR:FD:=cU 54 1 [] jW [] [] []
theorem DY:eP hJ CR:=cV
abbrev eV:BT Fn:=.nil
def aET:BT Fn:=(fB 50 uE (fB 25 EL (fB 15 Bj (fB 8 pV (fB 6 EH (fB 5 pL (fB 3 EZ eV eV) eV) (fB 7 EJ eV eV)) (fB 11 XO (fB 10 NN (fB 9 US eV eV) eV) (fB 12 qY eV eV))) (fB 20 nR (fB 18 Eh (fB 17 Pn (fB 16 CE eV eV) eV) (fB 19 rC eV eV)) (fB 23 rS (fB 22 tZ (fB 21 rR eV eV) eV) (fB 24 EN eV eV)))) (fB 40 QB (fB 34 Pw (fB 28 qW (fB 27 IG (fB 26 UF eV eV) eV) (fB 29 IJ eV eV)) (fB 38 QD (fB 37 Ko (fB 36 Po eV eV) eV) (fB 39 yX eV eV))) (fB 45 tX (fB 43 Ku (fB 42 Bd (fB 41 KA eV eV) eV) (fB 44 oR eV eV)) (fB 48 rU (fB 47 uC (fB 46 pO eV eV) eV) (fB 49 KC eV eV))))) (fB 74 eQ (fB 64 Bf (fB 59 HR (fB 57 Pq (fB 52 Ek (fB 51 Ez eV eV) eV) (fB 58 Bb eV eV)) (fB 62 Ed (fB 61 Py (fB 60 Bm eV eV) eV) (fB 63 Ei eV eV))) (fB 69 oD (fB 67 KH (fB 66 pW (fB 65 Pz eV eV) eV) (fB 68 GA eV eV)) (fB 72 KF (fB 71 KJ (fB 70 Kk eV eV) eV) (fB 73 XP eV eV)))) (fB 85 Kq (fB 80 jN (fB 78 Un (fB 77 Pu (fB 75 xU eV eV) eV) (fB 79 Ps eV eV)) (fB 83 tC (fB 82 OG (fB 81 RR eV eV) eV) (fB 84 EF eV eV))) (fB 93 BO (fB 91 cB (fB 87 fN (fB 86 Bh eV eV) eV) (fB 92 HQ eV eV)) (fB 99 HO (fB 95 zP (fB 94 rE eV eV) eV) (fB 100 kM eV eV))))))
theorem aAk:Yz E aW sites aET:=(fA uF (fA EM (fA Bk (fA mR (fA EI (fA pM (fA GT eU eU) eU) (fA BN eU eU)) (fA Uq (fA NT (fA UT eU eU) eU) (fA rB eU eU))) (fA zB (fA uT (fA Az (fA rT eU eU) eU) (fA rD eU eU)) (fA yZ (fA uA (fA yW eU eU) eU) (fA EO eU eU)))) (fA QC (fA Px (fA qX (fA II (fA UG eU eU) eU) (fA JX eU eU)) (fA QE (fA Kp (fA Pp eU eU) eU) (fA EE eU eU))) (fA tY (fA zA (fA Be (fA KB eU eU) eU) (fA oS eU eU)) (fA rV (fA uD (fA uB eU eU) eU) (fA KD eU eU))))) (fA jS (fA Bg (fA HS (fA Pr (fA El (fA Fa eU eU) eU) (fA Bc eU eU)) (fA Ee (fA Bl (fA Bn eU eU) eU) (fA Ej eU eU))) (fA oG (fA KI (fA pX (fA Qa eU eU) eU) (fA GB eU eU)) (fA KG (fA KK (fA Kl eU eU) eU) (fA XQ eU eU)))) (fA Kr (fA gO (fA Uo (fA Pv (fA xV eU eU) eU) (fA Pt eU eU)) (fA zO (fA OH (fA RT eU eU) eU) (fA EG eU eU))) (fA sH (fA dY (fA cD (fA Bi eU eU) eU) (fA lP eU eU)) (fA HP (fA zQ (fA rF eU eU) eU) (fA iO eU eU))))))
end
end Go.Eng.Q
