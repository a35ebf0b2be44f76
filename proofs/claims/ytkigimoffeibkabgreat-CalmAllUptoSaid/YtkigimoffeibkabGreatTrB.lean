/- Part 6 of the proof: the trees are the functions'. -/
import Derived.Test.YtkigimoffeibkabGreatTrA
set_option linter.unusedVariables false
namespace Go.Eng.Q
open Go.Eng Go.Proofs
noncomputable section
abbrev dK:List LT:=[.int .i64]
abbrev fY:List LT:=[.int .i64,.int .i64]
abbrev gX:List LT:=[.bool]
abbrev Um:List LT:=[.str]
abbrev rQ(p:LD)(n:Nat):A:=fL 3 dK p n
abbrev OE(p:LD)(n:Nat):A:=.fz [] 72 [.str,.sl false 2 dK] (gL p n)
abbrev OF(p:LD)(n:Nat):A:=.fz [] 66 [.str,.sl false 3 dK] (gL p n)
abbrev cW(p:LD)(n:Nat):Bx:=⟨0,[.str (gS p n),nB p (n+1),rQ p (n+2),nI p (n+3),fL 40 DZ p (n+4)],none⟩
abbrev cX(p:LD)(n:Nat):Bx:=⟨0,[fL 69 Zc p n,OE p (n+1),OF p (n+2),fL 33 LL p (n+3)],none⟩
abbrev Ay(p:LD)(n:Nat):Bx:=⟨0,[nI p n,nI p (n+1),nI p (n+2),nI p (n+3),nI p (n+4),rQ p (n+5),rQ p (n+6)],none⟩
abbrev aY(k:Nat)(t:TypeId)(l:List LT)(p:LD)(n:Nat):Nat×xZ:=aR k t l (gL p n)
abbrev aF(p:LD)(n:Nat):Tr:=t1 (nI p n)
abbrev iT(p:LD)(n:Nat):Tr:=t1 (nB p n)
abbrev cO(n:Nat):A:=.vw n 0 []
abbrev cY(n:Nat):Tr:=t1 (cO n)
abbrev lF:Tr:=t1 (.pb 1 0 0)
abbrev eI:Tr:=t0 Z Z
abbrev eL(t:Tr):St:=⟨t,[],[],1⟩
def N3(n:Nat):Func×fI:=match aW.look n with
 |some x=>x
 |none=>(Tryz.f3,{})
def cU(n k:Nat)(b:List Nat)(M:LD->Sh)(l:List (Nat×(LD->Sh)))(S:aCm)(T:x4):FD:={f:=(N3 n).1,h:=(N3 n).2,c:=cd (N3 n).1,s:=Tu Jn n,F:={np:=k,bs:=b,main:=M,lps:=l},S:=S,T:=T}
abbrev eP:=BY E aW sites
theorem cV{m:Nat}{d:FD}(a:aW.look m=some (d.f,d.h):=by kernel_rfl)(b:E.sg.look m=some d.s:=by kernel_rfl)(c:d.f.body=some d.c:=by kernel_rfl)(e:cM 0 d.c=d.F.bs.map λb=>(b,tT b d.c):=by kernel_rfl)(f:CS (λb=>Nat.ble (b+1) 1000) d.F.bs=true:=by kernel_rfl)(g:CS (λq=>Nat.ble 1000 q.1||has d.F.bs q.1) d.F.lps=true:=by kernel_rfl)(i:CS (λq=>Nat.ble (q.1+1) 1000||siteLoopB sites q.1) d.F.lps=true:=by kernel_rfl)(j:Nat.beq m E.srt=false:=by kernel_rfl)
  (k:KM d:=by intro _;kernel_rfl)
  (l:∀b g,Go.Eng.look d.F.lps b=some g->KL d b g:=by
   repeat(first
    |exact aCs
    |refine M9 (by intro _;kernel_rfl) ?_)):eP m d:=⟨a,b,c,e,f,g,Zb,i,j,k,l⟩
theorem fA{m:Nat}{d:FD}{l r:BT Fn}(c:eP m d)(x:Yz E aW sites l)(e:Yz E aW sites r)(h:d.h.fork=false:=by kernel_rfl):Yz E aW sites (.node m d.F l r):=⟨⟨d,rfl,c,h⟩,x,e⟩
theorem eU:Yz E aW sites .nil:=trivial
abbrev fB(m:Nat)(d:FD)(l r:BT Fn):BT Fn:=.node m d.F l r
def mO:FD:=cU 3 1 [0,2,4] BI [(0,mR),(2,mS),(4,mT)] [(0,λp=>⟨(t0 (t2 (.pb 1 0 0) (aF p 0) Z) Z),[(1,cX p 1)],[],1⟩),
 (2,λp=>⟨(t0 (t2 (.pb 1 0 0) (t2 (nI p 0) (aF p 1) Z) (cY 29000000)) (t0 (t1 (.pb 4 0 0)) (cY 31000000))),[(1,cX p 2),(4,cW p 6)],[aY 29000000 54 [.sl true 53 fY] p 11,aY 31000000 58 fY p 12],1⟩),
 (4,λp=>⟨(t0 (t2 (.pb 1 0 0) (t2 (nI p 0) (aF p 1) Z) (cY 29000000)) (t0 (t2 (.pb 4 0 0) (aF p 2) Z) (cY 31000000))),[(1,cX p 3),(4,cW p 7)],[aY 29000000 54 [.sl true 53 fY] p 12,aY 31000000 58 fY p 13],1⟩)] [(0,[λp=>(.ret,eL (t0 Z (iT p 0))),
 λp=>(.exit 0,eL (t0 Z eI))]),
 (2,[λp=>(.ret,⟨(t0 (t2 (.pb 1 0 0) (aF p 0) Z) (iT p 1)),[(1,cX p 2)],[],1⟩),
 λp=>(.exit 2,⟨(t0 (t2 (.pb 1 0 0) (aF p 0) Z) eI),[(1,cX p 1)],[],1⟩)]),
 (4,[λp=>(.ret,⟨(t0 (t2 (.pb 1 0 0) (t2 (nI p 0) (aF p 1) Z) (cY 29000000)) (t2 (nB p 2) (t1 (.pb 4 0 0)) (cY 31000000))),[(1,cX p 3),(4,cW p 7)],[aY 29000000 54 [.sl true 53 fY] p 12,aY 31000000 58 fY p 13],1⟩),
 λp=>(.exit 4,⟨(t0 (t2 (.pb 1 0 0) (t2 (nI p 0) (aF p 1) Z) (cY 29000000)) (t0 (t1 (.pb 4 0 0)) (cY 31000000))),[(1,cX p 2),(4,cW p 6)],[aY 29000000 54 [.sl true 53 fY] p 11,aY 31000000 58 fY p 12],1⟩)])]
theorem pV:eP RQ mO:=cV
def Eb:FD:=cU 8 4 [] NN [] [] []
theorem Ec:eP Ac Eb:=cV
def pL:FD:=cU 15 1 [0,2,4,6] lD [(0,lV),(2,lW),(4,lX),(6,lY)] [(0,λp=>⟨(t0 (t2 (.pb 1 0 0) (aF p 0) Z) Z),[(1,cX p 1)],[],1⟩),
 (2,λp=>⟨(t0 lF (t0 (aF p 0) Z)),[(1,cX p 1)],[],1⟩),
 (4,λp=>⟨(t0 (t2 (.pb 1 0 0) Z (aF p 0)) Z),[(1,cX p 1)],[],1⟩),
 (6,λp=>⟨(t0 (t2 (.pb 1 0 0) (t0 (aF p 0) Z) Z) (t0 Z (aF p 1))),[(1,cX p 2)],[],1⟩)] [(0,[λp=>(.ret,⟨(t0 lF (iT p 0)),[(1,cX p 1)],[],1⟩),
 λp=>(.exit 0,⟨(t0 lF eI),[(1,cX p 0)],[],1⟩)]),
 (2,[λp=>(.ret,⟨(t0 lF (iT p 0)),[(1,cX p 1)],[],1⟩),
 λp=>(.exit 2,⟨(t0 lF eI),[(1,cX p 0)],[],1⟩)]),
 (4,[λp=>(.ret,⟨(t0 lF (iT p 0)),[(1,cX p 1)],[],1⟩),
 λp=>(.exit 4,⟨(t0 lF eI),[(1,cX p 0)],[],1⟩)]),
 (6,[λp=>(.ret,eL (t0 Z (t2 (nB p 0) Z (aF p 1)))),
 λp=>(.exit 6,eL (t0 Z (t0 Z (aF p 0))))])]
theorem pM:eP JT pL:=cV
def KA:FD:=cU 19 1 [0,2] TG [(0,vQ),(2,vR)] [(0,λp=>⟨(t0 (t2 (.pb 1 0 0) (cY 200003) Z) (t0 (aF p 0) Z)),[(1,cW p 1)],[aY 200003 3 dK p 6],1⟩),
 (2,λp=>⟨(t0 (t2 (.pb 1 0 0) (cY 200003) (aF p 0)) (t0 (aF p 1) Z)),[(1,cW p 2)],[aY 200003 3 dK p 7],1⟩)] [(0,[λp=>(.exit 0,⟨(t0 (t0 (cY 200003) Z) eI),[],[aY 200003 3 dK p 0],1⟩)]),
 (2,[λp=>(.exit 2,⟨(t0 (t2 (.pb 1 0 0) (cY 200003) Z) (t0 (aF p 0) Z)),[(1,cW p 1)],[aY 200003 3 dK p 6],1⟩)])]
theorem KB:eP NI KA:=cV
def pN:FD:=cU 23 3 [] tU [] [] []
theorem ED:eP yS pN:=cV
def Pn:FD:=cU 30 1 [0] Ai [(0,AB)] [(0,λp=>⟨(t0 (t2 (.pb 1 0 0) (aF p 0) Z) (t0 (aF p 1) Z)),[(1,cW p 2)],[],1⟩)] [(0,[λp=>(.exit 0,eL (t0 (t0 (aF p 0) Z) eI))])]
theorem Az:eP Gb Pn:=cV
def rR:FD:=cU 34 1 [0,2,4,6,8] Aj [(0,AC),(2,AD),(4,AE),(6,AF),(8,AG)] [(0,λp=>⟨(t0 (t2 (.pb 1 0 0) (aF p 0) Z) Z),[(1,cX p 1)],[],1⟩),
 (2,λp=>⟨(t0 (t2 (.pb 1 0 0) (aF p 0) Z) (t0 (aF p 1) Z)),[(1,cX p 2)],[],1⟩),
 (4,λp=>⟨(t0 lF (t0 Z (aF p 0))),[(1,cX p 1)],[],1⟩),
 (6,λp=>⟨(t0 (t2 (.pb 1 0 0) (t0 (aF p 0) Z) Z) (t0 Z (aF p 1))),[(1,cX p 2)],[],1⟩),
 (8,λp=>⟨(t0 (t2 (.pb 1 0 0) (t0 (aF p 0) Z) Z) (t0 (t0 (aF p 1) Z) (aF p 2))),[(1,cX p 3)],[],1⟩)] [(0,[λp=>(.ret,⟨(t0 lF (iT p 0)),[(1,cX p 1)],[],1⟩),
 λp=>(.exit 0,⟨(t0 lF eI),[(1,cX p 0)],[],1⟩)]),
 (2,[λp=>(.ret,⟨(t0 (t2 (.pb 1 0 0) (aF p 0) Z) (iT p 1)),[(1,cX p 2)],[],1⟩),
 λp=>(.exit 2,⟨(t0 (t2 (.pb 1 0 0) (aF p 0) Z) eI),[(1,cX p 1)],[],1⟩)]),
 (4,[λp=>(.ret,eL (t0 Z (iT p 0))),
 λp=>(.exit 4,eL (t0 Z eI))]),
 (6,[λp=>(.ret,⟨(t0 lF (t2 (nB p 0) Z (aF p 1))),[(1,cX p 2)],[],1⟩),
 λp=>(.exit 6,⟨(t0 lF (t0 Z (aF p 0))),[(1,cX p 1)],[],1⟩)]),
 (8,[λp=>(.ret,⟨(t0 (t2 (.pb 1 0 0) (t0 (aF p 0) Z) Z) (t2 (nB p 1) Z (aF p 2))),[(1,cX p 3)],[],1⟩),
 λp=>(.exit 8,⟨(t0 (t2 (.pb 1 0 0) (t0 (aF p 0) Z) Z) (t0 Z (aF p 1))),[(1,cX p 2)],[],1⟩)])]
theorem yW:eP Ub rR:=cV
def qA:FD:=cU 38 2 [0] GT [(0,kQ)] [(0,λp=>⟨(t2 (fL 53 fY p 0) (t0 (t1 (.pb 3 0 0)) (aF p 1)) Z),[(3,⟨0,[nI p 2,nI p 3],none⟩)],[],1⟩)] [(0,[λp=>(.ret,eL (t0 Z (t0 (iT p 0) Z))),
 λp=>(.exit 0,eL (t0 Z (t0 eI Z)))])]
theorem zN:eP NJ qA:=cV
def tX:FD:=cU 42 1 [0,2,4,6,8] TH [(0,vS),(2,vT),(4,vU),(6,vV),(8,oZ)] [(0,λp=>⟨(t0 (t2 (.pb 1 0 0) (cY 200003) (t0 (t0 (aF p 0) Z) Z)) (t0 (t0 (t0 (t1 (fL 69 Zc p 1)) Z) Z) (t0 (t0 (aF p 2) Z) Z))),[(1,cX p 3)],[aY 200003 9 Um p 7],1⟩),
 (2,λp=>⟨(t0 (t2 (.pb 1 0 0) (t2 (cO 200003) (t0 (t0 (aF p 0) Z) Z) Z) (t0 Z (t0 Z (t1 (.fz [] 72 [.str,.sl false 2 dK] (gL p 1)))))) (t0 Z (t0 Z (t0 Z (aF p 2))))),[(1,cX p 3)],[aY 200003 9 Um p 7],1⟩),
 (4,λp=>⟨(t0 (t2 (.pb 1 0 0) (t2 (cO 200003) Z (t0 Z (t0 (aF p 0) Z))) Z) (t0 (t0 Z (t0 Z (t0 (aF p 1) Z))) (t0 (t0 Z (t0 (t1 (.fz [] 66 [.str,.sl false 3 dK] (gL p 2))) Z)) Z))),[(1,cX p 3)],[aY 200003 9 Um p 7],1⟩),
 (6,λp=>⟨(t0 (t0 (t2 (cO 200003) (t0 Z (t0 Z (t1 (fL 33 LL p 0)))) Z) (t0 (t0 Z (t0 Z (aF p 1))) Z)) (t0 (t0 (t0 Z (t0 Z (aF p 2))) Z) Z)),[],[aY 200003 9 Um p 3],1⟩),
 (8,λp=>⟨(t0 (t0 Z (t0 Z (t0 (t0 (t0 (aF p 0) Z) Z) Z))) (t0 (t0 Z (t2 (.mp 67 0) (t0 (t0 (cY 200003) Z) Z) Z)) (t0 Z (t0 (t0 (t0 (aF p 1) Z) Z) Z)))),[(67,⟨0,[],some ⟨.str,.int .i64,(gL p 2)⟩⟩)],[aY 200003 9 Um p 3],1⟩)] [(0,[λp=>(.exit 0,⟨(t0 (t2 (.pb 1 0 0) (cY 200003) Z) eI),[(1,cX p 0)],[aY 200003 9 Um p 4],1⟩)]),
 (2,[λp=>(.exit 2,⟨(t0 (t2 (.pb 1 0 0) (cY 200003) Z) eI),[(1,cX p 0)],[aY 200003 9 Um p 4],1⟩)]),
 (4,[λp=>(.exit 4,⟨(t0 (t2 (.pb 1 0 0) (cY 200003) Z) eI),[(1,cX p 0)],[aY 200003 9 Um p 4],1⟩)]),
 (6,[λp=>(.exit 6,⟨(t0 (t0 (cY 200003) Z) eI),[],[aY 200003 9 Um p 0],1⟩)]),
 (8,[λp=>(.ret,eL (t0 Z (iT p 0))),
 λp=>(.exit 8,eL (t0 Z eI))])]
theorem tY:eP Ka tX:=cV
def KC:FD:=cU 46 2 [0,2] TJ [(0,vW),(2,vX)] [(0,λp=>⟨(t0 (t0 (t2 (.pb 3 0 0) (t0 (aF p 0) Z) Z) (t2 (cO 12000000) Z (t1 (fL 40 DZ p 1)))) (t2 (.pb 2 0 0) Z (t0 Z (aF p 2)))),[(2,cX p 3),(3,cW p 7)],[aY 12000000 3 dK p 12],1⟩),
 (2,λp=>⟨(t0 (t0 (t2 (.pb 3 0 0) (t0 (aF p 0) Z) Z) (t2 (cO 12000000) Z (t2 (fL 40 DZ p 1) (aF p 2) Z))) (t2 (.pb 2 0 0) (t0 Z (t0 (t1 (fL 42 PZ p 3)) Z)) (t0 Z (t2 (nI p 4) (aF p 5) Z)))),[(2,cX p 6),(3,cW p 10)],[aY 12000000 3 dK p 15],1⟩)] [(0,[λp=>(.ret,eL (t0 Z (t0 (iT p 0) Z))),
 λp=>(.exit 0,eL (t0 Z (t0 eI Z)))]),
 (2,[λp=>(.ret,⟨(t0 (t0 (t2 (.pb 3 0 0) (t0 (aF p 0) Z) Z) (t2 (cO 12000000) Z (t1 (fL 40 DZ p 1)))) (t2 (.pb 2 0 0) (iT p 2) (t0 Z (aF p 3)))),[(2,cX p 4),(3,cW p 8)],[aY 12000000 3 dK p 13],1⟩),
 λp=>(.exit 2,⟨(t0 (t0 (t2 (.pb 3 0 0) (t0 (aF p 0) Z) Z) (t2 (cO 12000000) Z (t1 (fL 40 DZ p 1)))) (t2 (.pb 2 0 0) eI (t0 Z (aF p 2)))),[(2,cX p 3),(3,cW p 7)],[aY 12000000 3 dK p 12],1⟩)])]
theorem KD:eP Kc KC:=cV
def HO:FD:=cU 50 2 [] yV [] [] []
theorem HP:eP lT HO:=cV
def Po:FD:=cU 63 1 [] aAi [] [] []
theorem Pp:eP BZ Po:=cV
def yX:FD:=cU 67 1 [0,2,4] TK [(0,vY),(2,vZ),(4,wA)] [(0,λp=>⟨(t0 (t2 (.pb 1 0 0) (cY 11) Z) (t0 (aF p 0) Z)),[(1,cW p 1)],[aY 11 109 fY p 6],1⟩),
 (2,λp=>⟨(t0 (t2 (.pb 1 0 0) (cY 11) (aF p 0)) (t0 Z (aF p 1))),[(1,cW p 2)],[aY 11 109 fY p 7],1⟩),
 (4,λp=>⟨(t0 (t2 (.pb 1 0 0) (t2 (cO 11) (aF p 0) Z) (aF p 1)) (t0 Z (aF p 2))),[(1,cW p 3)],[aY 11 109 fY p 8],1⟩)] [(0,[λp=>(.exit 0,⟨(t0 (t2 (.pb 1 0 0) (cY 11) Z) eI),[(1,cW p 0)],[aY 11 109 fY p 5],1⟩)]),
 (2,[λp=>(.exit 2,⟨(t0 (t0 (cY 11) Z) eI),[],[aY 11 109 fY p 0],1⟩)]),
 (4,[λp=>(.exit 4,⟨(t0 (t2 (.pb 1 0 0) (cY 11) (aF p 0)) (t0 Z (aF p 1))),[(1,cW p 2)],[aY 11 109 fY p 7],1⟩)])]
theorem EE:eP Ke yX:=cV
def Ed:FD:=cU 71 1 [] Zd [] [] []
theorem Ee:eP CQ Ed:=cV
def pW:FD:=cU 75 2 [] kR [] [] []
theorem pX:eP lU pW:=cV
def Kk:FD:=cU 79 1 [] TL [] [] []
theorem Kl:eP Kf Kk:=cV
def uW:FD:=cU 83 1 [] iR [] [] []
theorem uX:eP bP uW:=cV
def Pq:FD:=cU 95 1 [] Pl [] [] []
theorem Pr:eP PX Pq:=cV
def Ps:FD:=cU 99 1 [] QA [] [] []
theorem Pt:eP PY Ps:=cV
def EF:FD:=cU 103 1 [0,2,4] TM [(0,wC),(2,wD),(4,wE)] [(0,λp=>⟨(t0 (t2 (.pb 1 0 0) (aF p 0) (t0 (t0 (aF p 1) Z) Z)) (t0 (t2 (cO 15) (t0 (aF p 2) Z) Z) Z)),[(1,cW p 3)],[aY 15 30 [.sl true 3 dK] p 8],1⟩),
 (2,λp=>⟨(t0 (t0 (t2 (nI p 0) (t2 (cO 30) (t0 (aF p 1) Z) Z) Z) Z) (t0 (t2 (cO 15) (t0 (t0 (aF p 2) Z) Z) Z) (cY 29000000))),[],[aY 15 30 [.sl true 3 dK] p 3,aY 30 46 [.sl true 4 gX] p 4,aY 29000000 4 gX p 5],1⟩),
 (4,λp=>⟨(t0 (t0 (t2 (nI p 0) (t2 (cO 30) (t0 (aF p 1) Z) Z) Z) (t0 (t2 (cO 48000000) (t0 Z (aF p 2)) Z) Z)) (t0 (t2 (cO 15) (t2 (nI p 3) (t0 (aF p 4) (aF p 5)) Z) Z) (cY 29000000))),[],[aY 15 30 [.sl true 3 dK] p 6,aY 30 46 [.sl true 4 gX] p 7,aY 29000000 4 gX p 8,aY 48000000 4 gX p 9],1⟩)] [(0,[λp=>(.exit 0,⟨(t0 (t2 (.pb 1 0 0) (aF p 0) Z) (t0 (cY 15) Z)),[(1,cW p 1)],[aY 15 30 [.sl true 3 dK] p 6],1⟩)]),
 (2,[λp=>(.exit 2,⟨(t0 (t0 (t0 (cY 30) Z) Z) eI),[],[aY 30 46 [.sl true 4 gX] p 0],1⟩)]),
 (4,[λp=>(.exit 4,⟨(t0 (t0 (t2 (nI p 0) (t2 (cO 30) (t0 (aF p 1) Z) Z) Z) Z) (t0 (t2 (cO 15) (t0 (t0 (aF p 2) Z) Z) Z) (cY 29000000))),[],[aY 15 30 [.sl true 3 dK] p 3,aY 30 46 [.sl true 4 gX] p 4,aY 29000000 4 gX p 5],1⟩)])]
theorem EG:eP Kh EF:=cV
def Pu:FD:=cU 116 2 [] Ak [] [] []
theorem Pv:eP Uj Pu:=cV
def kM:FD:=cU 133 2 [0] iN [(0,dH)] [(0,λp=>eL (t2 (rQ p 0) (t2 (nI p 1) (t0 (aF p 2) Z) Z) (t0 (t0 (aF p 3) Z) Z)))] [(0,[λp=>(.ret,eL (t0 Z (t0 (aF p 0) Z))),
 λp=>(.exit 0,eL (t0 Z (t0 eI Z)))])]
theorem iO:eP qE kM:=cV
def Km:FD:=cU 5 1 [] EA [] [] []
theorem UE:eP Jo Km:=cV
def KE:FD:=cU 9 5 [] TN [] [] []
theorem Kn:eP Jq KE:=cV
def EH:FD:=cU 16 1 [0,2,4] TO [(0,wF),(2,wG),(4,wH)] [(0,λp=>⟨(t0 (t2 (.pb 1 0 0) (aF p 0) Z) Z),[(1,cX p 1)],[],1⟩),
 (2,λp=>⟨(t0 lF (t0 (aF p 0) Z)),[(1,cX p 1)],[],1⟩),
 (4,λp=>⟨(t0 (t2 (.pb 1 0 0) Z (aF p 0)) Z),[(1,cX p 1)],[],1⟩)] [(0,[λp=>(.ret,⟨(t0 lF (aF p 0)),[(1,cX p 1)],[],1⟩),
 λp=>(.exit 0,⟨(t0 lF eI),[(1,cX p 0)],[],1⟩)]),
 (2,[λp=>(.ret,⟨(t0 lF (aF p 0)),[(1,cX p 1)],[],1⟩),
 λp=>(.exit 2,⟨(t0 lF eI),[(1,cX p 0)],[],1⟩)]),
 (4,[λp=>(.ret,eL (t0 Z (aF p 0))),
 λp=>(.exit 4,eL (t0 Z eI))])]
theorem EI:eP Jr EH:=cV
def Ba:FD:=cU 20 2 [0] Al [(0,kB)] [(0,λp=>⟨(t0 (t2 (nI p 0) Z (aF p 1)) (t2 (.pb 2 0 0) (t1 (.pb 4 0 0)) Z)),[(2,cW p 2),(4,⟨0,[nI p 7,nI p 8],none⟩)],[],1⟩)] [(0,[λp=>(.ret,⟨(t0 Z (t0 (t1 (.pb 4 0 0)) Z)),[(4,⟨0,[nI p 0,nI p 1],none⟩)],[],1⟩)])]
theorem yY:eP Ua Ba:=cV
def Ef:FD:=cU 24 2 [] NT [] [] []
theorem Eg:eP CP Ef:=cV
def Eh:FD:=cU 31 1 [0,2,4,6] NU [(0,nK),(2,nL),(4,nM),(6,nN)] [(0,λp=>⟨(t0 (t2 (.pb 1 0 0) (aF p 0) Z) Z),[(1,cX p 1)],[],1⟩),
 (2,λp=>⟨(t0 lF (t0 (aF p 0) Z)),[(1,cX p 1)],[],1⟩),
 (4,λp=>⟨(t0 lF (t0 Z (aF p 0))),[(1,cX p 1)],[],1⟩),
 (6,λp=>⟨(t0 lF (t0 (t0 (aF p 0) Z) Z)),[(1,cX p 1)],[],1⟩)] [(0,[λp=>(.ret,⟨(t0 lF (iT p 0)),[(1,cX p 1)],[],1⟩),
 λp=>(.exit 0,⟨(t0 lF eI),[(1,cX p 0)],[],1⟩)]),
 (2,[λp=>(.ret,⟨(t0 lF (iT p 0)),[(1,cX p 1)],[],1⟩),
 λp=>(.exit 2,⟨(t0 lF eI),[(1,cX p 0)],[],1⟩)]),
 (4,[λp=>(.ret,⟨(t0 lF (iT p 0)),[(1,cX p 1)],[],1⟩),
 λp=>(.exit 4,⟨(t0 lF eI),[(1,cX p 0)],[],1⟩)]),
 (6,[λp=>(.ret,eL (t0 Z (iT p 0))),
 λp=>(.exit 6,eL (t0 Z eI))])]
theorem uT:eP Ad Eh:=cV
def tZ:FD:=cU 35 1 [0,2,4,6,8] TP [(0,wI),(2,wJ),(4,wK),(6,wL),(8,wM)] [(0,λp=>⟨(t0 (t2 (.pb 1 0 0) (aF p 0) Z) Z),[(1,cW p 1)],[],1⟩),
 (2,λp=>⟨(t0 (t2 (.pb 1 0 0) (aF p 0) (aF p 1)) (t0 (t1 (fL 42 PZ p 2)) Z)),[(1,cW p 3)],[],1⟩),
 (4,λp=>⟨(t0 (t2 (.pb 1 0 0) (t2 (nI p 0) (aF p 1) Z) Z) (t0 Z (t1 (.pb 6 0 0)))),[(1,cW p 2),(6,Ay p 7)],[],1⟩),
 (6,λp=>⟨(t0 (t2 (.pb 1 0 0) Z (t0 (cY 116000000) Z)) (t0 (t0 (cY 114000000) Z) (t0 (aF p 0) Z))),[(1,cW p 1)],[aY 114000000 4 gX p 6,aY 116000000 30 [.sl true 3 dK] p 7],1⟩),
 (8,λp=>⟨(t0 (t2 (.pb 1 0 0) (t0 Z (t1 (fL 42 PZ p 0))) (t0 (cY 116000000) Z)) (t0 (t0 (cY 114000000) (aF p 1)) (t0 (aF p 2) Z))),[(1,cW p 3)],[aY 114000000 4 gX p 8,aY 116000000 30 [.sl true 3 dK] p 9],1⟩)] [(0,[λp=>(.ret,⟨(t0 lF (iT p 0)),[(1,cW p 1)],[],1⟩),
 λp=>(.exit 0,⟨(t0 lF eI),[(1,cW p 0)],[],1⟩)]),
 (2,[λp=>(.ret,⟨(t0 (t2 (.pb 1 0 0) (aF p 0) Z) (t2 (nB p 1) (t1 (fL 42 PZ p 2)) Z)),[(1,cW p 3)],[],1⟩),
 λp=>(.exit 2,⟨(t0 (t2 (.pb 1 0 0) (aF p 0) Z) (t0 (t1 (fL 42 PZ p 1)) Z)),[(1,cW p 2)],[],1⟩)]),
 (4,[λp=>(.ret,⟨(t0 (t2 (.pb 1 0 0) (aF p 0) Z) (t2 (nB p 1) Z (t1 (.pb 6 0 0)))),[(1,cW p 2),(6,Ay p 7)],[],1⟩),
 λp=>(.exit 4,⟨(t0 (t2 (.pb 1 0 0) (aF p 0) Z) (t0 Z (t1 (.pb 6 0 0)))),[(1,cW p 1),(6,Ay p 6)],[],1⟩)]),
 (6,[λp=>(.ret,eL (t0 Z (iT p 0))),
 λp=>(.exit 6,eL (t0 Z eI))]),
 (8,[λp=>(.ret,⟨(t0 (t2 (.pb 1 0 0) Z (t0 (cY 116000000) Z)) (t2 (nB p 0) (t0 (cY 114000000) Z) (t0 (aF p 1) Z))),[(1,cW p 2)],[aY 114000000 4 gX p 7,aY 116000000 30 [.sl true 3 dK] p 8],1⟩),
 λp=>(.exit 8,⟨(t0 (t2 (.pb 1 0 0) Z (t0 (cY 116000000) Z)) (t0 (t0 (cY 114000000) Z) (t0 (aF p 0) Z))),[(1,cW p 1)],[aY 114000000 4 gX p 6,aY 116000000 30 [.sl true 3 dK] p 7],1⟩)])]
theorem uA:eP Jx tZ:=cV
def qB:FD:=cU 39 2 [0,2] Am [(0,qX),(2,qY)] [(0,λp=>⟨(t0 (aF p 0) (t2 (.pb 2 0 0) Z (aF p 1))),[(2,cW p 2)],[],1⟩),
 (2,λp=>⟨(t0 (t2 (nI p 0) (t0 (aF p 1) Z) Z) (t2 (.pb 2 0 0) Z (aF p 2))),[(2,cW p 3)],[],1⟩)] [(0,[λp=>(.ret,eL (t0 (t0 Z (aF p 0)) (t0 (aF p 1) Z))),
 λp=>(.exit 0,eL (t0 (t0 Z eI) (t0 eI Z)))]),
 (2,[λp=>(.ret,⟨(t0 (t2 (nI p 0) Z (aF p 1)) (t2 (.pb 2 0 0) (aF p 2) (aF p 3))),[(2,cW p 4)],[],1⟩),
 λp=>(.exit 2,⟨(t0 (t2 (nI p 0) Z eI) (t2 (.pb 2 0 0) eI (aF p 1))),[(2,cW p 2)],[],1⟩)])]
theorem CR:eP XJ qB:=cV
def pO:FD:=cU 43 1 [0,2,4,6,8] TQ [(0,wN),(2,wO),(4,wP),(6,wQ),(8,wR)] [(0,λp=>⟨(t0 (t2 (.pb 1 0 0) (t0 (t0 (t1 (.fz [] 66 [.str,.sl false 3 dK] (gL p 0))) Z) Z) (t0 (t0 (aF p 1) Z) Z)) (t0 (t0 (t0 (aF p 2) Z) Z) Z)),[(1,cX p 3)],[],1⟩),
 (2,λp=>⟨(t0 (t2 (.pb 1 0 0) (t0 (t0 (t1 (.fz [] 66 [.str,.sl false 3 dK] (gL p 0))) (aF p 1)) Z) (t0 (t0 (aF p 2) Z) Z)) (t0 (t0 (t0 (aF p 3) (aF p 4)) Z) (t0 Z (t0 (t1 (rQ p 5)) Z)))),[(1,cX p 6)],[],1⟩),
 (4,λp=>⟨(t0 (t2 (.pb 1 0 0) Z (t0 (t0 Z (t0 (aF p 0) Z)) Z)) (t0 (t0 (t0 Z (t0 (t1 (fL 33 LL p 1)) Z)) Z) (t0 (t0 Z (t0 (aF p 2) Z)) Z))),[(1,cX p 3)],[],1⟩),
 (6,λp=>⟨(t0 (t2 (.pb 1 0 0) (t0 (t0 (t0 Z (t1 (fL 40 DZ p 0))) Z) Z) (t0 (t0 (t0 Z (aF p 1)) (t0 (aF p 2) Z)) Z)) (t0 (t0 (t0 (t0 Z (aF p 3)) (t0 (t1 (fL 33 LL p 4)) Z)) Z) (t0 (t0 Z (t0 (aF p 5) Z)) Z))),[(1,cX p 6)],[],1⟩),
 (8,λp=>⟨(t0 (t2 (.pb 1 0 0) (t0 (t0 (t0 Z (t1 (fL 40 DZ p 0))) (t0 Z (aF p 1))) Z) (t0 (t0 (t0 Z (aF p 2)) (t0 (aF p 3) Z)) Z)) (t0 (t0 (t0 (t0 Z (aF p 4)) (t0 (t1 (fL 33 LL p 5)) (aF p 6))) Z) (t0 (t0 Z (t0 (aF p 7) Z)) (t0 (t0 Z (t1 (fL 42 PZ p 8))) Z)))),[(1,cX p 9)],[],1⟩)] [(0,[λp=>(.ret,⟨(t0 lF (iT p 0)),[(1,cX p 1)],[],1⟩),
 λp=>(.exit 0,⟨(t0 lF eI),[(1,cX p 0)],[],1⟩)]),
 (2,[λp=>(.ret,⟨(t0 (t2 (.pb 1 0 0) (t0 (t0 (t1 (.fz [] 66 [.str,.sl false 3 dK] (gL p 0))) Z) Z) (t0 (t0 (aF p 1) Z) Z)) (t2 (nB p 2) (t0 (t0 (aF p 3) Z) Z) Z)),[(1,cX p 4)],[],1⟩),
 λp=>(.exit 2,⟨(t0 (t2 (.pb 1 0 0) (t0 (t0 (t1 (.fz [] 66 [.str,.sl false 3 dK] (gL p 0))) Z) Z) (t0 (t0 (aF p 1) Z) Z)) (t0 (t0 (t0 (aF p 2) Z) Z) Z)),[(1,cX p 3)],[],1⟩)]),
 (4,[λp=>(.ret,eL (t0 Z (iT p 0))),
 λp=>(.exit 4,eL (t0 Z eI))]),
 (6,[λp=>(.ret,⟨(t0 (t2 (.pb 1 0 0) Z (t0 (t0 Z (t0 (aF p 0) Z)) Z)) (t2 (nB p 1) (t0 (t0 Z (t0 (t1 (fL 33 LL p 2)) Z)) Z) (t0 (t0 Z (t0 (aF p 3) Z)) Z))),[(1,cX p 4)],[],1⟩),
 λp=>(.exit 6,⟨(t0 (t2 (.pb 1 0 0) Z (t0 (t0 Z (t0 (aF p 0) Z)) Z)) (t0 (t0 (t0 Z (t0 (t1 (fL 33 LL p 1)) Z)) Z) (t0 (t0 Z (t0 (aF p 2) Z)) Z))),[(1,cX p 3)],[],1⟩)]),
 (8,[λp=>(.ret,⟨(t0 (t2 (.pb 1 0 0) (t0 (t0 (t0 Z (t1 (fL 40 DZ p 0))) Z) Z) (t0 (t0 (t0 Z (aF p 1)) (t0 (aF p 2) Z)) Z)) (t2 (nB p 3) (t0 (t0 (t0 Z (aF p 4)) (t0 (t1 (fL 33 LL p 5)) Z)) Z) (t0 (t0 Z (t0 (aF p 6) Z)) Z))),[(1,cX p 7)],[],1⟩),
 λp=>(.exit 8,⟨(t0 (t2 (.pb 1 0 0) (t0 (t0 (t0 Z (t1 (fL 40 DZ p 0))) Z) Z) (t0 (t0 (t0 Z (aF p 1)) (t0 (aF p 2) Z)) Z)) (t0 (t0 (t0 (t0 Z (aF p 3)) (t0 (t1 (fL 33 LL p 4)) Z)) Z) (t0 (t0 Z (t0 (aF p 5) Z)) Z))),[(1,cX p 6)],[],1⟩)])]
theorem uB:eP Kb pO:=cV
def KF:FD:=cU 47 1 [0,2] TR [(0,wS),(2,wT)] [(0,λp=>⟨(t0 (t0 (t2 (cO 200003) (t0 (aF p 0) Z) Z) (t0 Z (t1 (fL 40 DZ p 1)))) (t0 Z (t0 Z (aF p 2)))),[],[aY 200003 3 dK p 3],1⟩),
 (2,λp=>⟨(t0 (t0 (t2 (cO 200003) (t0 (aF p 0) Z) Z) (t0 Z (t2 (fL 40 DZ p 1) (aF p 2) Z))) (t0 (t0 Z (t0 (t1 (fL 42 PZ p 3)) Z)) (t0 Z (t2 (nI p 4) (aF p 5) Z)))),[],[aY 200003 3 dK p 6],1⟩)] [(0,[λp=>(.exit 0,⟨(t0 (t0 (cY 200003) Z) eI),[],[aY 200003 3 dK p 0],1⟩)]),
 (2,[λp=>(.exit 2,⟨(t0 (t0 (t2 (cO 200003) (t0 (aF p 0) Z) Z) (t0 Z (t1 (fL 40 DZ p 1)))) (t0 Z (t0 Z (aF p 2)))),[],[aY 200003 3 dK p 3],1⟩)])]
theorem KG:eP XL KF:=cV
def EJ:FD:=cU 51 3 [] tV [] [] []
theorem EK:eP yU EJ:=cV
def Ko:FD:=cU 64 1 [] TS [] [] []
theorem Kp:eP XM Ko:=cV
def QB:FD:=cU 68 1 [0,2] An [(0,AI),(2,AJ)] [(0,λp=>⟨(t0 (t2 (.pb 1 0 0) (cY 11) (aF p 0)) (t0 (cY 14000000) Z)),[(1,cW p 1)],[aY 11 46 [.sl true 4 gX] p 6,aY 14000000 4 gX p 7],1⟩),
 (2,λp=>⟨(t0 (t2 (.pb 1 0 0) (t2 (cO 11) (aF p 0) Z) (aF p 1)) (t0 (cY 14000000) (cY 34000000))),[(1,cW p 2)],[aY 11 46 [.sl true 4 gX] p 7,aY 14000000 4 gX p 8,aY 34000000 4 gX p 9],1⟩)] [(0,[λp=>(.exit 0,⟨(t0 (t0 (cY 11) Z) eI),[],[aY 11 46 [.sl true 4 gX] p 0],1⟩)]),
 (2,[λp=>(.exit 2,⟨(t0 (t2 (.pb 1 0 0) (cY 11) (aF p 0)) (t0 (cY 14000000) Z)),[(1,cW p 1)],[aY 11 46 [.sl true 4 gX] p 6,aY 14000000 4 gX p 7],1⟩)])]
theorem QC:eP Ug QB:=cV
def Ei:FD:=cU 72 1 [] bU [] [] []
theorem Ej:eP Af Ei:=cV
def KH:FD:=cU 76 1 [0] JZ [(0,qZ)] [(0,λp=>⟨(t0 (t0 Z (t0 (t0 (aF p 0) Z) Z)) (t0 (t2 (cO 12) (t0 (cY 9000005) Z) Z) (t0 (t0 (aF p 1) Z) Z))),[],[aY 12 4 gX p 2,aY 9000005 3 dK p 3],1⟩)] [(0,[λp=>(.exit 0,⟨(t0 Z (t0 (cY 12) Z)),[],[aY 12 4 gX p 0],1⟩)])]
theorem KI:eP JU KH:=cV
def KJ:FD:=cU 80 2 [0,2] TT [(0,wU),(2,wV)] [(0,λp=>eL (t0 (t0 Z (t2 (nI p 0) (t0 (aF p 1) Z) Z)) (t0 (t0 (t0 (t1 (fL 40 DZ p 2)) Z) Z) (t0 (t0 (aF p 3) Z) Z)))),
 (2,λp=>eL (t0 (t0 (t0 (t0 Z (t1 (fL 42 PZ p 0))) Z) (t2 (nI p 1) (t0 (aF p 2) (aF p 3)) Z)) (t0 (t0 (t0 (t1 (fL 40 DZ p 4)) (aF p 5)) Z) (t0 (t0 (aF p 6) Z) Z))))] [(0,[λp=>(.exit 0,eL (t0 (t0 Z (aF p 0)) (t0 eI Z)))]),
 (2,[λp=>(.exit 2,eL (t0 (t0 Z (t2 (nI p 0) (t0 (aF p 1) Z) Z)) (t0 (t0 (t0 (t1 (fL 40 DZ p 2)) Z) Z) (t0 (t0 (aF p 3) Z) Z))))])]
theorem KK:eP Kg KJ:=cV
def cB:FD:=cU 86 1 [0,2] hZ [(0,cF),(2,dS)] [(0,λp=>⟨(t2 (cO 500) (t0 (aF p 0) Z) Z),[],[aY 500 53 fY p 1],1⟩),
 (2,λp=>⟨(t2 (cO 500) (t0 (aF p 0) (aF p 1)) (t0 (t1 (.sx 500 0 2 (gN p 2) (gN p 3))) Z)),[],[aY 500 53 fY p 4],1⟩)] [(0,[λp=>(.ret,⟨(t0 Z (cY 59)),[],[aY 59 53 fY p 0],1⟩),
 λp=>(.exit 0,⟨(t2 (cO 500) Z eI),[],[aY 500 53 fY p 0],1⟩)]),
 (2,[λp=>(.exit 2,⟨(t2 (cO 500) (t0 (aF p 0) Z) eI),[],[aY 500 53 fY p 1],1⟩)])]
theorem dY:eP bV cB:=cV
def Bb:FD:=cU 96 1 [0] Ao [(0,AK)] [(0,λp=>eL (t2 (.str (gS p 0)) (t0 (aF p 1) Z) Z))] [(0,[λp=>(.ret,eL (t0 Z (iT p 0))),
 λp=>(.exit 0,eL (t0 Z eI))])]
theorem Bc:eP JW Bb:=cV
def jN:FD:=cU 100 2 [0] gK [(0,cZ)] [(0,λp=>eL (t2 (fL 4 gX p 0) (t2 (nB p 1) (t0 (aF p 2) Z) Z) (t0 (t0 (aF p 3) Z) Z)))] [(0,[λp=>(.ret,eL (t0 Z (t0 (aF p 0) Z))),
 λp=>(.exit 0,eL (t0 Z (t0 eI Z)))])]
theorem gO:eP oA jN:=cV
def Kq:FD:=cU 104 3 [0] Ki [(0,EB)] [(0,λp=>eL (t2 (rQ p 0) (t0 (t0 Z (aF p 1)) (t0 (t1 (rQ p 2)) Z)) (t2 (nI p 3) Z (t0 (aF p 4) Z))))] [(0,[λp=>(.ret,eL (t0 Z (t0 Z (iT p 0)))),
 λp=>(.exit 0,eL (t0 Z (t0 Z eI)))])]
theorem Kr:eP Ah Kq:=cV
def Un:FD:=cU 117 2 [0] Uk [(0,HN)] [(0,λp=>eL (t2 (rQ p 0) (t2 (nI p 1) Z (aF p 2)) Z))] [(0,[λp=>(.ret,eL (t0 Z (t0 (iT p 0) Z))),
 λp=>(.exit 0,eL (t0 Z (t0 eI Z)))])]
theorem Uo:eP aCB Un:=cV
def lM:FD:=cU 6 1 [0,2,4,6,9] NV [(0,sT),(2,sU),(4,sV),(6,jW),(9,sW)] [(0,λp=>⟨(t0 (t2 (.pb 1 0 0) (cY 14) Z) (t0 (aF p 0) Z)),[(1,cW p 1)],[aY 14 54 [.sl true 53 fY] p 6],1⟩),
 (2,λp=>⟨(t0 (t2 (.pb 1 0 0) (cY 14) (iT p 0)) Z),[(1,cW p 1)],[aY 14 54 [.sl true 53 fY] p 6],1⟩),
 (4,λp=>⟨(t0 (t2 (.pb 1 0 0) (cY 14) (iT p 0)) (t0 Z (aF p 1))),[(1,cW p 2)],[aY 14 54 [.sl true 53 fY] p 7],1⟩),
 (6,λp=>⟨(t0 (t2 (.pb 1 0 0) (t2 (cO 14) (aF p 0) Z) (iT p 1)) (t0 Z (aF p 2))),[(1,cW p 3)],[aY 14 54 [.sl true 53 fY] p 8],1⟩),
 (9,λp=>⟨(t0 (t2 (.pb 1 0 0) (t2 (cO 14) (aF p 0) Z) (t2 (nB p 1) (aF p 2) Z)) (t0 (t0 (t1 (.pb 8 0 0)) Z) (t2 (nI p 3) (aF p 4) Z))),[(1,cW p 5),(8,Ay p 10)],[aY 14 54 [.sl true 53 fY] p 17],1⟩)] [(0,[λp=>(.exit 0,⟨(t0 (t2 (.pb 1 0 0) (cY 14) Z) eI),[(1,cW p 0)],[aY 14 54 [.sl true 53 fY] p 5],1⟩)]),
 (2,[λp=>(.exit 2,⟨(t0 (t0 (cY 14) Z) eI),[],[aY 14 54 [.sl true 53 fY] p 0],1⟩)]),
 (4,[λp=>(.exit 4,⟨(t0 (t2 (.pb 1 0 0) (cY 14) (iT p 0)) eI),[(1,cW p 1)],[aY 14 54 [.sl true 53 fY] p 6],1⟩)]),
 (6,[λp=>(.exit 6,⟨(t0 (t2 (.pb 1 0 0) (cY 14) (iT p 0)) (t0 Z (aF p 1))),[(1,cW p 2)],[aY 14 54 [.sl true 53 fY] p 7],1⟩)]),
 (9,[λp=>(.exit 9,⟨(t0 (t2 (.pb 1 0 0) (t2 (cO 14) (aF p 0) Z) (t2 (nB p 1) (aF p 2) Z)) (t0 (t0 (t1 (.pb 8 0 0)) Z) (aF p 3))),[(1,cW p 4),(8,Ay p 9)],[aY 14 54 [.sl true 53 fY] p 16],1⟩)])]
theorem rB:eP Ab lM:=cV
def XO:FD:=cU 10 2 [0] Ul [(0,Kj)] [(0,λp=>eL (t2 (fL 4 gX p 0) (t2 (fL 4 gX p 1) Z (aF p 2)) Z))] [(0,[λp=>(.ret,eL (t0 Z (t0 (iT p 0) Z))),
 λp=>(.exit 0,eL (t0 Z (t0 eI Z)))])]
theorem Uq:eP N2 XO:=cV
def Ek:FD:=cU 17 1 [] NW [] [] []
theorem El:eP PV Ek:=cV
def EL:FD:=cU 21 1 [1,3,5] TU [(1,wW),(3,wX),(5,wY)] [(1,λp=>⟨(t0 (t2 (.pb 1 0 0) (t0 Z (t0 Z (aF p 0))) Z) (t0 (t0 Z (t0 Z (aF p 1))) (t0 (t0 Z (t1 (fL 33 LL p 2))) Z))),[(1,cX p 3)],[],1⟩),
 (3,λp=>⟨(t0 (t2 (.pb 1 0 0) (t0 (t0 Z (t0 (aF p 0) Z)) Z) (t0 Z (t0 (t0 (t1 (fL 33 LL p 1)) Z) Z))) (t0 Z (t0 Z (t0 (t0 (aF p 2) Z) Z)))),[(1,cX p 3)],[],1⟩),
 (5,λp=>⟨(t0 (t2 (.pb 1 0 0) Z (t0 (t0 (t0 Z (aF p 0)) Z) Z)) (t0 (t0 (t0 (t0 Z (t1 (fL 33 LL p 1))) Z) Z) (t0 (t0 (t0 Z (aF p 2)) Z) Z))),[(1,cX p 3)],[],1⟩)] [(1,[λp=>(.ret,⟨(t0 lF (aF p 0)),[(1,cX p 1)],[],1⟩),
 λp=>(.exit 1,⟨(t0 lF eI),[(1,cX p 0)],[],1⟩)]),
 (3,[λp=>(.ret,⟨(t0 lF (aF p 0)),[(1,cX p 1)],[],1⟩),
 λp=>(.exit 3,⟨(t0 lF eI),[(1,cX p 0)],[],1⟩)]),
 (5,[λp=>(.ret,eL (t0 Z (aF p 0))),
 λp=>(.exit 5,eL (t0 Z eI))])]
theorem EM:eP Js EL:=cV
def Ks:FD:=cU 25 5 [] TV [] [] []
theorem Kt:eP Ju Ks:=cV
def rC:FD:=cU 32 1 [0,2,4,6,8,10] TW [(0,lE),(2,pA),(4,jB),(6,pB),(8,pC),(10,nO)] [(0,λp=>⟨(t0 (t2 (.pb 1 0 0) (aF p 0) Z) Z),[(1,cX p 1)],[],1⟩),
 (2,λp=>⟨(t0 (t2 (.pb 1 0 0) (aF p 0) (aF p 1)) (t0 (t1 (.pb 4 0 0)) Z)),[(1,cX p 2),(4,⟨0,[.str (gS p 6),rQ p 7,nI p 8],none⟩)],[],1⟩),
 (4,λp=>⟨(t0 lF (t0 Z (aF p 0))),[(1,cX p 1)],[],1⟩),
 (6,λp=>⟨(t0 (t2 (.pb 1 0 0) (t0 (t1 (.pb 7 0 0)) Z) Z) (t0 (t0 (aF p 0) Z) (aF p 1))),[(1,cX p 2),(7,cW p 6)],[],1⟩),
 (8,λp=>⟨(t0 (t2 (.pb 1 0 0) (t0 (t1 (.pb 7 0 0)) Z) (t0 (aF p 0) Z)) (t0 Z (aF p 1))),[(1,cX p 2),(7,cW p 6)],[],1⟩),
 (10,λp=>⟨(t0 (t2 (.pb 1 0 0) (t0 (t1 (.pb 7 0 0)) Z) (t0 (aF p 0) Z)) (t0 Z (t2 (nI p 1) (aF p 2) Z))),[(1,cX p 3),(7,cW p 7)],[],1⟩)] [(0,[λp=>(.ret,⟨(t0 lF (iT p 0)),[(1,cX p 1)],[],1⟩),
 λp=>(.exit 0,⟨(t0 lF eI),[(1,cX p 0)],[],1⟩)]),
 (2,[λp=>(.ret,⟨(t0 (t2 (.pb 1 0 0) (aF p 0) Z) (iT p 1)),[(1,cX p 2)],[],1⟩),
 λp=>(.exit 2,⟨(t0 (t2 (.pb 1 0 0) (aF p 0) Z) eI),[(1,cX p 1)],[],1⟩)]),
 (4,[λp=>(.ret,eL (t0 Z (iT p 0))),
 λp=>(.exit 4,eL (t0 Z eI))]),
 (6,[λp=>(.ret,⟨(t0 (t2 (.pb 1 0 0) (t0 (t1 (.pb 7 0 0)) Z) Z) (t2 (nB p 0) Z (aF p 1))),[(1,cX p 2),(7,cW p 6)],[],1⟩),
 λp=>(.exit 6,⟨(t0 (t2 (.pb 1 0 0) (t0 (t1 (.pb 7 0 0)) Z) Z) (t0 Z (aF p 0))),[(1,cX p 1),(7,cW p 5)],[],1⟩)]),
 (8,[λp=>(.ret,⟨(t0 lF (t2 (nB p 0) Z (aF p 1))),[(1,cX p 2)],[],1⟩),
 λp=>(.exit 8,⟨(t0 lF (t0 Z (aF p 0))),[(1,cX p 1)],[],1⟩)]),
 (10,[λp=>(.ret,⟨(t0 (t2 (.pb 1 0 0) (t0 (t1 (.pb 7 0 0)) Z) (t0 (aF p 0) Z)) (t2 (nB p 1) Z (aF p 2))),[(1,cX p 3),(7,cW p 7)],[],1⟩),
 λp=>(.exit 10,⟨(t0 (t2 (.pb 1 0 0) (t0 (t1 (.pb 7 0 0)) Z) (t0 (aF p 0) Z)) (t0 Z (aF p 1))),[(1,cX p 2),(7,cW p 6)],[],1⟩)])]
theorem rD:eP Jv rC:=cV
def rS:FD:=cU 36 1 [0,2,4,6,8] Ap [(0,uR),(2,uS),(4,AL),(6,AM),(8,AN)] [(0,λp=>⟨(t0 (t2 (.pb 1 0 0) (aF p 0) Z) (t0 (aF p 1) Z)),[(1,cW p 2)],[],1⟩),
 (2,λp=>⟨(t0 (t2 (.pb 1 0 0) (aF p 0) (aF p 1)) (t0 (aF p 2) Z)),[(1,cW p 3)],[],1⟩),
 (4,λp=>⟨(t0 (t2 (.pb 1 0 0) (t2 (nI p 0) (cY 56000000) Z) (t0 (aF p 1) Z)) (t0 (t0 (cY 58000000) Z) Z)),[(1,cW p 2)],[aY 56000000 109 fY p 7,aY 58000000 46 [.sl true 4 gX] p 8],1⟩),
 (6,λp=>⟨(t0 (t2 (.pb 1 0 0) (t2 (nI p 0) (cY 56000000) Z) (t0 (aF p 1) Z)) (t0 (t0 (cY 58000000) Z) (t0 (aF p 2) Z))),[(1,cW p 3)],[aY 56000000 109 fY p 8,aY 58000000 46 [.sl true 4 gX] p 9],1⟩),
 (8,λp=>⟨(t0 (t2 (.pb 1 0 0) (t2 (nI p 0) (cY 56000000) (t1 (.pb 11 0 0))) (t0 (aF p 1) Z)) (t0 (t0 (cY 58000000) (aF p 2)) (t0 (aF p 3) Z))),[(1,cW p 4),(11,Ay p 9)],[aY 56000000 109 fY p 16,aY 58000000 46 [.sl true 4 gX] p 17],1⟩)] [(0,[λp=>(.ret,⟨(t0 (t2 (.pb 1 0 0) (aF p 0) Z) (iT p 1)),[(1,cW p 2)],[],1⟩),
 λp=>(.exit 0,⟨(t0 (t2 (.pb 1 0 0) (aF p 0) Z) eI),[(1,cW p 1)],[],1⟩)]),
 (2,[λp=>(.ret,⟨(t0 (t2 (.pb 1 0 0) (aF p 0) Z) (t2 (nB p 1) (aF p 2) Z)),[(1,cW p 3)],[],1⟩),
 λp=>(.exit 2,⟨(t0 (t2 (.pb 1 0 0) (aF p 0) Z) (t0 (aF p 1) Z)),[(1,cW p 2)],[],1⟩)]),
 (4,[λp=>(.ret,eL (t0 Z (iT p 0))),
 λp=>(.exit 4,eL (t0 Z eI))]),
 (6,[λp=>(.ret,⟨(t0 (t2 (.pb 1 0 0) (t2 (nI p 0) (cY 56000000) Z) (t0 (aF p 1) Z)) (t2 (nB p 2) (t0 (cY 58000000) Z) Z)),[(1,cW p 3)],[aY 56000000 109 fY p 8,aY 58000000 46 [.sl true 4 gX] p 9],1⟩),
 λp=>(.exit 6,⟨(t0 (t2 (.pb 1 0 0) (t2 (nI p 0) (cY 56000000) Z) (t0 (aF p 1) Z)) (t0 (t0 (cY 58000000) Z) Z)),[(1,cW p 2)],[aY 56000000 109 fY p 7,aY 58000000 46 [.sl true 4 gX] p 8],1⟩)]),
 (8,[λp=>(.ret,⟨(t0 (t2 (.pb 1 0 0) (t2 (nI p 0) (cY 56000000) Z) (t0 (aF p 1) Z)) (t2 (nB p 2) (t0 (cY 58000000) Z) (t0 (aF p 3) Z))),[(1,cW p 4)],[aY 56000000 109 fY p 9,aY 58000000 46 [.sl true 4 gX] p 10],1⟩),
 λp=>(.exit 8,⟨(t0 (t2 (.pb 1 0 0) (t2 (nI p 0) (cY 56000000) Z) (t0 (aF p 1) Z)) (t0 (t0 (cY 58000000) Z) (t0 (aF p 2) Z))),[(1,cW p 3)],[aY 56000000 109 fY p 8,aY 58000000 46 [.sl true 4 gX] p 9],1⟩)])]
theorem yZ:eP Uc rS:=cV
def Ku:FD:=cU 40 1 [0,2,4,6] TX [(0,pD),(2,pE),(4,pF),(6,pG)] [(0,λp=>⟨(t0 (t2 (.pb 1 0 0) (t0 Z (t0 (t0 (aF p 0) Z) Z)) Z) (t0 (t0 Z (t0 (t0 (aF p 1) Z) Z)) (t0 (t0 (t0 (t1 (fL 69 Zc p 2)) Z) Z) Z))),[(1,cX p 3)],[],1⟩),
 (2,λp=>⟨(t0 (t2 (.pb 1 0 0) (t0 (t0 (t0 Z (aF p 0)) Z) Z) Z) (t0 (t0 (t0 (t0 Z (aF p 1)) Z) Z) (t0 Z (t0 Z (t0 (t1 (.fz [] 72 [.str,.sl false 2 dK] (gL p 2))) Z))))),[(1,cX p 3)],[],1⟩),
 (4,λp=>⟨(t0 (t2 (.pb 1 0 0) Z (t0 (t0 (t0 (t0 (aF p 0) Z) Z) Z) Z)) (t0 (t0 (t0 (t0 (t0 (t1 (.fz [] 66 [.str,.sl false 3 dK] (gL p 1))) Z) Z) Z) Z) (t0 (t0 (t0 (t0 (aF p 2) Z) Z) Z) Z))),[(1,cX p 3)],[],1⟩),
 (6,λp=>eL (t0 (t0 (t0 Z (t0 (t0 Z (t0 (aF p 0) Z)) Z)) Z) (t0 (t0 Z (t0 (t0 Z (t0 (aF p 1) Z)) Z)) (t0 (t0 (t0 Z (t0 (t1 (fL 33 LL p 2)) Z)) Z) Z))))] [(0,[λp=>(.ret,⟨(t0 lF (iT p 0)),[(1,cX p 1)],[],1⟩),
 λp=>(.exit 0,⟨(t0 lF eI),[(1,cX p 0)],[],1⟩)]),
 (2,[λp=>(.ret,⟨(t0 lF (iT p 0)),[(1,cX p 1)],[],1⟩),
 λp=>(.exit 2,⟨(t0 lF eI),[(1,cX p 0)],[],1⟩)]),
 (4,[λp=>(.ret,⟨(t0 lF (iT p 0)),[(1,cX p 1)],[],1⟩),
 λp=>(.exit 4,⟨(t0 lF eI),[(1,cX p 0)],[],1⟩)]),
 (6,[λp=>(.ret,eL (t0 Z (iT p 0))),
 λp=>(.exit 6,eL (t0 Z eI))])]
theorem zA:eP Jz Ku:=cV
def uC:FD:=cU 44 1 [0,2,4,6,8] TY [(0,wZ),(2,xA),(4,xB),(6,xC),(8,xD)] [(0,λp=>⟨(t0 (t2 (.pb 1 0 0) (t0 Z (t0 (aF p 0) Z)) (t0 (t0 (t1 (fL 40 DZ p 1)) Z) Z)) (t0 Z (t0 (t0 (aF p 2) Z) Z))),[(1,cW p 3)],[],1⟩),
 (2,λp=>⟨(t0 (t2 (.pb 1 0 0) (t2 (nI p 0) (t0 (t0 (aF p 1) Z) Z) (t0 (aF p 2) Z)) (t2 (nB p 3) (t0 (t1 (fL 40 DZ p 4)) Z) (t0 Z (t1 (fL 42 PZ p 5))))) (t0 (t1 (.pb 4 0 0)) (t0 (t0 (aF p 6) Z) (t0 Z (aF p 7))))),[(1,cW p 8),(4,⟨0,[fL 42 PZ p 13],none⟩)],[],1⟩),
 (4,λp=>⟨(t0 (t2 (.pb 1 0 0) (t0 Z (t0 (aF p 0) (t0 (t0 (aF p 1) Z) Z))) (t0 (t0 (t1 (fL 40 DZ p 2)) Z) Z)) (t0 (t0 (t1 (rQ p 3)) (t0 Z (t0 (t0 (aF p 4) Z) Z))) (t0 (t0 (aF p 5) (t0 (t0 (t1 (rQ p 6)) Z) Z)) Z))),[(1,cW p 7)],[],1⟩),
 (6,λp=>⟨(t0 (t0 (t0 (t0 (t0 Z (t0 Z (aF p 0))) Z) (cY 108000000)) (t0 Z (t0 Z (t0 (t0 Z (t1 (fL 40 DZ p 1))) Z)))) (t0 Z (t0 Z (t0 Z (t0 (t0 Z (aF p 2)) Z))))),[],[aY 108000000 30 [.sl true 3 dK] p 3],1⟩),
 (8,λp=>⟨(t0 (t0 (t0 (t0 (t0 Z (t0 Z (aF p 0))) (t0 Z (t0 Z (aF p 1)))) (cY 108000000)) (t0 Z (t0 (t0 Z (t0 Z (t1 (fL 42 PZ p 2)))) (t0 (t0 Z (t1 (fL 40 DZ p 3))) Z)))) (t0 (t0 Z (aF p 4)) (t0 Z (t0 (t0 Z (t0 Z (aF p 5))) (t0 (t0 Z (aF p 6)) Z))))),[],[aY 108000000 30 [.sl true 3 dK] p 7],1⟩)] [(0,[λp=>(.ret,⟨(t0 lF (iT p 0)),[(1,cW p 1)],[],1⟩),
 λp=>(.exit 0,⟨(t0 lF eI),[(1,cW p 0)],[],1⟩)]),
 (2,[λp=>(.ret,⟨(t0 (t2 (.pb 1 0 0) (t0 Z (t0 (aF p 0) Z)) (t0 (t0 (t1 (fL 40 DZ p 1)) Z) Z)) (t2 (nB p 2) (t1 (.pb 4 0 0)) (t0 (t0 (aF p 3) Z) Z))),[(1,cW p 4),(4,⟨0,[fL 42 PZ p 9],none⟩)],[],1⟩),
 λp=>(.exit 2,⟨(t0 (t2 (.pb 1 0 0) (t0 Z (t0 (aF p 0) Z)) (t0 (t0 (t1 (fL 40 DZ p 1)) Z) Z)) (t0 (t1 (.pb 4 0 0)) (t0 (t0 (aF p 2) Z) Z))),[(1,cW p 3),(4,⟨0,[fL 42 PZ p 8],none⟩)],[],1⟩)]),
 (4,[λp=>(.ret,⟨(t0 (t2 (.pb 1 0 0) (t0 Z (t0 (aF p 0) Z)) (t0 (t0 (t1 (fL 40 DZ p 1)) Z) Z)) (t2 (nB p 2) (t0 (t1 (rQ p 3)) Z) (t0 (t0 (aF p 4) Z) Z))),[(1,cW p 5)],[],1⟩),
 λp=>(.exit 4,⟨(t0 (t2 (.pb 1 0 0) (t0 Z (t0 (aF p 0) Z)) (t0 (t0 (t1 (fL 40 DZ p 1)) Z) Z)) (t0 (t0 (t1 (rQ p 2)) Z) (t0 (t0 (aF p 3) Z) Z))),[(1,cW p 4)],[],1⟩)]),
 (6,[λp=>(.ret,eL (t0 Z (iT p 0))),
 λp=>(.exit 6,eL (t0 Z eI))]),
 (8,[λp=>(.ret,⟨(t0 (t0 (t0 (t0 (t0 Z (t0 Z (aF p 0))) Z) (cY 108000000)) (t0 Z (t0 Z (t0 (t0 Z (t1 (fL 40 DZ p 1))) Z)))) (t2 (nB p 2) Z (t0 Z (t0 Z (t0 (t0 Z (aF p 3)) Z))))),[],[aY 108000000 30 [.sl true 3 dK] p 4],1⟩),
 λp=>(.exit 8,⟨(t0 (t0 (t0 (t0 (t0 Z (t0 Z (aF p 0))) Z) (cY 108000000)) (t0 Z (t0 Z (t0 (t0 Z (t1 (fL 40 DZ p 1))) Z)))) (t0 Z (t0 Z (t0 Z (t0 (t0 Z (aF p 2)) Z))))),[],[aY 108000000 30 [.sl true 3 dK] p 3],1⟩)])]
theorem uD:eP XK uC:=cV
def eQ:FD:=cU 48 2 [0,2,4,7] tW [(0,kC),(2,kD),(4,gF),(7,kE)] [(0,λp=>⟨(t2 (.pb 500 0 0) (t0 (t0 (t0 Z (aF p 0)) Z) Z) (t0 (t0 (t0 Z (aF p 1)) Z) (t0 Z (t0 (t1 (rQ p 2)) Z)))),[(500,⟨0,[cO 501000000,cO 18,cO 501000002,cO 501000003],none⟩)],[aY 18 54 [.sl true 53 fY] p 3,aY 501000000 3 dK p 4,aY 501000002 58 fY p 5,aY 501000003 42 PZ p 6],1⟩),
 (2,λp=>⟨(t2 (.pb 500 0 0) Z (t0 Z (iT p 0))),[(500,⟨0,[cO 501000000,cO 18,cO 501000002,cO 501000003],none⟩)],[aY 18 54 [.sl true 53 fY] p 1,aY 501000000 3 dK p 2,aY 501000002 58 fY p 3,aY 501000003 42 PZ p 4],1⟩),
 (4,λp=>⟨(t2 (.pb 500 0 0) (t0 (t0 (t0 (t0 Z (cY 501000003)) Z) Z) (t0 (t0 (t0 Z (aF p 0)) Z) Z)) (t0 (t0 (t0 (t0 Z (aF p 1)) Z) Z) (iT p 2))),[(500,⟨0,[cO 501000000,cO 18,cO 501000002,cO 501000003],none⟩)],[aY 18 54 [.sl true 53 fY] p 3,aY 501000000 3 dK p 4,aY 501000002 58 fY p 5,aY 501000003 42 PZ p 6],1⟩),
 (7,λp=>⟨(t2 (.pb 500 0 0) (t0 (t0 (t2 (nI p 0) (t0 Z (t2 (cO 501000003) Z (aF p 1))) Z) Z) (t0 (t2 (cO 200009) (t0 Z (aF p 2)) Z) (t0 Z (t0 (t0 Z (t1 (rQ p 3))) Z)))) (t0 (t0 (t0 (t0 Z (aF p 4)) Z) Z) (t2 (nB p 5) Z (t0 Z (t0 (t0 Z (aF p 6)) Z))))),[(500,⟨0,[cO 501000000,cO 18,cO 501000002,cO 501000003],none⟩)],[aY 18 54 [.sl true 53 fY] p 7,aY 200009 53 fY p 8,aY 501000000 3 dK p 9,aY 501000002 58 fY p 10,aY 501000003 42 PZ p 11],1⟩)] [(0,[λp=>(.exit 0,⟨(t1 (.pb 500 0 0)),[(500,⟨0,[cO 501000000,cO 18,cO 501000002,cO 501000003],none⟩)],[aY 18 54 [.sl true 53 fY] p 0,aY 501000000 3 dK p 1,aY 501000002 58 fY p 2,aY 501000003 42 PZ p 3],1⟩)]),
 (2,[λp=>(.exit 2,⟨(t1 (.pb 500 0 0)),[(500,⟨0,[cO 501000000,cO 18,cO 501000002,cO 501000003],none⟩)],[aY 18 54 [.sl true 53 fY] p 0,aY 501000000 3 dK p 1,aY 501000002 58 fY p 2,aY 501000003 42 PZ p 3],1⟩)]),
 (4,[λp=>(.exit 4,⟨(t2 (.pb 500 0 0) Z (t0 Z (iT p 0))),[(500,⟨0,[cO 501000000,cO 18,cO 501000002,cO 501000003],none⟩)],[aY 18 54 [.sl true 53 fY] p 1,aY 501000000 3 dK p 2,aY 501000002 58 fY p 3,aY 501000003 42 PZ p 4],1⟩)]),
 (7,[λp=>(.exit 7,⟨(t2 (.pb 500 0 0) (t0 (t0 (t2 (nI p 0) (t0 Z (cY 501000003)) Z) Z) (t0 (t2 (cO 200009) (t0 Z (aF p 1)) Z) Z)) (t0 (t0 (t0 (t0 Z (aF p 2)) Z) Z) (iT p 3))),[(500,⟨0,[cO 501000000,cO 18,cO 501000002,cO 501000003],none⟩)],[aY 18 54 [.sl true 53 fY] p 4,aY 200009 53 fY p 5,aY 501000000 3 dK p 6,aY 501000002 58 fY p 7,aY 501000003 42 PZ p 8],1⟩)])]
theorem jS:eP yT eQ:=cV
def BM:FD:=cU 52 3 [] sF [] [] []
theorem BN:eP vN BM:=cV
def QD:FD:=cU 65 1 [0,2] Aq [(0,AO),(2,AP)] [(0,λp=>⟨(t0 (t2 (.pb 1 0 0) (cY 10) Z) (t0 (aF p 0) Z)),[(1,cW p 1)],[aY 10 30 [.sl true 3 dK] p 6],1⟩),
 (2,λp=>⟨(t0 (t2 (.pb 1 0 0) (cY 10) (cY 21000000)) (t0 (aF p 0) (aF p 1))),[(1,cW p 2)],[aY 10 30 [.sl true 3 dK] p 7,aY 21000000 3 dK p 8],1⟩)] [(0,[λp=>(.exit 0,⟨(t0 (t0 (cY 10) Z) eI),[],[aY 10 30 [.sl true 3 dK] p 0],1⟩)]),
 (2,[λp=>(.exit 2,⟨(t0 (t2 (.pb 1 0 0) (cY 10) Z) (t0 (aF p 0) Z)),[(1,cW p 1)],[aY 10 30 [.sl true 3 dK] p 6],1⟩)])]
theorem QE:eP Uf QD:=cV
def Bd:FD:=cU 69 4 [1] Pm [(1,AQ)] [(1,λp=>⟨(t0 (t0 (t1 (rQ p 0)) (t0 (aF p 1) Z)) (t0 Z (t1 (.pb 6 0 0)))),[(6,Ay p 2)],[],1⟩)] [(1,[λp=>(.ret,eL (t0 Z (t0 (t0 (iT p 0) Z) Z))),
 λp=>(.exit 1,eL (t0 Z (t0 (t0 eI Z) Z)))])]
theorem Be:eP Gd Bd:=cV
def Bf:FD:=cU 73 1 [0] Ar [(0,AR)] [(0,λp=>eL (t2 (.str (gS p 0)) (t0 (t0 (t0 (aF p 1) Z) Z) Z) (t0 (t0 (t0 (aF p 2) Z) Z) Z)))] [(0,[λp=>(.ret,eL (t0 Z (iT p 0))),
 λp=>(.exit 0,eL (t0 Z eI))])]
theorem Bg:eP Ui Bf:=cV
def GA:FD:=cU 77 1 [0,2] NX [(0,sX),(2,sY)] [(0,λp=>⟨(t0 (t2 (.pb 1 0 0) (cY 10) (t0 Z (aF p 0))) (t0 Z (t0 Z (aF p 1)))),[(1,cW p 2)],[aY 10 30 [.sl true 3 dK] p 7],1⟩),
 (2,λp=>⟨(t0 (t2 (.pb 1 0 0) (t2 (cO 10) Z (t0 (cY 20000000) Z)) (t0 Z (t2 (nI p 0) (aF p 1) Z))) (t0 (t2 (nI p 2) Z (t0 (aF p 3) Z)) (t0 Z (aF p 4)))),[(1,cW p 5)],[aY 10 30 [.sl true 3 dK] p 10,aY 20000000 3 dK p 11],1⟩)] [(0,[λp=>(.exit 0,⟨(t0 (t0 (cY 10) Z) eI),[],[aY 10 30 [.sl true 3 dK] p 0],1⟩)]),
 (2,[λp=>(.exit 2,⟨(t0 (t2 (.pb 1 0 0) (cY 10) (t0 Z (aF p 0))) (t0 Z (t0 Z (aF p 1)))),[(1,cW p 2)],[aY 10 30 [.sl true 3 dK] p 7],1⟩)])]
theorem GB:eP Ag GA:=cV
def XP:FD:=cU 81 4 [] XN [] [] []
theorem XQ:eP JV XP:=cV
def HQ:FD:=cU 87 2 [] fE [] [] []
theorem lP:eP vO HQ:=cV
def HR:FD:=cU 97 3 [0,2,4] As [(0,AS),(2,rA),(4,mX)] [(0,λp=>⟨(t0 (t0 (t2 (.pb 3 0 0) (cY 15) Z) Z) (t2 (nI p 0) (t0 (iT p 1) Z) Z)),[(3,cW p 2)],[aY 15 4 gX p 7],1⟩),
 (2,λp=>⟨(t0 (t0 (t2 (.pb 3 0 0) (cY 15) Z) (t0 (aF p 0) Z)) (t2 (nI p 1) (t0 (iT p 2) Z) Z)),[(3,cW p 3)],[aY 15 4 gX p 8],1⟩),
 (4,λp=>⟨(t0 (t0 (t2 (.pb 3 0 0) (cY 15) (aF p 0)) (t0 (aF p 1) Z)) (t2 (nI p 2) (t0 (iT p 3) Z) (t0 (cY 48000000) Z))),[(3,cW p 4)],[aY 15 4 gX p 9,aY 48000000 3 dK p 10],1⟩)] [(0,[λp=>(.exit 0,⟨(t0 (t0 (t0 (cY 15) Z) Z) (t0 Z eI)),[],[aY 15 4 gX p 0],1⟩)]),
 (2,[λp=>(.exit 2,⟨(t0 (t0 (t2 (.pb 3 0 0) (cY 15) Z) Z) (t2 (nI p 0) (t0 (iT p 1) Z) eI)),[(3,cW p 2)],[aY 15 4 gX p 7],1⟩)]),
 (4,[λp=>(.exit 4,⟨(t0 (t0 (t2 (.pb 3 0 0) (cY 15) Z) (t0 (aF p 0) Z)) (t2 (nI p 1) (t0 (iT p 2) Z) eI)),[(3,cW p 3)],[aY 15 4 gX p 8],1⟩)])]
theorem HS:eP Ge HR:=cV
def OG:FD:=cU 101 2 [0] OB [(0,sZ)] [(0,λp=>⟨(t0 (t0 (t0 (t0 Z (t0 Z (t1 (rQ p 0)))) Z) (t2 (cO 200005) (t0 Z (t0 Z (aF p 1))) Z)) (t2 (.pb 2 0 0) (t0 (t0 Z (t0 Z (aF p 2))) Z) Z)),[(2,cW p 3)],[aY 200005 3 dK p 8],1⟩)] [(0,[λp=>(.exit 0,⟨(t0 (t0 Z (cY 200005)) (t0 eI Z)),[],[aY 200005 3 dK p 0],1⟩)])]
theorem OH:eP HM OG:=cV
def Bh:FD:=cU 105 3 [0] At [(0,AT)] [(0,λp=>eL (t2 (rQ p 0) (t0 (t0 (t0 (aF p 1) Z) Z) Z) (t2 (rQ p 2) (t0 (t0 (aF p 3) Z) Z) (t0 Z (t1 (rQ p 4))))))] [(0,[λp=>(.ret,eL (t0 Z (t0 Z (iT p 0)))),
 λp=>(.exit 0,eL (t0 Z (t0 Z eI)))])]
theorem Bi:eP vP Bh:=cV
def rE:FD:=cU 118 2 [] lZ [] [] []
theorem rF:eP nJ rE:=cV
def UF:FD:=cU 7 1 [0] TZ [(0,xE)] [(0,λp=>⟨(t0 (t2 (.pb 1 0 0) (cY 8000000) (aF p 0)) (t0 (cY 10) Z)),[(1,cW p 1)],[aY 10 58 fY p 6,aY 8000000 3 dK p 7],1⟩)] [(0,[λp=>(.exit 0,⟨(t0 Z (t0 (cY 10) Z)),[],[aY 10 58 fY p 0],1⟩)])]
theorem UG:eP Jp UF:=cV
def Em:FD:=cU 12 1 [] Ze [] [] []
theorem Zf:eP aAh Em:=cV
def KN:FD:=cU 18 2 [0,2] UA [(0,xF),(2,xG)] [(0,λp=>⟨(t0 (t2 (fL 53 fY p 0) Z (cY 200005)) (t0 Z (aF p 1))),[],[aY 200005 53 fY p 2],1⟩),
 (2,λp=>⟨(t0 (t2 (fL 53 fY p 0) (t0 (aF p 1) Z) (cY 200005)) (t0 Z (aF p 2))),[],[aY 200005 53 fY p 3],1⟩)] [(0,[λp=>(.exit 0,⟨(t0 (t0 Z (cY 200005)) (t0 eI Z)),[],[aY 200005 53 fY p 0],1⟩)]),
 (2,[λp=>(.exit 2,⟨(t0 (t2 (fL 53 fY p 0) (t0 (aF p 1) Z) (cY 200005)) (t0 eI (aF p 2))),[],[aY 200005 53 fY p 3],1⟩)])]
theorem KO:eP DY KN:=cV
def uE:FD:=cU 22 1 [0,2,4,6,8] UB [(0,xH),(2,pI),(4,xI),(6,xJ),(8,pJ)] [(0,λp=>⟨(t0 (t2 (.pb 1 0 0) (t2 (.pb 21 0 0) (t0 Z (t1 (.fz [] 66 [.str,.sl false 3 dK] (gL p 0)))) Z) (t0 (t0 Z (aF p 1)) Z)) (t0 (t0 (t0 Z (aF p 2)) Z) Z)),[(1,cX p 3),(21,⟨0,[fL 69 Zc p 7,OE p 8,OF p 9,fL 33 LL p 10,cO 19,.nils],none⟩)],[aY 19 4 gX p 11],1⟩),
 (2,λp=>⟨(t0 (t2 (.pb 1 0 0) (t2 (.pb 21 0 0) (t0 (t0 (aF p 0) Z) (t1 (.fz [] 66 [.str,.sl false 3 dK] (gL p 1)))) Z) (t0 (t0 Z (aF p 2)) Z)) (t0 (t0 (t0 (t0 (aF p 3) Z) (aF p 4)) Z) (t0 Z (t0 Z (t1 (rQ p 5)))))),[(1,cX p 6),(21,⟨0,[fL 69 Zc p 10,OE p 11,OF p 12,fL 33 LL p 13,cO 19,.nils],none⟩)],[aY 19 4 gX p 14],1⟩),
 (4,λp=>⟨(t0 (t0 (t2 (.pb 21 0 0) (t0 (t0 Z (t1 (fL 33 LL p 0))) Z) Z) (t0 (t0 (t0 Z (aF p 1)) Z) Z)) (t0 (t0 (t0 (t0 Z (aF p 2)) Z) Z) Z)),[(21,⟨0,[fL 69 Zc p 3,OE p 4,OF p 5,fL 33 LL p 6,cO 19,cO 301349],none⟩)],[aY 19 4 gX p 7,aY 301349 82 lt4 p 8],1⟩),
 (6,λp=>⟨(t0 (t0 (t2 (.pb 21 0 0) (t0 (t0 (t0 (aF p 0) Z) (t1 (fL 33 LL p 1))) Z) Z) (t0 (t2 (.pb 9 0 0) (t0 Z (aF p 2)) Z) Z)) (t0 (t0 (t0 (t0 (t0 (aF p 3) Z) (aF p 4)) Z) Z) (t0 (t1 (.pb 10 0 0)) (t0 Z (t0 Z (t1 (fL 40 DZ p 5))))))),[(9,cW p 6),(10,⟨0,[cO 55000000,.nils,.nils,cO 59],none⟩),(21,⟨0,[fL 69 Zc p 11,OE p 12,OF p 13,fL 33 LL p 14,cO 19,cO 301349],none⟩)],[aY 19 4 gX p 15,aY 59 42 PZ p 16,aY 301349 82 lt4 p 17,aY 55000000 3 dK p 18],1⟩),
 (8,λp=>⟨(t0 (t0 (t2 (.pb 21 0 0) (t0 (t0 (t0 (aF p 0) Z) (t1 (fL 33 LL p 1))) (t0 (t0 (aF p 2) Z) Z)) Z) (t0 (t2 (.pb 9 0 0) (t0 Z (aF p 3)) Z) (t0 (t0 (t0 (t1 (fL 42 PZ p 4)) Z) Z) Z))) (t0 (t0 (t0 (t0 (t0 (aF p 5) Z) (aF p 6)) Z) Z) (t0 (t1 (.pb 10 0 0)) (t0 (t0 (t0 (aF p 7) Z) Z) (t0 Z (t1 (fL 40 DZ p 8))))))),[(9,cW p 9),(10,⟨0,[cO 55000000,.nils,.nils,cO 59],none⟩),(21,⟨0,[fL 69 Zc p 14,OE p 15,OF p 16,fL 33 LL p 17,cO 19,cO 301349],none⟩)],[aY 19 4 gX p 18,aY 59 42 PZ p 19,aY 301349 82 lt4 p 20,aY 55000000 3 dK p 21],1⟩)] [(0,[λp=>(.exit 0,⟨(t0 (t2 (.pb 1 0 0) (t1 (.pb 21 0 0)) Z) eI),[(1,cX p 0),(21,⟨0,[fL 69 Zc p 4,OE p 5,OF p 6,fL 33 LL p 7,cO 19,.nils],none⟩)],[aY 19 4 gX p 8],1⟩)]),
 (2,[λp=>(.exit 2,⟨(t0 (t2 (.pb 1 0 0) (t2 (.pb 21 0 0) (t0 Z (t1 (.fz [] 66 [.str,.sl false 3 dK] (gL p 0)))) Z) (t0 (t0 Z (aF p 1)) Z)) (t0 (t0 (t0 Z (aF p 2)) Z) Z)),[(1,cX p 3),(21,⟨0,[fL 69 Zc p 7,OE p 8,OF p 9,fL 33 LL p 10,cO 19,.nils],none⟩)],[aY 19 4 gX p 11],1⟩)]),
 (4,[λp=>(.exit 4,⟨(t0 (t0 (t1 (.pb 21 0 0)) Z) eI),[(21,⟨0,[fL 69 Zc p 0,OE p 1,OF p 2,fL 33 LL p 3,cO 19,cO 301349],none⟩)],[aY 19 4 gX p 4,aY 301349 82 lt4 p 5],1⟩)]),
 (6,[λp=>(.exit 6,⟨(t0 (t0 (t2 (.pb 21 0 0) (t0 (t0 Z (t1 (fL 33 LL p 0))) Z) Z) (t0 (t2 (.pb 9 0 0) (t0 Z (aF p 1)) Z) Z)) (t0 (t0 (t0 (t0 Z (aF p 2)) Z) Z) (t0 (t1 (.pb 10 0 0)) Z))),[(9,cW p 3),(10,⟨0,[cO 55000000,.nils,.nils,cO 59],none⟩),(21,⟨0,[fL 69 Zc p 8,OE p 9,OF p 10,fL 33 LL p 11,cO 19,cO 301349],none⟩)],[aY 19 4 gX p 12,aY 59 42 PZ p 13,aY 301349 82 lt4 p 14,aY 55000000 3 dK p 15],1⟩)]),
 (8,[λp=>(.exit 8,⟨(t0 (t0 (t2 (.pb 21 0 0) (t0 (t0 (t0 (aF p 0) Z) (t1 (fL 33 LL p 1))) Z) Z) (t0 (t2 (.pb 9 0 0) (t0 Z (aF p 2)) Z) Z)) (t0 (t0 (t0 (t0 (t0 (aF p 3) Z) (aF p 4)) Z) Z) (t0 (t1 (.pb 10 0 0)) (t0 Z (t0 Z (t1 (fL 40 DZ p 5))))))),[(9,cW p 6),(10,⟨0,[cO 55000000,.nils,.nils,cO 59],none⟩),(21,⟨0,[fL 69 Zc p 11,OE p 12,OF p 13,fL 33 LL p 14,cO 19,cO 301349],none⟩)],[aY 19 4 gX p 15,aY 59 42 PZ p 16,aY 301349 82 lt4 p 17,aY 55000000 3 dK p 18],1⟩)])]
theorem uF:eP Jt uE:=cV
def CE:FD:=cU 29 1 [0,2] pK [(0,jC),(2,mA)] [(0,λp=>⟨(t0 (t2 (.pb 1 0 0) (aF p 0) Z) (t0 (aF p 1) Z)),[(1,cW p 2)],[],1⟩),
 (2,λp=>⟨(t0 (t2 (.pb 1 0 0) (aF p 0) (aF p 1)) (t0 (aF p 2) Z)),[(1,cW p 3)],[],1⟩)] [(0,[λp=>(.ret,eL (t0 Z (iT p 0))),
 λp=>(.exit 0,eL (t0 Z eI))]),
 (2,[λp=>(.ret,⟨(t0 (t2 (.pb 1 0 0) (aF p 0) Z) (t2 (nB p 1) (aF p 2) Z)),[(1,cW p 3)],[],1⟩),
 λp=>(.exit 2,⟨(t0 (t2 (.pb 1 0 0) (aF p 0) Z) (t0 (aF p 1) Z)),[(1,cW p 2)],[],1⟩)])]
theorem rT:eP TF CE:=cV
def nR:FD:=cU 33 1 [0,2,4,6] UC [(0,xK),(2,xL),(4,xM),(6,xN)] [(0,λp=>⟨(t0 (t2 (.pb 1 0 0) (t1 (.mp 9 0)) (aF p 0)) (t0 (aF p 1) Z)),[(1,cX p 2),(9,⟨0,[],some ⟨.str,.int .i64,(gL p 6)⟩⟩)],[],1⟩),
 (2,λp=>⟨(t0 (t2 (.pb 1 0 0) (t1 (.mp 9 0)) Z) (t0 (aF p 0) (aF p 1))),[(1,cX p 2),(9,⟨0,[],some ⟨.str,.int .i64,(gL p 6)⟩⟩)],[],1⟩),
 (4,λp=>⟨(t0 (t2 (.pb 1 0 0) (t2 (.mp 9 0) (aF p 0) Z) Z) (t0 (aF p 1) Z)),[(1,cX p 2),(9,⟨0,[],some ⟨.str,.int .i64,(gL p 6)⟩⟩)],[],1⟩),
 (6,λp=>⟨(t0 (t2 (.pb 1 0 0) (t1 (.mp 9 0)) Z) (t0 (t2 (nI p 0) (aF p 1) Z) Z)),[(1,cX p 2),(9,⟨0,[],some ⟨.str,.int .i64,(gL p 6)⟩⟩)],[],1⟩)] [(0,[λp=>(.exit 0,⟨(t0 (t2 (.pb 1 0 0) (t1 (.mp 9 0)) Z) (t0 (aF p 0) Z)),[(1,cX p 1),(9,⟨0,[],some ⟨.str,.int .i64,(gL p 5)⟩⟩)],[],1⟩)]),
 (2,[λp=>(.exit 2,⟨(t0 (t2 (.pb 1 0 0) (t1 (.mp 9 0)) Z) (t0 (aF p 0) Z)),[(1,cX p 1),(9,⟨0,[],some ⟨.str,.int .i64,(gL p 5)⟩⟩)],[],1⟩)]),
 (4,[λp=>(.exit 4,⟨(t0 (t2 (.pb 1 0 0) (t1 (.mp 9 0)) Z) (t0 (aF p 0) Z)),[(1,cX p 1),(9,⟨0,[],some ⟨.str,.int .i64,(gL p 5)⟩⟩)],[],1⟩)]),
 (6,[λp=>(.exit 6,eL (t0 Z (t0 (aF p 0) Z)))])]
theorem zB:eP Jw nR:=cV
def EN:FD:=cU 37 2 [0,2,4] UD [(0,xO),(2,xP),(4,xQ)] [(0,λp=>⟨(t0 (t0 (t1 (.pb 3 0 0)) (cY 13000000)) (t2 (.pb 2 0 0) Z (aF p 0))),[(2,cX p 1),(3,cW p 5)],[aY 13000000 3 dK p 10],1⟩),
 (2,λp=>⟨(t0 (t0 (t2 (.pb 3 0 0) (aF p 0) Z) (cY 13000000)) (t2 (.pb 2 0 0) Z (aF p 1))),[(2,cX p 2),(3,cW p 6)],[aY 13000000 3 dK p 11],1⟩),
 (4,λp=>⟨(t0 (t0 (t2 (.pb 3 0 0) (aF p 0) Z) (t2 (cO 13000000) (cY 200009) Z)) (t2 (.pb 2 0 0) (t0 (t1 (.pb 8 0 0)) Z) (t2 (nI p 1) (aF p 2) Z))),[(2,cX p 3),(3,cW p 7),(8,Ay p 12)],[aY 200009 3 dK p 19,aY 13000000 3 dK p 20],1⟩)] [(0,[λp=>(.ret,eL (t0 Z (t0 (iT p 0) Z))),
 λp=>(.exit 0,eL (t0 Z (t0 eI Z)))]),
 (2,[λp=>(.ret,⟨(t0 (t0 (t1 (.pb 3 0 0)) (cY 13000000)) (t2 (.pb 2 0 0) (iT p 0) (aF p 1))),[(2,cX p 2),(3,cW p 6)],[aY 13000000 3 dK p 11],1⟩),
 λp=>(.exit 2,⟨(t0 (t0 (t1 (.pb 3 0 0)) (cY 13000000)) (t2 (.pb 2 0 0) eI (aF p 0))),[(2,cX p 1),(3,cW p 5)],[aY 13000000 3 dK p 10],1⟩)]),
 (4,[λp=>(.exit 4,⟨(t0 (t0 (t2 (.pb 3 0 0) (aF p 0) Z) (t2 (cO 13000000) (cY 200009) Z)) (t2 (.pb 2 0 0) (t0 (t1 (.pb 8 0 0)) Z) (aF p 1))),[(2,cX p 2),(3,cW p 6),(8,Ay p 11)],[aY 200009 3 dK p 18,aY 13000000 3 dK p 19],1⟩)])]
theorem EO:eP Jy EN:=cV
def oR:FD:=cU 41 1 [0,2,4,6,8,10] OC [(0,iC),(2,nP),(4,dX),(6,iF),(8,nQ),(10,mB)] [(0,λp=>⟨(t0 (t2 (.pb 1 0 0) Z (t0 (t0 (aF p 0) Z) Z)) (t0 (t0 (t0 (t1 (fL 69 Zc p 1)) Z) Z) (t0 (t0 (aF p 2) Z) Z))),[(1,cX p 3)],[],1⟩),
 (2,λp=>⟨(t0 (t2 (.pb 1 0 0) (t0 (t0 Z (t1 (rQ p 0))) Z) (t0 (t0 (aF p 1) (aF p 2)) Z)) (t0 (t2 (.pb 4 0 0) (t0 (t1 (fL 69 Zc p 3)) (aF p 4)) Z) (t0 (t0 (aF p 5) Z) Z))),[(1,cX p 6),(4,⟨0,[.str (gS p 10),rQ p 11,nI p 12],none⟩)],[],1⟩),
 (4,λp=>eL (t0 (t0 Z (t0 Z (t0 Z (t0 (aF p 0) Z)))) (t0 (t0 Z (t0 Z (t0 (t1 (fL 33 LL p 1)) Z))) (t0 Z (t0 Z (t0 (aF p 2) Z)))))),
 (6,λp=>⟨(t0 (t0 (t0 (t0 Z (t0 (t0 (aF p 0) Z) Z)) Z) (t0 Z (t0 (t0 (t0 (t1 (rQ p 1)) Z) Z) (t0 (aF p 2) Z)))) (t0 (t0 (t1 (.pb 8 0 0)) (t0 Z (t0 (t1 (fL 33 LL p 3)) Z))) (t0 Z (t0 (t0 (t0 (aF p 4) Z) Z) (t0 (aF p 5) Z))))),[(8,cW p 6)],[],1⟩),
 (8,λp=>eL (t0 (t0 Z (t0 Z (t0 Z (t0 (aF p 0) (t0 (aF p 1) Z))))) (t0 (t0 Z (t0 Z (t0 (t1 (fL 33 LL p 2)) (t0 (t1 (fL 40 DZ p 3)) Z)))) (t0 Z (t0 Z (t0 (aF p 4) (t0 (aF p 5) Z))))))),
 (10,λp=>eL (t0 (t0 (t0 Z (t0 (t0 (t0 Z (t1 (fL 42 PZ p 0))) Z) Z)) (t0 Z (t0 (t0 (t0 Z (aF p 1)) Z) (t0 (aF p 2) (t0 (aF p 3) Z))))) (t0 (t0 Z (t0 (t0 (t0 Z (aF p 4)) Z) (t0 (t1 (fL 33 LL p 5)) (t0 (t1 (fL 40 DZ p 6)) Z)))) (t0 Z (t0 Z (t0 (aF p 7) (t0 (aF p 8) Z)))))))] [(0,[λp=>(.ret,⟨(t0 lF (iT p 0)),[(1,cX p 1)],[],1⟩),
 λp=>(.exit 0,⟨(t0 lF eI),[(1,cX p 0)],[],1⟩)]),
 (2,[λp=>(.ret,⟨(t0 (t2 (.pb 1 0 0) Z (t0 (t0 (aF p 0) Z) Z)) (t2 (nB p 1) (t2 (.pb 4 0 0) (t0 (t1 (fL 69 Zc p 2)) Z) Z) (t0 (t0 (aF p 3) Z) Z))),[(1,cX p 4),(4,⟨0,[.str (gS p 8),rQ p 9,nI p 10],none⟩)],[],1⟩),
 λp=>(.exit 2,⟨(t0 (t2 (.pb 1 0 0) Z (t0 (t0 (aF p 0) Z) Z)) (t0 (t2 (.pb 4 0 0) (t0 (t1 (fL 69 Zc p 1)) Z) Z) (t0 (t0 (aF p 2) Z) Z))),[(1,cX p 3),(4,⟨0,[.str (gS p 7),rQ p 8,nI p 9],none⟩)],[],1⟩)]),
 (4,[λp=>(.ret,eL (t0 Z (iT p 0))),
 λp=>(.exit 4,eL (t0 Z eI))]),
 (6,[λp=>(.ret,⟨(t0 (t0 Z (t0 Z (t0 Z (t0 (aF p 0) Z)))) (t2 (nB p 1) (t0 (t1 (.pb 8 0 0)) (t0 Z (t0 (t1 (fL 33 LL p 2)) Z))) (t0 Z (t0 Z (t0 (aF p 3) Z))))),[(8,cW p 4)],[],1⟩),
 λp=>(.exit 6,⟨(t0 (t0 Z (t0 Z (t0 Z (t0 (aF p 0) Z)))) (t0 (t0 (t1 (.pb 8 0 0)) (t0 Z (t0 (t1 (fL 33 LL p 1)) Z))) (t0 Z (t0 Z (t0 (aF p 2) Z))))),[(8,cW p 3)],[],1⟩)]),
 (8,[λp=>(.ret,eL (t0 (t0 Z (t0 Z (t0 Z (t0 (aF p 0) Z)))) (t2 (nB p 1) (t0 Z (t0 Z (t0 (t1 (fL 33 LL p 2)) Z))) (t0 Z (t0 Z (t0 (aF p 3) Z)))))),
 λp=>(.exit 8,eL (t0 (t0 Z (t0 Z (t0 Z (t0 (aF p 0) Z)))) (t0 (t0 Z (t0 Z (t0 (t1 (fL 33 LL p 1)) Z))) (t0 Z (t0 Z (t0 (aF p 2) Z))))))]),
 (10,[λp=>(.ret,eL (t0 (t0 Z (t0 Z (t0 Z (t0 (aF p 0) (t0 (aF p 1) Z))))) (t2 (nB p 2) (t0 Z (t0 Z (t0 (t1 (fL 33 LL p 3)) (t0 (t1 (fL 40 DZ p 4)) Z)))) (t0 Z (t0 Z (t0 (aF p 5) (t0 (aF p 6) Z))))))),
 λp=>(.exit 10,eL (t0 (t0 Z (t0 Z (t0 Z (t0 (aF p 0) (t0 (aF p 1) Z))))) (t0 (t0 Z (t0 Z (t0 (t1 (fL 33 LL p 2)) (t0 (t1 (fL 40 DZ p 3)) Z)))) (t0 Z (t0 Z (t0 (aF p 4) (t0 (aF p 5) Z)))))))])]
theorem oS:eP Ae oR:=cV
def rU:FD:=cU 45 1 [0,2,4,6,8,10,12] Au [(0,AU),(2,AV),(4,AW),(6,AX),(8,AY),(10,xR),(12,xS)] [(0,λp=>⟨(t0 (t2 (.pb 1 0 0) (aF p 0) (t0 Z (t0 Z (aF p 1)))) (t0 (t2 (cO 200004) Z (t0 Z (t1 (fL 40 DZ p 2)))) (t0 Z (t0 Z (aF p 3))))),[(1,cW p 4)],[aY 200004 3 dK p 9],1⟩),
 (2,λp=>⟨(t0 (t2 (.pb 1 0 0) (aF p 0) (t2 (nI p 1) Z (t0 (t0 (aF p 2) Z) (aF p 3)))) (t0 (t2 (cO 200004) Z (t0 (t0 (t1 (fL 42 PZ p 4)) Z) (t1 (fL 40 DZ p 5)))) (t0 Z (t0 (t0 (aF p 6) Z) (aF p 7))))),[(1,cW p 8)],[aY 200004 3 dK p 13],1⟩),
 (4,λp=>⟨(t0 (t2 (.pb 1 0 0) (aF p 0) (t0 (t2 (cO 60) (t0 (t0 (aF p 1) Z) Z) Z) Z)) (t0 (t2 (cO 200004) (t0 (t0 (t0 (aF p 2) Z) Z) Z) Z) (t0 (cY 63000000) Z))),[(1,cW p 3)],[aY 60 46 [.sl true 4 gX] p 8,aY 200004 3 dK p 9,aY 63000000 3 dK p 10],1⟩),
 (6,λp=>⟨(t0 (t2 (.pb 1 0 0) (t2 (nI p 0) Z (aF p 1)) (t0 (t2 (cO 60) (t0 (t0 (aF p 2) Z) Z) Z) Z)) (t0 (t2 (cO 200004) (t0 (t0 (t0 (aF p 3) Z) Z) Z) (aF p 4)) (t0 (cY 63000000) Z))),[(1,cW p 5)],[aY 60 46 [.sl true 4 gX] p 10,aY 200004 3 dK p 11,aY 63000000 3 dK p 12],1⟩),
 (8,λp=>⟨(t0 (t2 (.pb 1 0 0) (t2 (nI p 0) Z (t0 Z (t0 Z (t0 (aF p 1) Z)))) (t0 (cY 60) Z)) (t0 (t2 (cO 200004) Z (t0 Z (t0 Z (t0 (aF p 2) Z)))) (t0 (t0 Z (t0 Z (t0 (t1 (fL 40 DZ p 3)) Z))) Z))),[(1,cW p 4)],[aY 60 46 [.sl true 4 gX] p 9,aY 200004 3 dK p 10],1⟩),
 (10,λp=>⟨(t0 (t2 (.pb 1 0 0) (t2 (nI p 0) (t0 (aF p 1) Z) (t0 Z (t0 Z (t0 (aF p 2) Z)))) (t0 (cY 60) (t2 (nI p 3) Z (t0 (t0 Z (aF p 4)) Z)))) (t0 (t2 (cO 200004) Z (t0 Z (t0 (t0 Z (t1 (fL 42 PZ p 5))) (t0 (aF p 6) Z)))) (t0 (t0 Z (t0 Z (t0 (t1 (fL 40 DZ p 7)) Z))) (t0 Z (t0 (t0 Z (aF p 8)) Z))))),[(1,cW p 9)],[aY 60 46 [.sl true 4 gX] p 14,aY 200004 3 dK p 15],1⟩),
 (12,λp=>⟨(t0 (t2 (.pb 1 0 0) (t2 (nI p 0) (t0 (aF p 1) Z) (t0 (t0 Z (t0 Z (t1 (rQ p 2)))) (t0 Z (t0 (aF p 3) Z)))) (t0 (t2 (cO 60) (t1 (.pb 17 0 0)) Z) (t2 (nI p 4) (t0 Z (t0 Z (aF p 5))) (t0 (t0 Z (aF p 6)) Z)))) (t0 (t2 (cO 200004) Z (t0 (t0 Z (t0 Z (aF p 7))) (t0 (t0 Z (t1 (fL 42 PZ p 8))) (t0 (aF p 9) Z)))) (t0 (t0 Z (t0 Z (t0 (t1 (fL 40 DZ p 10)) Z))) (t0 Z (t0 (t0 Z (aF p 11)) Z))))),[(1,cW p 12),(17,Ay p 17)],[aY 60 46 [.sl true 4 gX] p 24,aY 200004 3 dK p 25],1⟩)] [(0,[λp=>(.ret,⟨(t0 (t2 (.pb 1 0 0) (aF p 0) Z) (t2 (nB p 1) (cY 200004) Z)),[(1,cW p 2)],[aY 200004 3 dK p 7],1⟩),
 λp=>(.exit 0,⟨(t0 (t2 (.pb 1 0 0) (aF p 0) Z) (t0 (cY 200004) Z)),[(1,cW p 1)],[aY 200004 3 dK p 6],1⟩)]),
 (2,[λp=>(.ret,⟨(t0 (t2 (.pb 1 0 0) (aF p 0) (t0 Z (t0 Z (aF p 1)))) (t2 (nB p 2) (t2 (cO 200004) Z (t0 Z (t1 (fL 40 DZ p 3)))) (t0 Z (t0 Z (aF p 4))))),[(1,cW p 5)],[aY 200004 3 dK p 10],1⟩),
 λp=>(.exit 2,⟨(t0 (t2 (.pb 1 0 0) (aF p 0) (t0 Z (t0 Z (aF p 1)))) (t0 (t2 (cO 200004) Z (t0 Z (t1 (fL 40 DZ p 2)))) (t0 Z (t0 Z (aF p 3))))),[(1,cW p 4)],[aY 200004 3 dK p 9],1⟩)]),
 (4,[λp=>(.exit 4,⟨(t0 (t2 (.pb 1 0 0) (aF p 0) (t0 (cY 60) Z)) (t0 (cY 200004) Z)),[(1,cW p 1)],[aY 60 46 [.sl true 4 gX] p 6,aY 200004 3 dK p 7],1⟩)]),
 (6,[λp=>(.exit 6,⟨(t0 (t2 (.pb 1 0 0) (aF p 0) (t0 (t2 (cO 60) (t0 (t0 (aF p 1) Z) Z) Z) Z)) (t0 (t2 (cO 200004) (t0 (t0 (t0 (aF p 2) Z) Z) Z) Z) (t0 (cY 63000000) Z))),[(1,cW p 3)],[aY 60 46 [.sl true 4 gX] p 8,aY 200004 3 dK p 9,aY 63000000 3 dK p 10],1⟩)]),
 (8,[λp=>(.ret,eL (t0 Z (iT p 0))),
 λp=>(.exit 8,eL (t0 Z eI))]),
 (10,[λp=>(.ret,⟨(t0 (t2 (.pb 1 0 0) (t2 (nI p 0) Z (t0 Z (t0 Z (t0 (aF p 1) Z)))) (t0 (cY 60) Z)) (t2 (nB p 2) (t2 (cO 200004) Z (t0 Z (t0 Z (t0 (aF p 3) Z)))) (t0 (t0 Z (t0 Z (t0 (t1 (fL 40 DZ p 4)) Z))) Z))),[(1,cW p 5)],[aY 60 46 [.sl true 4 gX] p 10,aY 200004 3 dK p 11],1⟩),
 λp=>(.exit 10,⟨(t0 (t2 (.pb 1 0 0) (t2 (nI p 0) Z (t0 Z (t0 Z (t0 (aF p 1) Z)))) (t0 (cY 60) Z)) (t0 (t2 (cO 200004) Z (t0 Z (t0 Z (t0 (aF p 2) Z)))) (t0 (t0 Z (t0 Z (t0 (t1 (fL 40 DZ p 3)) Z))) Z))),[(1,cW p 4)],[aY 60 46 [.sl true 4 gX] p 9,aY 200004 3 dK p 10],1⟩)]),
 (12,[λp=>(.ret,⟨(t0 (t2 (.pb 1 0 0) (t2 (nI p 0) (t0 (aF p 1) Z) (t0 Z (t0 Z (t0 (aF p 2) Z)))) (t0 (t2 (cO 60) (t1 (.pb 17 0 0)) Z) (t2 (nI p 3) Z (t0 (t0 Z (aF p 4)) Z)))) (t2 (nB p 5) (t2 (cO 200004) Z (t0 Z (t0 (t0 Z (t1 (fL 42 PZ p 6))) (t0 (aF p 7) Z)))) (t0 (t0 Z (t0 Z (t0 (t1 (fL 40 DZ p 8)) Z))) (t0 Z (t0 (t0 Z (aF p 9)) Z))))),[(1,cW p 10),(17,Ay p 15)],[aY 60 46 [.sl true 4 gX] p 22,aY 200004 3 dK p 23],1⟩),
 λp=>(.exit 12,⟨(t0 (t2 (.pb 1 0 0) (t2 (nI p 0) (t0 (aF p 1) Z) (t0 Z (t0 Z (t0 (aF p 2) Z)))) (t0 (t2 (cO 60) (t1 (.pb 17 0 0)) Z) (t2 (nI p 3) Z (t0 (t0 Z (aF p 4)) Z)))) (t0 (t2 (cO 200004) Z (t0 Z (t0 (t0 Z (t1 (fL 42 PZ p 5))) (t0 (aF p 6) Z)))) (t0 (t0 Z (t0 Z (t0 (t1 (fL 40 DZ p 7)) Z))) (t0 Z (t0 (t0 Z (aF p 8)) Z))))),[(1,cW p 9),(17,Ay p 14)],[aY 60 46 [.sl true 4 gX] p 21,aY 200004 3 dK p 22],1⟩)])]
theorem rV:eP Ud rU:=cV
def xU:FD:=cU 49 1 [0] xT [(0,kY)] [(0,λp=>⟨(t2 (.pb 500 0 0) (t0 Z (t0 (t0 (aF p 0) Z) Z)) (t0 (t0 (t0 (aF p 1) Z) Z) Z)),[(500,⟨0,[cO 332000,cO 332001,cO 332002,cO 332003],none⟩)],[aY 332000 3 dK p 2,aY 332001 54 [.sl true 53 fY] p 3,aY 332002 58 fY p 4,aY 332003 42 PZ p 5],1⟩)] [(0,[λp=>(.exit 0,⟨(t1 (.pb 500 0 0)),[(500,⟨0,[cO 332000,cO 332001,cO 332002,cO 332003],none⟩)],[aY 332000 3 dK p 0,aY 332001 54 [.sl true 53 fY] p 1,aY 332002 58 fY p 2,aY 332003 42 PZ p 3],1⟩)])]
theorem xV:eP BH xU:=cV
def Pw:FD:=cU 61 1 [] cQ [] [] []
theorem Px:eP Ue Pw:=cV
def Bj:FD:=cU 66 2 [0] Av [(0,AZ)] [(0,λp=>eL (t2 (rQ p 0) (t2 (rQ p 1) Z (aF p 2)) Z))] [(0,[λp=>(.ret,eL (t0 Z (t0 (iT p 0) Z))),
 λp=>(.exit 0,eL (t0 Z (t0 eI Z)))])]
theorem Bk:eP PW Bj:=cV
def Py:FD:=cU 70 1 [0] Aw [(0,BA)] [(0,λp=>eL (t0 (t0 (t2 (nI p 0) (t1 (fL 40 DZ p 1)) Z) (t0 (aF p 2) Z)) (t0 (t0 (aF p 3) Z) Z)))] [(0,[λp=>(.exit 0,eL (t0 (t0 (aF p 0) Z) eI))])]
theorem Bl:eP Uh Py:=cV
def Pz:FD:=cU 74 1 [] aAj [] [] []
theorem Qa:eP FX Pz:=cV
def oD:FD:=cU 78 2 [0] oB [(0,gM)] [(0,λp=>eL (t2 (rQ p 0) (t2 (rQ p 1) Z (t0 Z (aF p 2))) (t0 (t0 Z (aF p 3)) Z)))] [(0,[λp=>(.ret,eL (t0 Z (t0 (iT p 0) Z))),
 λp=>(.exit 0,eL (t0 Z (t0 eI Z)))])]
theorem oG:eP mH oD:=cV
def fN:FD:=cU 82 1 [0,2] iJ [(0,cG),(2,cH)] [(0,λp=>eL (t2 (.fz [] 54 [.sl false 53 fY] (gL p 0)) (t0 (t2 (nI p 1) Z (aF p 2)) (t0 (t1 (.fz [] 54 [.sl false 53 fY] (gL p 3))) Z)) (t0 Z (t0 (aF p 4) Z)))),
 (2,λp=>⟨(t0 (t0 (t0 Z (t0 Z (aF p 0))) (t0 (t0 Z (t1 (.fz [] 54 [.sl false 53 fY] (gL p 1)))) Z)) (t0 Z (t2 (cO 200006) (t0 Z (aF p 2)) Z))),[],[aY 200006 53 fY p 3],1⟩)] [(0,[λp=>(.exit 0,eL (t2 (.fz [] 54 [.sl false 53 fY] (gL p 0)) (t0 (aF p 1) Z) eI))]),
 (2,[λp=>(.exit 2,⟨(t0 Z (t0 Z (cY 200006))),[],[aY 200006 53 fY p 0],1⟩)])]
theorem cD:eP jA fN:=cV
def RR:FD:=cU 94 1 [] GV [] [] []
theorem RT:eP NK RR:=cV
def Bm:FD:=cU 98 2 [0] Ax [(0,BB)] [(0,λp=>⟨(t0 (t0 (t0 (cY 200007) Z) (t1 (.pb 5 0 0))) (t2 (.pb 2 0 0) (t0 (aF p 0) Z) Z)),[(2,cW p 1),(5,Ay p 6)],[aY 200007 3 dK p 13],1⟩)] [(0,[λp=>(.exit 0,⟨(t0 (t0 (t0 (cY 200007) Z) Z) (t0 eI Z)),[],[aY 200007 3 dK p 0],1⟩)])]
theorem Bn:eP Gg Bm:=cV
def tC:FD:=cU 102 1 [0,2] GW [(0,pT),(2,fP)] [(0,λp=>⟨(t2 (.fz [] 46 [.sl false 4 gX] (gL p 0)) (t0 (t2 (cO 8) Z (aF p 1)) Z) (t0 Z (t0 (aF p 2) Z))),[],[aY 8 3 dK p 3],1⟩),
 (2,λp=>⟨(t2 (.fz [] 46 [.sl false 4 gX] (gL p 0)) (t0 (t2 (cO 8) Z (t2 (nI p 1) (aF p 2) Z)) Z) (t0 (aF p 3) (t0 (t2 (nI p 4) (aF p 5) Z) Z))),[],[aY 8 3 dK p 6],1⟩)] [(0,[λp=>(.exit 0,⟨(t0 (t0 (cY 8) Z) eI),[],[aY 8 3 dK p 0],1⟩)]),
 (2,[λp=>(.exit 2,⟨(t2 (.fz [] 46 [.sl false 4 gX] (gL p 0)) (t0 (t2 (cO 8) Z (aF p 1)) Z) (t0 Z (t0 (aF p 2) Z))),[],[aY 8 3 dK p 3],1⟩)])]
theorem zO:eP NL tC:=cV
def BO:FD:=cU 115 2 [0] sG [(0,eE)] [(0,λp=>⟨(t2 (.pb 500 0 0) (t2 (nI p 0) (t0 Z (t0 (aF p 1) Z)) (t0 (t0 (cY 18000000) Z) Z)) (t0 Z (t0 (t0 (aF p 2) Z) Z))),[(500,⟨0,[.str (gS p 3),nB p 4,rQ p 5,nI p 6,fL 40 DZ p 7,cO 332005,cO 332006,nB p 8],none⟩)],[aY 332005 3 dK p 9,aY 332006 3 dK p 10,aY 18000000 3 dK p 11],1⟩)] [(0,[λp=>(.exit 0,⟨(t2 (.pb 500 0 0) (aF p 0) Z),[(500,⟨0,[.str (gS p 1),nB p 2,rQ p 3,nI p 4,fL 40 DZ p 5,cO 332005,cO 332006,nB p 6],none⟩)],[aY 332005 3 dK p 7,aY 332006 3 dK p 8],1⟩)])]
theorem sH:eP kL BO:=cV
def zP:FD:=cU 119 2 [0,2] GX [(0,pU),(2,kS)] [(0,λp=>⟨(t2 (.fz [] 30 [.sl false 3 dK] (gL p 0)) (t2 (nI p 1) Z (cY 12)) (t0 Z (cY 200006))),[],[aY 12 4 gX p 2,aY 200006 3 dK p 3],1⟩),
 (2,λp=>⟨(t2 (.fz [] 30 [.sl false 3 dK] (gL p 0)) (t2 (nI p 1) (t0 (t0 Z (t0 (aF p 2) Z)) Z) (t2 (cO 12) Z (t0 (t0 (t1 (rQ p 3)) Z) Z))) (t0 Z (t2 (cO 200006) Z (t0 (t0 (aF p 4) Z) Z)))),[],[aY 12 4 gX p 5,aY 200006 3 dK p 6],1⟩)] [(0,[λp=>(.exit 0,⟨(t0 (t0 Z (cY 12)) (t0 eI Z)),[],[aY 12 4 gX p 0],1⟩)]),
 (2,[λp=>(.exit 2,⟨(t2 (.fz [] 30 [.sl false 3 dK] (gL p 0)) (t2 (nI p 1) Z (cY 12)) (t0 eI (cY 200006))),[],[aY 12 4 gX p 2,aY 200006 3 dK p 3],1⟩)])]
theorem zQ:eP NM zP:=cV
abbrev eV:BT Fn:=.nil
def aET:BT Fn:=(fB 52 BM (fB 31 Eh (fB 17 Ek (fB 9 KE (fB 6 lM (fB 5 Km (fB 3 mO eV eV) eV) (fB 8 Eb (fB 7 UF eV eV) eV)) (fB 15 pL (fB 12 Em (fB 10 XO eV eV) eV) (fB 16 EH eV eV))) (fB 23 pN (fB 20 Ba (fB 19 KA (fB 18 KN eV eV) eV) (fB 22 uE (fB 21 EL eV eV) eV)) (fB 29 CE (fB 25 Ks (fB 24 Ef eV eV) eV) (fB 30 Pn eV eV)))) (fB 42 tX (fB 37 EN (fB 34 rR (fB 33 nR (fB 32 rC eV eV) eV) (fB 36 rS (fB 35 tZ eV eV) eV)) (fB 40 Ku (fB 39 qB (fB 38 qA eV eV) eV) (fB 41 oR eV eV))) (fB 47 KF (fB 45 rU (fB 44 uC (fB 43 pO eV eV) eV) (fB 46 KC eV eV)) (fB 50 HO (fB 49 xU (fB 48 eQ eV eV) eV) (fB 51 EJ eV eV))))) (fB 82 fN (fB 72 Ei (fB 67 yX (fB 64 Ko (fB 63 Po (fB 61 Pw eV eV) eV) (fB 66 Bj (fB 65 QD eV eV) eV)) (fB 70 Py (fB 69 Bd (fB 68 QB eV eV) eV) (fB 71 Ed eV eV))) (fB 77 GA (fB 75 pW (fB 74 Pz (fB 73 Bf eV eV) eV) (fB 76 KH eV eV)) (fB 80 KJ (fB 79 Kk (fB 78 oD eV eV) eV) (fB 81 XP eV eV)))) (fB 102 tC (fB 97 HR (fB 94 RR (fB 87 HQ (fB 86 cB eV eV) eV) (fB 96 Bb (fB 95 Pq eV eV) eV)) (fB 100 jN (fB 99 Ps (fB 98 Bm eV eV) eV) (fB 101 OG eV eV))) (fB 116 Pu (fB 105 Bh (fB 104 Kq (fB 103 EF eV eV) eV) (fB 115 BO eV eV)) (fB 119 zP (fB 118 rE (fB 117 Un eV eV) eV) (fB 133 kM eV eV))))))
theorem aAk:Yz E aW sites aET:=(fA BN (fA uT (fA El (fA Kn (fA rB (fA UE (fA pV eU eU) eU) (fA Ec (fA UG eU eU) eU)) (fA pM (fA Zf (fA Uq eU eU) eU) (fA EI eU eU))) (fA ED (fA yY (fA KB (fA KO eU eU) eU) (fA uF (fA EM eU eU) eU)) (fA rT (fA Kt (fA Eg eU eU) eU) (fA Az eU eU)))) (fA tY (fA EO (fA yW (fA zB (fA rD eU eU) eU) (fA yZ (fA uA eU eU) eU)) (fA zA (fA CR (fA zN eU eU) eU) (fA oS eU eU))) (fA KG (fA rV (fA uD (fA uB eU eU) eU) (fA KD eU eU)) (fA HP (fA xV (fA jS eU eU) eU) (fA EK eU eU))))) (fA cD (fA Ej (fA EE (fA Kp (fA Pp (fA Px eU eU) eU) (fA Bk (fA QE eU eU) eU)) (fA Bl (fA Be (fA QC eU eU) eU) (fA Ee eU eU))) (fA GB (fA pX (fA Qa (fA Bg eU eU) eU) (fA KI eU eU)) (fA KK (fA Kl (fA oG eU eU) eU) (fA XQ eU eU)))) (fA zO (fA HS (fA RT (fA lP (fA dY eU eU) eU) (fA Bc (fA Pr eU eU) eU)) (fA gO (fA Pt (fA Bn eU eU) eU) (fA OH eU eU))) (fA Pv (fA Bi (fA Kr (fA EG eU eU) eU) (fA sH eU eU)) (fA zQ (fA rF (fA Uo eU eU) eU) (fA iO eU eU))))))
end
end Go.Eng.Q
