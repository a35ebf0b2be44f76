/- Part 5 of the proof: the functions' trees. -/
import Derived.Test.YtnajbpjhadmkpaaGreatEnv
set_option linter.unusedVariables false
namespace Go.Eng.Q
open Go.Eng
noncomputable section
abbrev iX(x:D)(n:Nat):Int:=Int.ofNat (List.length (D.els (D.fld x n)))
abbrev iE(x:D):Int:=Int.ofNat (List.length (D.els x))
abbrev nX(x:D)(n:Nat):Nat:=List.length (D.els (D.fld x n))
abbrev nE(x:D):Nat:=List.length (D.els x)
abbrev eX(x:D)(n:Nat):LD:=D.els (D.fld x n)
abbrev vI(x:D)(n:Nat):Int:=D.toI (D.fld x n)
abbrev vB(x:D)(n:Nat):Bool:=D.toB (D.fld x n)
abbrev gE(x:D)(n:Nat):D:=gD (D.els x) n
abbrev iL{α:Type}(l:List α):Int:=Int.ofNat (List.length l)
abbrev aI(p:LD)(n:Nat):D:=.i (gI p n)
abbrev aL(p:LD)(n:Nat):D:=.l (gL p n)
abbrev aS(p:LD)(n:Nat):D:=.s (gS p n)
abbrev aB(p:LD)(n:Nat):D:=.b (gB p n)
abbrev aN(p:LD)(n:Nat):D:=.i (Int.ofNat (gN p n))
abbrev tI(p:LD)(n:Nat):Nat:=Int.toNat (gI p n)
abbrev nI(p:LD)(n:Nat):A:=.int .i64 (gI p n)
abbrev nB(p:LD)(n:Nat):A:=.bool (gB p n)
abbrev fL(t:TypeId)(l:List LT)(p:LD)(n:Nat):A:=.fz [] t l (gL p n)
abbrev Z:Tr:=.nil
abbrev bX(n:Nat)(l:List A):Nat×Bx:=(n,⟨0,l,none⟩)
abbrev aR(n:Nat)(t:TypeId)(l:List LT)(d:LD):Nat×xZ:=(n,⟨t,l,d,[],0,[0,0,0,0],0⟩)
abbrev TN:Nat:=3
abbrev yS:Nat:=4
abbrev JT:Nat:=5
abbrev Jr:Nat:=6
abbrev EY:Nat:=7
abbrev yU:Nat:=8
abbrev Bz:Nat:=9
abbrev Jq:Nat:=10
abbrev N2:Nat:=11
abbrev LB:Nat:=12
abbrev PW:Nat:=15
abbrev TF:Nat:=16
abbrev Gb:Nat:=17
abbrev Ad:Nat:=18
abbrev Jv:Nat:=19
abbrev Jw:Nat:=20
abbrev Ub:Nat:=21
abbrev Jx:Nat:=22
abbrev Uc:Nat:=23
abbrev Jy:Nat:=24
abbrev Js:Nat:=25
abbrev YH:Nat:=26
abbrev Jo:Nat:=27
abbrev YI:Nat:=28
abbrev Jp:Nat:=29
abbrev Ue:Nat:=34
abbrev BZ:Nat:=36
abbrev XM:Nat:=37
abbrev Uf:Nat:=38
abbrev Ke:Nat:=39
abbrev Ug:Nat:=40
abbrev NI:Nat:=41
abbrev Gd:Nat:=42
abbrev Jz:Nat:=43
abbrev Ae:Nat:=44
abbrev Ka:Nat:=45
abbrev Kb:Nat:=46
abbrev XK:Nat:=47
abbrev Ud:Nat:=48
abbrev Kc:Nat:=49
abbrev Jt:Nat:=50
abbrev Ca:Nat:=51
abbrev PV:Nat:=52
abbrev kQ:Nat:=53
abbrev hJ:Nat:=54
abbrev PX:Nat:=57
abbrev JW:Nat:=58
abbrev Ge:Nat:=59
abbrev Gg:Nat:=60
abbrev Uh:Nat:=61
abbrev CQ:Nat:=62
abbrev Af:Nat:=63
abbrev Ui:Nat:=64
abbrev FX:Nat:=65
abbrev lU:Nat:=66
abbrev JU:Nat:=67
abbrev Ag:Nat:=68
abbrev mH:Nat:=69
abbrev Kf:Nat:=70
abbrev Kg:Nat:=71
abbrev XL:Nat:=72
abbrev JV:Nat:=73
abbrev yT:Nat:=74
abbrev BH:Nat:=75
abbrev Uj:Nat:=77
abbrev aCB:Nat:=78
abbrev PY:Nat:=79
abbrev oA:Nat:=80
abbrev NK:Nat:=81
abbrev HM:Nat:=82
abbrev NL:Nat:=83
abbrev Kh:Nat:=84
abbrev Ah:Nat:=85
abbrev vP:Nat:=86
abbrev jA:Nat:=87
abbrev bP:Nat:=88
abbrev bD:Nat:=89
abbrev bV:Nat:=91
abbrev vO:Nat:=92
abbrev kL:Nat:=93
abbrev nJ:Nat:=94
abbrev NM:Nat:=95
abbrev lT:Nat:=99
abbrev qE:Nat:=100
abbrev KM(d:FD):Prop:=∀x:LD,Pg E d.h sites (itN E sites (n7 d.T) XH) (n7 d.T) d.f d.c d.s (Jb x 0 d.F.np)=(d.F.main x).up d.S d.T 0
abbrev KL(d:FD)(b:Nat)(g:LD->Sh):Prop:=∀p:LD,ZZ E (kW d sites b).h sites (itN E sites (n7 d.T) XH) (kW d sites b).lb (n7 d.T) (kW d sites b).b (tT (kW d sites b).b (kW d sites b).c) (Tt d.S b p)=(g p).up d.S d.T b
abbrev dL(p:LD)(n:Nat):D:=.i (bJ .i64 (gI p n) 1)
abbrev oQ(p:LD)(n:Nat):Nat:=Int.toNat (D.toI (gD p n))
abbrev pS(p:LD)(n:Nat):Int:=D.toI (gD p n)
abbrev bC{c d:Type}:IX c d:=.bad
def Zc:List LT:=[.str,.bool,.sl false 3 [.int .i64],.int .i64,.sl false 47 [.sl false 50 [.int .i64,.int .i64,.int .i64,.int .i64,.int .i64,.sl false 3 [.int .i64],.sl false 3 [.int .i64]]]]
def LL:List LT:=[.str,.sl false 3 [.int .i64],.int .i64]
def DZ:List LT:=[.sl false 50 [.int .i64,.int .i64,.int .i64,.int .i64,.int .i64,.sl false 3 [.int .i64],.sl false 3 [.int .i64]]]
def PZ:List LT:=[.int .i64,.int .i64,.int .i64,.int .i64,.int .i64,.sl false 3 [.int .i64],.sl false 3 [.int .i64]]
def lt4:List LT:=[.sl true 3 [.int .i64],.sl true 119 [.sl true 118 [.int .i64,.int .i64]],.sl true 125 [.int .i64,.int .i64],.sl true 50 [.int .i64,.int .i64,.int .i64,.int .i64,.int .i64,.sl false 3 [.int .i64],.sl false 3 [.int .i64]]]
def xX(x:LD):Sh:=
 .call yS [] 0 λj _=>
 .ask (!(D.toB j))
 (.ret (.b false) [])
 (.call JT [.l [.l (eX (gD x 0) 0),.l (eX (gD x 0) 1),.l (eX (gD x 0) 2),.l (eX (gD x 0) 3)]] 0 λl _=>
 .ask (!(D.toB l))
 (.call yS [] 0 λg _=>
 .ret (.b (D.toB g)) [])
 (.call Jr [.l [.l (eX (gD x 0) 0),.l (eX (gD x 0) 1),.l (eX (gD x 0) 2),.l (eX (gD x 0) 3)]] 0 λg _=>
 .ask (!(aD (D.toI g) 0))
 (.call EY [.l [.l (eX (gD x 0) 0),.l (eX (gD x 0) 1),.l (eX (gD x 0) 2),.l (eX (gD x 0) 3)]] 0 λe _=>
 .ask ((aD (iE e) 0)&&true)
 (.call yU [.l [.l (eX (gD x 0) 0),.l (eX (gD x 0) 1),.l (eX (gD x 0) 2),.l (eX (gD x 0) 3)]] 0 λh _=>
 .ret (.b ((aD (iE e) 0)&&(aD (iE h) 0))) [])
 (.ret (.b ((aD (iE e) 0)&&(aD (iE (.i 0)) 0))) []))
 (.call EY [.l [.l (eX (gD x 0) 0),.l (eX (gD x 0) 1),.l (eX (gD x 0) 2),.l (eX (gD x 0) 3)]] 0 λe _=>
 .call Jq [.l [.l (eX (gD x 0) 0),.l (eX (gD x 0) 1),.l (eX (gD x 0) 2),.l (eX (gD x 0) 3)]] 0 λh _=>
 .call Bz [.l (D.els e),.l (D.els h)] 0 λc _=>
 .ask ((D.toB c)&&true)
 (.call yU [.l [.l (eX (gD x 0) 0),.l (eX (gD x 0) 1),.l (eX (gD x 0) 2),.l (eX (gD x 0) 3)]] 0 λd _=>
 .ask ((D.toB c)&&true)
 (.call LB [.l [.l (eX (gD x 0) 0),.l (eX (gD x 0) 1),.l (eX (gD x 0) 2),.l (eX (gD x 0) 3)]] 0 λf _=>
 .ask ((D.toB c)&&true)
 (.call N2 [.l (D.els d),.l (D.els f)] 0 λm _=>
 .ret (.b ((D.toB c)&&(D.toB m))) [])
 (.ret (.b ((D.toB c)&&(D.toB (.i 0)))) []))
 (.ask ((D.toB c)&&true)
 (.call N2 [.l (D.els d),.l (D.els (.i 0))] 0 λf _=>
 .ret (.b ((D.toB c)&&(D.toB f))) [])
 (.ret (.b ((D.toB c)&&(D.toB (.i 0)))) [])))
 (.ask ((D.toB c)&&true)
 (.call LB [.l [.l (eX (gD x 0) 0),.l (eX (gD x 0) 1),.l (eX (gD x 0) 2),.l (eX (gD x 0) 3)]] 0 λd _=>
 .ask ((D.toB c)&&true)
 (.call N2 [.l (D.els (.i 0)),.l (D.els d)] 0 λf _=>
 .ret (.b ((D.toB c)&&(D.toB f))) [])
 (.ret (.b ((D.toB c)&&(D.toB (.i 0)))) []))
 (.ask ((D.toB c)&&true)
 (.call N2 [.l (D.els (.i 0)),.l (D.els (.i 0))] 0 λd _=>
 .ret (.b ((D.toB c)&&(D.toB d))) [])
 (.ret (.b ((D.toB c)&&(D.toB (.i 0)))) []))))))
def sU(x:LD):Sh:=
 .call Js [.l [.l (eX (gD x 0) 0),.l (eX (gD x 0) 1),.l (eX (gD x 0) 2),.l (eX (gD x 0) 3)]] 0 λe _=>
 .ask (!(aD (D.toI e) 0))
 (.ret (.l []) [])
 (.call YH [.l [.l (eX (gD x 0) 0),.l (eX (gD x 0) 1),.l (eX (gD x 0) 2),.l (eX (gD x 0) 3)]] 0 λf _=>
 .loop 0 [.l (eX (gD x 0) 3),.i 0,.i (iX (gD x 0) 3),.l (eX (gD x 0) 0),.l (eX (gD x 0) 1),.l (eX (gD x 0) 2),.l (eX (gD x 0) 3),.l (D.els f)] (.cons (λc=>
 .loop 2 [.i (iL (gL c 3)),aL c 3,.i 0,aL c 4] (.cons (λd=>
 .ret (aL d 0) [])
 .nil))
 .nil))
def mT(p:LD):Sh:=
 .ask (aQ (gI p 1) (gI p 2))
 (.ask (aA (gI p 1) (List.length (gL p 0)))
 (.ask (aA (gI p 1) (List.length (gL p 7)))
 (.ask (aA (gI p 1) (List.length (gL p 7)))
 (.again [aL p 0,dL p 1,aI p 2,aL p 3,aL p 4,aL p 5,aL p 6,.l (List.set (gL p 7) (tI p 1) (D.b ((D.toB (gD (gL p 7) (tI p 1)))&&(!(aD (vI (gD (gL p 0) (tI p 1)) 3) 0)))))])
 bC)
 bC)
 bC)
 (.out (0,[aL p 3,aL p 4,aL p 5,aL p 6,aL p 7]))
def mU(p:LD):Sh:=
 .ask (aQ (gI p 2) (gI p 0))
 (.ask (aA (gI p 2) (List.length (gL p 1)))
 (.call Jo [.l [.s (D.toS (D.fld (gD (gL p 1) (tI p 2)) 0)),.b (vB (gD (gL p 1) (tI p 2)) 1),.l (eX (gD (gL p 1) (tI p 2)) 2),.i (vI (gD (gL p 1) (tI p 2)) 3),.l (eX (gD (gL p 1) (tI p 2)) 4)]] 0 λd _=>
 .loop 4 [.i 0,.l (eX (gD (gL p 1) (tI p 2)) 4),aI p 0,aL p 1,.i (iX (gD (gL p 1) (tI p 2)) 4),aI p 2,aL p 3,.l (D.els d)] (.cons (λc=>
 .again [aI c 0,aL c 1,dL c 2,aL c 3])
 .nil))
 bC)
 (.out (0,[aL p 3]))
def mV(p:LD):Sh:=
 .ask (aQ (gI p 0) (gI p 4))
 (.ask (aA (gI p 0) (List.length (gL p 1)))
 (.loop 6 [aI p 0,aL p 1,aI p 2,.i (iE (gD (gL p 1) (tI p 0))),aL p 3,.l (D.els (gD (gL p 1) (tI p 0))),aI p 4,aI p 5,.i 0,aL p 6,aL p 7] (.cons (λc=>
 .again [dL c 0,aL c 1,aI c 2,aL c 3,aI c 4,aI c 5,aL c 6,aL c 7])
 .nil))
 bC)
 (.out (0,[aI p 2,aL p 3,aI p 5,aL p 6]))
def pN(p:LD):Sh:=
 .ask (aQ (gI p 8) (gI p 3))
 (.ask (aA (gI p 8) (List.length (gL p 5)))
 (.ask ((!(((aD (vI (gD (gL p 5) (tI p 8)) 0) 22)&&(!(aD (vI (gD (gL p 5) (tI p 8)) 1) 0)))&&true))||(aA (vI (gD (gL p 5) (tI p 8)) 2) (List.length (gL p 10))))
 (.ask (((aD (vI (gD (gL p 5) (tI p 8)) 0) 22)&&(!(aD (vI (gD (gL p 5) (tI p 8)) 1) 0)))&&(aQ 0 (D.toI (gD (gL p 10) (Int.toNat (vI (gD (gL p 5) (tI p 8)) 2))))))
 (.ask (aA (vI (gD (gL p 5) (tI p 8)) 3) (List.length (gL p 9)))
 (.again [aI p 0,aL p 1,aI p 2,aI p 3,aL p 4,aL p 5,aI p 6,aI p 7,dL p 8,.l (List.set (gL p 9) (Int.toNat (vI (gD (gL p 5) (tI p 8)) 3)) (D.b false)),aL p 10])
 bC)
 (.again [aI p 0,aL p 1,aI p 2,aI p 3,aL p 4,aL p 5,aI p 6,aI p 7,dL p 8,aL p 9,aL p 10]))
 bC)
 bC)
 (.out (0,[aI p 0,aL p 1,aI p 2,aL p 4,aI p 6,aI p 7,aL p 9,aL p 10]))
def NJ(x:LD):Sh:=
 .call YI [.l [.l (eX (gD x 0) 0),.l (eX (gD x 0) 1),.l (eX (gD x 0) 2),.l (eX (gD x 0) 3)]] 0 λe _=>
 .ask ((cK 0 (iX (gD x 0) 3))&&((aD (iX (gD x 0) 3) (iX (gD x 0) 3))&&(jP (Int.toNat (iX (gD x 0) 3)) 1)))
 (.loop 0 [.i 0,.l (eX (gD x 0) 0),.l (eX (gD x 0) 1),.l (eX (gD x 0) 2),.l (eX (gD x 0) 3),.l (List.replicate (nX (gD x 0) 3) (D.b false)),.l (D.els e)] (.cons (λc=>
 .loop 2 [.i 0,aL c 0,aL c 1,aL c 2,aL c 3,aL c 4] (.cons (λd=>
 .ret (aL d 0) [])
 .nil))
 .nil))
 bC
def qA(p:LD):Sh:=
 .ask (aQ (gI p 0) (iL (gL p 5)))
 (.ask (aA (gI p 0) (List.length (gL p 4)))
 (.ask ((!((!(vB (gD (gL p 4) (tI p 0)) 1))&&true))||(aA (gI p 0) (List.length (gL p 6))))
 (.ask ((!(((!(vB (gD (gL p 4) (tI p 0)) 1))&&(!(D.toB (gD (gL p 6) (tI p 0)))))&&true))||(aA (gI p 0) (List.length (gL p 4))))
 (.ask (aA (gI p 0) (List.length (gL p 5)))
 (.again [dL p 0,aL p 1,aL p 2,aL p 3,aL p 4,.l (List.set (gL p 5) (tI p 0) (D.b (((!(vB (gD (gL p 4) (tI p 0)) 1))&&(!(D.toB (gD (gL p 6) (tI p 0)))))&&(!(aD (vI (gD (gL p 4) (tI p 0)) 3) 0))))),aL p 6])
 bC)
 bC)
 bC)
 bC)
 (.out (0,[aL p 1,aL p 2,aL p 3,aL p 4,aL p 5]))
def qB(p:LD):Sh:=
 .ask (aQ (gI p 0) (iL (gL p 5)))
 (.ask (aA (gI p 0) (List.length (gL p 4)))
 (.call Jp [.l [.s (D.toS (D.fld (gD (gL p 4) (tI p 0)) 0)),.b (vB (gD (gL p 4) (tI p 0)) 1),.l (eX (gD (gL p 4) (tI p 0)) 2),.i (vI (gD (gL p 4) (tI p 0)) 3),.l (eX (gD (gL p 4) (tI p 0)) 4)]] 0 λd _=>
 .loop 4 [.i 0,aI p 0,aL p 1,aL p 2,aL p 3,aL p 4,aL p 5,.l (D.els d)] (.cons (λc=>
 .again [dL c 0,aL c 1,aL c 2,aL c 3,aL c 4,aL c 5])
 .nil))
 bC)
 (.out (0,[aL p 5]))
def qQ(p:LD):Sh:=
 .ask (aA (gI p 1) (List.length (gL p 5)))
 (.ask (aQ (gI p 0) (iX (gD (gL p 5) (tI p 1)) 4))
 (.loop 6 [.i 0,aI p 0,aI p 1,aL p 2,aL p 3,aL p 4,aL p 5,aL p 6,aL p 7] (.cons (λc=>
 .again [dL c 0,aI c 1,aL c 2,aL c 3,aL c 4,aL c 5,aL c 6,aL c 7])
 .nil))
 (.out (0,[aI p 1,aL p 2,aL p 3,aL p 4,aL p 5,aL p 6])))
 bC
def qV(p:LD):Sh:=
 .ask (aA (gI p 2) (List.length (gL p 6)))
 (.ask (aA (gI p 1) (nX (gD (gL p 6) (tI p 2)) 4))
 (.ask (aQ (gI p 0) (iE (gD (eX (gD (gL p 6) (tI p 2)) 4) (tI p 1))))
 (.ask (aA (gI p 2) (List.length (gL p 6)))
 (.ask (aA (gI p 1) (nX (gD (gL p 6) (tI p 2)) 4))
 (.ask (aA (gI p 0) (nE (gD (eX (gD (gL p 6) (tI p 2)) 4) (tI p 1))))
 (.ask ((!(((aD (vI (gE (gD (eX (gD (gL p 6) (tI p 2)) 4) (tI p 1)) (tI p 0)) 0) 22)&&(!(aD (vI (gE (gD (eX (gD (gL p 6) (tI p 2)) 4) (tI p 1)) (tI p 0)) 1) 0)))&&true))||(aA (vI (gE (gD (eX (gD (gL p 6) (tI p 2)) 4) (tI p 1)) (tI p 0)) 2) (List.length (gL p 8))))
 (.ask (((aD (vI (gE (gD (eX (gD (gL p 6) (tI p 2)) 4) (tI p 1)) (tI p 0)) 0) 22)&&(!(aD (vI (gE (gD (eX (gD (gL p 6) (tI p 2)) 4) (tI p 1)) (tI p 0)) 1) 0)))&&(aQ 0 (D.toI (gD (gL p 8) (Int.toNat (vI (gE (gD (eX (gD (gL p 6) (tI p 2)) 4) (tI p 1)) (tI p 0)) 2))))))
 (.ask (aA (vI (gE (gD (eX (gD (gL p 6) (tI p 2)) 4) (tI p 1)) (tI p 0)) 3) (List.length (gL p 7)))
 (.again [dL p 0,aI p 1,aI p 2,aL p 3,aL p 4,aL p 5,aL p 6,.l (List.set (gL p 7) (Int.toNat (vI (gE (gD (eX (gD (gL p 6) (tI p 2)) 4) (tI p 1)) (tI p 0)) 3)) (D.b false)),aL p 8])
 bC)
 (.again [dL p 0,aI p 1,aI p 2,aL p 3,aL p 4,aL p 5,aL p 6,aL p 7,aL p 8]))
 bC)
 bC)
 bC)
 bC)
 (.out (0,[aI p 1,aI p 2,aL p 3,aL p 4,aL p 5,aL p 6,aL p 7,aL p 8])))
 bC)
 bC
def NU(x:LD):Sh:=
 .ask ((((aQ 24 (iX (gD x 0) 3))||(aQ 12 (iX (gD x 0) 0)))||(aQ 12 (iX (gD x 0) 1)))||(aQ 6 (iX (gD x 0) 2)))
 (.ret (.b false) [])
 (.loop 0 [.i 0,.l (eX (gD x 0) 0),.l (eX (gD x 0) 1),.l (eX (gD x 0) 2),.l (eX (gD x 0) 3)] (.cons (λc=>
 .ret (aB c 0) [])
 (.cons (λc=>
 .loop 2 [.i 0,aL c 0,aL c 1,aL c 2,aL c 3] (.cons (λd=>
 .ret (aB d 0) [])
 (.cons (λd=>
 .loop 4 [.i 0,aL d 0,aL d 1,aL d 2,aL d 3] (.cons (λe=>
 .ret (aB e 0) [])
 (.cons (λe=>
 .loop 6 [.i 0,aL e 0,aL e 1,aL e 2,aL e 3] (.cons (λf=>
 .ret (aB f 0) [])
 (.cons (λf=>
 .ret (.b true) [])
 .nil)))
 .nil)))
 .nil)))
 .nil)))
def nK(p:LD):Sh:=
 .ask (aQ (gI p 0) (iL (gL p 1)))
 (.ask (aA (gI p 0) (List.length (gL p 1)))
 (.ask (aQ 5 (iX (gD (gL p 1) (tI p 0)) 1))
 (.out (0,[.b false,aL p 1,aL p 2,aL p 3,aL p 4]))
 (.again [dL p 0,aL p 1,aL p 2,aL p 3,aL p 4]))
 bC)
 (.out (1,[aL p 1,aL p 2,aL p 3,aL p 4]))
def nL(p:LD):Sh:=
 .ask (aQ (gI p 0) (iL (gL p 2)))
 (.ask (aA (gI p 0) (List.length (gL p 2)))
 (.ask ((aQ (iX (gD (gL p 2) (tI p 0)) 1) 1)||(aQ 16 (iX (gD (gL p 2) (tI p 0)) 1)))
 (.out (0,[.b false,aL p 1,aL p 2,aL p 3,aL p 4]))
 (.again [dL p 0,aL p 1,aL p 2,aL p 3,aL p 4]))
 bC)
 (.out (1,[aL p 1,aL p 2,aL p 3,aL p 4]))
def nM(p:LD):Sh:=
 .ask (aQ (gI p 0) (iL (gL p 3)))
 (.ask (aA (gI p 0) (List.length (gL p 3)))
 (.ask ((aQ (iX (gD (gL p 3) (tI p 0)) 1) 1)||(aQ 12 (iX (gD (gL p 3) (tI p 0)) 1)))
 (.out (0,[.b false,aL p 1,aL p 2,aL p 3,aL p 4]))
 (.again [dL p 0,aL p 1,aL p 2,aL p 3,aL p 4]))
 bC)
 (.out (1,[aL p 1,aL p 2,aL p 3,aL p 4]))
def nN(p:LD):Sh:=
 .ask (aQ (gI p 0) (iL (gL p 4)))
 (.ask (aA (gI p 0) (List.length (gL p 4)))
 (.ask (!(((aQ 5 (iX (gD (gL p 4) (tI p 0)) 2))||(aQ (iX (gD (gL p 4) (tI p 0)) 4) 1))||(aQ 40 (iX (gD (gL p 4) (tI p 0)) 4))))
 (.call Gb [.l [.s (D.toS (D.fld (gD (gL p 4) (tI p 0)) 0)),.b (vB (gD (gL p 4) (tI p 0)) 1),.l (eX (gD (gL p 4) (tI p 0)) 2),.i (vI (gD (gL p 4) (tI p 0)) 3),.l (eX (gD (gL p 4) (tI p 0)) 4)]] 0 λc _=>
 .ask ((((aQ 5 (iX (gD (gL p 4) (tI p 0)) 2))||(aQ (iX (gD (gL p 4) (tI p 0)) 4) 1))||(aQ 40 (iX (gD (gL p 4) (tI p 0)) 4)))||(aQ 300 (D.toI c)))
 (.out (0,[.b false]))
 (.again [dL p 0,aL p 1,aL p 2,aL p 3,aL p 4]))
 (.ask ((((aQ 5 (iX (gD (gL p 4) (tI p 0)) 2))||(aQ (iX (gD (gL p 4) (tI p 0)) 4) 1))||(aQ 40 (iX (gD (gL p 4) (tI p 0)) 4)))||(aQ 300 0))
 (.out (0,[.b false]))
 (.again [dL p 0,aL p 1,aL p 2,aL p 3,aL p 4])))
 bC)
 (.out (1,[]))
def TP(x:LD):Sh:=
 .loop 0 [.i 0,.s (D.toS (D.fld (gD x 0) 0)),.b (vB (gD x 0) 1),.l (eX (gD x 0) 2),.i (vI (gD x 0) 3),.l (eX (gD x 0) 4)] (.cons (λc=>
 .ret (aB c 0) [])
 (.cons (λc=>
 .call XM [.l [aS c 0,aB c 1,aL c 2,aI c 3,aL c 4]] 0 λe _=>
 .call Uf [.l [aS c 0,aB c 1,aL c 2,aI c 3,aL c 4]] 0 λf _=>
 .loop 6 [.i 0,aS c 0,aB c 1,aL c 2,aI c 3,aL c 4,.l (D.els e),.l (D.els f)] (.cons (λd=>
 .ret (aB d 0) [])
 (.cons (λd=>
 .ret (.b true) [])
 .nil)))
 .nil))
def wI(p:LD):Sh:=
 .ask (aQ (gI p 0) (iL (gL p 5)))
 (.ask (aA (gI p 0) (List.length (gL p 5)))
 (.ask (aD (iE (gD (gL p 5) (tI p 0))) 0)
 (.out (0,[.b false,aS p 1,aB p 2,aL p 3,aI p 4,aL p 5]))
 (.loop 2 [aI p 0,.i 0,.l (D.els (gD (gL p 5) (tI p 0))),aS p 1,aB p 2,aL p 3,aI p 4,aL p 5] (.cons (λc=>
 .out (0,[aB c 1,aS c 3,aB c 4,aL c 5,aI c 6,aL c 7]))
 (.cons (λc=>
 .ask (aA (bE .i64 ((iL (gL c 1))-1)) (List.length (gL c 1)))
 (.loop 4 [aI c 0,.i 0,aS c 2,aB c 3,aL c 4,aI c 5,aL c 6,.i (vI (gD (gL c 1) (Int.toNat (bE .i64 ((iL (gL c 1))-1)))) 0),.i (vI (gD (gL c 1) (Int.toNat (bE .i64 ((iL (gL c 1))-1)))) 1),.i (vI (gD (gL c 1) (Int.toNat (bE .i64 ((iL (gL c 1))-1)))) 2),.i (vI (gD (gL c 1) (Int.toNat (bE .i64 ((iL (gL c 1))-1)))) 3),.i (vI (gD (gL c 1) (Int.toNat (bE .i64 ((iL (gL c 1))-1)))) 4),.l (eX (gD (gL c 1) (Int.toNat (bE .i64 ((iL (gL c 1))-1)))) 5),.l (eX (gD (gL c 1) (Int.toNat (bE .i64 ((iL (gL c 1))-1)))) 6)] (.cons (λd=>
 .out (0,[aB d 1,aS d 2,aB d 3,aL d 4,aI d 5,aL d 6]))
 (.cons (λd=>
 .ask ((!((aD (gI d 6) 28)&&true))||(aA 0 (List.length (gL d 12))))
 (.ask ((!((aD (gI d 6) 28)&&true))||(aA 1 (List.length (gL d 12))))
 (.ask ((aD (gI d 6) 28)&&(aD (D.toI (gD (gL d 12) 0)) (D.toI (gD (gL d 12) 1))))
 (.out (0,[.b false,aS d 1,aB d 2,aL d 3,aI d 4,aL d 5]))
 (.again [dL d 0,aS d 1,aB d 2,aL d 3,aI d 4,aL d 5]))
 bC)
 bC)
 .nil)))
 bC)
 .nil))))
 bC)
 (.out (1,[aS p 1,aB p 2,aL p 3,aI p 4,aL p 5]))
def wJ(p:LD):Sh:=
 .ask (aQ (gI p 1) (iL (gL p 2)))
 (.ask (aA (gI p 1) (List.length (gL p 2)))
 (.call BZ [.i (vI (gD (gL p 2) (tI p 1)) 0)] 0 λc _=>
 .ask ((!((!(!(bif D.toB c then aD (gI p 1) (bE .i64 ((iL (gL p 2))-1))else !(aD (gI p 1) (bE .i64 ((iL (gL p 2))-1))))))&&((aQ 0 (gI p 1))&&true)))||(aA (gI p 1) (List.length (gL p 2))))
 (.ask ((!((!(!(bif D.toB c then aD (gI p 1) (bE .i64 ((iL (gL p 2))-1))else !(aD (gI p 1) (bE .i64 ((iL (gL p 2))-1))))))&&(((aQ 0 (gI p 1))&&(aD (vI (gD (gL p 2) (tI p 1)) 0) 26))&&true)))||(aA (bE .i64 ((gI p 1)-1)) (List.length (gL p 2))))
 (.ask ((!(bif D.toB c then aD (gI p 1) (bE .i64 ((iL (gL p 2))-1))else !(aD (gI p 1) (bE .i64 ((iL (gL p 2))-1)))))||(((aQ 0 (gI p 1))&&(aD (vI (gD (gL p 2) (tI p 1)) 0) 26))&&(!(aD (vI (gD (gL p 2) (Int.toNat (bE .i64 ((gI p 1)-1)))) 0) 26))))
 (.out (0,[aI p 0,.b false,aL p 2,aS p 3,aB p 4,aL p 5,aI p 6,aL p 7]))
 (.again [aI p 0,dL p 1,aL p 2,aS p 3,aB p 4,aL p 5,aI p 6,aL p 7]))
 bC)
 bC)
 bC)
 (.out (1,[aI p 0,aL p 2,aS p 3,aB p 4,aL p 5,aI p 6,aL p 7]))
def wK(p:LD):Sh:=
 .ask (aQ (gI p 1) (iL (gL p 13)))
 (.ask (aA (gI p 1) (List.length (gL p 13)))
 (.ask ((!(!(aQ (D.toI (gD (gL p 13) (tI p 1))) 1)))||(aA (gI p 1) (List.length (gL p 13))))
 (.ask ((aQ (D.toI (gD (gL p 13) (tI p 1))) 1)||(cK (iL (gL p 6)) (D.toI (gD (gL p 13) (tI p 1)))))
 (.out (0,[aI p 0,.b false,aS p 2,aB p 3,aL p 4,aI p 5,aL p 6,aI p 7,aI p 8,aI p 9,aI p 10,aI p 11,aL p 12,aL p 13]))
 (.again [aI p 0,dL p 1,aS p 2,aB p 3,aL p 4,aI p 5,aL p 6,aI p 7,aI p 8,aI p 9,aI p 10,aI p 11,aL p 12,aL p 13]))
 bC)
 bC)
 (.out (1,[aI p 0,aS p 2,aB p 3,aL p 4,aI p 5,aL p 6,aI p 7,aI p 8,aI p 9,aI p 10,aI p 11,aL p 12,aL p 13]))
def wL(p:LD):Sh:=
 .ask (aQ (gI p 0) (iL (gL p 5)))
 (.ask (aA (gI p 0) (List.length (gL p 6)))
 (.ask (!(D.toB (gD (gL p 6) (tI p 0))))
 (.out (0,[.b false]))
 (.ask (aA (gI p 0) (List.length (gL p 5)))
 (.loop 8 [.l (D.els (gD (gL p 5) (tI p 0))),.i 0,aI p 0,aS p 1,aB p 2,aL p 3,aI p 4,aL p 5,aL p 6,aL p 7] (.cons (λc=>
 .out (0,[aB c 0]))
 (.cons (λc=>
 .again [dL c 0,aS c 1,aB c 2,aL c 3,aI c 4,aL c 5,aL c 6,aL c 7])
 .nil)))
 bC))
 bC)
 (.out (1,[]))
def wM(p:LD):Sh:=
 .ask (aQ (gI p 1) (iL (gL p 0)))
 (.ask (aA (gI p 1) (List.length (gL p 0)))
 (.ask ((!(((aD (vI (gD (gL p 0) (tI p 1)) 0) 26)&&true)&&(!(aD (gI p 2) 0))))||(aA (gI p 1) (List.length (gL p 0))))
 (.ask ((!(((aD (vI (gD (gL p 0) (tI p 1)) 0) 26)&&true)&&(!(aD (gI p 2) 0))))||(aA (gI p 2) (List.length (gL p 9))))
 (.ask (((aD (vI (gD (gL p 0) (tI p 1)) 0) 26)&&true)&&(!(aD (gI p 2) 0)))
 (.call PW [.l (eX (gD (gL p 0) (tI p 1)) 6),.l (D.els (gD (gL p 9) (tI p 2)))] 0 λc _=>
 .ask ((aD (vI (gD (gL p 0) (tI p 1)) 0) 26)&&((aD (gI p 2) 0)||(!(D.toB c))))
 (.out (0,[.b false,aI p 2,aS p 3,aB p 4,aL p 5,aI p 6,aL p 7,aL p 8,aL p 9]))
 (.again [aL p 0,dL p 1,aI p 2,aS p 3,aB p 4,aL p 5,aI p 6,aL p 7,aL p 8,aL p 9]))
 (.ask ((aD (vI (gD (gL p 0) (tI p 1)) 0) 26)&&((aD (gI p 2) 0)||(!(D.toB (.i 0)))))
 (.out (0,[.b false,aI p 2,aS p 3,aB p 4,aL p 5,aI p 6,aL p 7,aL p 8,aL p 9]))
 (.again [aL p 0,dL p 1,aI p 2,aS p 3,aB p 4,aL p 5,aI p 6,aL p 7,aL p 8,aL p 9])))
 bC)
 bC)
 bC)
 (.out (1,[aI p 2,aS p 3,aB p 4,aL p 5,aI p 6,aL p 7,aL p 8,aL p 9]))
def TV(x:LD):Sh:=
 .call Jt [.l [.l (eX (gD x 0) 0),.l (eX (gD x 0) 1),.l (eX (gD x 0) 2),.l (eX (gD x 0) 3)]] 0 λc _=>
 .ask (Yn (D.els c))
 bC
 (.loop 0 [.i (iX (gD x 0) 3),.l (eX (gD x 0) 3),.i 0,.l (eX (hdD (D.els c)) 4)] (.cons (λd=>
 .ret (aL d 0) [])
 .nil))
def sV(p:LD):Sh:=
 .ask (aQ (gI p 2) (gI p 0))
 (.ask (aA (gI p 2) (List.length (gL p 1)))
 (.ask (aA (gI p 2) (List.length (gL p 3)))
 (.ask (aA (gI p 2) (List.length (gL p 3)))
 (.again [aI p 0,aL p 1,dL p 2,.l (List.set (gL p 3) (tI p 2) (D.b ((!(D.toB (gD (gL p 3) (tI p 2))))&&(!(vB (gD (gL p 1) (tI p 2)) 1)))))])
 bC)
 bC)
 bC)
 (.out (0,[aL p 3]))
def bW(x:LD):Sh:=
 .ask (!(aD (vI (gD x 0) 0) 21))
 (.call BZ [.i (vI (gD x 0) 0)] 0 λc _=>
 .ask (!(bif (aD (vI (gD x 0) 0) 21)||(D.toB c)then aD (vI (gD x 0) 1) 0 else !(aD (vI (gD x 0) 1) 0)))
 (.ret (.b false) [])
 (.ret (.b (((aD (vI (gD x 0) 1) 0)&&(aD (vI (gD x 0) 2) 0))||((!(aD (vI (gD x 0) 1) 0))&&(cK 1 (vI (gD x 0) 2))))) []))
 (.ask (!(bif (aD (vI (gD x 0) 0) 21)||(D.toB (.i 0))then aD (vI (gD x 0) 1) 0 else !(aD (vI (gD x 0) 1) 0)))
 (.ret (.b false) [])
 (.ret (.b (((aD (vI (gD x 0) 1) 0)&&(aD (vI (gD x 0) 2) 0))||((!(aD (vI (gD x 0) 1) 0))&&(cK 1 (vI (gD x 0) 2))))) []))
def bY(x:LD):Sh:=
 .ask (aD (vI (gD x 0) 0) 18)
 (.ask ((aQ (vI (gD x 0) 4) 1)||(aQ 16 (vI (gD x 0) 4)))
 (.ret (.b false) [])
 (bW x))
 (bW x)
def bZ(x:LD):Sh:=
 .ask (!(aD (vI (gD x 0) 0) 21))
 (.call BZ [.i (vI (gD x 0) 0)] 0 λc _=>
 .ask (!(bif (aD (vI (gD x 0) 0) 21)||(D.toB c)then aD (vI (gD x 0) 1) 0 else !(aD (vI (gD x 0) 1) 0)))
 (.ret (.b false) [])
 (.ret (.b (((aD (vI (gD x 0) 1) 0)&&(aD (vI (gD x 0) 2) 0))||((!(aD (vI (gD x 0) 1) 0))&&(cK 1 (vI (gD x 0) 2))))) []))
 (.ask (!(bif (aD (vI (gD x 0) 0) 21)||(D.toB (.i 0))then aD (vI (gD x 0) 1) 0 else !(aD (vI (gD x 0) 1) 0)))
 (.ret (.b false) [])
 (.ret (.b (((aD (vI (gD x 0) 1) 0)&&(aD (vI (gD x 0) 2) 0))||((!(aD (vI (gD x 0) 1) 0))&&(cK 1 (vI (gD x 0) 2))))) []))
def cA(x:LD):Sh:=
 .ask (aQ 5 (iX (gD x 0) 5))
 (.ret (.b false) [])
 (.ask (!(aD (vI (gD x 0) 0) 21))
 (.call BZ [.i (vI (gD x 0) 0)] 0 λc _=>
 .ask false
 (.ret (.b false) [])
 (.ret (.b (((aD (vI (gD x 0) 1) 0)&&(aD (vI (gD x 0) 2) 0))||((!(aD (vI (gD x 0) 1) 0))&&(cK 1 (vI (gD x 0) 2))))) []))
 (.ask false
 (.ret (.b false) [])
 (.ret (.b (((aD (vI (gD x 0) 1) 0)&&(aD (vI (gD x 0) 2) 0))||((!(aD (vI (gD x 0) 1) 0))&&(cK 1 (vI (gD x 0) 2))))) [])))
def cQ(x:LD):Sh:=
 .ask ((((aQ (vI (gD x 0) 0) 1)||(aQ 30 (vI (gD x 0) 0)))||(aQ (vI (gD x 0) 1) 0))||(aQ 4 (vI (gD x 0) 1)))
 (.ret (.b false) [])
 (.call PX [.i (vI (gD x 0) 0)] 0 λc _=>
 .ask (((((cK 0 (vI c 0))&&(!(aD (iX (gD x 0) 5) (vI c 0))))||((cK 0 (vI c 1))&&(!(aD (iX (gD x 0) 6) (vI c 1)))))||((!(vB c 2))&&(!(aD (vI (gD x 0) 3) 0))))||((!(vB c 3))&&(!(aD (vI (gD x 0) 4) 0))))
 (.ret (.b false) [])
 (.ask (aD (vI (gD x 0) 0) 26)
 (.ask ((aQ (iX (gD x 0) 5) 1)||(!(aD (iX (gD x 0) 6) (iX (gD x 0) 5))))
 (.ret (.b false) [])
 (bZ x))
 (.ask (aD (vI (gD x 0) 0) 29)
 (.ask (aQ 1 (iX (gD x 0) 5))
 (.ret (.b false) [])
 (bZ x))
 (.ask (aD (vI (gD x 0) 0) 25)
 (.ask ((aQ (iX (gD x 0) 5) 1)||(aQ 6 (iX (gD x 0) 5)))
 (.ret (.b false) [])
 (.ask (!(aD (vI (gD x 0) 0) 21))
 (.call BZ [.i (vI (gD x 0) 0)] 0 λd _=>
 .ask false
 (.ret (.b false) [])
 (.ret (.b (((aD (vI (gD x 0) 1) 0)&&(aD (vI (gD x 0) 2) 0))||((!(aD (vI (gD x 0) 1) 0))&&(cK 1 (vI (gD x 0) 2))))) []))
 (.ask false
 (.ret (.b false) [])
 (.ret (.b (((aD (vI (gD x 0) 1) 0)&&(aD (vI (gD x 0) 2) 0))||((!(aD (vI (gD x 0) 1) 0))&&(cK 1 (vI (gD x 0) 2))))) []))))
 (.ask (aD (vI (gD x 0) 0) 22)
 (.ask (aD (vI (gD x 0) 0) 22)
 (cA x)
 (bY x))
 (.ask (aD (vI (gD x 0) 0) 23)
 (cA x)
 (bY x)))))))
def TK(x:LD):Sh:=
 .call PV [.l [.s (D.toS (D.fld (gD x 0) 0)),.b (vB (gD x 0) 1),.l (eX (gD x 0) 2),.i (vI (gD x 0) 3),.l (eX (gD x 0) 4)]] 0 λd _=>
 .ask ((cK 0 (bJ .i64 (D.toI d) 1))&&((aD (bJ .i64 (D.toI d) 1) (bJ .i64 (D.toI d) 1))&&(jP (Int.toNat (bJ .i64 (D.toI d) 1)) 16)))
 (.loop 0 [.i 0,.s (D.toS (D.fld (gD x 0) 0)),.b (vB (gD x 0) 1),.l (eX (gD x 0) 2),.i (vI (gD x 0) 3),.l (eX (gD x 0) 4),.l (List.replicate (Int.toNat (bJ .i64 (D.toI d) 1)) (D.l [.i 0,.i 0]))] (.cons (λc=>
 .loop 2 [.i (iL (gL c 2)),.i 0,aS c 0,aB c 1,aL c 2,aI c 3,aL c 4,aL c 5] (.cons (λe=>
 .ret (aL e 0) [])
 .nil))
 .nil))
 bC
def vY(p:LD):Sh:=
 .ask (cK (gI p 0) (iL (gL p 3)))
 (.ask (aA (gI p 0) (List.length (gL p 6)))
 (.again (let z0:=List.set (gL p 6) (tI p 0) (D.l (cN (D.els (gD (gL p 6) (tI p 0))) 0 (D.i (-1))));[dL p 0,aS p 1,aB p 2,aL p 3,aI p 4,aL p 5,.l (List.set z0 (tI p 0) (D.l (cN (D.els (gD z0 (tI p 0))) 1 (D.i (-1)))))]))
 bC)
 (.out (0,[aS p 1,aB p 2,aL p 3,aI p 4,aL p 5,aL p 6]))
def vZ(p:LD):Sh:=
 .ask (aQ (gI p 1) (iL (gL p 6)))
 (.loop 4 [.i 0,aI p 0,aI p 1,aS p 2,aB p 3,aL p 4,aI p 5,aL p 6,aL p 7] (.cons (λc=>
 .again [aI c 0,dL c 1,aS c 2,aB c 3,aL c 4,aI c 5,aL c 6,aL c 7])
 .nil))
 (.out (0,[aL p 7]))
def wA(p:LD):Sh:=
 .ask (aA (gI p 2) (List.length (gL p 7)))
 (.ask (aQ (gI p 0) (iE (gD (gL p 7) (tI p 2))))
 (.ask (aA (gI p 2) (List.length (gL p 7)))
 (.ask (aA (gI p 0) (nE (gD (gL p 7) (tI p 2))))
 (.ask (!(aD (vI (gE (gD (gL p 7) (tI p 2)) (tI p 0)) 1) 0))
 (.ask (aA (bJ .i64 (gI p 1) 1) (List.length (gL p 8)))
 (.again (let z0:=List.set (gL p 8) (Int.toNat (bJ .i64 (gI p 1) 1)) (D.l (cN (D.els (gD (gL p 8) (Int.toNat (bJ .i64 (gI p 1) 1)))) 0 (aI p 2)));[dL p 0,dL p 1,aI p 2,aS p 3,aB p 4,aL p 5,aI p 6,aL p 7,.l (List.set z0 (Int.toNat (bJ .i64 (gI p 1) 1)) (D.l (cN (D.els (gD z0 (Int.toNat (bJ .i64 (gI p 1) 1)))) 1 (aI p 0))))]))
 bC)
 (.again [dL p 0,aI p 1,aI p 2,aS p 3,aB p 4,aL p 5,aI p 6,aL p 7,aL p 8]))
 bC)
 bC)
 (.out (0,[aI p 1,aI p 2,aS p 3,aB p 4,aL p 5,aI p 6,aL p 7,aL p 8])))
 bC
def TX(x:LD):Sh:=
 .ask ((((aQ 24 (iX (gD x 0) 3))||(aQ 12 (iX (gD x 0) 0)))||(aQ 12 (iX (gD x 0) 1)))||(aQ 6 (iX (gD x 0) 2)))
 (.ret (.b false) [])
 (.loop 0 [.i (iX (gD x 0) 0),.i 0,.l (eX (gD x 0) 0),.l (eX (gD x 0) 0),.l (eX (gD x 0) 1),.l (eX (gD x 0) 2),.l (eX (gD x 0) 3)] (.cons (λc=>
 .ret (aB c 0) [])
 (.cons (λc=>
 .loop 2 [.i (iL (gL c 1)),.i 0,aL c 1,aL c 0,aL c 1,aL c 2,aL c 3] (.cons (λd=>
 .ret (aB d 0) [])
 (.cons (λd=>
 .loop 4 [.i (iL (gL d 2)),aL d 2,.i 0,aL d 0,aL d 1,aL d 2,aL d 3] (.cons (λe=>
 .ret (aB e 0) [])
 (.cons (λe=>
 .loop 6 [.i (iL (gL e 3)),.i 0,aL e 3] (.cons (λf=>
 .ret (aB f 0) [])
 (.cons (λf=>
 .ret (.b true) [])
 .nil)))
 .nil)))
 .nil)))
 .nil)))
def pD(p:LD):Sh:=
 .ask (aQ (gI p 1) (gI p 0))
 (.ask (aA (gI p 1) (List.length (gL p 2)))
 (.ask (aQ 5 (iX (gD (gL p 2) (tI p 1)) 1))
 (.out (0,[.b false,aL p 3,aL p 4,aL p 5,aL p 6]))
 (.again [aI p 0,dL p 1,aL p 2,aL p 3,aL p 4,aL p 5,aL p 6]))
 bC)
 (.out (1,[aL p 3,aL p 4,aL p 5,aL p 6]))
def pE(p:LD):Sh:=
 .ask (aQ (gI p 1) (gI p 0))
 (.ask (aA (gI p 1) (List.length (gL p 2)))
 (.ask ((aQ (iX (gD (gL p 2) (tI p 1)) 1) 1)||(aQ 16 (iX (gD (gL p 2) (tI p 1)) 1)))
 (.out (0,[.b false,aL p 3,aL p 4,aL p 5,aL p 6]))
 (.again [aI p 0,dL p 1,aL p 2,aL p 3,aL p 4,aL p 5,aL p 6]))
 bC)
 (.out (1,[aL p 3,aL p 4,aL p 5,aL p 6]))
def pF(p:LD):Sh:=
 .ask (aQ (gI p 2) (gI p 0))
 (.ask (aA (gI p 2) (List.length (gL p 1)))
 (.ask ((aQ (iX (gD (gL p 1) (tI p 2)) 1) 1)||(aQ 12 (iX (gD (gL p 1) (tI p 2)) 1)))
 (.out (0,[.b false,aL p 3,aL p 4,aL p 5,aL p 6]))
 (.again [aI p 0,aL p 1,dL p 2,aL p 3,aL p 4,aL p 5,aL p 6]))
 bC)
 (.out (1,[aL p 3,aL p 4,aL p 5,aL p 6]))
def pG(p:LD):Sh:=
 .ask (aQ (gI p 1) (gI p 0))
 (.ask (aA (gI p 1) (List.length (gL p 2)))
 (.ask (!(((aQ 5 (iX (gD (gL p 2) (tI p 1)) 2))||(aQ (iX (gD (gL p 2) (tI p 1)) 4) 1))||(aQ 40 (iX (gD (gL p 2) (tI p 1)) 4))))
 (.call Uh [.l [.s (D.toS (D.fld (gD (gL p 2) (tI p 1)) 0)),.b (vB (gD (gL p 2) (tI p 1)) 1),.l (eX (gD (gL p 2) (tI p 1)) 2),.i (vI (gD (gL p 2) (tI p 1)) 3),.l (eX (gD (gL p 2) (tI p 1)) 4)]] 0 λc _=>
 .ask ((((aQ 5 (iX (gD (gL p 2) (tI p 1)) 2))||(aQ (iX (gD (gL p 2) (tI p 1)) 4) 1))||(aQ 40 (iX (gD (gL p 2) (tI p 1)) 4)))||(aQ 300 (D.toI c)))
 (.out (0,[.b false]))
 (.again [aI p 0,dL p 1,aL p 2]))
 (.ask ((((aQ 5 (iX (gD (gL p 2) (tI p 1)) 2))||(aQ (iX (gD (gL p 2) (tI p 1)) 4) 1))||(aQ 40 (iX (gD (gL p 2) (tI p 1)) 4)))||(aQ 300 0))
 (.out (0,[.b false]))
 (.again [aI p 0,dL p 1,aL p 2])))
 bC)
 (.out (1,[]))
def TY(x:LD):Sh:=
 .loop 0 [.i 0,.l (eX (gD x 0) 4),.i (iX (gD x 0) 4),.s (D.toS (D.fld (gD x 0) 0)),.b (vB (gD x 0) 1),.l (eX (gD x 0) 2),.i (vI (gD x 0) 3),.l (eX (gD x 0) 4)] (.cons (λc=>
 .ret (aB c 0) [])
 (.cons (λc=>
 .call JU [.l [aS c 0,aB c 1,aL c 2,aI c 3,aL c 4]] 0 λe _=>
 .call lU [.l (D.els e),.b false] 0 λf _=>
 .ask (D.toB f)
 (.ret (.b false) [])
 (.call Ag [.l [aS c 0,aB c 1,aL c 2,aI c 3,aL c 4]] 0 λg _=>
 .loop 6 [.i 0,aL c 4,.i (iL (gL c 4)),.l (D.els g)] (.cons (λd=>
 .ret (aB d 0) [])
 (.cons (λd=>
 .ret (.b true) [])
 .nil))))
 .nil))
def wZ(p:LD):Sh:=
 .ask (aQ (gI p 0) (gI p 2))
 (.ask (aA (gI p 0) (List.length (gL p 1)))
 (.ask (aD (iE (gD (gL p 1) (tI p 0))) 0)
 (.out (0,[.b false,aS p 3,aB p 4,aL p 5,aI p 6,aL p 7]))
 (.loop 2 [aI p 0,.i 0,aI p 0,.b false,aL p 1,.l (D.els (gD (gL p 1) (tI p 0))),aI p 2,.i (iE (gD (gL p 1) (tI p 0))),aS p 3,aB p 4,aL p 5,aI p 6,aL p 7,.l (D.els (gD (gL p 1) (tI p 0)))] (.cons (λd=>
 .out (0,[aB d 2,aS d 4,aB d 5,aL d 6,aI d 7,aL d 8]))
 (.cons (λd=>
 .ask (aA (bE .i64 ((iL (gL d 8))-1)) (List.length (gL d 8)))
 (.loop 4 (let z0:=eX (gD (gL d 8) (Int.toNat (bE .i64 ((iL (gL d 8))-1)))) 6;[aI d 0,.i (iL z0),aL d 1,.l z0,.i 0,aI d 2,.l z0,aS d 3,aB d 4,aL d 5,aI d 6,aL d 7]) (.cons (λc=>
 .out (0,[aB c 2,aS c 5,aB c 6,aL c 7,aI c 8,aL c 9]))
 (.cons (λc=>
 .ask ((!((aD (iL (gL c 2)) 2)&&true))||(aA 0 (List.length (gL c 2))))
 (.ask ((!((aD (iL (gL c 2)) 2)&&true))||(aA 1 (List.length (gL c 2))))
 (.ask ((aD (iL (gL c 2)) 2)&&(aD (D.toI (gD (gL c 2) 0)) (D.toI (gD (gL c 2) 1))))
 (.out (0,[.b false,aS c 4,aB c 5,aL c 6,aI c 7,aL c 8]))
 (.again [dL c 0,aL c 1,aI c 3,aS c 4,aB c 5,aL c 6,aI c 7,aL c 8]))
 bC)
 bC)
 .nil)))
 bC)
 .nil))))
 bC)
 (.out (1,[aS p 3,aB p 4,aL p 5,aI p 6,aL p 7]))
def xA(p:LD):Sh:=
 .ask (aQ (gI p 1) (gI p 7))
 (.ask (aA (gI p 1) (List.length (gL p 5)))
 (.call FX [.i (vI (gD (gL p 5) (tI p 1)) 0)] 0 λc _=>
 .ask ((!(bif D.toB c then aD (gI p 1) (bE .i64 ((iL (gL p 13))-1))else !(aD (gI p 1) (bE .i64 ((iL (gL p 13))-1)))))||((aD (vI (gD (gL p 5) (tI p 1)) 0) 26)&&((gB p 3)||(aD (gI p 0) 0))))
 (.out (0,[aI p 2,aL p 4,.b false,aI p 6,aS p 8,aB p 9,aL p 10,aI p 11,aL p 12,aL p 13]))
 (.again [aI p 0,dL p 1,aI p 2,.b ((gB p 3)||(!(aD (vI (gD (gL p 5) (tI p 1)) 0) 26))),aL p 4,aL p 5,aI p 6,aI p 7,aS p 8,aB p 9,aL p 10,aI p 11,aL p 12,aL p 13]))
 bC)
 (.out (1,[aI p 2,aL p 4,aI p 6,aS p 8,aB p 9,aL p 10,aI p 11,aL p 12,aL p 13]))
def xB(p:LD):Sh:=
 .ask (aQ (gI p 4) (gI p 1))
 (.ask (aA (gI p 4) (List.length (gL p 6)))
 (.ask ((aQ (D.toI (gD (gL p 6) (tI p 4))) 1)||(cK (iL (gL p 11)) (D.toI (gD (gL p 6) (tI p 4)))))
 (.out (0,[aI p 0,aL p 2,.b false,aL p 3,aI p 5,aS p 7,aB p 8,aL p 9,aI p 10,aL p 11]))
 (.again [aI p 0,aI p 1,aL p 2,aL p 3,dL p 4,aI p 5,aL p 6,aS p 7,aB p 8,aL p 9,aI p 10,aL p 11]))
 bC)
 (.out (1,[aI p 0,aL p 2,aL p 3,aI p 5,aS p 7,aB p 8,aL p 9,aI p 10,aL p 11]))
def xC(p:LD):Sh:=
 .ask (aQ (gI p 0) (gI p 2))
 (.ask (aA (gI p 0) (List.length (gL p 1)))
 (.loop 8 [aI p 0,.i 0,.l (D.els (gD (gL p 1) (tI p 0))),aL p 1,aI p 0,.i (iE (gD (gL p 1) (tI p 0))),aI p 2,aL p 3] (.cons (λc=>
 .out (0,[aB c 2]))
 (.cons (λc=>
 .again [dL c 0,aL c 1,aI c 2,aL c 3])
 .nil)))
 bC)
 (.out (1,[]))
def xD(p:LD):Sh:=
 .ask (aQ (gI p 1) (gI p 5))
 (.ask (aA (gI p 1) (List.length (gL p 2)))
 (.ask ((!((aD (vI (gD (gL p 2) (tI p 1)) 0) 26)&&true))||(aA (gI p 4) (List.length (gL p 7))))
 (.ask ((aD (vI (gD (gL p 2) (tI p 1)) 0) 26)&&true)
 (.call mH [.l (eX (gD (gL p 2) (tI p 1)) 6),.l (D.els (gD (gL p 7) (tI p 4)))] 0 λc _=>
 .ask ((aD (vI (gD (gL p 2) (tI p 1)) 0) 26)&&(!(D.toB c)))
 (.out (0,[aI p 0,aL p 3,.b false,aI p 6,aL p 7]))
 (.again [aI p 0,dL p 1,aL p 2,aL p 3,aI p 4,aI p 5,aI p 6,aL p 7]))
 (.ask ((aD (vI (gD (gL p 2) (tI p 1)) 0) 26)&&(!(D.toB (.i 0))))
 (.out (0,[aI p 0,aL p 3,.b false,aI p 6,aL p 7]))
 (.again [aI p 0,dL p 1,aL p 2,aL p 3,aI p 4,aI p 5,aI p 6,aL p 7])))
 bC)
 bC)
 (.out (1,[aI p 0,aL p 3,aI p 6,aL p 7]))
def TZ(x:LD):Sh:=
 .call XL [.l [.s (D.toS (D.fld (gD x 0) 0)),.b (vB (gD x 0) 1),.l (eX (gD x 0) 2),.i (vI (gD x 0) 3),.l (eX (gD x 0) 4)]] 0 λc _=>
 .ret (.i (bE .i64 ((iE c)-1))) []
def As(x:LD):Sh:=
 .ask ((cK 0 (iX (gD x 0) 4))&&((aD (iX (gD x 0) 4) (iX (gD x 0) 4))&&(jP (Int.toNat (iX (gD x 0) 4)) 1)))
 (.ask (((aQ (pS x 1) 0)||(cK (iL (List.replicate (nX (gD x 0) 4) (D.b false))) (pS x 1)))||(aD (pS x 1) (pS x 2)))
 (.ret (.l (List.replicate (nX (gD x 0) 4) (D.b false))) [])
 (.ask (aA (pS x 1) (List.length (List.replicate (nX (gD x 0) 4) (D.b false))))
 (.loop 0 [.i (pS x 2),.b true,.s (D.toS (D.fld (gD x 0) 0)),.b (vB (gD x 0) 1),.l (eX (gD x 0) 2),.i (vI (gD x 0) 3),.l (eX (gD x 0) 4),.l (List.set (List.replicate (nX (gD x 0) 4) (D.b false)) (oQ x 1) (D.b true))] (.cons (λc=>
 .ret (aL c 0) [])
 .nil))
 bC))
 bC
def AS(p:LD):Sh:=
 .ask (gB p 1)
 (.loop 2 [.i 0,aI p 0,.b false,aS p 2,aB p 3,aL p 4,aI p 5,aL p 6,aL p 7] (.cons (λc=>
 .again [aI c 0,aB c 1,aS c 2,aB c 3,aL c 4,aI c 5,aL c 6,aL c 7])
 .nil))
 (.out (0,[aL p 7]))
def rA(p:LD):Sh:=
 .ask (aQ (gI p 0) (iL (gL p 8)))
 (.ask (aA (gI p 0) (List.length (gL p 8)))
 (.ask (!(D.toB (gD (gL p 8) (tI p 0))))
 (.again [dL p 0,aI p 1,aB p 2,aS p 3,aB p 4,aL p 5,aI p 6,aL p 7,aL p 8])
 (.call Gg [.l [aS p 3,aB p 4,aL p 5,aI p 6,aL p 7],aI p 0] 0 λd _=>
 .loop 4 [.i 0,aI p 0,aI p 1,aB p 2,aS p 3,aB p 4,aL p 5,aI p 6,aL p 7,aL p 8,.l (D.els d)] (.cons (λc=>
 .again [dL c 0,aI c 1,aB c 2,aS c 3,aB c 4,aL c 5,aI c 6,aL c 7,aL c 8])
 .nil)))
 bC)
 (.out (0,[aI p 1,aB p 2,aS p 3,aB p 4,aL p 5,aI p 6,aL p 7,aL p 8]))
def mX(p:LD):Sh:=
 .ask (aQ (gI p 0) (iL (gL p 10)))
 (.ask (aA (gI p 0) (List.length (gL p 10)))
 (.ask ((!((!(aD (D.toI (gD (gL p 10) (tI p 0))) (gI p 2)))&&true))||(aA (gI p 0) (List.length (gL p 10))))
 (.ask ((!((!(aD (D.toI (gD (gL p 10) (tI p 0))) (gI p 2)))&&true))||(aA (D.toI (gD (gL p 10) (tI p 0))) (List.length (gL p 9))))
 (.ask ((!(aD (D.toI (gD (gL p 10) (tI p 0))) (gI p 2)))&&(!(D.toB (gD (gL p 9) (Int.toNat (D.toI (gD (gL p 10) (tI p 0))))))))
 (.ask (aA (gI p 0) (List.length (gL p 10)))
 (.ask (aA (D.toI (gD (gL p 10) (tI p 0))) (List.length (gL p 9)))
 (.again [dL p 0,aI p 1,aI p 2,.b true,aS p 4,aB p 5,aL p 6,aI p 7,aL p 8,.l (List.set (gL p 9) (Int.toNat (D.toI (gD (gL p 10) (tI p 0)))) (D.b true)),aL p 10])
 bC)
 bC)
 (.again [dL p 0,aI p 1,aI p 2,aB p 3,aS p 4,aB p 5,aL p 6,aI p 7,aL p 8,aL p 9,aL p 10]))
 bC)
 bC)
 bC)
 (.out (0,[aI p 1,aI p 2,aB p 3,aS p 4,aB p 5,aL p 6,aI p 7,aL p 8,aL p 9]))
def bM(x:LD):Sh:=
 .ask (!(aD (vI (gD x 0) 0) 21))
 (.call FX [.i (vI (gD x 0) 0)] 0 λc _=>
 .ask ((!(((aD (vI (gD x 0) 0) 22)||(aD (vI (gD x 0) 0) 23))||(aD (vI (gD x 0) 0) 25)))&&(!(bif (aD (vI (gD x 0) 0) 21)||(D.toB c)then aD (vI (gD x 0) 1) 0 else !(aD (vI (gD x 0) 1) 0))))
 (.ret (.b false) [])
 (.ask (aD (vI (gD x 0) 1) 0)
 (.ret (.b (aD (vI (gD x 0) 2) 0)) [])
 (.ret (.b (cK 1 (vI (gD x 0) 2))) [])))
 (.ask ((!(((aD (vI (gD x 0) 0) 22)||(aD (vI (gD x 0) 0) 23))||(aD (vI (gD x 0) 0) 25)))&&(!(bif (aD (vI (gD x 0) 0) 21)||(D.toB (.i 0))then aD (vI (gD x 0) 1) 0 else !(aD (vI (gD x 0) 1) 0))))
 (.ret (.b false) [])
 (.ask (aD (vI (gD x 0) 1) 0)
 (.ret (.b (aD (vI (gD x 0) 2) 0)) [])
 (.ret (.b (cK 1 (vI (gD x 0) 2))) [])))
def bN(x:LD)(c:D):Sh:=
 .ask (aD (vI (gD x 0) 0) 18)
 (.ask (((((!(((((aQ (vI c 0) 0)||(aD (iX (gD x 0) 5) (vI c 0)))&&((aQ (vI c 1) 0)||(aD (iX (gD x 0) 6) (vI c 1))))&&(cK 1 (vI (gD x 0) 4)))&&(cK (vI (gD x 0) 4) 16)))||((!(vB c 2))&&(!(aD (vI (gD x 0) 3) 0))))||((!(vB c 3))&&(!(aD (vI (gD x 0) 4) 0))))||(aQ (vI (gD x 0) 1) 0))||(aQ 4 (vI (gD x 0) 1)))
 (.ret (.b false) [])
 (bM x))
 (.ask (((((!(((aQ (vI c 0) 0)||(aD (iX (gD x 0) 5) (vI c 0)))&&((aQ (vI c 1) 0)||(aD (iX (gD x 0) 6) (vI c 1)))))||((!(vB c 2))&&(!(aD (vI (gD x 0) 3) 0))))||((!(vB c 3))&&(!(aD (vI (gD x 0) 4) 0))))||(aQ (vI (gD x 0) 1) 0))||(aQ 4 (vI (gD x 0) 1)))
 (.ret (.b false) [])
 (bM x))
def bO(x:LD)(c:D):Sh:=
 .ask (((((!((((aQ (vI c 0) 0)||(aD (iX (gD x 0) 5) (vI c 0)))&&((aQ (vI c 1) 0)||(aD (iX (gD x 0) 6) (vI c 1))))&&(cK (iX (gD x 0) 5) 5)))||((!(vB c 2))&&(!(aD (vI (gD x 0) 3) 0))))||((!(vB c 3))&&(!(aD (vI (gD x 0) 4) 0))))||(aQ (vI (gD x 0) 1) 0))||(aQ 4 (vI (gD x 0) 1)))
 (.ret (.b false) [])
 (.ask (!(aD (vI (gD x 0) 0) 21))
 (.call FX [.i (vI (gD x 0) 0)] 0 λd _=>
 .ask ((!(((aD (vI (gD x 0) 0) 22)||(aD (vI (gD x 0) 0) 23))||(aD (vI (gD x 0) 0) 25)))&&(!(bif (aD (vI (gD x 0) 0) 21)||(D.toB d)then aD (vI (gD x 0) 1) 0 else !(aD (vI (gD x 0) 1) 0))))
 (.ret (.b false) [])
 (.ask (aD (vI (gD x 0) 1) 0)
 (.ret (.b (aD (vI (gD x 0) 2) 0)) [])
 (.ret (.b (cK 1 (vI (gD x 0) 2))) [])))
 (.ask ((!(((aD (vI (gD x 0) 0) 22)||(aD (vI (gD x 0) 0) 23))||(aD (vI (gD x 0) 0) 25)))&&(!(bif (aD (vI (gD x 0) 0) 21)||(D.toB (.i 0))then aD (vI (gD x 0) 1) 0 else !(aD (vI (gD x 0) 1) 0))))
 (.ret (.b false) [])
 (.ask (aD (vI (gD x 0) 1) 0)
 (.ret (.b (aD (vI (gD x 0) 2) 0)) [])
 (.ret (.b (cK 1 (vI (gD x 0) 2))) []))))
def bL(x:LD):Sh:=
 .ask (!(aD (vI (gD x 0) 0) 21))
 (.call FX [.i (vI (gD x 0) 0)] 0 λc _=>
 .ask ((!(((aD (vI (gD x 0) 0) 22)||(aD (vI (gD x 0) 0) 23))||(aD (vI (gD x 0) 0) 25)))&&(!(bif (aD (vI (gD x 0) 0) 21)||(D.toB c)then aD (vI (gD x 0) 1) 0 else !(aD (vI (gD x 0) 1) 0))))
 (.ret (.b false) [])
 (.ask (aD (vI (gD x 0) 1) 0)
 (.ret (.b (aD (vI (gD x 0) 2) 0)) [])
 (.ret (.b (cK 1 (vI (gD x 0) 2))) [])))
 (.ask ((!(((aD (vI (gD x 0) 0) 22)||(aD (vI (gD x 0) 0) 23))||(aD (vI (gD x 0) 0) 25)))&&(!(bif (aD (vI (gD x 0) 0) 21)||(D.toB (.i 0))then aD (vI (gD x 0) 1) 0 else !(aD (vI (gD x 0) 1) 0))))
 (.ret (.b false) [])
 (.ask (aD (vI (gD x 0) 1) 0)
 (.ret (.b (aD (vI (gD x 0) 2) 0)) [])
 (.ret (.b (cK 1 (vI (gD x 0) 2))) [])))
def bU(x:LD):Sh:=
 .ask ((aQ (vI (gD x 0) 0) 1)||(aQ 30 (vI (gD x 0) 0)))
 (.ret (.b false) [])
 (.call PY [.i (vI (gD x 0) 0)] 0 λc _=>
 .ask (aD (vI (gD x 0) 0) 26)
 (.ask (((((!((aD (iX (gD x 0) 5) (iX (gD x 0) 6))&&(cK 1 (iX (gD x 0) 5))))||((!(vB c 2))&&(!(aD (vI (gD x 0) 3) 0))))||((!(vB c 3))&&(!(aD (vI (gD x 0) 4) 0))))||(aQ (vI (gD x 0) 1) 0))||(aQ 4 (vI (gD x 0) 1)))
 (.ret (.b false) [])
 (bL x))
 (.ask (aD (vI (gD x 0) 0) 29)
 (.ask (((((!((((aQ (vI c 0) 0)||(aD (iX (gD x 0) 5) (vI c 0)))&&((aQ (vI c 1) 0)||(aD (iX (gD x 0) 6) (vI c 1))))&&(cK (iX (gD x 0) 5) 1)))||((!(vB c 2))&&(!(aD (vI (gD x 0) 3) 0))))||((!(vB c 3))&&(!(aD (vI (gD x 0) 4) 0))))||(aQ (vI (gD x 0) 1) 0))||(aQ 4 (vI (gD x 0) 1)))
 (.ret (.b false) [])
 (bL x))
 (.ask (aD (vI (gD x 0) 0) 25)
 (.ask (((((!(((((aQ (vI c 0) 0)||(aD (iX (gD x 0) 5) (vI c 0)))&&((aQ (vI c 1) 0)||(aD (iX (gD x 0) 6) (vI c 1))))&&(cK 1 (iX (gD x 0) 5)))&&(cK (iX (gD x 0) 5) 6)))||((!(vB c 2))&&(!(aD (vI (gD x 0) 3) 0))))||((!(vB c 3))&&(!(aD (vI (gD x 0) 4) 0))))||(aQ (vI (gD x 0) 1) 0))||(aQ 4 (vI (gD x 0) 1)))
 (.ret (.b false) [])
 (bL x))
 (.ask (aD (vI (gD x 0) 0) 22)
 (.ask (aD (vI (gD x 0) 0) 22)
 (bO x c)
 (bN x c))
 (.ask (aD (vI (gD x 0) 0) 23)
 (bO x c)
 (bN x c))))))
def JZ(x:LD):Sh:=
 .call NK [.l [.s (D.toS (D.fld (gD x 0) 0)),.b (vB (gD x 0) 1),.l (eX (gD x 0) 2),.i (vI (gD x 0) 3),.l (eX (gD x 0) 4)]] 0 λc _=>
 .ask (Yn (D.els c))
 (.ask ((cK 0 (iX (gD x 0) 4))&&((aD (iX (gD x 0) 4) (iX (gD x 0) 4))&&(jP (Int.toNat (iX (gD x 0) 4)) 1)))
 bC
 bC)
 (.ask ((cK 0 (iX (gD x 0) 4))&&((aD (iX (gD x 0) 4) (iX (gD x 0) 4))&&(jP (Int.toNat (iX (gD x 0) 4)) 1)))
 (.loop 0 [.i (iX (hdD (D.els c)) 5),.i 0,.l (List.replicate (nX (gD x 0) 4) (D.b false)),.l (eX (hdD (D.els c)) 5)] (.cons (λd=>
 .ret (aL d 0) [])
 .nil))
 bC)
def qZ(p:LD):Sh:=
 .ask (aQ (gI p 1) (gI p 0))
 (.ask (aA (gI p 1) (List.length (gL p 3)))
 (.ask (aA (gI p 1) (List.length (gL p 2)))
 (.again [aI p 0,dL p 1,.l (List.set (gL p 2) (tI p 1) (D.b (!(aD (D.toI (gD (gL p 3) (tI p 1))) 0)))),aL p 3])
 bC)
 bC)
 (.out (0,[aL p 2]))
def TT(x:LD):Sh:=
 .ask (kP 0 (pS x 1) (iX (gD x 0) 4))
 (.loop 0 [.i (iX (gD x 0) 2),.i (iL (List.drop 0 (List.take (oQ x 1) (eX (gD x 0) 4)))),.l (List.drop 0 (List.take (oQ x 1) (eX (gD x 0) 4))),.i 0] (.cons (λc=>
 .ret (aI c 0) [])
 .nil))
 bC
def wU(p:LD):Sh:=
 .ask (aQ (gI p 3) (gI p 1))
 (.ask (aA (gI p 3) (List.length (gL p 2)))
 (.loop 2 [.l (D.els (gD (gL p 2) (tI p 3))),aI p 0,aI p 1,.i 0,aL p 2,.i (iE (gD (gL p 2) (tI p 3))),aI p 3] (.cons (λc=>
 .again [aI c 0,aI c 1,aL c 2,dL c 3])
 .nil))
 bC)
 (.out (0,[aI p 0]))
def wV(p:LD):Sh:=
 .ask (aQ (gI p 3) (gI p 5))
 (.ask (aA (gI p 3) (List.length (gL p 0)))
 (.ask (!(aD (vI (gD (gL p 0) (tI p 3)) 1) 0))
 (.again [aL p 0,dL p 1,aI p 2,dL p 3,aL p 4,aI p 5,aI p 6])
 (.again [aL p 0,aI p 1,aI p 2,dL p 3,aL p 4,aI p 5,aI p 6]))
 bC)
 (.out (0,[aI p 1,aI p 2,aL p 4,aI p 6]))
def xT(x:LD):Sh:=
 .ask ((cK 0 (iX (gD x 0) 0))&&((aD (iX (gD x 0) 0) (iX (gD x 0) 0))&&(jP (Int.toNat (iX (gD x 0) 0)) 16)))
 (.loop 0 [.i 0,.i (iX (gD x 0) 0),.l (eX (gD x 0) 0),.l (eX (gD x 0) 1),.l (List.replicate (nX (gD x 0) 0) (D.l [.i 0,.i 0])),.l (eX (gD x 0) 3)] (.cons (λc=>
 .ret (.l []) [.l [aL c 0,aL c 1,aL c 2,aL c 3]])
 .nil))
 bC
def kY(p:LD):Sh:=
 .ask (aQ (gI p 0) (gI p 1))
 (.call vO [.l [aL p 2,aL p 3,aL p 4,aL p 5],aI p 0] 1 λd c=>
 .again [dL p 0,aI p 1,.l (eX (gD c 0) 0),.l (eX (gD c 0) 1),.l (eX (gD c 0) 2),.l (eX (gD c 0) 3)])
 (.out (0,[aL p 2,aL p 3,aL p 4,aL p 5]))
def gK(x:LD):Sh:=
 .loop 0 [.l (D.els (gD x 0)),.b (D.toB (gD x 1)),.i (iE (gD x 0)),.i 0] (.cons (λc=>
 .ret (aI c 0) [])
 (.cons (λc=>
 .ret (.i (-1)) [])
 .nil))
def cZ(p:LD):Sh:=
 .ask (aQ (gI p 3) (gI p 2))
 (.ask (aA (gI p 3) (List.length (gL p 0)))
 (.ask (bif (gB p 1)then D.toB (gD (gL p 0) (tI p 3))else !(D.toB (gD (gL p 0) (tI p 3))))
 (.out (0,[aI p 3]))
 (.again [aL p 0,aB p 1,aI p 2,dL p 3]))
 bC)
 (.out (1,[]))
def TM(x:LD):Sh:=
 .ask ((cK 0 (iX (gD x 0) 4))&&((aD (iX (gD x 0) 4) (iX (gD x 0) 4))&&(jP (Int.toNat (iX (gD x 0) 4)) 24)))
 (.loop 0 [.i (iX (gD x 0) 4),.i 0,.i (iX (gD x 0) 4),.s (D.toS (D.fld (gD x 0) 0)),.b (vB (gD x 0) 1),.l (eX (gD x 0) 2),.i (vI (gD x 0) 3),.l (eX (gD x 0) 4),.l (List.replicate (nX (gD x 0) 4) (D.l []))] (.cons (λc=>
 .call JU [.l [aS c 1,aB c 2,aL c 3,aI c 4,aL c 5]] 0 λe _=>
 .ask ((cK 0 (gI c 0))&&((aD (gI c 0) (gI c 0))&&(jP (tI c 0) 24)))
 (.loop 2 [aI c 0,aI c 0,.i 0,aL c 6,.l (List.replicate (tI c 0) (D.l [])),.l (D.els e)] (.cons (λd=>
 .ret (aL d 0) [])
 .nil))
 bC)
 .nil))
 bC
def wC(p:LD):Sh:=
 .ask (aQ (gI p 1) (gI p 2))
 (.call HM [.l [aS p 3,aB p 4,aL p 5,aI p 6,aL p 7],aI p 1] 0 λc _=>
 .ask (aA (gI p 1) (List.length (gL p 8)))
 (.again [aI p 0,dL p 1,aI p 2,aS p 3,aB p 4,aL p 5,aI p 6,aL p 7,.l (List.set (gL p 8) (tI p 1) (D.l (D.els c)))])
 bC)
 (.out (0,[aI p 0,aS p 3,aB p 4,aL p 5,aI p 6,aL p 7,aL p 8]))
def wD(p:LD):Sh:=
 .ask (aQ (gI p 2) (gI p 1))
 (.ask ((cK 0 (gI p 0))&&((aD (gI p 0) (gI p 0))&&(jP (tI p 0) 1)))
 (.ask (aA (gI p 2) (List.length (gL p 4)))
 (.ask (aA (gI p 2) (List.length (gL p 5)))
 (.ask (!(D.toB (gD (gL p 5) (tI p 2))))
 (.again [aI p 0,aI p 1,dL p 2,aL p 3,.l (List.set (gL p 4) (tI p 2) (D.l (List.replicate (tI p 0) (D.b false)))),aL p 5])
 (.call NM [aL p 3,aI p 2] 0 λd _=>
 .loop 4 [aI p 0,aI p 1,.i 0,aI p 2,aI p 2,aI p 0,aL p 3,.l (List.set (gL p 4) (tI p 2) (D.l (List.replicate (tI p 0) (D.b false)))),aL p 5,.l (D.els d)] (.cons (λc=>
 .again [aI c 0,aI c 1,dL c 2,aL c 3,aL c 4,aL c 5])
 .nil)))
 bC)
 bC)
 bC)
 (.out (0,[aL p 4]))
def wE(p:LD):Sh:=
 .ask (aQ (gI p 2) (gI p 5))
 (.ask (aA (gI p 3) (List.length (gL p 7)))
 (.ask (aA (gI p 2) (List.length (gL p 8)))
 (.ask ((!((D.toB (gD (gL p 8) (tI p 2)))&&true))||(aA (gI p 2) (List.length (gL p 9))))
 (.ask (aA (gI p 2) (nE (gD (gL p 7) (tI p 3))))
 (.again [aI p 0,aI p 1,dL p 2,aI p 3,aI p 4,aI p 5,aL p 6,.l (List.set (gL p 7) (tI p 3) (D.l (List.set (D.els (gD (gL p 7) (tI p 3))) (tI p 2) (D.b ((D.toB (gD (gL p 8) (tI p 2)))&&(!(D.toB (gD (gL p 9) (tI p 2))))))))),aL p 8,aL p 9])
 bC)
 bC)
 bC)
 bC)
 (.out (0,[aI p 0,aI p 1,aI p 4,aL p 6,aL p 7,aL p 8]))
def iR(x:LD):Sh:=
 .ask (Yn (D.els (gD x 0)))
 bC
 (.ask false
 (.ret (.l []) [])
 (.ask (jP (0+(nE (gD x 0))) 16)
 (.ret (.l (D.els (gD x 0))) [])
 bC))
def lZ(x:LD):Sh:=
 .call qE [.l (D.els (gD x 0)),.i (pS x 1)] 0 λc _=>
 .ret (.b (cK 0 (D.toI c))) []
def lD(x:LD):Sh:=
 .ask ((((aQ 14 (iX (gD x 0) 0))||(aQ 14 (iX (gD x 0) 1)))||(aQ 8 (iX (gD x 0) 2)))||(aQ 26 (iX (gD x 0) 3)))
 (.ret (.b false) [])
 (.loop 0 [.i 0,.l (eX (gD x 0) 0),.l (eX (gD x 0) 1),.l (eX (gD x 0) 2),.l (eX (gD x 0) 3)] (.cons (λc=>
 .ret (aB c 0) [])
 (.cons (λc=>
 .loop 2 [.i 0,aL c 0,aL c 1,aL c 2,aL c 3] (.cons (λd=>
 .ret (aB d 0) [])
 (.cons (λd=>
 .loop 4 [.i 0,aL d 0,aL d 1,aL d 2,aL d 3] (.cons (λe=>
 .ret (aB e 0) [])
 (.cons (λe=>
 .loop 6 [.i 0,.i 0,aL e 0,aL e 1,aL e 2,aL e 3] (.cons (λf=>
 .ret (aB f 0) [])
 (.cons (λf=>
 .ret (.b (cK (gI f 0) 160)) [])
 .nil)))
 .nil)))
 .nil)))
 .nil)))
def lV(p:LD):Sh:=
 .ask (aQ (gI p 0) (iL (gL p 1)))
 (.ask (aA (gI p 0) (List.length (gL p 1)))
 (.ask ((!(!(aQ 40 (iL (D.toS (D.fld (gD (gL p 1) (tI p 0)) 0))))))||(aA (gI p 0) (List.length (gL p 1))))
 (.ask ((aQ 40 (iL (D.toS (D.fld (gD (gL p 1) (tI p 0)) 0))))||(aQ 10 (iX (gD (gL p 1) (tI p 0)) 1)))
 (.out (0,[.b false,aL p 1,aL p 2,aL p 3,aL p 4]))
 (.again [dL p 0,aL p 1,aL p 2,aL p 3,aL p 4]))
 bC)
 bC)
 (.out (1,[aL p 1,aL p 2,aL p 3,aL p 4]))
def lW(p:LD):Sh:=
 .ask (aQ (gI p 0) (iL (gL p 2)))
 (.ask (aA (gI p 0) (List.length (gL p 2)))
 (.ask ((!(!(aQ 40 (iL (D.toS (D.fld (gD (gL p 2) (tI p 0)) 0))))))||(aA (gI p 0) (List.length (gL p 2))))
 (.ask ((aQ 40 (iL (D.toS (D.fld (gD (gL p 2) (tI p 0)) 0))))||(aQ 20 (iX (gD (gL p 2) (tI p 0)) 1)))
 (.out (0,[.b false,aL p 1,aL p 2,aL p 3,aL p 4]))
 (.again [dL p 0,aL p 1,aL p 2,aL p 3,aL p 4]))
 bC)
 bC)
 (.out (1,[aL p 1,aL p 2,aL p 3,aL p 4]))
def lX(p:LD):Sh:=
 .ask (aQ (gI p 0) (iL (gL p 3)))
 (.ask (aA (gI p 0) (List.length (gL p 3)))
 (.ask ((!(!(aQ 40 (iL (D.toS (D.fld (gD (gL p 3) (tI p 0)) 0))))))||(aA (gI p 0) (List.length (gL p 3))))
 (.ask ((aQ 40 (iL (D.toS (D.fld (gD (gL p 3) (tI p 0)) 0))))||(aQ 16 (iX (gD (gL p 3) (tI p 0)) 1)))
 (.out (0,[.b false,aL p 1,aL p 2,aL p 3,aL p 4]))
 (.again [dL p 0,aL p 1,aL p 2,aL p 3,aL p 4]))
 bC)
 bC)
 (.out (1,[aL p 1,aL p 2,aL p 3,aL p 4]))
def lY(p:LD):Sh:=
 .ask (aQ (gI p 0) (iL (gL p 5)))
 (.ask (aA (gI p 0) (List.length (gL p 5)))
 (.call TF [.l [.s (D.toS (D.fld (gD (gL p 5) (tI p 0)) 0)),.b (vB (gD (gL p 5) (tI p 0)) 1),.l (eX (gD (gL p 5) (tI p 0)) 2),.i (vI (gD (gL p 5) (tI p 0)) 3),.l (eX (gD (gL p 5) (tI p 0)) 4)]] 0 λc _=>
 .ask (!(D.toB c))
 (.out (0,[.b false,aI p 1]))
 (.ask (aA (gI p 0) (List.length (gL p 5)))
 (.call Gb [.l [.s (D.toS (D.fld (gD (gL p 5) (tI p 0)) 0)),.b (vB (gD (gL p 5) (tI p 0)) 1),.l (eX (gD (gL p 5) (tI p 0)) 2),.i (vI (gD (gL p 5) (tI p 0)) 3),.l (eX (gD (gL p 5) (tI p 0)) 4)]] 0 λd _=>
 .again [dL p 0,.i (bJ .i64 (gI p 1) (D.toI d)),aL p 2,aL p 3,aL p 4,aL p 5])
 bC))
 bC)
 (.out (1,[aI p 1]))
def UA(x:LD):Sh:=
 .ask (!(aD (iE (gD x 0)) (iE (gD x 1))))
 (.ret (.b false) [])
 (.loop 0 [.l (D.els (gD x 0)),.l (D.els (gD x 1)),.i 0] (.cons (λc=>
 .ret (aB c 0) [])
 (.cons (λc=>
 .ret (.b true) [])
 .nil)))
def sW(p:LD):Sh:=
 .ask (aQ (gI p 2) (iL (gL p 0)))
 (.ask (aA (gI p 2) (List.length (gL p 0)))
 (.ask (aA (gI p 2) (List.length (gL p 1)))
 (.call PW [.l (D.els (gD (gL p 0) (tI p 2))),.l (D.els (gD (gL p 1) (tI p 2)))] 0 λc _=>
 .ask (!(D.toB c))
 (.out (0,[.b false]))
 (.again [aL p 0,aL p 1,dL p 2]))
 bC)
 bC)
 (.out (1,[]))
def Av(x:LD):Sh:=
 .ask (!(aD (iE (gD x 0)) (iE (gD x 1))))
 (.ret (.b false) [])
 (.loop 0 [.l (D.els (gD x 0)),.l (D.els (gD x 1)),.i 0] (.cons (λc=>
 .ret (aB c 0) [])
 (.cons (λc=>
 .ret (.b true) [])
 .nil)))
def AZ(p:LD):Sh:=
 .ask (aQ (gI p 2) (iL (gL p 0)))
 (.ask (aA (gI p 2) (List.length (gL p 0)))
 (.ask (aA (gI p 2) (List.length (gL p 1)))
 (.ask (!(aD (D.toI (gD (gL p 0) (tI p 2))) (D.toI (gD (gL p 1) (tI p 2)))))
 (.out (0,[.b false]))
 (.again [aL p 0,aL p 1,dL p 2]))
 bC)
 bC)
 (.out (1,[]))
def TW(x:LD):Sh:=
 .loop 0 [.i 0,.l (eX (gD x 0) 0),.l (eX (gD x 0) 1),.l (eX (gD x 0) 2),.l (eX (gD x 0) 3)] (.cons (λc=>
 .ret (aB c 0) [])
 (.cons (λc=>
 .loop 4 [.i 0,aL c 0,aL c 1,aL c 2,aL c 3] (.cons (λd=>
 .ret (aB d 0) [])
 (.cons (λd=>
 .ret (.b true) [])
 .nil)))
 .nil))
def lE(p:LD):Sh:=
 .ask (aQ (gI p 0) (iL (gL p 1)))
 (.ask (aA (gI p 0) (List.length (gL p 1)))
 (.ask ((aQ (vI (gD (gL p 1) (tI p 0)) 2) 0)||(aQ 2 (vI (gD (gL p 1) (tI p 0)) 2)))
 (.out (0,[.b false,aL p 1,aL p 2,aL p 3,aL p 4]))
 (.loop 2 [aI p 0,.i 0,aL p 1,aL p 2,aL p 3,aL p 4,.s (D.toS (D.fld (gD (gL p 1) (tI p 0)) 0)),.l (eX (gD (gL p 1) (tI p 0)) 1),.i (vI (gD (gL p 1) (tI p 0)) 2)] (.cons (λc=>
 .out (0,[aB c 1,aL c 2,aL c 3,aL c 4,aL c 5]))
 (.cons (λc=>
 .again [.i (bJ .i64 (gI c 0) 1),aL c 1,aL c 2,aL c 3,aL c 4])
 .nil))))
 (.bad))
 (.out (1,[aL p 1,aL p 2,aL p 3,aL p 4]))
def pA(p:LD):Sh:=
 .ask (aQ (gI p 1) (iL (gL p 7)))
 (.ask (aA (gI p 1) (List.length (gL p 7)))
 (.ask ((!((!(aD (D.toI (gD (gL p 7) (tI p 1))) 1))&&true))||(aA (gI p 1) (List.length (gL p 7))))
 (.ask ((!(aD (D.toI (gD (gL p 7) (tI p 1))) 1))&&(!(aD (D.toI (gD (gL p 7) (tI p 1))) 2)))
 (.out (0,[aI p 0,.b false,aL p 2,aL p 3,aL p 4,aL p 5]))
 (.again [aI p 0,.i (bJ .i64 (gI p 1) 1),aL p 2,aL p 3,aL p 4,aL p 5,aS p 6,aL p 7,aI p 8]))
 (.bad))
 (.bad))
 (.out (1,[aI p 0,aL p 2,aL p 3,aL p 4,aL p 5]))
def jB(p:LD):Sh:=
 .ask (aQ (gI p 0) (iL (gL p 4)))
 (.ask (aA (gI p 0) (List.length (gL p 4)))
 (.ask ((((aQ (vI (gD (gL p 4) (tI p 0)) 3) 0)||(aQ 4 (vI (gD (gL p 4) (tI p 0)) 3)))||(aD (vI (gD (gL p 4) (tI p 0)) 3) 3))||((vB (gD (gL p 4) (tI p 0)) 1)&&(aQ 2 (vI (gD (gL p 4) (tI p 0)) 3))))
 (.out (0,[.b false]))
 (.loop 6 [.i 0,aI p 0,aL p 1,aL p 2,aL p 3,aL p 4,.s (D.toS (D.fld (gD (gL p 4) (tI p 0)) 0)),.b (vB (gD (gL p 4) (tI p 0)) 1),.l (eX (gD (gL p 4) (tI p 0)) 2),.i (vI (gD (gL p 4) (tI p 0)) 3),.l (eX (gD (gL p 4) (tI p 0)) 4)] (.cons (λc=>
 .out (0,[aB c 0]))
 (.cons (λc=>
 .loop 8 [.i 0,aI c 0,aL c 1,aL c 2,aL c 3,aL c 4,aS c 5,aB c 6,aL c 7,aI c 8,aL c 9] (.cons (λd=>
 .out (0,[aB d 0]))
 (.cons (λd=>
 .again [.i (bJ .i64 (gI d 0) 1),aL d 1,aL d 2,aL d 3,aL d 4])
 .nil)))
 .nil))))
 (.bad))
 (.out (1,[]))
def pB(p:LD):Sh:=
 .ask (aQ (gI p 0) (iL (gL p 8)))
 (.ask (aA (gI p 0) (List.length (gL p 8)))
 (.ask ((!(!(aQ (D.toI (gD (gL p 8) (tI p 0))) 1)))||(aA (gI p 0) (List.length (gL p 8))))
 (.ask ((!((!((aQ (D.toI (gD (gL p 8) (tI p 0))) 1)||(aQ 4 (D.toI (gD (gL p 8) (tI p 0))))))&&((gB p 7)&&true)))||(aA (gI p 0) (List.length (gL p 8))))
 (.ask (((aQ (D.toI (gD (gL p 8) (tI p 0))) 1)||(aQ 4 (D.toI (gD (gL p 8) (tI p 0)))))||((gB p 7)&&(aQ 2 (D.toI (gD (gL p 8) (tI p 0))))))
 (.out (0,[.b false,aI p 1,aL p 2,aL p 3,aL p 4,aL p 5,aS p 6,aB p 7,aL p 8,aI p 9,aL p 10]))
 (.again [.i (bJ .i64 (gI p 0) 1),aI p 1,aL p 2,aL p 3,aL p 4,aL p 5,aS p 6,aB p 7,aL p 8,aI p 9,aL p 10]))
 (.bad))
 (.bad))
 (.bad))
 (.out (1,[aI p 1,aL p 2,aL p 3,aL p 4,aL p 5,aS p 6,aB p 7,aL p 8,aI p 9,aL p 10]))
def pC(p:LD):Sh:=
 .ask (aQ (gI p 0) (iL (gL p 10)))
 (.loop 10 [aI p 0,aI p 1,.i 0,aL p 2,aL p 3,aL p 4,aL p 5,aS p 6,aB p 7,aL p 8,aI p 9,aL p 10] (.cons (λc=>
 .out (0,[aB c 1,aI c 2,aL c 3,aL c 4,aL c 5,aL c 6]))
 (.cons (λc=>
 .again [.i (bJ .i64 (gI c 0) 1),aI c 1,aL c 2,aL c 3,aL c 4,aL c 5,aS c 6,aB c 7,aL c 8,aI c 9,aL c 10])
 .nil)))
 (.out (1,[aI p 1,aL p 2,aL p 3,aL p 4,aL p 5]))
def nO(p:LD):Sh:=
 .ask (aA (gI p 0) (List.length (gL p 11)))
 (.ask (aQ (gI p 2) (iE (gD (gL p 11) (tI p 0))))
 (.ask (aA (gI p 0) (List.length (gL p 11)))
 (.ask (aA (gI p 2) (nE (gD (gL p 11) (tI p 0))))
 (.call Ue [.l [.i (vI (gE (gD (gL p 11) (tI p 0)) (tI p 2)) 0),.i (vI (gE (gD (gL p 11) (tI p 0)) (tI p 2)) 1),.i (vI (gE (gD (gL p 11) (tI p 0)) (tI p 2)) 2),.i (vI (gE (gD (gL p 11) (tI p 0)) (tI p 2)) 3),.i (vI (gE (gD (gL p 11) (tI p 0)) (tI p 2)) 4),.l (eX (gE (gD (gL p 11) (tI p 0)) (tI p 2)) 5),.l (eX (gE (gD (gL p 11) (tI p 0)) (tI p 2)) 6)]] 0 λc _=>
 .ask (!(D.toB c))
 (.out (0,[aI p 0,.b false,aI p 1,aL p 3,aL p 4,aL p 5,aL p 6,aS p 7,aB p 8,aL p 9,aI p 10,aL p 11]))
 (.again [aI p 0,aI p 1,.i (bJ .i64 (gI p 2) 1),aL p 3,aL p 4,aL p 5,aL p 6,aS p 7,aB p 8,aL p 9,aI p 10,aL p 11]))
 (.bad))
 (.bad))
 (.out (1,[aI p 0,aI p 1,aL p 3,aL p 4,aL p 5,aL p 6,aS p 7,aB p 8,aL p 9,aI p 10,aL p 11])))
 (.bad)
def Ap(x:LD):Sh:=
 .loop 0 [.i (iX (gD x 0) 2),.i 0,.s (D.toS (D.fld (gD x 0) 0)),.b (vB (gD x 0) 1),.l (eX (gD x 0) 2),.i (vI (gD x 0) 3),.l (eX (gD x 0) 4)] (.cons (λc=>
 .ret (aB c 1) [])
 (.cons (λc=>
 .call Ke [.l [aS c 1,aB c 2,aL c 3,aI c 4,aL c 5]] 0 λe _=>
 .call Ug [.l [aS c 1,aB c 2,aL c 3,aI c 4,aL c 5]] 0 λf _=>
 .loop 4 [aI c 0,.i 0,aS c 1,aB c 2,aL c 3,aI c 4,aL c 5,.l (D.els e),.l (D.els f)] (.cons (λd=>
 .ret (aB d 0) [])
 (.cons (λd=>
 .ret (.b true) [])
 .nil)))
 .nil))
def uR(p:LD):Sh:=
 .ask (aQ (gI p 1) (iL (gL p 6)))
 (.loop 2 [aI p 0,.i 0,aI p 1,aS p 2,aB p 3,aL p 4,aI p 5,aL p 6] (.cons (λc=>
 .out (0,[aI c 0,aB c 1,aS c 3,aB c 4,aL c 5,aI c 6,aL c 7]))
 (.cons (λc=>
 .again [aI c 0,dL c 1,aS c 2,aB c 3,aL c 4,aI c 5,aL c 6])
 .nil)))
 (.out (1,[aI p 0,aS p 2,aB p 3,aL p 4,aI p 5,aL p 6]))
def uS(p:LD):Sh:=
 .ask (aA (gI p 2) (List.length (gL p 7)))
 (.ask (aQ (gI p 1) (iE (gD (gL p 7) (tI p 2))))
 (.ask (aA (gI p 2) (List.length (gL p 7)))
 (.ask (aA (gI p 1) (nE (gD (gL p 7) (tI p 2))))
 (.ask (!(aD (vI (gE (gD (gL p 7) (tI p 2)) (tI p 1)) 1) 0))
 (.ask (!(aD (vI (gE (gD (gL p 7) (tI p 2)) (tI p 1)) 2) (bJ .i64 (gI p 0) 1)))
 (.out (0,[dL p 0,.b false,aI p 2,aS p 3,aB p 4,aL p 5,aI p 6,aL p 7]))
 (.again [dL p 0,dL p 1,aI p 2,aS p 3,aB p 4,aL p 5,aI p 6,aL p 7]))
 (.again [aI p 0,dL p 1,aI p 2,aS p 3,aB p 4,aL p 5,aI p 6,aL p 7]))
 bC)
 bC)
 (.out (1,[aI p 0,aI p 2,aS p 3,aB p 4,aL p 5,aI p 6,aL p 7])))
 bC
def AL(p:LD):Sh:=
 .ask (aQ (gI p 1) (iL (gL p 6)))
 (.loop 6 [aI p 0,aI p 1,.i 0,aS p 2,aB p 3,aL p 4,aI p 5,aL p 6,aL p 7,aL p 8] (.cons (λc=>
 .out (0,[aB c 2]))
 (.cons (λc=>
 .again [aI c 0,dL c 1,aS c 2,aB c 3,aL c 4,aI c 5,aL c 6,aL c 7,aL c 8])
 .nil)))
 (.out (1,[]))
def AM(p:LD):Sh:=
 .ask (aA (gI p 1) (List.length (gL p 7)))
 (.ask (aQ (gI p 2) (iE (gD (gL p 7) (tI p 1))))
 (.ask (aA (gI p 1) (List.length (gL p 7)))
 (.ask (aA (gI p 2) (nE (gD (gL p 7) (tI p 1))))
 (.loop 8 [aI p 0,aI p 1,.i 0,aI p 2,aS p 3,aB p 4,aL p 5,aI p 6,aL p 7,.i (vI (gE (gD (gL p 7) (tI p 1)) (tI p 2)) 0),.i (vI (gE (gD (gL p 7) (tI p 1)) (tI p 2)) 1),.i (vI (gE (gD (gL p 7) (tI p 1)) (tI p 2)) 2),.i (vI (gE (gD (gL p 7) (tI p 1)) (tI p 2)) 3),.i (vI (gE (gD (gL p 7) (tI p 1)) (tI p 2)) 4),.l (eX (gE (gD (gL p 7) (tI p 1)) (tI p 2)) 5),.l (eX (gE (gD (gL p 7) (tI p 1)) (tI p 2)) 6),aL p 8,aL p 9] (.cons (λc=>
 .out (0,[aI c 0,aI c 1,aB c 2,aS c 4,aB c 5,aL c 6,aI c 7,aL c 8,aL c 9,aL c 10]))
 (.cons (λc=>
 .again [aI c 0,aI c 1,dL c 2,aS c 3,aB c 4,aL c 5,aI c 6,aL c 7,aL c 8,aL c 9])
 .nil)))
 bC)
 bC)
 (.out (1,[aI p 0,aI p 1,aS p 3,aB p 4,aL p 5,aI p 6,aL p 7,aL p 8,aL p 9])))
 bC
def AN(p:LD):Sh:=
 .ask (aQ (gI p 2) (iL (gL p 14)))
 (.ask (aA (gI p 2) (List.length (gL p 14)))
 (.ask ((aQ (D.toI (gD (gL p 14) (tI p 2))) 1)||(aQ (gI p 0) (D.toI (gD (gL p 14) (tI p 2)))))
 (.out (0,[aI p 0,aI p 1,.b false,aI p 3,aS p 4,aB p 5,aL p 6,aI p 7,aL p 8,aL p 16,aL p 17]))
 (.ask (aA (D.toI (gD (gL p 14) (tI p 2))) (List.length (gL p 16)))
 (.ask (aA 0 2)
 (.ask (aQ (vI (gD (gL p 16) (Int.toNat (D.toI (gD (gL p 14) (tI p 2))))) 0) 0)
 (.again [aI p 0,aI p 1,dL p 2,aI p 3,aS p 4,aB p 5,aL p 6,aI p 7,aL p 8,aI p 9,aI p 10,aI p 11,aI p 12,aI p 13,aL p 14,aL p 15,aL p 16,aL p 17])
 (.ask (aD (gI p 9) 26)
 (.ask (aA 0 2)
 (.ask (aA (vI (gD (gL p 16) (Int.toNat (D.toI (gD (gL p 14) (tI p 2))))) 0) (List.length (gL p 17)))
 (.ask (aA (gI p 2) (List.length (gL p 15)))
 (.ask (aA (D.toI (gD (gL p 15) (tI p 2))) (nE (gD (gL p 17) (Int.toNat (vI (gD (gL p 16) (Int.toNat (D.toI (gD (gL p 14) (tI p 2))))) 0)))))
 (.ask (!(D.toB (gE (gD (gL p 17) (Int.toNat (vI (gD (gL p 16) (Int.toNat (D.toI (gD (gL p 14) (tI p 2))))) 0))) (Int.toNat (D.toI (gD (gL p 15) (tI p 2)))))))
 (.out (0,[aI p 0,aI p 1,.b false,aI p 3,aS p 4,aB p 5,aL p 6,aI p 7,aL p 8,aL p 16,aL p 17]))
 (.again [aI p 0,aI p 1,dL p 2,aI p 3,aS p 4,aB p 5,aL p 6,aI p 7,aL p 8,aI p 9,aI p 10,aI p 11,aI p 12,aI p 13,aL p 14,aL p 15,aL p 16,aL p 17]))
 bC)
 bC)
 bC)
 bC)
 (.ask (aA 0 2)
 (.ask ((!((aD (vI (gD (gL p 16) (Int.toNat (D.toI (gD (gL p 14) (tI p 2))))) 0) (gI p 1))&&true))||(aA 1 2))
 (.ask ((!(!((aD (vI (gD (gL p 16) (Int.toNat (D.toI (gD (gL p 14) (tI p 2))))) 0) (gI p 1))&&(cK (gI p 3) (vI (gD (gL p 16) (Int.toNat (D.toI (gD (gL p 14) (tI p 2))))) 1)))))||(aA 0 2))
 (.ask ((!((!((aD (vI (gD (gL p 16) (Int.toNat (D.toI (gD (gL p 14) (tI p 2))))) 0) (gI p 1))&&(cK (gI p 3) (vI (gD (gL p 16) (Int.toNat (D.toI (gD (gL p 14) (tI p 2))))) 1))))&&((!(aD (vI (gD (gL p 16) (Int.toNat (D.toI (gD (gL p 14) (tI p 2))))) 0) (gI p 1)))&&true)))||(aA 0 2))
 (.ask ((!((!((aD (vI (gD (gL p 16) (Int.toNat (D.toI (gD (gL p 14) (tI p 2))))) 0) (gI p 1))&&(cK (gI p 3) (vI (gD (gL p 16) (Int.toNat (D.toI (gD (gL p 14) (tI p 2))))) 1))))&&((!(aD (vI (gD (gL p 16) (Int.toNat (D.toI (gD (gL p 14) (tI p 2))))) 0) (gI p 1)))&&true)))||(aA (vI (gD (gL p 16) (Int.toNat (D.toI (gD (gL p 14) (tI p 2))))) 0) (List.length (gL p 17))))
 (.ask ((!((!((aD (vI (gD (gL p 16) (Int.toNat (D.toI (gD (gL p 14) (tI p 2))))) 0) (gI p 1))&&(cK (gI p 3) (vI (gD (gL p 16) (Int.toNat (D.toI (gD (gL p 14) (tI p 2))))) 1))))&&((!(aD (vI (gD (gL p 16) (Int.toNat (D.toI (gD (gL p 14) (tI p 2))))) 0) (gI p 1)))&&true)))||(aA (gI p 1) (nE (gD (gL p 17) (Int.toNat (vI (gD (gL p 16) (Int.toNat (D.toI (gD (gL p 14) (tI p 2))))) 0))))))
 (.ask (((aD (vI (gD (gL p 16) (Int.toNat (D.toI (gD (gL p 14) (tI p 2))))) 0) (gI p 1))&&(cK (gI p 3) (vI (gD (gL p 16) (Int.toNat (D.toI (gD (gL p 14) (tI p 2))))) 1)))||((!(aD (vI (gD (gL p 16) (Int.toNat (D.toI (gD (gL p 14) (tI p 2))))) 0) (gI p 1)))&&(!(D.toB (gE (gD (gL p 17) (Int.toNat (vI (gD (gL p 16) (Int.toNat (D.toI (gD (gL p 14) (tI p 2))))) 0))) (tI p 1))))))
 (.out (0,[aI p 0,aI p 1,.b false,aI p 3,aS p 4,aB p 5,aL p 6,aI p 7,aL p 8,aL p 16,aL p 17]))
 (.again [aI p 0,aI p 1,dL p 2,aI p 3,aS p 4,aB p 5,aL p 6,aI p 7,aL p 8,aI p 9,aI p 10,aI p 11,aI p 12,aI p 13,aL p 14,aL p 15,aL p 16,aL p 17]))
 bC)
 bC)
 bC)
 bC)
 bC)
 bC)))
 bC)
 bC))
 bC)
 (.out (1,[aI p 0,aI p 1,aI p 3,aS p 4,aB p 5,aL p 6,aI p 7,aL p 8,aL p 16,aL p 17]))
def Eb(x:LD):Sh:=
 .call Ca [.l [.s (D.toS (D.fld (gD x 0) 0)),.b (vB (gD x 0) 1),.l (eX (gD x 0) 2),.i (vI (gD x 0) 3),.l (eX (gD x 0) 4)]] 0 λc _=>
 .ask ((cK 0 (bJ .i64 (D.toI c) 1))&&((aD (bJ .i64 (D.toI c) 1) (bJ .i64 (D.toI c) 1))&&(jP (Int.toNat (bJ .i64 (D.toI c) 1)) 8)))
 (.loop 0 [.l (eX (gD x 0) 4),.i 0,.i (iX (gD x 0) 4),.l (List.replicate (Int.toNat (bJ .i64 (D.toI c) 1)) (D.i 0))] (.cons (λd=>
 .ret (aL d 0) [])
 .nil))
 bC
def yY(p:LD):Sh:=
 .ask (aQ (gI p 1) (gI p 2))
 (.ask (aA (gI p 1) (List.length (gL p 0)))
 (.loop 2 [aL p 0,.i (iE (gD (gL p 0) (tI p 1))),aI p 1,aI p 2,.i 0,.l (D.els (gD (gL p 0) (tI p 1))),aL p 3] (.cons (λc=>
 .again [aL c 0,dL c 1,aI c 2,aL c 3])
 .nil))
 bC)
 (.out (0,[aL p 3]))
def zN(p:LD):Sh:=
 .ask (aQ (gI p 4) (gI p 1))
 (.ask (aA (gI p 4) (List.length (gL p 5)))
 (.loop 4 [aL p 0,.i 0,aI p 1,aI p 2,.l (eX (gD (gL p 5) (tI p 4)) 5),aI p 3,aI p 4,aL p 5,.i (iX (gD (gL p 5) (tI p 4)) 5),aL p 6] (.cons (λc=>
 .again [aL c 0,aI c 1,aI c 2,aI c 3,dL c 4,aL c 5,aL c 6])
 .nil))
 bC)
 (.out (0,[aL p 0,aI p 2,aI p 3,aL p 6]))
def AA(p:LD):Sh:=
 .ask (aQ (gI p 1) (gI p 8))
 (.ask (aA (gI p 1) (List.length (gL p 4)))
 (.ask ((cK 0 (D.toI (gD (gL p 4) (tI p 1))))&&(aQ (D.toI (gD (gL p 4) (tI p 1))) (iL (gL p 9))))
 (.ask (aA (D.toI (gD (gL p 4) (tI p 1))) (List.length (gL p 9)))
 (.ask (aA (D.toI (gD (gL p 4) (tI p 1))) (List.length (gL p 9)))
 (.again [aL p 0,dL p 1,aI p 2,aI p 3,aL p 4,aI p 5,aI p 6,aL p 7,aI p 8,.l (List.set (gL p 9) (Int.toNat (D.toI (gD (gL p 4) (tI p 1)))) (D.i (bJ .i64 (D.toI (gD (gL p 9) (Int.toNat (D.toI (gD (gL p 4) (tI p 1)))))) 1)))])
 bC)
 bC)
 (.again [aL p 0,dL p 1,aI p 2,aI p 3,aL p 4,aI p 5,aI p 6,aL p 7,aI p 8,aL p 9]))
 bC)
 (.out (0,[aL p 0,aI p 2,aI p 3,aI p 5,aI p 6,aL p 7,aL p 9]))
def aAi(x:LD):Sh:=
 .ret (.b ((cK 27 (D.toI (gD x 0)))&&(cK (D.toI (gD x 0)) 30))) []
def An(x:LD):Sh:=
 .ask ((cK 0 (iX (gD x 0) 4))&&((aD (iX (gD x 0) 4) (iX (gD x 0) 4))&&(jP (Int.toNat (iX (gD x 0) 4)) 24)))
 (.call XM [.l [.s (D.toS (D.fld (gD x 0) 0)),.b (vB (gD x 0) 1),.l (eX (gD x 0) 2),.i (vI (gD x 0) 3),.l (eX (gD x 0) 4)]] 0 λd _=>
 .loop 0 [.i 0,.s (D.toS (D.fld (gD x 0) 0)),.b (vB (gD x 0) 1),.l (eX (gD x 0) 2),.i (vI (gD x 0) 3),.l (eX (gD x 0) 4),.l (List.replicate (nX (gD x 0) 4) (D.l [])),.l (D.els d)] (.cons (λc=>
 .ret (aL c 0) [])
 .nil))
 bC
def AI(p:LD):Sh:=
 .ask (aQ (gI p 0) (iL (gL p 6)))
 (.ask ((cK 0 (iL (gL p 7)))&&((aD (iL (gL p 7)) (iL (gL p 7)))&&(jP (Int.toNat (iL (gL p 7))) 1)))
 (.ask (aA (gI p 0) (List.length (gL p 6)))
 (.ask (aA (gI p 0) (List.length (gL p 7)))
 (.ask (!(D.toB (gD (gL p 7) (tI p 0))))
 (.again [dL p 0,aS p 1,aB p 2,aL p 3,aI p 4,aL p 5,.l (List.set (gL p 6) (tI p 0) (D.l (List.replicate (List.length (gL p 7)) (D.b false)))),aL p 7])
 (.call Ge [.l [aS p 1,aB p 2,aL p 3,aI p 4,aL p 5],.i 0,aI p 0] 0 λd _=>
 .loop 2 [.i 0,aI p 0,aS p 1,aB p 2,aL p 3,aI p 4,aL p 5,.l (List.set (gL p 6) (tI p 0) (D.l (List.replicate (List.length (gL p 7)) (D.b false)))),aL p 7,.l (D.els d)] (.cons (λc=>
 .again [dL c 0,aS c 1,aB c 2,aL c 3,aI c 4,aL c 5,aL c 6,aL c 7])
 .nil)))
 bC)
 bC)
 bC)
 (.out (0,[aL p 6]))
def AJ(p:LD):Sh:=
 .ask (aQ (gI p 0) (iL (gL p 8)))
 (.ask (aA (gI p 1) (List.length (gL p 7)))
 (.ask (aA (gI p 0) (List.length (gL p 8)))
 (.ask ((!(((D.toB (gD (gL p 8) (tI p 0)))&&true)&&(!(aD (gI p 1) (gI p 0)))))||(aA (gI p 0) (List.length (gL p 9))))
 (.ask (aA (gI p 0) (nE (gD (gL p 7) (tI p 1))))
 (.again [dL p 0,aI p 1,aS p 2,aB p 3,aL p 4,aI p 5,aL p 6,.l (List.set (gL p 7) (tI p 1) (D.l (List.set (D.els (gD (gL p 7) (tI p 1))) (tI p 0) (D.b ((D.toB (gD (gL p 8) (tI p 0)))&&((aD (gI p 1) (gI p 0))||(!(D.toB (gD (gL p 9) (tI p 0)))))))))),aL p 8,aL p 9])
 bC)
 bC)
 bC)
 bC)
 (.out (0,[aI p 1,aS p 2,aB p 3,aL p 4,aI p 5,aL p 6,aL p 7,aL p 8]))
def OC(x:LD):Sh:=
 .loop 0 [.i (iX (gD x 0) 0),.l (eX (gD x 0) 0),.i 0,.l (eX (gD x 0) 0),.l (eX (gD x 0) 1),.l (eX (gD x 0) 2),.l (eX (gD x 0) 3)] (.cons (λc=>
 .ret (aB c 0) [])
 (.cons (λc=>
 .loop 4 [.i (iL (gL c 3)),aL c 3,.i 0] (.cons (λd=>
 .ret (aB d 0) [])
 (.cons (λd=>
 .ret (.b true) [])
 .nil)))
 .nil))
def iC(p:LD):Sh:=
 .ask (aQ (gI p 2) (gI p 0))
 (.ask (aA (gI p 2) (List.length (gL p 1)))
 (.loop 2 [.l (eX (gD (gL p 1) (tI p 2)) 1),aI p 0,.i 0,aL p 1,.i (iX (gD (gL p 1) (tI p 2)) 1),aI p 2,aL p 3,aL p 4,aL p 5,aL p 6,.s (D.toS (D.fld (gD (gL p 1) (tI p 2)) 0)),.l (eX (gD (gL p 1) (tI p 2)) 1),.i (vI (gD (gL p 1) (tI p 2)) 2)] (.cons (λc=>
 .out (0,[aB c 1,aL c 4,aL c 5,aL c 6,aL c 7]))
 (.cons (λc=>
 .ask ((!(aD (gI c 9) 0))&&true)
 (.call CQ [aI c 9] 0 λd _=>
 .ask ((!(aD (gI c 9) 0))&&(!(D.toB d)))
 (.out (0,[.b false,aL c 3,aL c 4,aL c 5,aL c 6]))
 (.again [aI c 0,aL c 1,dL c 2,aL c 3,aL c 4,aL c 5,aL c 6]))
 (.ask ((!(aD (gI c 9) 0))&&(!(D.toB (.i 0))))
 (.out (0,[.b false,aL c 3,aL c 4,aL c 5,aL c 6]))
 (.again [aI c 0,aL c 1,dL c 2,aL c 3,aL c 4,aL c 5,aL c 6])))
 .nil)))
 bC)
 (.out (1,[aL p 3,aL p 4,aL p 5,aL p 6]))
def nP(p:LD):Sh:=
 .ask (aQ (gI p 2) (gI p 4))
 (.ask (aA (gI p 2) (List.length (gL p 0)))
 (.call CQ [.i (D.toI (gD (gL p 0) (tI p 2)))] 0 λc _=>
 .ask (!(D.toB c))
 (.out (0,[aI p 1,.b false,aL p 3,aI p 5,aL p 6,aL p 7,aL p 8,aL p 9,aS p 10,aL p 11,aI p 12]))
 (.again [aL p 0,aI p 1,dL p 2,aL p 3,aI p 4,aI p 5,aL p 6,aL p 7,aL p 8,aL p 9,aS p 10,aL p 11,aI p 12]))
 bC)
 (.out (1,[aI p 1,aL p 3,aI p 5,aL p 6,aL p 7,aL p 8,aL p 9,aS p 10,aL p 11,aI p 12]))
def dX(p:LD):Sh:=
 .ask (aQ (gI p 2) (gI p 0))
 (.ask (aA (gI p 2) (List.length (gL p 1)))
 (.ask ((!(aD (vI (gD (gL p 1) (tI p 2)) 3) 0))&&true)
 (.call CQ [.i (vI (gD (gL p 1) (tI p 2)) 3)] 0 λf _=>
 .ask (((!(aD (vI (gD (gL p 1) (tI p 2)) 3) 0))&&(!(D.toB f)))&&((!(aD (vI (gD (gL p 1) (tI p 2)) 3) 4))||(vB (gD (gL p 1) (tI p 2)) 1)))
 (.out (0,[.b false]))
 (.loop 6 [.i 0,.l (eX (gD (gL p 1) (tI p 2)) 2),aI p 0,aL p 1,.i (iX (gD (gL p 1) (tI p 2)) 2),aI p 2,.s (D.toS (D.fld (gD (gL p 1) (tI p 2)) 0)),.b (vB (gD (gL p 1) (tI p 2)) 1),.l (eX (gD (gL p 1) (tI p 2)) 2),.i (vI (gD (gL p 1) (tI p 2)) 3),.l (eX (gD (gL p 1) (tI p 2)) 4)] (.cons (λc=>
 .out (0,[aB c 1]))
 (.cons (λc=>
 .loop 8 [aI c 0,.i (iL (gL c 7)),aL c 1,aL c 7,aI c 2,.i 0] (.cons (λe=>
 .out (0,[aB e 1]))
 (.cons (λe=>
 .again [aI e 0,aL e 1,dL e 2])
 .nil)))
 .nil))))
 (.ask (((!(aD (vI (gD (gL p 1) (tI p 2)) 3) 0))&&(!(D.toB (.i 0))))&&((!(aD (vI (gD (gL p 1) (tI p 2)) 3) 4))||(vB (gD (gL p 1) (tI p 2)) 1)))
 (.out (0,[.b false]))
 (.loop 6 [.i 0,.l (eX (gD (gL p 1) (tI p 2)) 2),aI p 0,aL p 1,.i (iX (gD (gL p 1) (tI p 2)) 2),aI p 2,.s (D.toS (D.fld (gD (gL p 1) (tI p 2)) 0)),.b (vB (gD (gL p 1) (tI p 2)) 1),.l (eX (gD (gL p 1) (tI p 2)) 2),.i (vI (gD (gL p 1) (tI p 2)) 3),.l (eX (gD (gL p 1) (tI p 2)) 4)] (.cons (λd=>
 .out (0,[aB d 1]))
 (.cons (λd=>
 .loop 8 [aI d 0,.i (iL (gL d 7)),aL d 1,aL d 7,aI d 2,.i 0] (.cons (λc=>
 .out (0,[aB c 1]))
 (.cons (λc=>
 .again [aI c 0,aL c 1,dL c 2])
 .nil)))
 .nil)))))
 bC)
 (.out (1,[]))
def iF(p:LD):Sh:=
 .ask (aQ (gI p 0) (gI p 4))
 (.ask (aA (gI p 0) (List.length (gL p 1)))
 (.ask ((!((aQ (D.toI (gD (gL p 1) (tI p 0))) 1)||(aQ 4 (D.toI (gD (gL p 1) (tI p 0))))))&&((gB p 7)&&true))
 (.call CQ [.i (D.toI (gD (gL p 1) (tI p 0)))] 0 λc _=>
 .ask (((aQ (D.toI (gD (gL p 1) (tI p 0))) 1)||(aQ 4 (D.toI (gD (gL p 1) (tI p 0)))))||((gB p 7)&&(!(D.toB c))))
 (.out (0,[aI p 2,.b false,aL p 3,aI p 5,aS p 6,aB p 7,aL p 8,aI p 9,aL p 10]))
 (.again [dL p 0,aL p 1,aI p 2,aL p 3,aI p 4,aI p 5,aS p 6,aB p 7,aL p 8,aI p 9,aL p 10]))
 (.ask (((aQ (D.toI (gD (gL p 1) (tI p 0))) 1)||(aQ 4 (D.toI (gD (gL p 1) (tI p 0)))))||((gB p 7)&&(!(D.toB (.i 0)))))
 (.out (0,[aI p 2,.b false,aL p 3,aI p 5,aS p 6,aB p 7,aL p 8,aI p 9,aL p 10]))
 (.again [dL p 0,aL p 1,aI p 2,aL p 3,aI p 4,aI p 5,aS p 6,aB p 7,aL p 8,aI p 9,aL p 10])))
 bC)
 (.out (1,[aI p 2,aL p 3,aI p 5,aS p 6,aB p 7,aL p 8,aI p 9,aL p 10]))
def nQ(p:LD):Sh:=
 .ask (aQ (gI p 5) (gI p 1))
 (.ask (aA (gI p 5) (List.length (gL p 3)))
 (.loop 10 [.l (D.els (gD (gL p 3) (tI p 5))),.i 0,aI p 0,aI p 1,.i (iE (gD (gL p 3) (tI p 5))),aL p 2,aL p 3,aI p 4,aI p 5] (.cons (λc=>
 .out (0,[aI c 0,aB c 2,aL c 3,aI c 5]))
 (.cons (λc=>
 .again [aI c 0,aI c 1,aL c 2,aL c 3,aI c 4,dL c 5])
 .nil)))
 bC)
 (.out (1,[aI p 0,aL p 2,aI p 4]))
def mB(p:LD):Sh:=
 .ask (aQ (gI p 1) (gI p 4))
 (.ask (aA (gI p 1) (List.length (gL p 0)))
 (.call Af [.l [.i (vI (gD (gL p 0) (tI p 1)) 0),.i (vI (gD (gL p 0) (tI p 1)) 1),.i (vI (gD (gL p 0) (tI p 1)) 2),.i (vI (gD (gL p 0) (tI p 1)) 3),.i (vI (gD (gL p 0) (tI p 1)) 4),.l (eX (gD (gL p 0) (tI p 1)) 5),.l (eX (gD (gL p 0) (tI p 1)) 6)]] 0 λc _=>
 .ask (!(D.toB c))
 (.out (0,[aI p 2,aI p 3,.b false,aL p 5,aL p 6,aI p 7,aI p 8]))
 (.again [aL p 0,dL p 1,aI p 2,aI p 3,aI p 4,aL p 5,aL p 6,aI p 7,aI p 8]))
 bC)
 (.out (1,[aI p 2,aI p 3,aL p 5,aL p 6,aI p 7,aI p 8]))
def Au(x:LD):Sh:=
 .ask ((cK 0 (bJ .i64 (iX (gD x 0) 2) 1))&&((aD (bJ .i64 (iX (gD x 0) 2) 1) (bJ .i64 (iX (gD x 0) 2) 1))&&(jP (Int.toNat (bJ .i64 (iX (gD x 0) 2) 1)) 8)))
 (.loop 0 [.i (iX (gD x 0) 2),.i (iX (gD x 0) 4),.l (eX (gD x 0) 4),.i 0,.s (D.toS (D.fld (gD x 0) 0)),.b (vB (gD x 0) 1),.l (eX (gD x 0) 2),.i (vI (gD x 0) 3),.l (eX (gD x 0) 4),.l (List.replicate (Int.toNat (bJ .i64 (iX (gD x 0) 2) 1)) (D.i 0))] (.cons (λc=>
 .ret (aB c 1) [])
 (.cons (λc=>
 .ask ((cK 0 (iL (gL c 5)))&&((aD (iL (gL c 5)) (iL (gL c 5)))&&(jP (Int.toNat (iL (gL c 5))) 24)))
 (.call Kf [.l [aS c 1,aB c 2,aL c 3,aI c 4,aL c 5]] 0 λf _=>
 .loop 4 [aI c 0,.i 0,.i (iL (List.replicate (List.length (gL c 5)) (D.l []))),aS c 1,aB c 2,aL c 3,aI c 4,aL c 5,.l (List.replicate (List.length (gL c 5)) (D.l [])),aL c 6,.l (D.els f)] (.cons (λd=>
 .loop 8 [aI d 0,.i (iL (gL d 5)),.i 0,aL d 5,aS d 1,aB d 2,aL d 3,aI d 4,aL d 5,aL d 6,aL d 7] (.cons (λe=>
 .ret (aB e 0) [])
 (.cons (λe=>
 .ret (.b true) [])
 .nil)))
 .nil))
 bC)
 .nil)))
 bC
def AU(p:LD):Sh:=
 .ask (aQ (gI p 3) (gI p 1))
 (.ask (aA (gI p 3) (List.length (gL p 2)))
 (.loop 2 [aI p 0,aI p 3,.i (iE (gD (gL p 2) (tI p 3))),aI p 1,.l (D.els (gD (gL p 2) (tI p 3))),aL p 2,.i 0,aI p 3,aS p 4,aB p 5,aL p 6,aI p 7,aL p 8,aL p 9] (.cons (λc=>
 .out (0,[aI c 0,aB c 2,aS c 5,aB c 6,aL c 7,aI c 8,aL c 9,aL c 10]))
 (.cons (λc=>
 .again [aI c 0,aI c 1,aL c 2,dL c 3,aS c 4,aB c 5,aL c 6,aI c 7,aL c 8,aL c 9])
 .nil)))
 bC)
 (.out (1,[aI p 0,aS p 4,aB p 5,aL p 6,aI p 7,aL p 8,aL p 9]))
def AV(p:LD):Sh:=
 .ask (aQ (gI p 6) (gI p 2))
 (.ask (aA (gI p 6) (List.length (gL p 4)))
 (.ask (aD (vI (gD (gL p 4) (tI p 6)) 1) 0)
 (.again [aI p 0,aI p 1,aI p 2,aI p 3,aL p 4,aL p 5,dL p 6,aI p 7,aS p 8,aB p 9,aL p 10,aI p 11,aL p 12,aL p 13])
 (.ask (!(aD (vI (gD (gL p 4) (tI p 6)) 2) (bJ .i64 (gI p 0) 1)))
 (.out (0,[dL p 0,aI p 3,.b false,aL p 5,aI p 7,aS p 8,aB p 9,aL p 10,aI p 11,aL p 12,aL p 13]))
 (.ask (jP ((List.length (gL p 13))+1) 8)
 (.again [dL p 0,aI p 1,aI p 2,aI p 3,aL p 4,aL p 5,dL p 6,aI p 7,aS p 8,aB p 9,aL p 10,aI p 11,aL p 12,.l ((gL p 13)++[aI p 1])])
 bC)))
 bC)
 (.out (1,[aI p 0,aI p 3,aL p 5,aI p 7,aS p 8,aB p 9,aL p 10,aI p 11,aL p 12,aL p 13]))
def AW(p:LD):Sh:=
 .ask (aQ (gI p 1) (gI p 2))
 (.ask ((cK 0 (iL (gL p 7)))&&((aD (iL (gL p 7)) (iL (gL p 7)))&&(jP (Int.toNat (iL (gL p 7))) 1)))
 (.ask (aA (gI p 1) (List.length (gL p 8)))
 (.loop 6 [aI p 0,aI p 1,aI p 1,aI p 2,aI p 1,aS p 3,aB p 4,aL p 5,aI p 6,aL p 7,.l (List.set (gL p 8) (tI p 1) (D.l (List.replicate (List.length (gL p 7)) (D.b false)))),aL p 9,aL p 10] (.cons (λc=>
 .again [aI c 0,dL c 1,aI c 2,aS c 3,aB c 4,aL c 5,aI c 6,aL c 7,aL c 8,aL c 9,aL c 10])
 .nil))
 bC)
 bC)
 (.out (0,[aI p 0,aS p 3,aB p 4,aL p 5,aI p 6,aL p 7,aL p 8,aL p 9]))
def AX(p:LD):Sh:=
 .ask (cK 0 (gI p 4))
 (.ask (aA (gI p 1) (List.length (gL p 10)))
 (.ask (aA (gI p 4) (nE (gD (gL p 10) (tI p 1))))
 (.ask (aA (gI p 4) (List.length (gL p 12)))
 (.again [aI p 0,aI p 1,aI p 2,aI p 3,.i (D.toI (gD (gL p 12) (tI p 4))),aS p 5,aB p 6,aL p 7,aI p 8,aL p 9,.l (List.set (gL p 10) (tI p 1) (D.l (List.set (D.els (gD (gL p 10) (tI p 1))) (tI p 4) (D.b true)))),aL p 11,aL p 12])
 bC)
 bC)
 bC)
 (.out (0,[aI p 0,aI p 2,aI p 3,aS p 5,aB p 6,aL p 7,aI p 8,aL p 9,aL p 10,aL p 11,aL p 12]))
def AY(p:LD):Sh:=
 .ask (aQ (gI p 2) (gI p 1))
 (.ask (aA (gI p 2) (List.length (gL p 3)))
 (.ask (aQ 0 (iE (gD (gL p 3) (tI p 2))))
 (.call Kg [.l [aS p 4,aB p 5,aL p 6,aI p 7,aL p 8],aI p 2] 0 λe _=>
 .loop 10 [aI p 0,.i (D.toI e),aI p 1,aI p 2,.i (iE (gD (gL p 3) (tI p 2))),.l (D.els (gD (gL p 3) (tI p 2))),aI p 2,aL p 3,.i 0,aS p 4,aB p 5,aL p 6,aI p 7,aL p 8,aL p 9,aL p 10] (.cons (λd=>
 .out (0,[aB d 2]))
 (.cons (λd=>
 .again [aI d 0,aI d 1,dL d 2,aL d 3,aS d 4,aB d 5,aL d 6,aI d 7,aL d 8,aL d 9,aL d 10])
 .nil)))
 (.loop 10 [aI p 0,.i (iL (gL p 6)),aI p 1,aI p 2,.i (iE (gD (gL p 3) (tI p 2))),.l (D.els (gD (gL p 3) (tI p 2))),aI p 2,aL p 3,.i 0,aS p 4,aB p 5,aL p 6,aI p 7,aL p 8,aL p 9,aL p 10] (.cons (λc=>
 .out (0,[aB c 2]))
 (.cons (λc=>
 .again [aI c 0,aI c 1,dL c 2,aL c 3,aS c 4,aB c 5,aL c 6,aI c 7,aL c 8,aL c 9,aL c 10])
 .nil))))
 bC)
 (.out (1,[]))
def xR(p:LD):Sh:=
 .ask (aQ (gI p 8) (gI p 4))
 (.ask (aA (gI p 8) (List.length (gL p 5)))
 (.loop 12 [aI p 0,aI p 1,.l (eX (gD (gL p 5) (tI p 8)) 5),aI p 2,aI p 3,.i 0,aI p 4,.i (iX (gD (gL p 5) (tI p 8)) 5),aL p 5,aI p 6,aL p 7,aI p 8,aS p 9,aB p 10,aL p 11,aI p 12,aL p 13,.i (vI (gD (gL p 5) (tI p 8)) 0),.i (vI (gD (gL p 5) (tI p 8)) 1),.i (vI (gD (gL p 5) (tI p 8)) 2),.i (vI (gD (gL p 5) (tI p 8)) 3),.i (vI (gD (gL p 5) (tI p 8)) 4),.l (eX (gD (gL p 5) (tI p 8)) 5),.l (eX (gD (gL p 5) (tI p 8)) 6),aL p 14,aL p 15] (.cons (λc=>
 .out (0,[aI c 0,aI c 2,aB c 5,aI c 7,aL c 8,aS c 10,aB c 11,aL c 12,aI c 13,aL c 14,aL c 22,aL c 23]))
 (.cons (λc=>
 .ask (!(aD (gI c 15) 0))
 (.again [aI c 0,aI c 16,aI c 2,aI c 3,aI c 4,aL c 5,aI c 6,aL c 7,dL c 8,aS c 9,aB c 10,aL c 11,aI c 12,aL c 13,aL c 21,aL c 22])
 (.again [aI c 0,aI c 1,aI c 2,aI c 3,aI c 4,aL c 5,aI c 6,aL c 7,dL c 8,aS c 9,aB c 10,aL c 11,aI c 12,aL c 13,aL c 21,aL c 22]))
 .nil)))
 bC)
 (.out (1,[aI p 0,aI p 2,aI p 6,aL p 7,aS p 9,aB p 10,aL p 11,aI p 12,aL p 13,aL p 14,aL p 15]))
def xS(p:LD):Sh:=
 .ask (aQ (gI p 5) (gI p 7))
 (.ask (aA (gI p 5) (List.length (gL p 2)))
 (.ask ((aQ (D.toI (gD (gL p 2) (tI p 5))) 1)||(aQ (gI p 0) (D.toI (gD (gL p 2) (tI p 5)))))
 (.out (0,[aI p 0,aI p 1,aI p 3,aI p 4,aI p 6,.b false,aL p 8,aI p 9,aL p 10,aI p 11,aS p 12,aB p 13,aL p 14,aI p 15,aL p 16,aI p 17,aI p 18,aI p 19,aI p 20,aI p 21,aL p 22,aL p 23,aL p 24,aL p 25]))
 (.ask (cK (D.toI (gD (gL p 2) (tI p 5))) (iL (gL p 14)))
 (.again [aI p 0,aI p 1,aL p 2,aI p 3,aI p 4,dL p 5,aI p 6,aI p 7,aL p 8,aI p 9,aL p 10,aI p 11,aS p 12,aB p 13,aL p 14,aI p 15,aL p 16,aI p 17,aI p 18,aI p 19,aI p 20,aI p 21,aL p 22,aL p 23,aL p 24,aL p 25])
 (.ask (aA (D.toI (gD (gL p 2) (tI p 5))) (List.length (gL p 25)))
 (.ask ((!((!(aD (D.toI (gD (gL p 25) (Int.toNat (D.toI (gD (gL p 2) (tI p 5)))))) (gI p 4)))&&true))||(aA (gI p 4) (List.length (gL p 24))))
 (.ask ((!((!(aD (D.toI (gD (gL p 25) (Int.toNat (D.toI (gD (gL p 2) (tI p 5)))))) (gI p 4)))&&true))||(aA (D.toI (gD (gL p 2) (tI p 5))) (List.length (gL p 25))))
 (.ask ((!((!(aD (D.toI (gD (gL p 25) (Int.toNat (D.toI (gD (gL p 2) (tI p 5)))))) (gI p 4)))&&true))||(aA (D.toI (gD (gL p 25) (Int.toNat (D.toI (gD (gL p 2) (tI p 5)))))) (nE (gD (gL p 24) (tI p 4)))))
 (.ask ((!(!((!(aD (D.toI (gD (gL p 25) (Int.toNat (D.toI (gD (gL p 2) (tI p 5)))))) (gI p 4)))&&(D.toB (gE (gD (gL p 24) (tI p 4)) (Int.toNat (D.toI (gD (gL p 25) (Int.toNat (D.toI (gD (gL p 2) (tI p 5))))))))))))||(aA (D.toI (gD (gL p 2) (tI p 5))) (List.length (gL p 25))))
 (.ask (aD (gI p 17) 26)
 (.ask (aA (gI p 5) (List.length (gL p 23)))
 (.ask (aA (D.toI (gD (gL p 23) (tI p 5))) (List.length (gL p 24)))
 (.ask (aA (D.toI (gD (gL p 2) (tI p 5))) (List.length (gL p 25)))
 (.ask (aA (D.toI (gD (gL p 25) (Int.toNat (D.toI (gD (gL p 2) (tI p 5)))))) (nE (gD (gL p 24) (Int.toNat (D.toI (gD (gL p 23) (tI p 5)))))))
 (.ask (!(D.toB (gE (gD (gL p 24) (Int.toNat (D.toI (gD (gL p 23) (tI p 5))))) (Int.toNat (D.toI (gD (gL p 25) (Int.toNat (D.toI (gD (gL p 2) (tI p 5))))))))))
 (.out (0,[aI p 0,aI p 1,aI p 3,aI p 4,aI p 6,.b false,aL p 8,aI p 9,aL p 10,aI p 11,aS p 12,aB p 13,aL p 14,aI p 15,aL p 16,aI p 17,aI p 18,aI p 19,aI p 20,aI p 21,aL p 22,aL p 23,aL p 24,aL p 25]))
 (.again [aI p 0,aI p 1,aL p 2,aI p 3,aI p 4,dL p 5,aI p 6,aI p 7,aL p 8,aI p 9,aL p 10,aI p 11,aS p 12,aB p 13,aL p 14,aI p 15,aL p 16,aI p 17,aI p 18,aI p 19,aI p 20,aI p 21,aL p 22,aL p 23,aL p 24,aL p 25]))
 bC)
 bC)
 bC)
 bC)
 (.ask (!(((!(aD (D.toI (gD (gL p 25) (Int.toNat (D.toI (gD (gL p 2) (tI p 5)))))) (gI p 4)))&&(D.toB (gE (gD (gL p 24) (tI p 4)) (Int.toNat (D.toI (gD (gL p 25) (Int.toNat (D.toI (gD (gL p 2) (tI p 5))))))))))||((aD (D.toI (gD (gL p 25) (Int.toNat (D.toI (gD (gL p 2) (tI p 5)))))) (gI p 4))&&(cK (D.toI (gD (gL p 2) (tI p 5))) (gI p 1)))))
 (.out (0,[aI p 0,aI p 1,aI p 3,aI p 4,aI p 6,.b false,aL p 8,aI p 9,aL p 10,aI p 11,aS p 12,aB p 13,aL p 14,aI p 15,aL p 16,aI p 17,aI p 18,aI p 19,aI p 20,aI p 21,aL p 22,aL p 23,aL p 24,aL p 25]))
 (.again [aI p 0,aI p 1,aL p 2,aI p 3,aI p 4,dL p 5,aI p 6,aI p 7,aL p 8,aI p 9,aL p 10,aI p 11,aS p 12,aB p 13,aL p 14,aI p 15,aL p 16,aI p 17,aI p 18,aI p 19,aI p 20,aI p 21,aL p 22,aL p 23,aL p 24,aL p 25])))
 bC)
 bC)
 bC)
 bC)
 bC)))
 bC)
 (.out (1,[aI p 0,aI p 1,aI p 3,aI p 4,aI p 6,aL p 8,aI p 9,aL p 10,aI p 11,aS p 12,aB p 13,aL p 14,aI p 15,aL p 16,aI p 17,aI p 18,aI p 19,aI p 20,aI p 21,aL p 22,aL p 23,aL p 24,aL p 25]))
def NW(x:LD):Sh:=
 .call NI [.l [.s (D.toS (D.fld (gD x 0) 0)),.b (vB (gD x 0) 1),.l (eX (gD x 0) 2),.i (vI (gD x 0) 3),.l (eX (gD x 0) 4)]] 0 λc _=>
 .ret (.i (bE .i64 ((iE c)-1))) []
def Ax(x:LD):Sh:=
 .call Uj [.l [.s (D.toS (D.fld (gD x 0) 0)),.b (vB (gD x 0) 1),.l (eX (gD x 0) 2),.i (vI (gD x 0) 3),.l (eX (gD x 0) 4)],.i (pS x 1)] 0 λc _=>
 .ask ((!(vB c 1))||((!(aD (vI (D.fld c 0) 0) 27))&&(!(aD (vI (D.fld c 0) 0) 28))))
 (.ret (.l []) [])
 (.loop 0 [.i 0,.s (D.toS (D.fld (gD x 0) 0)),.b (vB (gD x 0) 1),.l (eX (gD x 0) 2),.i (vI (gD x 0) 3),.l (eX (gD x 0) 4),.i (vI (D.fld c 0) 0),.i (vI (D.fld c 0) 1),.i (vI (D.fld c 0) 2),.i (vI (D.fld c 0) 3),.i (vI (D.fld c 0) 4),.l (eX (D.fld c 0) 5),.l (eX (D.fld c 0) 6),.l []] (.cons (λd=>
 .ret (aL d 0) [])
 .nil))
def OD(p:LD):Sh:=
 .ask (jP ((List.length (gL p 13))+1) 8)
 (.again [dL p 0,aS p 1,aB p 2,aL p 3,aI p 4,aL p 5,aI p 6,aI p 7,aI p 8,aI p 9,aI p 10,aL p 11,aL p 12,.l ((gL p 13)++[.i (D.toI (gD (gL p 12) (tI p 0)))])])
 bC
def BB(p:LD):Sh:=
 .ask (aQ (gI p 0) (iL (gL p 12)))
 (.ask (aA (gI p 0) (List.length (gL p 12)))
 (.ask (((cK 0 (D.toI (gD (gL p 12) (tI p 0))))&&(aQ (D.toI (gD (gL p 12) (tI p 0))) (iL (gL p 5))))&&true)
 (.call aCB [aL p 13,.i (D.toI (gD (gL p 12) (tI p 0)))] 0 λc _=>
 .ask (((cK 0 (D.toI (gD (gL p 12) (tI p 0))))&&(aQ (D.toI (gD (gL p 12) (tI p 0))) (iL (gL p 5))))&&(!(D.toB c)))
 (OD p)
 (.again [dL p 0,aS p 1,aB p 2,aL p 3,aI p 4,aL p 5,aI p 6,aI p 7,aI p 8,aI p 9,aI p 10,aL p 11,aL p 12,aL p 13]))
 (.ask (((cK 0 (D.toI (gD (gL p 12) (tI p 0))))&&(aQ (D.toI (gD (gL p 12) (tI p 0))) (iL (gL p 5))))&&(!(D.toB (.i 0))))
 (OD p)
 (.again [dL p 0,aS p 1,aB p 2,aL p 3,aI p 4,aL p 5,aI p 6,aI p 7,aI p 8,aI p 9,aI p 10,aL p 11,aL p 12,aL p 13])))
 bC)
 (.out (0,[aL p 13]))
def Ar(x:LD):Sh:=
 .ask ((aQ (iL (D.toS (gD x 0))) 1)||(aQ 12 (iL (D.toS (gD x 0)))))
 (.ret (.b false) [])
 (.loop 0 [.s (D.toS (gD x 0)),.i (iL (D.toS (gD x 0))),.i 0] (.cons (λc=>
 .ret (aB c 0) [])
 (.cons (λc=>
 .ret (.b true) [])
 .nil)))
def AR(p:LD):Sh:=
 .ask (aQ (gI p 2) (gI p 1))
 (.ask (aA (gI p 2) (List.length (gS p 0)))
 (.ask ((!((cK 97 (iZ (gS p 0) (gI p 2)))&&(cK (iZ (gS p 0) (gI p 2)) 122)))&&((aD (gI p 2) 0)||((!(aD (iZ (gS p 0) (gI p 2)) 95))&&((aQ (iZ (gS p 0) (gI p 2)) 48)||(aQ 57 (iZ (gS p 0) (gI p 2)))))))
 (.out (0,[.b false]))
 (.again [aS p 0,aI p 1,dL p 2]))
 bC)
 (.out (1,[]))
def NX(x:LD):Sh:=
 .ask ((cK 0 (iX (gD x 0) 4))&&((aD (iX (gD x 0) 4) (iX (gD x 0) 4))&&(jP (Int.toNat (iX (gD x 0) 4)) 24)))
 (.loop 0 [.i (iX (gD x 0) 4),.i 0,.s (D.toS (D.fld (gD x 0) 0)),.b (vB (gD x 0) 1),.l (eX (gD x 0) 2),.i (vI (gD x 0) 3),.l (eX (gD x 0) 4),.l (List.replicate (nX (gD x 0) 4) (D.l []))] (.cons (λc=>
 .ret (aL c 0) [])
 .nil))
 bC
def sX(p:LD):Sh:=
 .ask (aQ (gI p 1) (gI p 0))
 (.call HM [.l [aS p 2,aB p 3,aL p 4,aI p 5,aL p 6],aI p 1] 0 λd _=>
 .loop 2 [aI p 0,.i 0,aI p 1,.i (iE d),aI p 1,aS p 2,aB p 3,aL p 4,aI p 5,aL p 6,aL p 7,.l (D.els d)] (.cons (λc=>
 .again [aI c 0,dL c 1,aS c 2,aB c 3,aL c 4,aI c 5,aL c 6,aL c 7])
 .nil))
 (.out (0,[aL p 7]))
def sY(p:LD):Sh:=
 .ask (aQ (gI p 1) (gI p 3))
 (.ask (aA (gI p 1) (List.length (gL p 11)))
 (.ask (aA (D.toI (gD (gL p 11) (tI p 1))) (List.length (gL p 10)))
 (.ask (jP ((nE (gD (gL p 10) (Int.toNat (D.toI (gD (gL p 11) (tI p 1))))))+1) 8)
 (.ask (aA (D.toI (gD (gL p 11) (tI p 1))) (List.length (gL p 10)))
 (.ask ((Nat.beq (Int.toNat (D.toI (gD (gL p 11) (tI p 1)))) (Int.toNat (D.toI (gD (gL p 11) (tI p 1)))))&&true)
 (.again [aI p 0,dL p 1,aI p 2,aI p 3,aI p 4,aS p 5,aB p 6,aL p 7,aI p 8,aL p 9,.l (List.set (gL p 10) (Int.toNat (D.toI (gD (gL p 11) (tI p 1)))) (D.l ((D.els (gD (gL p 10) (Int.toNat (D.toI (gD (gL p 11) (tI p 1))))))++[aI p 2]))),aL p 11])
 bC)
 bC)
 bC)
 bC)
 bC)
 (.out (0,[aI p 0,aI p 4,aS p 5,aB p 6,aL p 7,aI p 8,aL p 9,aL p 10]))
def TR(x:LD):Sh:=
 .ask (jP (1+(nX (gD x 0) 2)) 8)
 (.loop 0 [.i 0,.l (eX (gD x 0) 4),.i (iX (gD x 0) 4),.l ([.i 0]++(eX (gD x 0) 2))] (.cons (λc=>
 .ret (aL c 0) [])
 .nil))
 bC
def wS(p:LD):Sh:=
 .ask (aQ (gI p 0) (gI p 2))
 (.ask (aA (gI p 0) (List.length (gL p 1)))
 (.loop 2 [aI p 0,aL p 1,.i (iE (gD (gL p 1) (tI p 0))),.l (D.els (gD (gL p 1) (tI p 0))),aI p 2,.i 0,aL p 3] (.cons (λc=>
 .again [dL c 0,aL c 1,aI c 2,aL c 3])
 .nil))
 bC)
 (.out (0,[aL p 3]))
def wT(p:LD):Sh:=
 .ask (aQ (gI p 5) (gI p 2))
 (.ask (aA (gI p 5) (List.length (gL p 3)))
 (.ask (!(aD (vI (gD (gL p 3) (tI p 5)) 1) 0))
 (.ask (jP ((List.length (gL p 6))+1) 8)
 (.again [aI p 0,aL p 1,aI p 2,aL p 3,aI p 4,dL p 5,.l ((gL p 6)++[.i (vI (gD (gL p 3) (tI p 5)) 1)])])
 bC)
 (.again [aI p 0,aL p 1,aI p 2,aL p 3,aI p 4,dL p 5,aL p 6]))
 bC)
 (.out (0,[aI p 0,aL p 1,aI p 4,aL p 6]))
def Ak(x:LD):Sh:=
 .ask ((!(!((aQ (pS x 1) 0)||(cK (iX (gD x 0) 4) (pS x 1)))))||(aA (pS x 1) (nX (gD x 0) 4)))
 (.ask (((aQ (pS x 1) 0)||(cK (iX (gD x 0) 4) (pS x 1)))||(aD (iE (gD (eX (gD x 0) 4) (oQ x 1))) 0))
 (.ret (.l [.l [.i 0,.i 0,.i 0,.i 0,.i 0,.l [],.l []],.b false]) [])
 (.ask (aA (pS x 1) (nX (gD x 0) 4))
 (.ask (aA (bE .i64 ((iE (gD (eX (gD x 0) 4) (oQ x 1)))-1)) (nE (gD (eX (gD x 0) 4) (oQ x 1))))
 (let z0:=gE (gD (eX (gD x 0) 4) (oQ x 1)) (Int.toNat (bE .i64 ((iE (gD (eX (gD x 0) 4) (oQ x 1)))-1)));.ret (D.l [D.l [D.i (vI z0 0),D.i (vI z0 1),D.i (vI z0 2),D.i (vI z0 3),D.i (vI z0 4),D.l (eX z0 5),D.l (eX z0 6)],D.b true]) [])
 bC)
 bC))
 bC
def GV(x:LD):Sh:=
 .ask ((cK 0 (iX (gD x 0) 4))&&((aD (iX (gD x 0) 4) (iX (gD x 0) 4))&&(jP (Int.toNat (iX (gD x 0) 4)) 8)))
 (.ask (aQ 0 (iX (gD x 0) 4))
 (.call kL [.l [.s (D.toS (D.fld (gD x 0) 0)),.b (vB (gD x 0) 1),.l (eX (gD x 0) 2),.i (vI (gD x 0) 3),.l (eX (gD x 0) 4),.l (List.replicate (nX (gD x 0) 4) (D.i 0)),.l [],.b false],.i 0] 1 λd c=>
 .ret (.l [.l [.s (D.toS (D.fld (gD c 0) 0)),.b (vB (gD c 0) 1),.l (eX (gD c 0) 2),.i (vI (gD c 0) 3),.l (eX (gD c 0) 4),.l (eX (gD c 0) 5),.l (eX (gD c 0) 6),.b (vB (gD c 0) 7)]]) [])
 (.ret (.l [.l [.s (D.toS (D.fld (gD x 0) 0)),.b (vB (gD x 0) 1),.l (eX (gD x 0) 2),.i (vI (gD x 0) 3),.l (eX (gD x 0) 4),.l (List.replicate (nX (gD x 0) 4) (D.i 0)),.l [],.b false]]) []))
 bC
def Ki(x:LD):Sh:=
 .loop 0 [.l (D.els (gD x 0)),.i 0,.l (D.els (gD x 1)),.i (pS x 2),.i (iE (gD x 1))] (.cons (λc=>
 .ret (aB c 0) [])
 (.cons (λc=>
 .ret (.b true) [])
 .nil))
def EB(p:LD):Sh:=
 .ask (aQ (gI p 1) (gI p 4))
 (.ask (aA (gI p 1) (List.length (gL p 2)))
 (.ask (aA (D.toI (gD (gL p 2) (tI p 1))) (List.length (gL p 0)))
 (.ask (!(aD (D.toI (gD (gL p 0) (Int.toNat (D.toI (gD (gL p 2) (tI p 1)))))) (gI p 3)))
 (.out (0,[.b false]))
 (.again [aL p 0,dL p 1,aL p 2,aI p 3,aI p 4]))
 bC)
 bC)
 (.out (1,[]))
def hZ(x:LD):Sh:=
 .ask (aQ (iE (gD x 0)) 2)
 (.ret (.l (D.els (gD x 0))) [])
 (.loop 0 [.i 1,.l (D.els (gD x 0))] (.cons (λc=>
 .ret (aL c 0) [])
 (.cons (λc=>
 .ret (aL c 0) [])
 .nil)))
def cF(p:LD):Sh:=
 .ask (aQ (gI p 0) (iL (gL p 1)))
 (.ask (aA (gI p 0) (List.length (gL p 1)))
 (.ask (aA (bE .i64 ((gI p 0)-1)) (List.length (gL p 1)))
 (.ask ((aD (vI (gD (gL p 1) (tI p 0)) 0) (vI (gD (gL p 1) (Int.toNat (bE .i64 ((gI p 0)-1)))) 0))&&((aD (vI (gD (gL p 1) (tI p 0)) 1) (vI (gD (gL p 1) (Int.toNat (bE .i64 ((gI p 0)-1)))) 1))&&true))
 (.ask ((cK 0 (gI p 0))&&(cK (gI p 0) (iL (gL p 1))))
 (.loop 2 [aI p 0,.i 1,.i (Int.ofNat ((List.length (gL p 1))-(tI p 0))),.i (Int.ofNat (tI p 0)),aL p 1] (.cons (λc=>
 .ask ((cK 0 (gI c 0))&&(cK (gI c 0) (iL (gL c 1))))
 (.ask (kP 0 (gI c 0) (iL ((List.take (tI c 0) (gL c 1))++(List.replicate ((List.length (gL c 1))-(tI c 0)) (D.l [.i 0,.i 0])))))
 (.out (0,[.l (List.drop 0 (List.take (tI c 0) ((List.take (tI c 0) (gL c 1))++(List.replicate ((List.length (gL c 1))-(tI c 0)) (D.l [.i 0,.i 0])))))]))
 bC)
 bC)
 .nil))
 bC)
 (.again [dL p 0,aL p 1]))
 bC)
 bC)
 (.out (1,[aL p 1]))
def dS(p:LD):Sh:=
 .ask (aQ (gI p 1) (Int.ofNat (gN p 2)))
 (.ask (aA (gI p 1) (gN p 2))
 (.ask (aA (bE .i64 ((gI p 1)-1)) (gN p 2))
 (.ask (!((aD (vI (gD (gL p 4) ((gN p 3)+(tI p 1))) 0) (vI (gD (gL p 4) ((gN p 3)+(Int.toNat (bE .i64 ((gI p 1)-1))))) 0))&&((aD (vI (gD (gL p 4) ((gN p 3)+(tI p 1))) 1) (vI (gD (gL p 4) ((gN p 3)+(Int.toNat (bE .i64 ((gI p 1)-1))))) 1))&&true)))
 (.ask (aA (gI p 1) (gN p 2))
 (.ask (aA (gI p 0) (List.length (gL p 4)))
 (.again (let z0:=List.set (gL p 4) (tI p 0) (D.l (cN (D.els (gD (gL p 4) (tI p 0))) 0 (D.i (vI (gD (gL p 4) ((gN p 3)+(tI p 1))) 0))));[dL p 0,dL p 1,aN p 2,aN p 3,.l (List.set z0 (tI p 0) (D.l (cN (D.els (gD z0 (tI p 0))) 1 (D.i (vI (gD (gL p 4) ((gN p 3)+(tI p 1))) 1)))))]))
 bC)
 bC)
 (.again [aI p 0,dL p 1,aN p 2,aN p 3,aL p 4]))
 bC)
 bC)
 (.out (0,[aI p 0,aL p 4]))
def GX(x:LD):Sh:=
 .ask ((cK 0 (iE (gD x 0)))&&((aD (iE (gD x 0)) (iE (gD x 0)))&&(jP (Int.toNat (iE (gD x 0))) 1)))
 (.ask (!(aD (pS x 1) 0))
 (.ask (aA 0 (List.length (List.replicate (nE (gD x 0)) (D.b false))))
 (.ask (jP (0+1) 8)
 (.loop 0 [.l (D.els (gD x 0)),.i (pS x 1),.l (List.set (List.replicate (nE (gD x 0)) (D.b false)) 0 (D.b true)),.l [.i 0]] (.cons (λc=>
 .ret (aL c 0) [])
 .nil))
 bC)
 bC)
 (.loop 0 [.l (D.els (gD x 0)),.i (pS x 1),.l (List.replicate (nE (gD x 0)) (D.b false)),.l []] (.cons (λc=>
 .ret (aL c 0) [])
 .nil)))
 bC
def pU(p:LD):Sh:=
 .ask (aQ 0 (iL (gL p 3)))
 (.ask (aA (bE .i64 ((iL (gL p 3))-1)) (List.length (gL p 3)))
 (.ask (kP 0 (bE .i64 ((iL (gL p 3))-1)) (iL (gL p 3)))
 (.ask (aA (D.toI (gD (gL p 3) (Int.toNat (bE .i64 ((iL (gL p 3))-1))))) (List.length (gL p 0)))
 (.loop 2 (let z0:=D.els (gD (gL p 0) (Int.toNat (D.toI (gD (gL p 3) (Int.toNat (bE .i64 ((iL (gL p 3))-1)))))));[aL p 0,aI p 1,.i 0,.l z0,.i (iL z0),aL p 2,.l (List.drop 0 (List.take (Int.toNat (bE .i64 ((iL (gL p 3))-1))) (gL p 3)))]) (.cons (λc=>
 .again [aL c 0,aI c 1,aL c 2,aL c 3])
 .nil))
 bC)
 bC)
 bC)
 (.out (0,[aL p 2]))
def kS(p:LD):Sh:=
 .ask (aQ (gI p 2) (gI p 4))
 (.ask (aA (gI p 2) (List.length (gL p 3)))
 (.ask ((!((!(aD (D.toI (gD (gL p 3) (tI p 2))) (gI p 1)))&&true))||(aA (D.toI (gD (gL p 3) (tI p 2))) (List.length (gL p 5))))
 (.ask ((!(aD (D.toI (gD (gL p 3) (tI p 2))) (gI p 1)))&&(!(D.toB (gD (gL p 5) (Int.toNat (D.toI (gD (gL p 3) (tI p 2))))))))
 (.ask (aA (D.toI (gD (gL p 3) (tI p 2))) (List.length (gL p 5)))
 (.ask (jP ((List.length (gL p 6))+1) 8)
 (.again [aL p 0,aI p 1,dL p 2,aL p 3,aI p 4,.l (List.set (gL p 5) (Int.toNat (D.toI (gD (gL p 3) (tI p 2)))) (D.b true)),.l ((gL p 6)++[.i (D.toI (gD (gL p 3) (tI p 2)))])])
 bC)
 bC)
 (.again [aL p 0,aI p 1,dL p 2,aL p 3,aI p 4,aL p 5,aL p 6]))
 bC)
 bC)
 (.out (0,[aL p 0,aI p 1,aL p 5,aL p 6]))
def TO(x:LD):Sh:=
 .call Ad [.l [.l (eX (gD x 0) 0),.l (eX (gD x 0) 1),.l (eX (gD x 0) 2),.l (eX (gD x 0) 3)]] 0 λf _=>
 .ask (!(D.toB f))
 (.ret (.i 2) [])
 (.call Jv [.l [.l (eX (gD x 0) 0),.l (eX (gD x 0) 1),.l (eX (gD x 0) 2),.l (eX (gD x 0) 3)]] 0 λg _=>
 .ask (!(D.toB g))
 (.ret (.i 1) [])
 (.call Jw [.l [.l (eX (gD x 0) 0),.l (eX (gD x 0) 1),.l (eX (gD x 0) 2),.l (eX (gD x 0) 3)]] 0 λh _=>
 .ask (!(D.toB h))
 (.ret (.i 3) [])
 (.call Ub [.l [.l (eX (gD x 0) 0),.l (eX (gD x 0) 1),.l (eX (gD x 0) 2),.l (eX (gD x 0) 3)]] 0 λj _=>
 .ask (!(D.toB j))
 (.ret (.i 4) [])
 (.loop 0 [.i 0,.l (eX (gD x 0) 0),.l (eX (gD x 0) 1),.l (eX (gD x 0) 2),.l (eX (gD x 0) 3)] (.cons (λc=>
 .ret (aI c 0) [])
 (.cons (λc=>
 .loop 2 [.i 0,aL c 0,aL c 1,aL c 2,aL c 3] (.cons (λd=>
 .ret (aI d 0) [])
 (.cons (λd=>
 .loop 4 [.i 0,aL d 0,aL d 1,aL d 2,aL d 3] (.cons (λe=>
 .ret (aI e 0) [])
 (.cons (λe=>
 .ret (.i 0) [])
 .nil)))
 .nil)))
 .nil))))))
def wF(p:LD):Sh:=
 .ask (aQ (gI p 0) (iL (gL p 4)))
 (.ask (aA (gI p 0) (List.length (gL p 4)))
 (.call Jx [.l [.s (D.toS (D.fld (gD (gL p 4) (tI p 0)) 0)),.b (vB (gD (gL p 4) (tI p 0)) 1),.l (eX (gD (gL p 4) (tI p 0)) 2),.i (vI (gD (gL p 4) (tI p 0)) 3),.l (eX (gD (gL p 4) (tI p 0)) 4)]] 0 λc _=>
 .ask (!(D.toB c))
 (.out (0,[.i 5,aL p 1,aL p 2,aL p 3,aL p 4]))
 (.again [dL p 0,aL p 1,aL p 2,aL p 3,aL p 4]))
 bC)
 (.out (1,[aL p 1,aL p 2,aL p 3,aL p 4]))
def wG(p:LD):Sh:=
 .ask (aQ (gI p 0) (iL (gL p 4)))
 (.ask (aA (gI p 0) (List.length (gL p 4)))
 (.call Uc [.l [.s (D.toS (D.fld (gD (gL p 4) (tI p 0)) 0)),.b (vB (gD (gL p 4) (tI p 0)) 1),.l (eX (gD (gL p 4) (tI p 0)) 2),.i (vI (gD (gL p 4) (tI p 0)) 3),.l (eX (gD (gL p 4) (tI p 0)) 4)]] 0 λc _=>
 .ask (!(D.toB c))
 (.out (0,[.i 6,aL p 1,aL p 2,aL p 3,aL p 4]))
 (.again [dL p 0,aL p 1,aL p 2,aL p 3,aL p 4]))
 bC)
 (.out (1,[aL p 1,aL p 2,aL p 3,aL p 4]))
def wH(p:LD):Sh:=
 .ask (aQ (gI p 0) (iL (gL p 4)))
 (.ask (aA (gI p 0) (List.length (gL p 4)))
 (.call Jy [.l [aL p 1,aL p 2,aL p 3,aL p 4],.l [.s (D.toS (D.fld (gD (gL p 4) (tI p 0)) 0)),.b (vB (gD (gL p 4) (tI p 0)) 1),.l (eX (gD (gL p 4) (tI p 0)) 2),.i (vI (gD (gL p 4) (tI p 0)) 3),.l (eX (gD (gL p 4) (tI p 0)) 4)]] 0 λc _=>
 .ask (!(D.toB c))
 (.out (0,[.i 7]))
 (.again [dL p 0,aL p 1,aL p 2,aL p 3,aL p 4]))
 bC)
 (.out (1,[]))
def YL(x:LD):Sh:=
 .call YI [.l [.l (eX (gD x 0) 0),.l (eX (gD x 0) 1),.l (eX (gD x 0) 2),.l (eX (gD x 0) 3)]] 0 λd _=>
 .ask ((cK 0 (iX (gD x 0) 3))&&((aD (iX (gD x 0) 3) (iX (gD x 0) 3))&&(jP (Int.toNat (iX (gD x 0) 3)) 24)))
 (.loop 0 [.i 0,.l (eX (gD x 0) 0),.l (eX (gD x 0) 1),.l (eX (gD x 0) 2),.l (eX (gD x 0) 3),.l (List.replicate (nX (gD x 0) 3) (D.l [])),.l (D.els d)] (.cons (λc=>
 .ret (aL c 0) [])
 .nil))
 bC
def xF(p:LD):Sh:=
 .ask (aQ (gI p 0) (iL (gL p 5)))
 (.ask (aA (gI p 0) (List.length (gL p 4)))
 (.ask ((!(!(vB (gD (gL p 4) (tI p 0)) 1)))||(aA (gI p 0) (List.length (gL p 6))))
 (.ask ((vB (gD (gL p 4) (tI p 0)) 1)||(D.toB (gD (gL p 6) (tI p 0))))
 (.again [dL p 0,aL p 1,aL p 2,aL p 3,aL p 4,aL p 5,aL p 6])
 (.call Jp [.l [.s (D.toS (D.fld (gD (gL p 4) (tI p 0)) 0)),.b (vB (gD (gL p 4) (tI p 0)) 1),.l (eX (gD (gL p 4) (tI p 0)) 2),.i (vI (gD (gL p 4) (tI p 0)) 3),.l (eX (gD (gL p 4) (tI p 0)) 4)]] 0 λd _=>
 .loop 2 [aI p 0,.i 1,aL p 1,aL p 2,aL p 3,aL p 4,.s (D.toS (D.fld (gD (gL p 4) (tI p 0)) 0)),.b (vB (gD (gL p 4) (tI p 0)) 1),.l (eX (gD (gL p 4) (tI p 0)) 2),.i (vI (gD (gL p 4) (tI p 0)) 3),.l (eX (gD (gL p 4) (tI p 0)) 4),aL p 5,aL p 6,.l (D.els d)] (.cons (λc=>
 .again [dL c 0,aL c 1,aL c 2,aL c 3,aL c 4,aL c 5,aL c 6])
 .nil)))
 bC)
 bC)
 (.out (0,[aL p 5]))
def xG(p:LD):Sh:=
 .ask (cK (gI p 1) (iL (gL p 8)))
 (.ask (aA (gI p 1) (List.length (gL p 13)))
 (.ask (aD (D.toI (gD (gL p 13) (tI p 1))) 0)
 (.ask (aA (gI p 0) (List.length (gL p 11)))
 (.ask (jP ((nE (gD (gL p 11) (tI p 0)))+1) 8)
 (.ask (aA (gI p 0) (List.length (gL p 11)))
 (.ask ((Nat.beq (tI p 0) (tI p 0))&&true)
 (.again [aI p 0,dL p 1,aL p 2,aL p 3,aL p 4,aL p 5,aS p 6,aB p 7,aL p 8,aI p 9,aL p 10,.l (List.set (gL p 11) (tI p 0) (D.l ((D.els (gD (gL p 11) (tI p 0)))++[aI p 1]))),aL p 12,aL p 13])
 bC)
 bC)
 bC)
 bC)
 (.again [aI p 0,dL p 1,aL p 2,aL p 3,aL p 4,aL p 5,aS p 6,aB p 7,aL p 8,aI p 9,aL p 10,aL p 11,aL p 12,aL p 13]))
 bC)
 (.out (0,[aI p 0,aL p 2,aL p 3,aL p 4,aL p 5,aL p 11,aL p 12]))
def pK(x:LD):Sh:=
 .ask (((aQ 40 (iL (D.toS (D.fld (gD x 0) 0))))||(aQ 8 (iX (gD x 0) 2)))||(aQ 16 (iX (gD x 0) 4)))
 (.ret (.b false) [])
 (.loop 0 [.i 0,.i 0,.s (D.toS (D.fld (gD x 0) 0)),.b (vB (gD x 0) 1),.l (eX (gD x 0) 2),.i (vI (gD x 0) 3),.l (eX (gD x 0) 4)] (.cons (λc=>
 .ret (aB c 0) [])
 (.cons (λc=>
 .ret (.b true) [])
 .nil)))
def jC(p:LD):Sh:=
 .ask (aQ (gI p 1) (iL (gL p 6)))
 (.ask (aA (gI p 1) (List.length (gL p 6)))
 (.ask (aQ 90 (bJ .i64 (gI p 0) (iE (gD (gL p 6) (tI p 1)))))
 (.out (0,[.b false]))
 (.loop 2 [.i (bJ .i64 (gI p 0) (iE (gD (gL p 6) (tI p 1)))),.i 0,aI p 1,aS p 2,aB p 3,aL p 4,aI p 5,aL p 6] (.cons (λc=>
 .out (0,[aB c 1]))
 (.cons (λc=>
 .again [aI c 0,dL c 1,aS c 2,aB c 3,aL c 4,aI c 5,aL c 6])
 .nil))))
 bC)
 (.out (1,[]))
def mA(p:LD):Sh:=
 .ask (aA (gI p 2) (List.length (gL p 7)))
 (.ask (aQ (gI p 1) (iE (gD (gL p 7) (tI p 2))))
 (.ask (aA (gI p 2) (List.length (gL p 7)))
 (.ask (aA (gI p 1) (nE (gD (gL p 7) (tI p 2))))
 (.ask ((!(!(aQ 20 (iX (gE (gD (gL p 7) (tI p 2)) (tI p 1)) 5))))||(aA (gI p 2) (List.length (gL p 7))))
 (.ask ((!(!(aQ 20 (iX (gE (gD (gL p 7) (tI p 2)) (tI p 1)) 5))))||(aA (gI p 1) (nE (gD (gL p 7) (tI p 2)))))
 (.ask ((aQ 20 (iX (gE (gD (gL p 7) (tI p 2)) (tI p 1)) 5))||(aQ 20 (iX (gE (gD (gL p 7) (tI p 2)) (tI p 1)) 6)))
 (.out (0,[aI p 0,.b false,aI p 2,aS p 3,aB p 4,aL p 5,aI p 6,aL p 7]))
 (.again [aI p 0,dL p 1,aI p 2,aS p 3,aB p 4,aL p 5,aI p 6,aL p 7]))
 bC)
 bC)
 bC)
 bC)
 (.out (1,[aI p 0,aI p 2,aS p 3,aB p 4,aL p 5,aI p 6,aL p 7])))
 bC
def UC(x:LD):Sh:=
 .loop 0 [.i 0,.i 0,.l (eX (gD x 0) 0),.l (eX (gD x 0) 1),.l (eX (gD x 0) 2),.l (eX (gD x 0) 3),.l []] (.cons (λc=>
 .loop 2 [aI c 0,.i 0,aL c 1,aL c 2,aL c 3,aL c 4,aL c 5] (.cons (λd=>
 .loop 4 [.i 0,aI d 0,aL d 1,aL d 2,aL d 3,aL d 4,aL d 5] (.cons (λe=>
 .loop 6 [aI e 0,.i 0,aL e 1,aL e 2,aL e 3,aL e 4,aL e 5] (.cons (λf=>
 .ret (.b (aD (gI f 0) 0)) [])
 .nil))
 .nil))
 .nil))
 .nil)
def xK(p:LD):Sh:=
 .ask (aQ (gI p 0) (iL (gL p 2)))
 (.ask (aA (gI p 0) (List.length (gL p 2)))
 (.call JW [.s (D.toS (D.fld (gD (gL p 2) (tI p 0)) 0))] 0 λc _=>
 .ask ((!(D.toB c))||(aQ 1 (D.toI (yF (.int .i64) (iI .str (.s (D.toS (D.fld (gD (gL p 2) (tI p 0)) 0))) 0 (CZ (.s (D.toS (D.fld (gD (gL p 2) (tI p 0)) 0))) (.i (bJ .i64 (D.toI (yF (.int .i64) (iI .str (.s (D.toS (D.fld (gD (gL p 2) (tI p 0)) 0))) 0 (gL p 6)))) 1)) (gL p 6) (iI .str (.s (D.toS (D.fld (gD (gL p 2) (tI p 0)) 0))) 0 (gL p 6))))))))
 (.again (let z0:=iI .str (D.s (D.toS (D.fld (gD (gL p 2) (tI p 0)) 0))) 0 (gL p 6);[dL p 0,dL p 1,aL p 2,aL p 3,aL p 4,aL p 5,.l (CZ (D.s (D.toS (D.fld (gD (gL p 2) (tI p 0)) 0))) (D.i (bJ .i64 (D.toI (yF (.int .i64) z0)) 1)) (gL p 6) z0)]))
 (.again (let z0:=iI .str (D.s (D.toS (D.fld (gD (gL p 2) (tI p 0)) 0))) 0 (gL p 6);[dL p 0,.i (bJ .i64 (gI p 1) 0),aL p 2,aL p 3,aL p 4,aL p 5,.l (CZ (D.s (D.toS (D.fld (gD (gL p 2) (tI p 0)) 0))) (D.i (bJ .i64 (D.toI (yF (.int .i64) z0)) 1)) (gL p 6) z0)])))
 bC)
 (.out (0,[aI p 1,aL p 2,aL p 3,aL p 4,aL p 5,aL p 6]))
def xL(p:LD):Sh:=
 .ask (aQ (gI p 1) (iL (gL p 3)))
 (.ask (aA (gI p 1) (List.length (gL p 3)))
 (.call JW [.s (D.toS (D.fld (gD (gL p 3) (tI p 1)) 0))] 0 λc _=>
 .ask ((!(D.toB c))||(aQ 1 (D.toI (yF (.int .i64) (iI .str (.s (D.toS (D.fld (gD (gL p 3) (tI p 1)) 0))) 0 (CZ (.s (D.toS (D.fld (gD (gL p 3) (tI p 1)) 0))) (.i (bJ .i64 (D.toI (yF (.int .i64) (iI .str (.s (D.toS (D.fld (gD (gL p 3) (tI p 1)) 0))) 0 (gL p 6)))) 1)) (gL p 6) (iI .str (.s (D.toS (D.fld (gD (gL p 3) (tI p 1)) 0))) 0 (gL p 6))))))))
 (.again (let z0:=iI .str (D.s (D.toS (D.fld (gD (gL p 3) (tI p 1)) 0))) 0 (gL p 6);[dL p 0,dL p 1,aL p 2,aL p 3,aL p 4,aL p 5,.l (CZ (D.s (D.toS (D.fld (gD (gL p 3) (tI p 1)) 0))) (D.i (bJ .i64 (D.toI (yF (.int .i64) z0)) 1)) (gL p 6) z0)]))
 (.again (let z0:=iI .str (D.s (D.toS (D.fld (gD (gL p 3) (tI p 1)) 0))) 0 (gL p 6);[.i (bJ .i64 (gI p 0) 0),dL p 1,aL p 2,aL p 3,aL p 4,aL p 5,.l (CZ (D.s (D.toS (D.fld (gD (gL p 3) (tI p 1)) 0))) (D.i (bJ .i64 (D.toI (yF (.int .i64) z0)) 1)) (gL p 6) z0)])))
 bC)
 (.out (0,[aI p 0,aL p 2,aL p 3,aL p 4,aL p 5,aL p 6]))
def xM(p:LD):Sh:=
 .ask (aQ (gI p 0) (iL (gL p 4)))
 (.ask (aA (gI p 0) (List.length (gL p 4)))
 (.call JW [.s (D.toS (D.fld (gD (gL p 4) (tI p 0)) 0))] 0 λc _=>
 .ask ((!(D.toB c))||(aQ 1 (D.toI (yF (.int .i64) (iI .str (.s (D.toS (D.fld (gD (gL p 4) (tI p 0)) 0))) 0 (CZ (.s (D.toS (D.fld (gD (gL p 4) (tI p 0)) 0))) (.i (bJ .i64 (D.toI (yF (.int .i64) (iI .str (.s (D.toS (D.fld (gD (gL p 4) (tI p 0)) 0))) 0 (gL p 6)))) 1)) (gL p 6) (iI .str (.s (D.toS (D.fld (gD (gL p 4) (tI p 0)) 0))) 0 (gL p 6))))))))
 (.again (let z0:=iI .str (D.s (D.toS (D.fld (gD (gL p 4) (tI p 0)) 0))) 0 (gL p 6);[dL p 0,dL p 1,aL p 2,aL p 3,aL p 4,aL p 5,.l (CZ (D.s (D.toS (D.fld (gD (gL p 4) (tI p 0)) 0))) (D.i (bJ .i64 (D.toI (yF (.int .i64) z0)) 1)) (gL p 6) z0)]))
 (.again (let z0:=iI .str (D.s (D.toS (D.fld (gD (gL p 4) (tI p 0)) 0))) 0 (gL p 6);[dL p 0,.i (bJ .i64 (gI p 1) 0),aL p 2,aL p 3,aL p 4,aL p 5,.l (CZ (D.s (D.toS (D.fld (gD (gL p 4) (tI p 0)) 0))) (D.i (bJ .i64 (D.toI (yF (.int .i64) z0)) 1)) (gL p 6) z0)])))
 bC)
 (.out (0,[aI p 1,aL p 2,aL p 3,aL p 4,aL p 5,aL p 6]))
def xN(p:LD):Sh:=
 .ask (aQ (gI p 1) (iL (gL p 5)))
 (.ask (aA (gI p 1) (List.length (gL p 5)))
 (.call JW [.s (D.toS (D.fld (gD (gL p 5) (tI p 1)) 0))] 0 λc _=>
 .ask ((!(D.toB c))||(aQ 1 (D.toI (yF (.int .i64) (iI .str (.s (D.toS (D.fld (gD (gL p 5) (tI p 1)) 0))) 0 (CZ (.s (D.toS (D.fld (gD (gL p 5) (tI p 1)) 0))) (.i (bJ .i64 (D.toI (yF (.int .i64) (iI .str (.s (D.toS (D.fld (gD (gL p 5) (tI p 1)) 0))) 0 (gL p 6)))) 1)) (gL p 6) (iI .str (.s (D.toS (D.fld (gD (gL p 5) (tI p 1)) 0))) 0 (gL p 6))))))))
 (.again (let z0:=iI .str (D.s (D.toS (D.fld (gD (gL p 5) (tI p 1)) 0))) 0 (gL p 6);[dL p 0,dL p 1,aL p 2,aL p 3,aL p 4,aL p 5,.l (CZ (D.s (D.toS (D.fld (gD (gL p 5) (tI p 1)) 0))) (D.i (bJ .i64 (D.toI (yF (.int .i64) z0)) 1)) (gL p 6) z0)]))
 (.again (let z0:=iI .str (D.s (D.toS (D.fld (gD (gL p 5) (tI p 1)) 0))) 0 (gL p 6);[.i (bJ .i64 (gI p 0) 0),dL p 1,aL p 2,aL p 3,aL p 4,aL p 5,.l (CZ (D.s (D.toS (D.fld (gD (gL p 5) (tI p 1)) 0))) (D.i (bJ .i64 (D.toI (yF (.int .i64) z0)) 1)) (gL p 6) z0)])))
 bC)
 (.out (0,[aI p 0]))
def UD(x:LD):Sh:=
 .call NI [.l [.s (D.toS (D.fld (gD x 1) 0)),.b (vB (gD x 1) 1),.l (eX (gD x 1) 2),.i (vI (gD x 1) 3),.l (eX (gD x 1) 4)]] 0 λd _=>
 .loop 0 [.i 0,.l (eX (gD x 0) 0),.l (eX (gD x 0) 1),.l (eX (gD x 0) 2),.l (eX (gD x 0) 3),.s (D.toS (D.fld (gD x 1) 0)),.b (vB (gD x 1) 1),.l (eX (gD x 1) 2),.i (vI (gD x 1) 3),.l (eX (gD x 1) 4),.l (D.els d)] (.cons (λc=>
 .ret (aB c 0) [])
 (.cons (λc=>
 .ret (.b true) [])
 .nil))
def xO(p:LD):Sh:=
 .ask (aQ (gI p 0) (iL (gL p 9)))
 (.loop 2 [.i 0,aI p 0,aL p 1,aL p 2,aL p 3,aL p 4,aS p 5,aB p 6,aL p 7,aI p 8,aL p 9,aL p 10] (.cons (λc=>
 .out (0,[aB c 0]))
 (.cons (λc=>
 .again [dL c 0,aL c 1,aL c 2,aL c 3,aL c 4,aS c 5,aB c 6,aL c 7,aI c 8,aL c 9,aL c 10])
 .nil)))
 (.out (1,[]))
def xP(p:LD):Sh:=
 .ask (aA (gI p 1) (List.length (gL p 10)))
 (.ask (aQ (gI p 0) (iE (gD (gL p 10) (tI p 1))))
 (.ask (aA (gI p 1) (List.length (gL p 10)))
 (.ask (aA (gI p 0) (nE (gD (gL p 10) (tI p 1))))
 (.loop 4 [aI p 0,aI p 1,.i 0,aL p 2,aL p 3,aL p 4,aL p 5,aS p 6,aB p 7,aL p 8,aI p 9,aL p 10,.i (vI (gE (gD (gL p 10) (tI p 1)) (tI p 0)) 0),.i (vI (gE (gD (gL p 10) (tI p 1)) (tI p 0)) 1),.i (vI (gE (gD (gL p 10) (tI p 1)) (tI p 0)) 2),.i (vI (gE (gD (gL p 10) (tI p 1)) (tI p 0)) 3),.i (vI (gE (gD (gL p 10) (tI p 1)) (tI p 0)) 4),.l (eX (gE (gD (gL p 10) (tI p 1)) (tI p 0)) 5),.l (eX (gE (gD (gL p 10) (tI p 1)) (tI p 0)) 6),.l [],aL p 11] (.cons (λc=>
 .call Gd [.l [aL c 2,aL c 3,aL c 4,aL c 5],.l [aS c 6,aB c 7,aL c 8,aI c 9,aL c 10],.l [aI c 11,aI c 12,aI c 13,aI c 14,aI c 15,aL c 16,aL c 17],aL c 18] 0 λd _=>
 .ask (!(D.toB d))
 (.out (0,[.b false,aI c 1,aL c 2,aL c 3,aL c 4,aL c 5,aS c 6,aB c 7,aL c 8,aI c 9,aL c 10,aL c 19]))
 (.again [dL c 0,aI c 1,aL c 2,aL c 3,aL c 4,aL c 5,aS c 6,aB c 7,aL c 8,aI c 9,aL c 10,aL c 19]))
 .nil))
 bC)
 bC)
 (.out (1,[aI p 1,aL p 2,aL p 3,aL p 4,aL p 5,aS p 6,aB p 7,aL p 8,aI p 9,aL p 10,aL p 11])))
 bC
def xQ(p:LD):Sh:=
 .ask (aQ (gI p 2) (iL (gL p 17)))
 (.ask (aA (gI p 2) (List.length (gL p 17)))
 (.ask (aA (D.toI (gD (gL p 17) (tI p 2))) (List.length (gL p 20)))
 (.ask (jP ((List.length (gL p 19))+1) 8)
 (.again [aI p 0,aI p 1,dL p 2,aL p 3,aL p 4,aL p 5,aL p 6,aS p 7,aB p 8,aL p 9,aI p 10,aL p 11,aI p 12,aI p 13,aI p 14,aI p 15,aI p 16,aL p 17,aL p 18,.l ((gL p 19)++[.i (D.toI (gD (gL p 20) (Int.toNat (D.toI (gD (gL p 17) (tI p 2))))))]),aL p 20])
 bC)
 bC)
 bC)
 (.out (0,[aI p 0,aI p 1,aL p 3,aL p 4,aL p 5,aL p 6,aS p 7,aB p 8,aL p 9,aI p 10,aL p 11,aI p 12,aI p 13,aI p 14,aI p 15,aI p 16,aL p 17,aL p 18,aL p 19,aL p 20]))
def UE(x:LD):Sh:=
 .ask ((cK 0 (iX (gD x 0) 3))&&((aD (iX (gD x 0) 3) (iX (gD x 0) 3))&&(jP (Int.toNat (iX (gD x 0) 3)) 1)))
 (.loop 0 [.i 0,.l (eX (gD x 0) 0),.l (eX (gD x 0) 1),.l (eX (gD x 0) 2),.l (eX (gD x 0) 3),.l (List.replicate (nX (gD x 0) 3) (D.b false))] (.cons (λc=>
 .loop 4 [.i 0,aL c 0,aL c 1,aL c 2,aL c 3,aL c 4] (.cons (λd=>
 .ret (aL d 0) [])
 .nil))
 .nil))
 bC
def tH(p:LD):Sh:=
 .ask (aQ (gI p 0) (iL (gL p 3)))
 (.loop 2 [.i 0,aI p 0,aL p 1,aL p 2,aL p 3,aL p 4,aL p 5] (.cons (λc=>
 .again [dL c 0,aL c 1,aL c 2,aL c 3,aL c 4,aL c 5])
 .nil))
 (.out (0,[aL p 1,aL p 2,aL p 3,aL p 4,aL p 5]))
def lM(p:LD):Sh:=
 .ask (aA (gI p 1) (List.length (gL p 4)))
 (.ask (aQ (gI p 0) (iX (gD (gL p 4) (tI p 1)) 1))
 (.ask (aA (gI p 1) (List.length (gL p 4)))
 (.ask (aA (gI p 0) (nX (gD (gL p 4) (tI p 1)) 1))
 (.ask (cK 0 (D.toI (gD (eX (gD (gL p 4) (tI p 1)) 1) (tI p 0))))
 (.ask (aA (D.toI (gD (eX (gD (gL p 4) (tI p 1)) 1) (tI p 0))) (List.length (gL p 6)))
 (.again [dL p 0,aI p 1,aL p 2,aL p 3,aL p 4,aL p 5,.l (List.set (gL p 6) (Int.toNat (D.toI (gD (eX (gD (gL p 4) (tI p 1)) 1) (tI p 0)))) (D.b true))])
 bC)
 (.again [dL p 0,aI p 1,aL p 2,aL p 3,aL p 4,aL p 5,aL p 6]))
 bC)
 bC)
 (.out (0,[aI p 1,aL p 2,aL p 3,aL p 4,aL p 5,aL p 6])))
 bC
def tU(p:LD):Sh:=
 .ask (aQ (gI p 0) (iL (gL p 4)))
 (.loop 6 [aI p 0,.i 0,aL p 1,aL p 2,aL p 3,aL p 4,aL p 5] (.cons (λc=>
 .again [dL c 0,aL c 1,aL c 2,aL c 3,aL c 4,aL c 5])
 .nil))
 (.out (0,[aL p 5]))
def tV(p:LD):Sh:=
 .ask (aA (gI p 0) (List.length (gL p 5)))
 (.ask (aQ (gI p 1) (iX (gD (gL p 5) (tI p 0)) 4))
 (.loop 8 [aI p 0,.i 0,aI p 1,aL p 2,aL p 3,aL p 4,aL p 5,aL p 6] (.cons (λc=>
 .again [aI c 0,dL c 1,aL c 2,aL c 3,aL c 4,aL c 5,aL c 6])
 .nil))
 (.out (0,[aI p 0,aL p 2,aL p 3,aL p 4,aL p 5,aL p 6])))
 bC
def mO(p:LD):Sh:=
 .ask (aA (gI p 0) (List.length (gL p 6)))
 (.ask (aA (gI p 2) (nX (gD (gL p 6) (tI p 0)) 4))
 (.ask (aQ (gI p 1) (iE (gD (eX (gD (gL p 6) (tI p 0)) 4) (tI p 2))))
 (.ask (aA (gI p 0) (List.length (gL p 6)))
 (.ask (aA (gI p 2) (nX (gD (gL p 6) (tI p 0)) 4))
 (.ask (aA (gI p 1) (nE (gD (eX (gD (gL p 6) (tI p 0)) 4) (tI p 2))))
 (.ask (aD (vI (gE (gD (eX (gD (gL p 6) (tI p 0)) 4) (tI p 2)) (tI p 1)) 0) 2)
 (.ask (aA (vI (gE (gD (eX (gD (gL p 6) (tI p 0)) 4) (tI p 2)) (tI p 1)) 3) (List.length (gL p 7)))
 (.again [aI p 0,dL p 1,aI p 2,aL p 3,aL p 4,aL p 5,aL p 6,.l (List.set (gL p 7) (Int.toNat (vI (gE (gD (eX (gD (gL p 6) (tI p 0)) 4) (tI p 2)) (tI p 1)) 3)) (D.b true))])
 bC)
 (.again [aI p 0,dL p 1,aI p 2,aL p 3,aL p 4,aL p 5,aL p 6,aL p 7]))
 bC)
 bC)
 bC)
 (.out (0,[aI p 0,aI p 2,aL p 3,aL p 4,aL p 5,aL p 6,aL p 7])))
 bC)
 bC
def TS(x:LD):Sh:=
 .call Ge [.l [.s (D.toS (D.fld (gD x 0) 0)),.b (vB (gD x 0) 1),.l (eX (gD x 0) 2),.i (vI (gD x 0) 3),.l (eX (gD x 0) 4)],.i 0,.i (-1)] 0 λc _=>
 .ret (.l (D.els c)) []
def TG(x:LD):Sh:=
 .ask (jP (1+(nX (gD x 0) 2)) 8)
 (.loop 0 [.i 0,.s (D.toS (D.fld (gD x 0) 0)),.b (vB (gD x 0) 1),.l (eX (gD x 0) 2),.i (vI (gD x 0) 3),.l (eX (gD x 0) 4),.l ([.i 0]++(eX (gD x 0) 2))] (.cons (λc=>
 .ret (aL c 0) [])
 .nil))
 bC
def vQ(p:LD):Sh:=
 .ask (aQ (gI p 0) (iL (gL p 5)))
 (.loop 2 [.i 0,aI p 0,aS p 1,aB p 2,aL p 3,aI p 4,aL p 5,aL p 6] (.cons (λc=>
 .again [dL c 0,aS c 1,aB c 2,aL c 3,aI c 4,aL c 5,aL c 6])
 .nil))
 (.out (0,[aL p 6]))
def vR(p:LD):Sh:=
 .ask (aA (gI p 1) (List.length (gL p 6)))
 (.ask (aQ (gI p 0) (iE (gD (gL p 6) (tI p 1))))
 (.ask (aA (gI p 1) (List.length (gL p 6)))
 (.ask (aA (gI p 0) (nE (gD (gL p 6) (tI p 1))))
 (.ask (!(aD (vI (gE (gD (gL p 6) (tI p 1)) (tI p 0)) 1) 0))
 (.ask (jP ((List.length (gL p 7))+1) 8)
 (.again [dL p 0,aI p 1,aS p 2,aB p 3,aL p 4,aI p 5,aL p 6,.l ((gL p 7)++[.i (vI (gE (gD (gL p 6) (tI p 1)) (tI p 0)) 1)])])
 bC)
 (.again [dL p 0,aI p 1,aS p 2,aB p 3,aL p 4,aI p 5,aL p 6,aL p 7]))
 bC)
 bC)
 (.out (0,[aI p 1,aS p 2,aB p 3,aL p 4,aI p 5,aL p 6,aL p 7])))
 bC
def TH(x:LD):Sh:=
 .loop 0 [.i (iX (gD x 0) 0),.l (eX (gD x 0) 0),.i 0,.l (eX (gD x 0) 0),.l (eX (gD x 0) 1),.l (eX (gD x 0) 2),.l (eX (gD x 0) 3),.l []] (.cons (λc=>
 .loop 2 [.i 0,aL c 1,.i (iL (gL c 1)),aL c 0,aL c 1,aL c 2,aL c 3,aL c 4] (.cons (λd=>
 .loop 4 [.i (iL (gL d 2)),.i 0,aL d 2,aL d 0,aL d 1,aL d 2,aL d 3,aL d 4] (.cons (λe=>
 .loop 6 [aL e 3,.i 0,.i (iL (gL e 3)),aL e 4] (.cons (λf=>
 .loop 8 [.i (iL (gL f 0)),.i 0,.l [],aL f 0] (.cons (λg=>
 .ret (aB g 0) [])
 (.cons (λg=>
 .ret (.b true) [])
 .nil)))
 .nil))
 .nil))
 .nil))
 .nil)
def vS(p:LD):Sh:=
 .ask (aQ (gI p 2) (gI p 0))
 (.ask (aA (gI p 2) (List.length (gL p 1)))
 (.ask (jP ((List.length (gL p 7))+1) 16)
 (.again [aI p 0,aL p 1,dL p 2,aL p 3,aL p 4,aL p 5,aL p 6,.l ((gL p 7)++[.s (D.toS (D.fld (gD (gL p 1) (tI p 2)) 0))])])
 bC)
 bC)
 (.out (0,[aL p 3,aL p 4,aL p 5,aL p 6,aL p 7]))
def vT(p:LD):Sh:=
 .ask (aQ (gI p 0) (gI p 2))
 (.ask (aA (gI p 0) (List.length (gL p 1)))
 (.ask (jP ((List.length (gL p 7))+1) 16)
 (.again [dL p 0,aL p 1,aI p 2,aL p 3,aL p 4,aL p 5,aL p 6,.l ((gL p 7)++[.s (D.toS (D.fld (gD (gL p 1) (tI p 0)) 0))])])
 bC)
 bC)
 (.out (0,[aL p 3,aL p 4,aL p 5,aL p 6,aL p 7]))
def vU(p:LD):Sh:=
 .ask (aQ (gI p 1) (gI p 0))
 (.ask (aA (gI p 1) (List.length (gL p 2)))
 (.ask (jP ((List.length (gL p 7))+1) 16)
 (.again [aI p 0,dL p 1,aL p 2,aL p 3,aL p 4,aL p 5,aL p 6,.l ((gL p 7)++[.s (D.toS (D.fld (gD (gL p 2) (tI p 1)) 0))])])
 bC)
 bC)
 (.out (0,[aL p 3,aL p 4,aL p 5,aL p 6,aL p 7]))
def vV(p:LD):Sh:=
 .ask (aQ (gI p 1) (gI p 2))
 (.ask (aA (gI p 1) (List.length (gL p 0)))
 (.ask (jP ((List.length (gL p 3))+1) 16)
 (.again [aL p 0,dL p 1,aI p 2,.l ((gL p 3)++[.s (D.toS (D.fld (gD (gL p 0) (tI p 1)) 0))])])
 bC)
 bC)
 (.out (0,[aL p 3]))
def oZ(p:LD):Sh:=
 .ask (aQ (gI p 1) (gI p 0))
 (.ask (aA (gI p 1) (List.length (gL p 3)))
 (.call Ui [.s (D.toS (gD (gL p 3) (tI p 1)))] 0 λc _=>
 .ask ((!(D.toB c))||(aQ 1 (D.toI (yF (.int .i64) (iI .str (.s (D.toS (gD (gL p 3) (tI p 1)))) 0 (CZ (.s (D.toS (gD (gL p 3) (tI p 1)))) (.i (bJ .i64 (D.toI (yF (.int .i64) (iI .str (.s (D.toS (gD (gL p 3) (tI p 1)))) 0 (gL p 2)))) 1)) (gL p 2) (iI .str (.s (D.toS (gD (gL p 3) (tI p 1)))) 0 (gL p 2))))))))
 (.out (0,[.b false]))
 (.again [aI p 0,dL p 1,.l (CZ (.s (D.toS (gD (gL p 3) (tI p 1)))) (.i (bJ .i64 (D.toI (yF (.int .i64) (iI .str (.s (D.toS (gD (gL p 3) (tI p 1)))) 0 (gL p 2)))) 1)) (gL p 2) (iI .str (.s (D.toS (gD (gL p 3) (tI p 1)))) 0 (gL p 2))),aL p 3]))
 bC)
 (.out (1,[]))
def TJ(x:LD):Sh:=
 .call XL [.l [.s (D.toS (D.fld (gD x 1) 0)),.b (vB (gD x 1) 1),.l (eX (gD x 1) 2),.i (vI (gD x 1) 3),.l (eX (gD x 1) 4)]] 0 λd _=>
 .loop 0 [.i 0,.l (eX (gD x 1) 4),.i (iX (gD x 1) 4),.l (eX (gD x 0) 0),.l (eX (gD x 0) 1),.l (eX (gD x 0) 2),.l (eX (gD x 0) 3),.s (D.toS (D.fld (gD x 1) 0)),.b (vB (gD x 1) 1),.l (eX (gD x 1) 2),.i (vI (gD x 1) 3),.l (eX (gD x 1) 4),.l (D.els d)] (.cons (λc=>
 .ret (aB c 0) [])
 (.cons (λc=>
 .ret (.b true) [])
 .nil))
def vW(p:LD):Sh:=
 .ask (aQ (gI p 0) (gI p 2))
 (.ask (aA (gI p 0) (List.length (gL p 1)))
 (.loop 2 [aI p 0,aL p 1,.i (iE (gD (gL p 1) (tI p 0))),.l (D.els (gD (gL p 1) (tI p 0))),aI p 2,.i 0,aL p 3,aL p 4,aL p 5,aL p 6,aS p 7,aB p 8,aL p 9,aI p 10,aL p 11,aL p 12] (.cons (λc=>
 .out (0,[aB c 2]))
 (.cons (λc=>
 .again [dL c 0,aL c 1,aI c 2,aL c 3,aL c 4,aL c 5,aL c 6,aS c 7,aB c 8,aL c 9,aI c 10,aL c 11,aL c 12])
 .nil)))
 bC)
 (.out (1,[]))
def vX(p:LD):Sh:=
 .ask (aQ (gI p 5) (gI p 2))
 (.ask (aA (gI p 5) (List.length (gL p 3)))
 (.call JV [.l [aL p 6,aL p 7,aL p 8,aL p 9],.l [aS p 10,aB p 11,aL p 12,aI p 13,aL p 14],aL p 15,.l [.i (vI (gD (gL p 3) (tI p 5)) 0),.i (vI (gD (gL p 3) (tI p 5)) 1),.i (vI (gD (gL p 3) (tI p 5)) 2),.i (vI (gD (gL p 3) (tI p 5)) 3),.i (vI (gD (gL p 3) (tI p 5)) 4),.l (eX (gD (gL p 3) (tI p 5)) 5),.l (eX (gD (gL p 3) (tI p 5)) 6)]] 0 λc _=>
 .ask (!(D.toB c))
 (.out (0,[aI p 0,aL p 1,.b false,aI p 4,aL p 6,aL p 7,aL p 8,aL p 9,aS p 10,aB p 11,aL p 12,aI p 13,aL p 14,aL p 15]))
 (.again [aI p 0,aL p 1,aI p 2,aL p 3,aI p 4,dL p 5,aL p 6,aL p 7,aL p 8,aL p 9,aS p 10,aB p 11,aL p 12,aI p 13,aL p 14,aL p 15]))
 bC)
 (.out (1,[aI p 0,aL p 1,aI p 4,aL p 6,aL p 7,aL p 8,aL p 9,aS p 10,aB p 11,aL p 12,aI p 13,aL p 14,aL p 15]))
def Dt(x:LD):Sh:=
 .ask (aD (D.toI (gD x 0)) 26)
 (.ret (.l [.i (-1),.i (-1),.b false,.b false]) [])
 (.ask (aD (D.toI (gD x 0)) 27)
 (.ret (.l [.i 0,.i 1,.b false,.b false]) [])
 (.ask (aD (D.toI (gD x 0)) 28)
 (.ret (.l [.i 1,.i 2,.b false,.b false]) [])
 (.ret (.l [.i 0,.i 0,.b false,.b false]) [])))
def Du(x:LD):Sh:=
 .ask (aD (D.toI (gD x 0)) 24)
 (.ret (.l [.i 1,.i 0,.b true,.b false]) [])
 (.ask (aD (D.toI (gD x 0)) 25)
 (.ask (aD (D.toI (gD x 0)) 25)
 (.ret (.l [.i (-1),.i 0,.b false,.b false]) [])
 (Dt x))
 (.ask (aD (D.toI (gD x 0)) 29)
 (.ret (.l [.i (-1),.i 0,.b false,.b false]) [])
 (Dt x)))
def Dv(x:LD):Sh:=
 .ask (aD (D.toI (gD x 0)) 17)
 (.ret (.l [.i 3,.i 0,.b false,.b false]) [])
 (.ask (aD (D.toI (gD x 0)) 22)
 (.ask (aD (D.toI (gD x 0)) 22)
 (.ret (.l [.i (-1),.i 0,.b true,.b false]) [])
 (Du x))
 (.ask (aD (D.toI (gD x 0)) 23)
 (.ret (.l [.i (-1),.i 0,.b true,.b false]) [])
 (Du x)))
def gV(x:LD):Sh:=
 .ask (aD (D.toI (gD x 0)) 16)
 (.ask (aD (D.toI (gD x 0)) 16)
 (.ret (.l [.i 1,.i 0,.b false,.b false]) [])
 (Dv x))
 (.ask (aD (D.toI (gD x 0)) 20)
 (.ret (.l [.i 1,.i 0,.b false,.b false]) [])
 (Dv x))
def Dw(x:LD):Sh:=
 .ask (aD (D.toI (gD x 0)) 4)
 (.ask (aD (D.toI (gD x 0)) 4)
 (.ret (.l [.i 2,.i 0,.b false,.b false]) [])
 (gV x))
 (.ask (aD (D.toI (gD x 0)) 5)
 (.ask (aD (D.toI (gD x 0)) 5)
 (.ret (.l [.i 2,.i 0,.b false,.b false]) [])
 (gV x))
 (.ask (aD (D.toI (gD x 0)) 6)
 (.ask (aD (D.toI (gD x 0)) 6)
 (.ret (.l [.i 2,.i 0,.b false,.b false]) [])
 (gV x))
 (.ask (aD (D.toI (gD x 0)) 7)
 (.ask (aD (D.toI (gD x 0)) 7)
 (.ret (.l [.i 2,.i 0,.b false,.b false]) [])
 (gV x))
 (.ask (aD (D.toI (gD x 0)) 8)
 (.ask (aD (D.toI (gD x 0)) 8)
 (.ret (.l [.i 2,.i 0,.b false,.b false]) [])
 (gV x))
 (.ask (aD (D.toI (gD x 0)) 9)
 (.ask (aD (D.toI (gD x 0)) 9)
 (.ret (.l [.i 2,.i 0,.b false,.b false]) [])
 (gV x))
 (.ask (aD (D.toI (gD x 0)) 10)
 (.ask (aD (D.toI (gD x 0)) 10)
 (.ret (.l [.i 2,.i 0,.b false,.b false]) [])
 (gV x))
 (.ask (aD (D.toI (gD x 0)) 11)
 (.ask (aD (D.toI (gD x 0)) 11)
 (.ret (.l [.i 2,.i 0,.b false,.b false]) [])
 (gV x))
 (.ask (aD (D.toI (gD x 0)) 12)
 (.ask (aD (D.toI (gD x 0)) 12)
 (.ret (.l [.i 2,.i 0,.b false,.b false]) [])
 (gV x))
 (.ask (aD (D.toI (gD x 0)) 13)
 (.ask (aD (D.toI (gD x 0)) 13)
 (.ret (.l [.i 2,.i 0,.b false,.b false]) [])
 (gV x))
 (.ask (aD (D.toI (gD x 0)) 14)
 (.ask (aD (D.toI (gD x 0)) 14)
 (.ret (.l [.i 2,.i 0,.b false,.b false]) [])
 (gV x))
 (.ask (aD (D.toI (gD x 0)) 15)
 (.ask (aD (D.toI (gD x 0)) 15)
 (.ret (.l [.i 2,.i 0,.b false,.b false]) [])
 (gV x))
 (.ask (aD (D.toI (gD x 0)) 19)
 (.ask (aD (D.toI (gD x 0)) 19)
 (.ret (.l [.i 2,.i 0,.b false,.b false]) [])
 (gV x))
 (.ask (aD (D.toI (gD x 0)) 21)
 (.ret (.l [.i 2,.i 0,.b false,.b false]) [])
 (gV x))))))))))))))
def Dx(x:LD):Sh:=
 .ask (aD (D.toI (gD x 0)) 2)
 (.ask (aD (D.toI (gD x 0)) 2)
 (.ret (.l [.i 0,.i 0,.b true,.b false]) [])
 (Dw x))
 (.ask (aD (D.toI (gD x 0)) 3)
 (.ret (.l [.i 0,.i 0,.b true,.b false]) [])
 (Dw x))
def Pl(x:LD):Sh:=
 .ask (aD (D.toI (gD x 0)) 1)
 (.ask (aD (D.toI (gD x 0)) 1)
 (.ret (.l [.i 0,.i 0,.b false,.b true]) [])
 (Dx x))
 (.ask (aD (D.toI (gD x 0)) 18)
 (.ret (.l [.i 0,.i 0,.b false,.b true]) [])
 (Dx x))
def Aw(x:LD):Sh:=
 .loop 0 [.i 0,.l (eX (gD x 0) 4),.i 0,.i (iX (gD x 0) 4)] (.cons (λc=>
 .ret (aI c 0) [])
 .nil)
def BA(p:LD):Sh:=
 .ask (aQ (gI p 2) (gI p 3))
 (.ask (aA (gI p 2) (List.length (gL p 1)))
 (.again [.i (bJ .i64 (gI p 0) (iE (gD (gL p 1) (tI p 2)))),aL p 1,dL p 2,aI p 3])
 bC)
 (.out (0,[aI p 0]))
def aAj(x:LD):Sh:=
 .ret (.b ((((aD (D.toI (gD x 0)) 27)||(aD (D.toI (gD x 0)) 28))||(aD (D.toI (gD x 0)) 29))||(aD (D.toI (gD x 0)) 30))) []
def oB(x:LD):Sh:=
 .ask (!(aD (iE (gD x 0)) (iE (gD x 1))))
 (.ret (.b false) [])
 (.loop 0 [.l (D.els (gD x 0)),.l (D.els (gD x 1)),.i 0,.i (iE (gD x 0))] (.cons (λc=>
 .ret (aB c 0) [])
 (.cons (λc=>
 .ret (.b true) [])
 .nil)))
def gM(p:LD):Sh:=
 .ask (aQ (gI p 2) (gI p 3))
 (.ask (aA (gI p 2) (List.length (gL p 0)))
 (.ask (aA (gI p 2) (List.length (gL p 1)))
 (.ask (!(aD (D.toI (gD (gL p 0) (tI p 2))) (D.toI (gD (gL p 1) (tI p 2)))))
 (.out (0,[.b false]))
 (.again [aL p 0,aL p 1,dL p 2,aI p 3]))
 bC)
 bC)
 (.out (1,[]))
def NY(x:LD):Sh:=
 .ask (aD (vI (gD x 3) 0) 16)
 (.ask ((aD (vI (gD x 3) 1) 2)&&true)
 (.call Ah [.l (D.els (gD x 2)),.l (eX (gD x 3) 5),.i 2] 0 λc _=>
 .ret (.b ((aD (vI (gD x 3) 1) 2)&&(D.toB c))) [])
 (.ret (.b ((aD (vI (gD x 3) 1) 2)&&(D.toB (.i 0)))) []))
 (.ask (aD (vI (gD x 3) 0) 17)
 (.call vP [.l (D.els (gD x 2)),.l (eX (gD x 3) 5),.l [.i 2,.i (vI (gD x 3) 1),.i (vI (gD x 3) 1)]] 0 λc _=>
 .ret (.b (D.toB c)) [])
 (.ask (aD (vI (gD x 3) 0) 19)
 (.ask ((aD (vI (gD x 3) 1) 3)&&true)
 (.call vP [.l (D.els (gD x 2)),.l (eX (gD x 3) 5),.l [.i 3,.i 1]] 0 λc _=>
 .ret (.b ((aD (vI (gD x 3) 1) 3)&&(D.toB c))) [])
 (.ret (.b ((aD (vI (gD x 3) 1) 3)&&(D.toB (.i 0)))) []))
 (.ask (aD (vI (gD x 3) 0) 20)
 (.ask ((aD (vI (gD x 3) 1) 1)&&true)
 (.call vP [.l (D.els (gD x 2)),.l (eX (gD x 3) 5),.l [.i 3]] 0 λc _=>
 .ret (.b ((aD (vI (gD x 3) 1) 1)&&(D.toB c))) [])
 (.ret (.b ((aD (vI (gD x 3) 1) 1)&&(D.toB (.i 0)))) []))
 (.ask (aD (vI (gD x 3) 0) 21)
 (.call vP [.l (D.els (gD x 2)),.l (eX (gD x 3) 5),.l [.i 3,.i 1]] 0 λc _=>
 .ret (.b (D.toB c)) [])
 (.ask (aD (vI (gD x 3) 0) 24)
 (.ask ((aD (vI (gD x 3) 1) 4)&&true)
 (.call vP [.l (D.els (gD x 2)),.l (eX (gD x 3) 5),.l [.i 1]] 0 λc _=>
 .ret (.b ((aD (vI (gD x 3) 1) 4)&&(D.toB c))) [])
 (.ret (.b ((aD (vI (gD x 3) 1) 4)&&(D.toB (.i 0)))) []))
 (.ask (aD (vI (gD x 3) 0) 25)
 (.ask (aA 0 (nX (gD x 3) 5))
 (.ask (aA (D.toI (gD (eX (gD x 3) 5) 0)) (nE (gD x 2)))
 (.ret (.b ((aD (D.toI (gE (gD x 2) (Int.toNat (D.toI (gD (eX (gD x 3) 5) 0))))) 4)&&(!(aD (vI (gD x 3) 1) 3)))) [])
 bC)
 bC)
 (.ask (aD (vI (gD x 3) 0) 22)
 (.ask (aA (vI (gD x 3) 3) (nX (gD x 0) 3))
 (.ask ((aD (vI (gD x 3) 1) (vI (gD (eX (gD x 0) 3) (Int.toNat (vI (gD x 3) 3))) 3))&&true)
 (.call vP [.l (D.els (gD x 2)),.l (eX (gD x 3) 5),.l (eX (gD (eX (gD x 0) 3) (Int.toNat (vI (gD x 3) 3))) 2)] 0 λc _=>
 .ret (.b ((aD (vI (gD x 3) 1) (vI (gD (eX (gD x 0) 3) (Int.toNat (vI (gD x 3) 3))) 3))&&(D.toB c))) [])
 (.ret (.b ((aD (vI (gD x 3) 1) (vI (gD (eX (gD x 0) 3) (Int.toNat (vI (gD x 3) 3))) 3))&&(D.toB (.i 0)))) []))
 bC)
 (.ask (aD (vI (gD x 3) 0) 23)
 (.ask (aA (vI (gD x 3) 3) (nX (gD x 0) 0))
 (.ask ((aD (vI (gD x 3) 1) (vI (gD (eX (gD x 0) 0) (Int.toNat (vI (gD x 3) 3))) 2))&&true)
 (.call vP [.l (D.els (gD x 2)),.l (eX (gD x 3) 5),.l (eX (gD (eX (gD x 0) 0) (Int.toNat (vI (gD x 3) 3))) 1)] 0 λc _=>
 .ret (.b ((aD (vI (gD x 3) 1) (vI (gD (eX (gD x 0) 0) (Int.toNat (vI (gD x 3) 3))) 2))&&(D.toB c))) [])
 (.ret (.b ((aD (vI (gD x 3) 1) (vI (gD (eX (gD x 0) 0) (Int.toNat (vI (gD x 3) 3))) 2))&&(D.toB (.i 0)))) []))
 bC)
 (.ask (aD (vI (gD x 3) 0) 26)
 (.call Ah [.l (D.els (gD x 2)),.l (eX (gD x 3) 5),.i (vI (gD x 3) 1)] 0 λc _=>
 .ret (.b (D.toB c)) [])
 (.ask (aD (vI (gD x 3) 0) 28)
 (.call vP [.l (D.els (gD x 2)),.l (eX (gD x 3) 5),.l [.i 2]] 0 λc _=>
 .ret (.b (D.toB c)) [])
 (.ask (aD (vI (gD x 3) 0) 29)
 (.ask (aD (vI (gD x 1) 3) 0)
 (.ret (.b (aD (iX (gD x 3) 5) 0)) [])
 (.call vP [.l (D.els (gD x 2)),.l (eX (gD x 3) 5),.l [.i (vI (gD x 1) 3)]] 0 λc _=>
 .ret (.b (D.toB c)) []))
 (.ret (.b true) []))))))))))))
def NZ(x:LD):Sh:=
 .ask ((aD (vI (gD x 3) 1) 2)&&true)
 (.call Ah [.l (D.els (gD x 2)),.l (eX (gD x 3) 5),.i 1] 0 λc _=>
 .ret (.b ((aD (vI (gD x 3) 1) 2)&&(D.toB c))) [])
 (.ret (.b ((aD (vI (gD x 3) 1) 2)&&(D.toB (.i 0)))) [])
def iA(x:LD):Sh:=
 .ask (aD (vI (gD x 3) 0) 14)
 (.ask (aD (vI (gD x 3) 0) 14)
 (NZ x)
 (NY x))
 (.ask (aD (vI (gD x 3) 0) 15)
 (NZ x)
 (NY x))
def iB(x:LD):Sh:=
 .ask ((aD (vI (gD x 3) 1) 1)&&true)
 (.call Ah [.l (D.els (gD x 2)),.l (eX (gD x 3) 5),.i 1] 0 λc _=>
 .ret (.b ((aD (vI (gD x 3) 1) 1)&&(D.toB c))) [])
 (.ret (.b ((aD (vI (gD x 3) 1) 1)&&(D.toB (.i 0)))) [])
def OA(x:LD):Sh:=
 .ask (aD (vI (gD x 3) 0) 4)
 (.ask (aD (vI (gD x 3) 0) 4)
 (iB x)
 (iA x))
 (.ask (aD (vI (gD x 3) 0) 5)
 (.ask (aD (vI (gD x 3) 0) 5)
 (iB x)
 (iA x))
 (.ask (aD (vI (gD x 3) 0) 6)
 (.ask (aD (vI (gD x 3) 0) 6)
 (iB x)
 (iA x))
 (.ask (aD (vI (gD x 3) 0) 7)
 (.ask (aD (vI (gD x 3) 0) 7)
 (iB x)
 (iA x))
 (.ask (aD (vI (gD x 3) 0) 8)
 (.ask (aD (vI (gD x 3) 0) 8)
 (iB x)
 (iA x))
 (.ask (aD (vI (gD x 3) 0) 9)
 (.ask (aD (vI (gD x 3) 0) 9)
 (iB x)
 (iA x))
 (.ask (aD (vI (gD x 3) 0) 10)
 (.ask (aD (vI (gD x 3) 0) 10)
 (iB x)
 (iA x))
 (.ask (aD (vI (gD x 3) 0) 11)
 (.ask (aD (vI (gD x 3) 0) 11)
 (iB x)
 (iA x))
 (.ask (aD (vI (gD x 3) 0) 12)
 (.ask (aD (vI (gD x 3) 0) 12)
 (iB x)
 (iA x))
 (.ask (aD (vI (gD x 3) 0) 13)
 (iB x)
 (iA x))))))))))
def XN(x:LD):Sh:=
 .ask (aD (vI (gD x 3) 0) 1)
 (.ret (.b ((aD (vI (gD x 3) 1) 1)||((aD (vI (gD x 3) 1) 2)&&((aD (vI (gD x 3) 4) 0)||(aD (vI (gD x 3) 4) 1))))) [])
 (.ask (aD (vI (gD x 3) 0) 2)
 (.ret (.b (aD (vI (gD x 3) 1) 4)) [])
 (.ask (aD (vI (gD x 3) 0) 3)
 (.ask (aD (vI (gD x 3) 0) 3)
 (.ret (.b (aD (vI (gD x 3) 1) 3)) [])
 (OA x))
 (.ask (aD (vI (gD x 3) 0) 18)
 (.ret (.b (aD (vI (gD x 3) 1) 3)) [])
 (OA x))))
def Uk(x:LD):Sh:=
 .loop 0 [.l (D.els (gD x 0)),.i (pS x 1),.i 0] (.cons (λc=>
 .ret (aB c 0) [])
 (.cons (λc=>
 .ret (.b false) [])
 .nil))
def HN(p:LD):Sh:=
 .ask (aQ (gI p 2) (iL (gL p 0)))
 (.ask (aA (gI p 2) (List.length (gL p 0)))
 (.ask (aD (D.toI (gD (gL p 0) (tI p 2))) (gI p 1))
 (.out (0,[.b true]))
 (.again [aL p 0,aI p 1,dL p 2]))
 bC)
 (.out (1,[]))
def OB(x:LD):Sh:=
 .ask ((!(!((aQ (pS x 1) 0)||(cK (iX (gD x 0) 4) (pS x 1)))))||(aA (pS x 1) (nX (gD x 0) 4)))
 (.ask (((aQ (pS x 1) 0)||(cK (iX (gD x 0) 4) (pS x 1)))||(aD (iE (gD (eX (gD x 0) 4) (oQ x 1))) 0))
 (.ret (.l []) [])
 (.ask (aA (pS x 1) (nX (gD x 0) 4))
 (.ask (aA (pS x 1) (nX (gD x 0) 4))
 (.ask (aA (bE .i64 ((iE (gD (eX (gD x 0) 4) (oQ x 1)))-1)) (nE (gD (eX (gD x 0) 4) (oQ x 1))))
 (.ask ((!(aD (vI (gE (gD (eX (gD x 0) 4) (oQ x 1)) (Int.toNat (bE .i64 ((iE (gD (eX (gD x 0) 4) (oQ x 1)))-1)))) 0) 27))&&(!(aD (vI (gE (gD (eX (gD x 0) 4) (oQ x 1)) (Int.toNat (bE .i64 ((iE (gD (eX (gD x 0) 4) (oQ x 1)))-1)))) 0) 28)))
 (.ret (.l []) [])
 (.loop 0 (let z0:=eX (gE (gD (eX (gD x 0) 4) (oQ x 1)) (Int.toNat (bE .i64 ((iE (gD (eX (gD x 0) 4) (oQ x 1)))-1)))) 6;[.l z0,.i 0,.i (iL z0),.s (D.toS (D.fld (gD x 0) 0)),.b (vB (gD x 0) 1),.l (eX (gD x 0) 2),.i (vI (gD x 0) 3),.l (eX (gD x 0) 4),.l []]) (.cons (λc=>
 .ret (aL c 0) [])
 .nil)))
 bC)
 bC)
 bC))
 bC
def GU(p:LD):Sh:=
 .ask (jP ((List.length (gL p 8))+1) 8)
 (.again [aL p 0,dL p 1,aI p 2,aS p 3,aB p 4,aL p 5,aI p 6,aL p 7,.l ((gL p 8)++[.i (D.toI (gD (gL p 0) (tI p 1)))])])
 bC
def sZ(p:LD):Sh:=
 .ask (aQ (gI p 1) (gI p 2))
 (.ask (aA (gI p 1) (List.length (gL p 0)))
 (.ask (((cK 0 (D.toI (gD (gL p 0) (tI p 1))))&&(aQ (D.toI (gD (gL p 0) (tI p 1))) (iL (gL p 7))))&&true)
 (.call nJ [aL p 8,.i (D.toI (gD (gL p 0) (tI p 1)))] 0 λc _=>
 .ask (((cK 0 (D.toI (gD (gL p 0) (tI p 1))))&&(aQ (D.toI (gD (gL p 0) (tI p 1))) (iL (gL p 7))))&&(!(D.toB c)))
 (GU p)
 (.again [aL p 0,dL p 1,aI p 2,aS p 3,aB p 4,aL p 5,aI p 6,aL p 7,aL p 8]))
 (.ask (((cK 0 (D.toI (gD (gL p 0) (tI p 1))))&&(aQ (D.toI (gD (gL p 0) (tI p 1))) (iL (gL p 7))))&&(!(D.toB (.i 0))))
 (GU p)
 (.again [aL p 0,dL p 1,aI p 2,aS p 3,aB p 4,aL p 5,aI p 6,aL p 7,aL p 8])))
 bC)
 (.out (0,[aL p 8]))
def At(x:LD):Sh:=
 .ask (!(aD (iE (gD x 1)) (iE (gD x 2))))
 (.ret (.b false) [])
 (.loop 0 [.l (D.els (gD x 0)),.i (iE (gD x 1)),.l (D.els (gD x 2)),.i 0,.l (D.els (gD x 1))] (.cons (λc=>
 .ret (aB c 0) [])
 (.cons (λc=>
 .ret (.b true) [])
 .nil)))
def AT(p:LD):Sh:=
 .ask (aQ (gI p 3) (gI p 1))
 (.ask (aA (gI p 3) (List.length (gL p 4)))
 (.ask (aA (D.toI (gD (gL p 4) (tI p 3))) (List.length (gL p 0)))
 (.ask (aA (gI p 3) (List.length (gL p 2)))
 (.ask (!(aD (D.toI (gD (gL p 0) (Int.toNat (D.toI (gD (gL p 4) (tI p 3)))))) (D.toI (gD (gL p 2) (tI p 3)))))
 (.out (0,[.b false]))
 (.again [aL p 0,aI p 1,aL p 2,dL p 3,aL p 4]))
 bC)
 bC)
 bC)
 (.out (1,[]))
def pH(x:LD):Sh:=
 .ask (aD (vI (gD (eX (gD x 0) 3) (oQ x 1)) 0) 19)
 (.ask (aA 0 (nX (gD (eX (gD x 0) 3) (oQ x 1)) 5))
 (.call vO [.l [.l (eX (gD x 0) 0),.l (eX (gD x 0) 1),.l (eX (gD x 0) 2),.l (eX (gD x 0) 3)],.i (D.toI (gD (eX (gD (eX (gD x 0) 3) (oQ x 1)) 5) 0))] 1 λd c=>
 .ask (aA 1 (nX (gD (eX (gD x 0) 3) (oQ x 1)) 5))
 (.call lT [.l [.l (eX (gD c 0) 0),.l (eX (gD c 0) 1),.l (eX (gD c 0) 2),.l (eX (gD c 0) 3)],.i (D.toI (gD (eX (gD (eX (gD x 0) 3) (oQ x 1)) 5) 1))] 0 λe _=>
 .ask ((aD (vI d 0) 1)&&(vB e 1))
 (.ask (aA (pS x 1) (nX (gD c 0) 2))
 (let z0:=List.set (eX (gD c 0) 2) (oQ x 1) (D.l (cN (D.els (gD (eX (gD c 0) 2) (oQ x 1))) 0 (D.i 1)));.ret (D.l [D.i 1,D.i (bJ .i64 (vI d 1) (vI e 0))]) [D.l [D.l (eX (gD c 0) 0),D.l (eX (gD c 0) 1),D.l (List.set z0 (oQ x 1) (D.l (cN (D.els (gD z0 (oQ x 1))) 1 (D.i (bJ .i64 (vI d 1) (vI e 0)))))),D.l (eX (gD c 0) 3)]])
 bC)
 (.ask (aA (pS x 1) (nX (gD c 0) 2))
 (let z0:=List.set (eX (gD c 0) 2) (oQ x 1) (D.l (cN (D.els (gD (eX (gD c 0) 2) (oQ x 1))) 0 (D.i 2)));.ret (D.l [D.i 2,D.i 0]) [D.l [D.l (eX (gD c 0) 0),D.l (eX (gD c 0) 1),D.l (List.set z0 (oQ x 1) (D.l (cN (D.els (gD z0 (oQ x 1))) 1 (D.i 0)))),D.l (eX (gD c 0) 3)]])
 bC))
 bC)
 bC)
 (.ask (aA (pS x 1) (nX (gD x 0) 2))
 (let z0:=List.set (eX (gD x 0) 2) (oQ x 1) (D.l (cN (D.els (gD (eX (gD x 0) 2) (oQ x 1))) 0 (D.i 2)));.ret (D.l [D.i 2,D.i 0]) [D.l [D.l (eX (gD x 0) 0),D.l (eX (gD x 0) 1),D.l (List.set z0 (oQ x 1) (D.l (cN (D.els (gD z0 (oQ x 1))) 1 (D.i 0)))),D.l (eX (gD x 0) 3)]])
 bC)
def EC(x:LD):Sh:=
 .ask (aA (pS x 1) (nX (gD x 0) 2))
 (let z0:=List.set (eX (gD x 0) 2) (oQ x 1) (D.l (cN (D.els (gD (eX (gD x 0) 2) (oQ x 1))) 0 (D.i 1)));.ret (D.l [D.i 1,D.i 0]) [D.l [D.l (eX (gD x 0) 0),D.l (eX (gD x 0) 1),D.l (List.set z0 (oQ x 1) (D.l (cN (D.els (gD z0 (oQ x 1))) 1 (D.i 0)))),D.l (eX (gD x 0) 3)]])
 bC
def fE(x:LD):Sh:=
 .ask (aA (pS x 1) (nX (gD x 0) 0))
 (.ask ((!(!(!(aD (D.toI (gD (eX (gD x 0) 0) (oQ x 1))) 3))))||(aA (pS x 1) (nX (gD x 0) 2)))
 (.ask ((!(aD (D.toI (gD (eX (gD x 0) 0) (oQ x 1))) 3))||(!(aD (vI (gD (eX (gD x 0) 2) (oQ x 1)) 0) 0)))
 (.ask (aA (pS x 1) (nX (gD x 0) 2))
 (.ret (.l [.i (vI (gD (eX (gD x 0) 2) (oQ x 1)) 0),.i (vI (gD (eX (gD x 0) 2) (oQ x 1)) 1)]) [.l [.l (eX (gD x 0) 0),.l (eX (gD x 0) 1),.l (eX (gD x 0) 2),.l (eX (gD x 0) 3)]])
 bC)
 (.ask (aA (pS x 1) (nX (gD x 0) 3))
 (.ask (aD (vI (gD (eX (gD x 0) 3) (oQ x 1)) 0) 18)
 (.ask (aD (vI (gD (eX (gD x 0) 3) (oQ x 1)) 0) 18)
 (EC x)
 (pH x))
 (.ask (aD (vI (gD (eX (gD x 0) 3) (oQ x 1)) 0) 3)
 (EC x)
 (pH x)))
 bC))
 bC)
 bC
def yV(x:LD):Sh:=
 .ask (aA (pS x 1) (nX (gD x 0) 3))
 (.ret (.l [.i (vI (gD (eX (gD x 0) 3) (oQ x 1)) 4),.b (aD (vI (gD (eX (gD x 0) 3) (oQ x 1)) 0) 1)]) [])
 bC
def AH(x:LD):Sh:=
 .call Js [.l [.l (eX (gD x 0) 0),.l (eX (gD x 0) 1),.l (eX (gD x 0) 2),.l (eX (gD x 0) 3)]] 0 λe _=>
 .ask (!(aD (D.toI e) 0))
 (.ret (.l []) [])
 (.ask ((cK 0 (iX (gD x 0) 3))&&((aD (iX (gD x 0) 3) (iX (gD x 0) 3))&&(jP (Int.toNat (iX (gD x 0) 3)) 24)))
 (.call YH [.l [.l (eX (gD x 0) 0),.l (eX (gD x 0) 1),.l (eX (gD x 0) 2),.l (eX (gD x 0) 3)]] 0 λc _=>
 .loop 0 [.i (iE c),.i 0,.l (eX (gD x 0) 0),.l (eX (gD x 0) 1),.l (eX (gD x 0) 2),.l (eX (gD x 0) 3),.l (List.replicate (nX (gD x 0) 3) (D.l [])),.l (D.els c)] (.cons (λd=>
 .ret (aL d 0) [])
 .nil))
 bC)
def vN(p:LD):Sh:=
 .ask (aQ (gI p 1) (gI p 0))
 (.ask (aA (gI p 1) (List.length (gL p 7)))
 (.ask (!(D.toB (gD (gL p 7) (tI p 1))))
 (.again [aI p 0,dL p 1,aL p 2,aL p 3,aL p 4,aL p 5,aL p 6,aL p 7])
 (.ask (aA (gI p 1) (List.length (gL p 5)))
 (.call Jo [.l [.s (D.toS (D.fld (gD (gL p 5) (tI p 1)) 0)),.b (vB (gD (gL p 5) (tI p 1)) 1),.l (eX (gD (gL p 5) (tI p 1)) 2),.i (vI (gD (gL p 5) (tI p 1)) 3),.l (eX (gD (gL p 5) (tI p 1)) 4)]] 0 λd _=>
 .ask (aA (gI p 1) (List.length (gL p 5)))
 (.loop 2 [aI p 0,.i (iX (gD (gL p 5) (tI p 1)) 2),aI p 1,aI p 1,.i 0,aL p 2,aL p 3,aL p 4,aL p 5,aL p 6,aL p 7,.l (D.els d)] (.cons (λc=>
 .again [aI c 0,dL c 1,aL c 2,aL c 3,aL c 4,aL c 5,aL c 6,aL c 7])
 .nil))
 bC)
 bC))
 bC)
 (.out (0,[aL p 6]))
def xE(p:LD):Sh:=
 .ask (aQ (gI p 4) (gI p 1))
 (.ask (aA (bJ .i64 (gI p 4) 1) (List.length (gL p 11)))
 (.ask (aD (D.toI (gD (gL p 11) (Int.toNat (bJ .i64 (gI p 4) 1)))) 0)
 (.ask (aA (gI p 2) (List.length (gL p 9)))
 (.ask (jP ((nE (gD (gL p 9) (tI p 2)))+1) 8)
 (.ask (aA (gI p 2) (List.length (gL p 9)))
 (.ask ((Nat.beq (tI p 2) (tI p 2))&&true)
 (.again [aI p 0,aI p 1,aI p 2,aI p 3,dL p 4,aL p 5,aL p 6,aL p 7,aL p 8,.l (List.set (gL p 9) (tI p 2) (D.l ((D.els (gD (gL p 9) (tI p 2)))++[dL p 4]))),aL p 10,aL p 11])
 bC)
 bC)
 bC)
 bC)
 (.again [aI p 0,aI p 1,aI p 2,aI p 3,dL p 4,aL p 5,aL p 6,aL p 7,aL p 8,aL p 9,aL p 10,aL p 11]))
 bC)
 (.out (0,[aI p 0,aI p 3,aL p 5,aL p 6,aL p 7,aL p 8,aL p 9,aL p 10]))
def Ul(x:LD):Sh:=
 .ask (!(aD (iE (gD x 0)) (iE (gD x 1))))
 (.ret (.b false) [])
 (.loop 0 [.l (D.els (gD x 0)),.l (D.els (gD x 1)),.i 0] (.cons (λc=>
 .ret (aB c 0) [])
 (.cons (λc=>
 .ret (.b true) [])
 .nil)))
def Kj(p:LD):Sh:=
 .ask (aQ (gI p 2) (iL (gL p 0)))
 (.ask (aA (gI p 2) (List.length (gL p 0)))
 (.ask (aA (gI p 2) (List.length (gL p 1)))
 (.ask (!(bif D.toB (gD (gL p 0) (tI p 2))then D.toB (gD (gL p 1) (tI p 2))else !(D.toB (gD (gL p 1) (tI p 2)))))
 (.out (0,[.b false]))
 (.again [aL p 0,aL p 1,dL p 2]))
 bC)
 bC)
 (.out (1,[]))
def Ai(x:LD):Sh:=
 .loop 0 [.i 0,.i 0,.s (D.toS (D.fld (gD x 0) 0)),.b (vB (gD x 0) 1),.l (eX (gD x 0) 2),.i (vI (gD x 0) 3),.l (eX (gD x 0) 4)] (.cons (λc=>
 .ret (aI c 0) [])
 .nil)
def AB(p:LD):Sh:=
 .ask (aQ (gI p 1) (iL (gL p 6)))
 (.ask (aA (gI p 1) (List.length (gL p 6)))
 (.again [.i (bJ .i64 (gI p 0) (iE (gD (gL p 6) (tI p 1)))),dL p 1,aS p 2,aB p 3,aL p 4,aI p 5,aL p 6])
 bC)
 (.out (0,[aI p 0]))
def Aj(x:LD):Sh:=
 .loop 0 [.i 0,.l (eX (gD x 0) 0),.l (eX (gD x 0) 1),.l (eX (gD x 0) 2),.l (eX (gD x 0) 3)] (.cons (λc=>
 .ret (aB c 0) [])
 (.cons (λc=>
 .loop 4 [.i 0,aL c 0,aL c 1,aL c 2,aL c 3] (.cons (λd=>
 .ret (aB d 0) [])
 (.cons (λd=>
 .ret (.b true) [])
 .nil)))
 .nil))
def AC(p:LD):Sh:=
 .ask (aQ (gI p 0) (iL (gL p 3)))
 (.loop 2 [aI p 0,.i 0,aL p 1,aL p 2,aL p 3,aL p 4] (.cons (λc=>
 .out (0,[aB c 1,aL c 2,aL c 3,aL c 4,aL c 5]))
 (.cons (λc=>
 .again [dL c 0,aL c 1,aL c 2,aL c 3,aL c 4])
 .nil)))
 (.out (1,[aL p 1,aL p 2,aL p 3,aL p 4]))
def AD(p:LD):Sh:=
 .ask (aA (gI p 0) (List.length (gL p 4)))
 (.ask (aQ (gI p 1) (iX (gD (gL p 4) (tI p 0)) 1))
 (.ask (aA (gI p 0) (List.length (gL p 4)))
 (.ask (aA (gI p 1) (nX (gD (gL p 4) (tI p 0)) 1))
 (.ask ((aQ (D.toI (gD (eX (gD (gL p 4) (tI p 0)) 1) (tI p 1))) (-1))||(cK (iL (gL p 5)) (D.toI (gD (eX (gD (gL p 4) (tI p 0)) 1) (tI p 1)))))
 (.out (0,[aI p 0,.b false,aL p 2,aL p 3,aL p 4,aL p 5]))
 (.again [aI p 0,dL p 1,aL p 2,aL p 3,aL p 4,aL p 5]))
 bC)
 bC)
 (.out (1,[aI p 0,aL p 2,aL p 3,aL p 4,aL p 5])))
 bC
def AE(p:LD):Sh:=
 .ask (aQ (gI p 0) (iL (gL p 4)))
 (.loop 6 [.i 0,aI p 0,aL p 1,aL p 2,aL p 3,aL p 4] (.cons (λc=>
 .out (0,[aB c 0]))
 (.cons (λc=>
 .again [dL c 0,aL c 1,aL c 2,aL c 3,aL c 4])
 .nil)))
 (.out (1,[]))
def AF(p:LD):Sh:=
 .ask (aA (gI p 1) (List.length (gL p 5)))
 (.ask (aQ (gI p 0) (iX (gD (gL p 5) (tI p 1)) 4))
 (.loop 8 [aI p 0,.i 0,aI p 1,aL p 2,aL p 3,aL p 4,aL p 5] (.cons (λc=>
 .out (0,[aB c 1,aI c 2,aL c 3,aL c 4,aL c 5,aL c 6]))
 (.cons (λc=>
 .again [dL c 0,aI c 1,aL c 2,aL c 3,aL c 4,aL c 5])
 .nil)))
 (.out (1,[aI p 1,aL p 2,aL p 3,aL p 4,aL p 5])))
 bC
def FY(p:LD):Sh:=
 .ask (aD (vI (gE (gD (eX (gD (gL p 6) (tI p 2)) 4) (tI p 0)) (tI p 1)) 0) 3)
 (.ask ((aQ (vI (gE (gD (eX (gD (gL p 6) (tI p 2)) 4) (tI p 0)) (tI p 1)) 3) 0)||(cK (iL (gL p 4)) (vI (gE (gD (eX (gD (gL p 6) (tI p 2)) 4) (tI p 0)) (tI p 1)) 3)))
 (.out (0,[aI p 0,.b false,aI p 2,aL p 3,aL p 4,aL p 5,aL p 6]))
 (.again [aI p 0,dL p 1,aI p 2,aL p 3,aL p 4,aL p 5,aL p 6]))
 (.ask (aD (vI (gE (gD (eX (gD (gL p 6) (tI p 2)) 4) (tI p 0)) (tI p 1)) 0) 23)
 (.ask ((aQ (vI (gE (gD (eX (gD (gL p 6) (tI p 2)) 4) (tI p 0)) (tI p 1)) 3) 0)||(cK (iL (gL p 3)) (vI (gE (gD (eX (gD (gL p 6) (tI p 2)) 4) (tI p 0)) (tI p 1)) 3)))
 (.out (0,[aI p 0,.b false,aI p 2,aL p 3,aL p 4,aL p 5,aL p 6]))
 (.again [aI p 0,dL p 1,aI p 2,aL p 3,aL p 4,aL p 5,aL p 6]))
 (.ask (aD (vI (gE (gD (eX (gD (gL p 6) (tI p 2)) 4) (tI p 0)) (tI p 1)) 0) 24)
 (.ask ((aQ (vI (gE (gD (eX (gD (gL p 6) (tI p 2)) 4) (tI p 0)) (tI p 1)) 3) 0)||(cK (iL (gL p 5)) (vI (gE (gD (eX (gD (gL p 6) (tI p 2)) 4) (tI p 0)) (tI p 1)) 3)))
 (.out (0,[aI p 0,.b false,aI p 2,aL p 3,aL p 4,aL p 5,aL p 6]))
 (.again [aI p 0,dL p 1,aI p 2,aL p 3,aL p 4,aL p 5,aL p 6]))
 (.ask ((aQ (vI (gE (gD (eX (gD (gL p 6) (tI p 2)) 4) (tI p 0)) (tI p 1)) 3) 0)||(cK 1 (vI (gE (gD (eX (gD (gL p 6) (tI p 2)) 4) (tI p 0)) (tI p 1)) 3)))
 (.out (0,[aI p 0,.b false,aI p 2,aL p 3,aL p 4,aL p 5,aL p 6]))
 (.again [aI p 0,dL p 1,aI p 2,aL p 3,aL p 4,aL p 5,aL p 6]))))
def FZ(p:LD):Sh:=
 .ask ((aQ (vI (gE (gD (eX (gD (gL p 6) (tI p 2)) 4) (tI p 0)) (tI p 1)) 3) 0)||(cK (iL (gL p 6)) (vI (gE (gD (eX (gD (gL p 6) (tI p 2)) 4) (tI p 0)) (tI p 1)) 3)))
 (.out (0,[aI p 0,.b false,aI p 2,aL p 3,aL p 4,aL p 5,aL p 6]))
 (.again [aI p 0,dL p 1,aI p 2,aL p 3,aL p 4,aL p 5,aL p 6])
def AG(p:LD):Sh:=
 .ask (aA (gI p 2) (List.length (gL p 6)))
 (.ask (aA (gI p 0) (nX (gD (gL p 6) (tI p 2)) 4))
 (.ask (aQ (gI p 1) (iE (gD (eX (gD (gL p 6) (tI p 2)) 4) (tI p 0))))
 (.ask (aA (gI p 2) (List.length (gL p 6)))
 (.ask (aA (gI p 0) (nX (gD (gL p 6) (tI p 2)) 4))
 (.ask (aA (gI p 1) (nE (gD (eX (gD (gL p 6) (tI p 2)) 4) (tI p 0))))
 (.ask (aD (vI (gE (gD (eX (gD (gL p 6) (tI p 2)) 4) (tI p 0)) (tI p 1)) 0) 2)
 (.ask (aD (vI (gE (gD (eX (gD (gL p 6) (tI p 2)) 4) (tI p 0)) (tI p 1)) 0) 2)
 (FZ p)
 (FY p))
 (.ask (aD (vI (gE (gD (eX (gD (gL p 6) (tI p 2)) 4) (tI p 0)) (tI p 1)) 0) 22)
 (FZ p)
 (FY p)))
 bC)
 bC)
 bC)
 (.out (1,[aI p 0,aI p 2,aL p 3,aL p 4,aL p 5,aL p 6])))
 bC)
 bC
def TU(x:LD):Sh:=
 .call Jz [.l [.l (eX (gD x 0) 0),.l (eX (gD x 0) 1),.l (eX (gD x 0) 2),.l (eX (gD x 0) 3)]] 0 λf _=>
 .ask (!(D.toB f))
 (.ret (.i 2) [])
 (.call Ae [.l [.l (eX (gD x 0) 0),.l (eX (gD x 0) 1),.l (eX (gD x 0) 2),.l (eX (gD x 0) 3)]] 0 λg _=>
 .ask (!(D.toB g))
 (.ret (.i 1) [])
 (.call Ka [.l [.l (eX (gD x 0) 0),.l (eX (gD x 0) 1),.l (eX (gD x 0) 2),.l (eX (gD x 0) 3)]] 0 λh _=>
 .ask (!(D.toB h))
 (.ret (.i 3) [])
 (.call Kb [.l [.l (eX (gD x 0) 0),.l (eX (gD x 0) 1),.l (eX (gD x 0) 2),.l (eX (gD x 0) 3)]] 0 λj _=>
 .ask (!(D.toB j))
 (.ret (.i 4) [])
 (.loop 1 [.i (iX (gD x 0) 3),.i 0,.l (eX (gD x 0) 3),.l (eX (gD x 0) 0),.l (eX (gD x 0) 1),.l (eX (gD x 0) 2),.l (eX (gD x 0) 3)] (.cons (λc=>
 .ret (aI c 0) [])
 (.cons (λc=>
 .loop 3 [.i 0,aL c 3,.i (iL (gL c 3)),aL c 0,aL c 1,aL c 2,aL c 3] (.cons (λd=>
 .ret (aI d 0) [])
 (.cons (λd=>
 .loop 5 [.i (iL (gL d 3)),aL d 3,.i 0,aL d 0,aL d 1,aL d 2,aL d 3] (.cons (λe=>
 .ret (aI e 0) [])
 (.cons (λe=>
 .ret (.i 0) [])
 .nil)))
 .nil)))
 .nil))))))
def wW(p:LD):Sh:=
 .ask (aQ (gI p 1) (gI p 0))
 (.ask (aA (gI p 1) (List.length (gL p 2)))
 (.call XK [.l [.s (D.toS (D.fld (gD (gL p 2) (tI p 1)) 0)),.b (vB (gD (gL p 2) (tI p 1)) 1),.l (eX (gD (gL p 2) (tI p 1)) 2),.i (vI (gD (gL p 2) (tI p 1)) 3),.l (eX (gD (gL p 2) (tI p 1)) 4)]] 0 λc _=>
 .ask (!(D.toB c))
 (.out (0,[.i 5,aL p 3,aL p 4,aL p 5,aL p 6]))
 (.again [aI p 0,dL p 1,aL p 2,aL p 3,aL p 4,aL p 5,aL p 6]))
 bC)
 (.out (1,[aL p 3,aL p 4,aL p 5,aL p 6]))
def wX(p:LD):Sh:=
 .ask (aQ (gI p 0) (gI p 2))
 (.ask (aA (gI p 0) (List.length (gL p 1)))
 (.call Ud [.l [.s (D.toS (D.fld (gD (gL p 1) (tI p 0)) 0)),.b (vB (gD (gL p 1) (tI p 0)) 1),.l (eX (gD (gL p 1) (tI p 0)) 2),.i (vI (gD (gL p 1) (tI p 0)) 3),.l (eX (gD (gL p 1) (tI p 0)) 4)]] 0 λc _=>
 .ask (!(D.toB c))
 (.out (0,[.i 6,aL p 3,aL p 4,aL p 5,aL p 6]))
 (.again [dL p 0,aL p 1,aI p 2,aL p 3,aL p 4,aL p 5,aL p 6]))
 bC)
 (.out (1,[aL p 3,aL p 4,aL p 5,aL p 6]))
def wY(p:LD):Sh:=
 .ask (aQ (gI p 2) (gI p 0))
 (.ask (aA (gI p 2) (List.length (gL p 1)))
 (.call Kc [.l [aL p 3,aL p 4,aL p 5,aL p 6],.l [.s (D.toS (D.fld (gD (gL p 1) (tI p 2)) 0)),.b (vB (gD (gL p 1) (tI p 2)) 1),.l (eX (gD (gL p 1) (tI p 2)) 2),.i (vI (gD (gL p 1) (tI p 2)) 3),.l (eX (gD (gL p 1) (tI p 2)) 4)]] 0 λc _=>
 .ask (!(D.toB c))
 (.out (0,[.i 7]))
 (.again [aI p 0,aL p 1,dL p 2,aL p 3,aL p 4,aL p 5,aL p 6]))
 bC)
 (.out (1,[]))
def Ec(x:LD):Sh:=
 .call PV [.l [.s (D.toS (D.fld (gD x 0) 0)),.b (vB (gD x 0) 1),.l (eX (gD x 0) 2),.i (vI (gD x 0) 3),.l (eX (gD x 0) 4)]] 0 λc _=>
 .ask ((cK 0 (bJ .i64 (D.toI c) 1))&&((aD (bJ .i64 (D.toI c) 1) (bJ .i64 (D.toI c) 1))&&(jP (Int.toNat (bJ .i64 (D.toI c) 1)) 8)))
 (.loop 0 [.i 0,.s (D.toS (D.fld (gD x 0) 0)),.b (vB (gD x 0) 1),.l (eX (gD x 0) 2),.i (vI (gD x 0) 3),.l (eX (gD x 0) 4),.l (List.replicate (Int.toNat (bJ .i64 (D.toI c) 1)) (D.i 0))] (.cons (λd=>
 .ret (aL d 0) [])
 .nil))
 bC
def BF(p:LD):Sh:=
 .ask (aQ (gI p 0) (iL (gL p 5)))
 (.loop 2 [.i 0,aI p 0,aS p 1,aB p 2,aL p 3,aI p 4,aL p 5,aL p 6] (.cons (λc=>
 .again [dL c 0,aS c 1,aB c 2,aL c 3,aI c 4,aL c 5,aL c 6])
 .nil))
 (.out (0,[aL p 6]))
def BI(p:LD):Sh:=
 .ask (aA (gI p 1) (List.length (gL p 6)))
 (.ask (aQ (gI p 0) (iE (gD (gL p 6) (tI p 1))))
 (.ask (aA (gI p 1) (List.length (gL p 6)))
 (.ask (aA (gI p 0) (nE (gD (gL p 6) (tI p 1))))
 (.loop 4 [.i 0,aI p 0,aI p 1,.l (eX (gE (gD (gL p 6) (tI p 1)) (tI p 0)) 5),aS p 2,aB p 3,aL p 4,aI p 5,aL p 6,aL p 7] (.cons (λc=>
 .again [dL c 0,aI c 1,aS c 2,aB c 3,aL c 4,aI c 5,aL c 6,aL c 7])
 .nil))
 bC)
 bC)
 (.out (0,[aI p 1,aS p 2,aB p 3,aL p 4,aI p 5,aL p 6,aL p 7])))
 bC
def BM(p:LD):Sh:=
 .ask (aQ (gI p 0) (iL (gL p 3)))
 (.ask (aA (gI p 0) (List.length (gL p 3)))
 (.ask ((!((cK 0 (D.toI (gD (gL p 3) (tI p 0))))&&true))||(aA (gI p 0) (List.length (gL p 3))))
 (.ask ((cK 0 (D.toI (gD (gL p 3) (tI p 0))))&&(aQ (D.toI (gD (gL p 3) (tI p 0))) (iL (gL p 9))))
 (.ask (aA (gI p 0) (List.length (gL p 3)))
 (.ask (aA (D.toI (gD (gL p 3) (tI p 0))) (List.length (gL p 9)))
 (.ask (aA (D.toI (gD (gL p 3) (tI p 0))) (List.length (gL p 9)))
 (.again [dL p 0,aI p 1,aI p 2,aL p 3,aS p 4,aB p 5,aL p 6,aI p 7,aL p 8,.l (List.set (gL p 9) (Int.toNat (D.toI (gD (gL p 3) (tI p 0)))) (D.i (bJ .i64 (D.toI (gD (gL p 9) (Int.toNat (D.toI (gD (gL p 3) (tI p 0)))))) 1)))])
 bC)
 bC)
 bC)
 (.again [dL p 0,aI p 1,aI p 2,aL p 3,aS p 4,aB p 5,aL p 6,aI p 7,aL p 8,aL p 9]))
 bC)
 bC)
 (.out (0,[aI p 1,aI p 2,aS p 4,aB p 5,aL p 6,aI p 7,aL p 8,aL p 9]))
def Aq(x:LD):Sh:=
 .ask ((cK 0 (iX (gD x 0) 4))&&((aD (iX (gD x 0) 4) (iX (gD x 0) 4))&&(jP (Int.toNat (iX (gD x 0) 4)) 24)))
 (.loop 0 [.i 0,.s (D.toS (D.fld (gD x 0) 0)),.b (vB (gD x 0) 1),.l (eX (gD x 0) 2),.i (vI (gD x 0) 3),.l (eX (gD x 0) 4),.l (List.replicate (nX (gD x 0) 4) (D.l []))] (.cons (λc=>
 .ret (aL c 0) [])
 .nil))
 bC
def AO(p:LD):Sh:=
 .ask (aQ (gI p 0) (iL (gL p 5)))
 (.call Gg [.l [aS p 1,aB p 2,aL p 3,aI p 4,aL p 5],aI p 0] 0 λd _=>
 .loop 2 [aI p 0,.i 0,aS p 1,aB p 2,aL p 3,aI p 4,aL p 5,aL p 6,.l (D.els d)] (.cons (λc=>
 .again [dL c 0,aS c 1,aB c 2,aL c 3,aI c 4,aL c 5,aL c 6])
 .nil))
 (.out (0,[aL p 6]))
def AP(p:LD):Sh:=
 .ask (aQ (gI p 1) (iL (gL p 8)))
 (.ask (aA (gI p 1) (List.length (gL p 8)))
 (.ask (aA (gI p 1) (List.length (gL p 8)))
 (.ask (aA (D.toI (gD (gL p 8) (tI p 1))) (List.length (gL p 7)))
 (.ask (jP ((nE (gD (gL p 7) (Int.toNat (D.toI (gD (gL p 8) (tI p 1))))))+1) 8)
 (.ask ((aD (D.toI (gD (gL p 8) (tI p 1))) (D.toI (gD (gL p 8) (tI p 1))))&&true)
 (.ask (aA (D.toI (gD (gL p 8) (tI p 1))) (List.length (gL p 7)))
 (.ask ((Nat.beq (Int.toNat (D.toI (gD (gL p 8) (tI p 1)))) (Int.toNat (D.toI (gD (gL p 8) (tI p 1)))))&&true)
 (.again [aI p 0,dL p 1,aS p 2,aB p 3,aL p 4,aI p 5,aL p 6,.l (List.set (gL p 7) (Int.toNat (D.toI (gD (gL p 8) (tI p 1)))) (D.l ((D.els (gD (gL p 7) (Int.toNat (D.toI (gD (gL p 8) (tI p 1))))))++[aI p 0]))),aL p 8])
 bC)
 bC)
 bC)
 bC)
 bC)
 bC)
 bC)
 (.out (0,[aI p 0,aS p 2,aB p 3,aL p 4,aI p 5,aL p 6,aL p 7]))
def Dy(x:LD):Sh:=
 .ask (aD (vI (gD x 2) 0) 16)
 (.ask ((!((aD (vI (gD x 2) 1) 2)&&true))||(aA 0 (nE (gD x 3))))
 (.ret (.b ((aD (vI (gD x 2) 1) 2)&&(aD (D.toI (gE (gD x 3) 0)) 2))) [])
 bC)
 (.ask (aD (vI (gD x 2) 0) 17)
 (.ask (aA 0 (nE (gD x 3)))
 (.ask ((!((aD (D.toI (gE (gD x 3) 0)) 2)&&true))||(aA 1 (nE (gD x 3))))
 (.ask ((!(((aD (D.toI (gE (gD x 3) 0)) 2)&&(aD (D.toI (gE (gD x 3) 1)) (vI (gD x 2) 1)))&&true))||(aA 2 (nE (gD x 3))))
 (.ret (.b (((aD (D.toI (gE (gD x 3) 0)) 2)&&(aD (D.toI (gE (gD x 3) 1)) (vI (gD x 2) 1)))&&(aD (D.toI (gE (gD x 3) 2)) (vI (gD x 2) 1)))) [])
 bC)
 bC)
 bC)
 (.ask (aD (vI (gD x 2) 0) 19)
 (.ask ((!((aD (vI (gD x 2) 1) 3)&&true))||(aA 0 (nE (gD x 3))))
 (.ask ((!(((aD (vI (gD x 2) 1) 3)&&(aD (D.toI (gE (gD x 3) 0)) 3))&&true))||(aA 1 (nE (gD x 3))))
 (.ret (.b (((aD (vI (gD x 2) 1) 3)&&(aD (D.toI (gE (gD x 3) 0)) 3))&&(aD (D.toI (gE (gD x 3) 1)) 1))) [])
 bC)
 bC)
 (.ask (aD (vI (gD x 2) 0) 20)
 (.ask ((!((aD (vI (gD x 2) 1) 1)&&true))||(aA 0 (nE (gD x 3))))
 (.ret (.b ((aD (vI (gD x 2) 1) 1)&&(aD (D.toI (gE (gD x 3) 0)) 3))) [])
 bC)
 (.ask (aD (vI (gD x 2) 0) 21)
 (.ask (aA 0 (nE (gD x 3)))
 (.ask ((!((aD (D.toI (gE (gD x 3) 0)) 3)&&true))||(aA 1 (nE (gD x 3))))
 (.ret (.b ((aD (D.toI (gE (gD x 3) 0)) 3)&&(aD (D.toI (gE (gD x 3) 1)) 1))) [])
 bC)
 bC)
 (.ask (aD (vI (gD x 2) 0) 22)
 (.ask (aA (vI (gD x 2) 3) (nX (gD x 0) 3))
 (.call PW [.l (D.els (gD x 3)),.l (eX (gD (eX (gD x 0) 3) (Int.toNat (vI (gD x 2) 3))) 2)] 0 λc _=>
 .ask ((!((D.toB c)&&true))||(aA (vI (gD x 2) 3) (nX (gD x 0) 3)))
 (.ret (.b ((D.toB c)&&(aD (vI (gD x 2) 1) (vI (gD (eX (gD x 0) 3) (Int.toNat (vI (gD x 2) 3))) 3)))) [])
 bC)
 bC)
 (.ask (aD (vI (gD x 2) 0) 23)
 (.ask (aA (vI (gD x 2) 3) (nX (gD x 0) 0))
 (.call PW [.l (D.els (gD x 3)),.l (eX (gD (eX (gD x 0) 0) (Int.toNat (vI (gD x 2) 3))) 1)] 0 λc _=>
 .ask ((!((D.toB c)&&true))||(aA (vI (gD x 2) 3) (nX (gD x 0) 0)))
 (.ret (.b ((D.toB c)&&(aD (vI (gD x 2) 1) (vI (gD (eX (gD x 0) 0) (Int.toNat (vI (gD x 2) 3))) 2)))) [])
 bC)
 bC)
 (.ask (aD (vI (gD x 2) 0) 24)
 (.ask ((!((aD (vI (gD x 2) 1) 4)&&true))||(aA 0 (nE (gD x 3))))
 (.ret (.b ((aD (vI (gD x 2) 1) 4)&&(aD (D.toI (gE (gD x 3) 0)) 1))) [])
 bC)
 (.ask (aD (vI (gD x 2) 0) 25)
 (.ask (aA 0 (nE (gD x 3)))
 (.ret (.b ((aD (D.toI (gE (gD x 3) 0)) 4)&&(!(aD (vI (gD x 2) 1) 3)))) [])
 bC)
 (.ask (aD (vI (gD x 2) 0) 26)
 (.loop 1 [.l (D.els (gD x 3)),.i 0,.i (vI (gD x 2) 0),.i (vI (gD x 2) 1),.i (vI (gD x 2) 2),.i (vI (gD x 2) 3),.i (vI (gD x 2) 4),.l (eX (gD x 2) 5),.l (eX (gD x 2) 6)] (.cons (λd=>
 .ret (aB d 0) [])
 (.cons (λd=>
 .ret (.b true) [])
 .nil)))
 (.ask (aD (vI (gD x 2) 0) 28)
 (.ask (aA 0 (nE (gD x 3)))
 (.ret (.b (aD (D.toI (gE (gD x 3) 0)) 2)) [])
 bC)
 (.ask (aD (vI (gD x 2) 0) 29)
 (.ask (aD (vI (gD x 1) 3) 0)
 (.ret (.b (aD (iE (gD x 3)) 0)) [])
 (.ask ((!((aD (iE (gD x 3)) 1)&&true))||(aA 0 (nE (gD x 3))))
 (.ret (.b ((aD (iE (gD x 3)) 1)&&(aD (D.toI (gE (gD x 3) 0)) (vI (gD x 1) 3)))) [])
 bC))
 (.ret (.b true) []))))))))))))
def Dz(x:LD):Sh:=
 .ask ((!((aD (vI (gD x 2) 1) 2)&&true))||(aA 0 (nE (gD x 3))))
 (.ask ((!(((aD (vI (gD x 2) 1) 2)&&(aD (D.toI (gE (gD x 3) 0)) 1))&&true))||(aA 1 (nE (gD x 3))))
 (.ret (.b (((aD (vI (gD x 2) 1) 2)&&(aD (D.toI (gE (gD x 3) 0)) 1))&&(aD (D.toI (gE (gD x 3) 1)) 1))) [])
 bC)
 bC
def lK(x:LD):Sh:=
 .ask (aD (vI (gD x 2) 0) 14)
 (.ask (aD (vI (gD x 2) 0) 14)
 (Dz x)
 (Dy x))
 (.ask (aD (vI (gD x 2) 0) 15)
 (Dz x)
 (Dy x))
def lL(x:LD):Sh:=
 .ask ((!((aD (vI (gD x 2) 1) 1)&&true))||(aA 0 (nE (gD x 3))))
 (.ask ((!(((aD (vI (gD x 2) 1) 1)&&(aD (D.toI (gE (gD x 3) 0)) 1))&&true))||(aA 1 (nE (gD x 3))))
 (.ret (.b (((aD (vI (gD x 2) 1) 1)&&(aD (D.toI (gE (gD x 3) 0)) 1))&&(aD (D.toI (gE (gD x 3) 1)) 1))) [])
 bC)
 bC
def Ea(x:LD):Sh:=
 .ask (aD (vI (gD x 2) 0) 4)
 (.ask (aD (vI (gD x 2) 0) 4)
 (lL x)
 (lK x))
 (.ask (aD (vI (gD x 2) 0) 5)
 (.ask (aD (vI (gD x 2) 0) 5)
 (lL x)
 (lK x))
 (.ask (aD (vI (gD x 2) 0) 6)
 (.ask (aD (vI (gD x 2) 0) 6)
 (lL x)
 (lK x))
 (.ask (aD (vI (gD x 2) 0) 7)
 (.ask (aD (vI (gD x 2) 0) 7)
 (lL x)
 (lK x))
 (.ask (aD (vI (gD x 2) 0) 8)
 (.ask (aD (vI (gD x 2) 0) 8)
 (lL x)
 (lK x))
 (.ask (aD (vI (gD x 2) 0) 9)
 (.ask (aD (vI (gD x 2) 0) 9)
 (lL x)
 (lK x))
 (.ask (aD (vI (gD x 2) 0) 10)
 (.ask (aD (vI (gD x 2) 0) 10)
 (lL x)
 (lK x))
 (.ask (aD (vI (gD x 2) 0) 11)
 (.ask (aD (vI (gD x 2) 0) 11)
 (lL x)
 (lK x))
 (.ask (aD (vI (gD x 2) 0) 12)
 (.ask (aD (vI (gD x 2) 0) 12)
 (lL x)
 (lK x))
 (.ask (aD (vI (gD x 2) 0) 13)
 (lL x)
 (lK x))))))))))
def Pm(x:LD):Sh:=
 .ask (aD (vI (gD x 2) 0) 1)
 (.ret (.b ((aD (vI (gD x 2) 1) 1)||((aD (vI (gD x 2) 1) 2)&&((aD (vI (gD x 2) 4) 0)||(aD (vI (gD x 2) 4) 1))))) [])
 (.ask (aD (vI (gD x 2) 0) 2)
 (.ret (.b (aD (vI (gD x 2) 1) 4)) [])
 (.ask (aD (vI (gD x 2) 0) 3)
 (.ask (aD (vI (gD x 2) 0) 3)
 (.ret (.b (aD (vI (gD x 2) 1) 3)) [])
 (Ea x))
 (.ask (aD (vI (gD x 2) 0) 18)
 (.ret (.b (aD (vI (gD x 2) 1) 3)) [])
 (Ea x))))
def AQ(p:LD):Sh:=
 .ask (aQ (gI p 1) (iL (gL p 0)))
 (.ask (aA (gI p 1) (List.length (gL p 0)))
 (.ask (!(aD (D.toI (gD (gL p 0) (tI p 1))) (gI p 3)))
 (.out (0,[.b false]))
 (.again [aL p 0,dL p 1,aI p 2,aI p 3,aI p 4,aI p 5,aI p 6,aL p 7,aL p 8]))
 bC)
 (.out (1,[]))
def TQ(x:LD):Sh:=
 .loop 0 [.l (eX (gD x 0) 2),.i 0,.i (iX (gD x 0) 2),.l (eX (gD x 0) 0),.l (eX (gD x 0) 1),.l (eX (gD x 0) 2),.l (eX (gD x 0) 3)] (.cons (λc=>
 .ret (aB c 0) [])
 (.cons (λc=>
 .loop 4 [.i (iL (gL c 3)),aL c 3,.i 0,aL c 0,aL c 1,aL c 2,aL c 3] (.cons (λd=>
 .ret (aB d 0) [])
 (.cons (λd=>
 .ret (.b true) [])
 .nil)))
 .nil))
def wN(p:LD):Sh:=
 .ask (aQ (gI p 1) (gI p 2))
 (.ask (aA (gI p 1) (List.length (gL p 0)))
 (.loop 2 [aL p 0,.i (iX (gD (gL p 0) (tI p 1)) 1),aI p 1,aI p 2,.i 0,.l (eX (gD (gL p 0) (tI p 1)) 1),aL p 3,aL p 4,aL p 5,aL p 6] (.cons (λc=>
 .out (0,[aB c 2,aL c 4,aL c 5,aL c 6,aL c 7]))
 (.cons (λc=>
 .again [aL c 0,dL c 1,aI c 2,aL c 3,aL c 4,aL c 5,aL c 6])
 .nil)))
 bC)
 (.out (1,[aL p 3,aL p 4,aL p 5,aL p 6]))
def wO(p:LD):Sh:=
 .ask (aQ (gI p 4) (gI p 1))
 (.ask (aA (gI p 4) (List.length (gL p 5)))
 (.ask ((aQ (D.toI (gD (gL p 5) (tI p 4))) (-1))||(cK (iL (gL p 9)) (D.toI (gD (gL p 5) (tI p 4)))))
 (.out (0,[aL p 0,aI p 2,.b false,aI p 3,aL p 6,aL p 7,aL p 8,aL p 9]))
 (.again [aL p 0,aI p 1,aI p 2,aI p 3,dL p 4,aL p 5,aL p 6,aL p 7,aL p 8,aL p 9]))
 bC)
 (.out (1,[aL p 0,aI p 2,aI p 3,aL p 6,aL p 7,aL p 8,aL p 9]))
def wP(p:LD):Sh:=
 .ask (aQ (gI p 2) (gI p 0))
 (.ask (aA (gI p 2) (List.length (gL p 1)))
 (.loop 6 [.l (eX (gD (gL p 1) (tI p 2)) 4),.i 0,aI p 0,.i (iX (gD (gL p 1) (tI p 2)) 4),aL p 1,aI p 2,aL p 3,aL p 4,aL p 5,aL p 6] (.cons (λc=>
 .out (0,[aB c 1]))
 (.cons (λc=>
 .again [aI c 0,aL c 1,dL c 2,aL c 3,aL c 4,aL c 5,aL c 6])
 .nil)))
 bC)
 (.out (1,[]))
def wQ(p:LD):Sh:=
 .ask (aQ (gI p 1) (gI p 3))
 (.ask (aA (gI p 1) (List.length (gL p 0)))
 (.loop 8 [aL p 0,.i (iE (gD (gL p 0) (tI p 1))),aI p 1,aI p 2,aI p 3,aL p 4,.i 0,aI p 5,.l (D.els (gD (gL p 0) (tI p 1))),aL p 6,aL p 7,aL p 8,aL p 9] (.cons (λc=>
 .out (0,[aI c 2,aB c 3,aL c 5,aI c 6,aL c 7,aL c 8,aL c 9,aL c 10]))
 (.cons (λc=>
 .again [aL c 0,dL c 1,aI c 2,aI c 3,aL c 4,aI c 5,aL c 6,aL c 7,aL c 8,aL c 9])
 .nil)))
 bC)
 (.out (1,[aI p 2,aL p 4,aI p 5,aL p 6,aL p 7,aL p 8,aL p 9]))
def CC(p:LD):Sh:=
 .ask (aD (vI (gD (gL p 8) (tI p 6)) 0) 3)
 (.ask ((aQ (vI (gD (gL p 8) (tI p 6)) 3) 0)||(cK (iL (gL p 10)) (vI (gD (gL p 8) (tI p 6)) 3)))
 (.out (0,[aL p 0,aI p 2,aI p 3,.b false,aI p 4,aL p 5,aI p 7,aL p 9,aL p 10,aL p 11,aL p 12]))
 (.again [aL p 0,aI p 1,aI p 2,aI p 3,aI p 4,aL p 5,dL p 6,aI p 7,aL p 8,aL p 9,aL p 10,aL p 11,aL p 12]))
 (.ask (aD (vI (gD (gL p 8) (tI p 6)) 0) 23)
 (.ask ((aQ (vI (gD (gL p 8) (tI p 6)) 3) 0)||(cK (iL (gL p 9)) (vI (gD (gL p 8) (tI p 6)) 3)))
 (.out (0,[aL p 0,aI p 2,aI p 3,.b false,aI p 4,aL p 5,aI p 7,aL p 9,aL p 10,aL p 11,aL p 12]))
 (.again [aL p 0,aI p 1,aI p 2,aI p 3,aI p 4,aL p 5,dL p 6,aI p 7,aL p 8,aL p 9,aL p 10,aL p 11,aL p 12]))
 (.ask (aD (vI (gD (gL p 8) (tI p 6)) 0) 24)
 (.ask ((aQ (vI (gD (gL p 8) (tI p 6)) 3) 0)||(cK (iL (gL p 11)) (vI (gD (gL p 8) (tI p 6)) 3)))
 (.out (0,[aL p 0,aI p 2,aI p 3,.b false,aI p 4,aL p 5,aI p 7,aL p 9,aL p 10,aL p 11,aL p 12]))
 (.again [aL p 0,aI p 1,aI p 2,aI p 3,aI p 4,aL p 5,dL p 6,aI p 7,aL p 8,aL p 9,aL p 10,aL p 11,aL p 12]))
 (.ask ((aQ (vI (gD (gL p 8) (tI p 6)) 3) 0)||(cK (bJ .i64 (vI (gD (gL p 8) (tI p 6)) 3) 1) (vI (gD (gL p 8) (tI p 6)) 3)))
 (.out (0,[aL p 0,aI p 2,aI p 3,.b false,aI p 4,aL p 5,aI p 7,aL p 9,aL p 10,aL p 11,aL p 12]))
 (.again [aL p 0,aI p 1,aI p 2,aI p 3,aI p 4,aL p 5,dL p 6,aI p 7,aL p 8,aL p 9,aL p 10,aL p 11,aL p 12]))))
def CD(p:LD):Sh:=
 .ask ((aQ (vI (gD (gL p 8) (tI p 6)) 3) 0)||(cK (iL (gL p 12)) (vI (gD (gL p 8) (tI p 6)) 3)))
 (.out (0,[aL p 0,aI p 2,aI p 3,.b false,aI p 4,aL p 5,aI p 7,aL p 9,aL p 10,aL p 11,aL p 12]))
 (.again [aL p 0,aI p 1,aI p 2,aI p 3,aI p 4,aL p 5,dL p 6,aI p 7,aL p 8,aL p 9,aL p 10,aL p 11,aL p 12])
def wR(p:LD):Sh:=
 .ask (aQ (gI p 6) (gI p 1))
 (.ask (aA (gI p 6) (List.length (gL p 8)))
 (.ask (aD (vI (gD (gL p 8) (tI p 6)) 0) 2)
 (.ask (aD (vI (gD (gL p 8) (tI p 6)) 0) 2)
 (CD p)
 (CC p))
 (.ask (aD (vI (gD (gL p 8) (tI p 6)) 0) 22)
 (CD p)
 (CC p)))
 bC)
 (.out (1,[aL p 0,aI p 2,aI p 3,aI p 4,aL p 5,aI p 7,aL p 9,aL p 10,aL p 11,aL p 12]))
def UB(x:LD):Sh:=
 .ask ((cK 0 (iX (gD x 0) 3))&&((aD (iX (gD x 0) 3) (iX (gD x 0) 3))&&(jP (Int.toNat (iX (gD x 0) 3)) 1)))
 (.loop 0 [.l (eX (gD x 0) 2),.i 0,.i (iX (gD x 0) 2),.l (eX (gD x 0) 0),.l (eX (gD x 0) 1),.l (eX (gD x 0) 2),.l (eX (gD x 0) 3),.l (eX (gD x 0) 0),.l (eX (gD x 0) 1),.l (eX (gD x 0) 2),.l (eX (gD x 0) 3),.l (List.replicate (nX (gD x 0) 3) (D.b false))] (.cons (λc=>
 .loop 4 [aL c 3,.i 0,.i (iL (gL c 3)),aL c 4,aL c 5,aL c 6,aL c 7,aL c 8,.l []] (.cons (λd=>
 .ret (.l [.l [aL d 0,aL d 1,aL d 2,aL d 3,aL d 4,aL d 5]]) [])
 .nil))
 .nil))
 bC
def xH(p:LD):Sh:=
 .ask (aQ (gI p 1) (gI p 2))
 (.ask (aA (gI p 1) (List.length (gL p 0)))
 (.loop 2 [.i (iX (gD (gL p 0) (tI p 1)) 1),aL p 0,aI p 1,.i 0,aI p 2,.l (eX (gD (gL p 0) (tI p 1)) 1),aL p 3,aL p 4,aL p 5,aL p 6,aL p 7,aL p 8,aL p 9,aL p 10,aL p 11] (.cons (λc=>
 .again [aL c 0,dL c 1,aI c 2,aL c 3,aL c 4,aL c 5,aL c 6,aL c 7,aL c 8,aL c 9,aL c 10,aL c 11])
 .nil))
 bC)
 (.out (0,[aL p 3,aL p 4,aL p 5,aL p 6,aL p 7,aL p 8,aL p 9,aL p 10,aL p 11]))
def pI(p:LD):Sh:=
 .ask (aQ (gI p 3) (gI p 0))
 (.ask (aA (gI p 3) (List.length (gL p 5)))
 (.ask (cK 0 (D.toI (gD (gL p 5) (tI p 3))))
 (.ask (aA (D.toI (gD (gL p 5) (tI p 3))) (List.length (gL p 14)))
 (.again [aI p 0,aL p 1,aI p 2,dL p 3,aI p 4,aL p 5,aL p 6,aL p 7,aL p 8,aL p 9,aL p 10,aL p 11,aL p 12,aL p 13,.l (List.set (gL p 14) (Int.toNat (D.toI (gD (gL p 5) (tI p 3)))) (D.b true))])
 bC)
 (.again [aI p 0,aL p 1,aI p 2,dL p 3,aI p 4,aL p 5,aL p 6,aL p 7,aL p 8,aL p 9,aL p 10,aL p 11,aL p 12,aL p 13,aL p 14]))
 bC)
 (.out (0,[aL p 1,aI p 2,aI p 4,aL p 6,aL p 7,aL p 8,aL p 9,aL p 10,aL p 11,aL p 12,aL p 13,aL p 14]))
def xI(p:LD):Sh:=
 .ask (aQ (gI p 1) (gI p 2))
 (.ask (aA (gI p 1) (List.length (gL p 0)))
 (.call XL [.l [.s (D.toS (D.fld (gD (gL p 0) (tI p 1)) 0)),.b (vB (gD (gL p 0) (tI p 1)) 1),.l (eX (gD (gL p 0) (tI p 1)) 2),.i (vI (gD (gL p 0) (tI p 1)) 3),.l (eX (gD (gL p 0) (tI p 1)) 4)]] 0 λd _=>
 .ask ((cK 0 (iE d))&&((aD (iE d) (iE d))&&(jP (Int.toNat (iE d)) 88)))
 (.loop 6 [.i (iX (gD (gL p 0) (tI p 1)) 4),aL p 0,aI p 1,.i 0,aI p 2,.l (eX (gD (gL p 0) (tI p 1)) 4),.s (D.toS (D.fld (gD (gL p 0) (tI p 1)) 0)),.b (vB (gD (gL p 0) (tI p 1)) 1),.l (eX (gD (gL p 0) (tI p 1)) 2),.i (vI (gD (gL p 0) (tI p 1)) 3),.l (eX (gD (gL p 0) (tI p 1)) 4),aL p 3,aL p 4,aL p 5,aL p 6,aL p 7,.l (List.replicate (nE d) (D.l [.i 0,.i 0,.i 0,.i 0,.i 0,.l [],.l []])),aL p 8,.l (D.els d)] (.cons (λc=>
 .call yT [.l [aL c 15,.l [],.l [],aL c 13],.l [aS c 3,aB c 4,aL c 5,aI c 6,aL c 7]] 1 λg e=>
 .call BH [.l [.l (eX (gD e 0) 0),.l (eX (gD e 0) 1),.l (eX (gD e 0) 2),.l (eX (gD e 0) 3)]] 1 λh f=>
 .ask (jP ((List.length (gL c 14))+1) 96)
 (.again [aL c 0,dL c 1,aI c 2,aL c 8,aL c 9,aL c 10,aL c 11,aL c 12,.l ((gL c 14)++[.l [.l (eX (gD f 0) 0),.l (eX (gD f 0) 1),.l (eX (gD f 0) 2),.l (eX (gD f 0) 3)]])])
 bC)
 .nil))
 bC)
 bC)
 (.out (0,[aL p 3,aL p 4,aL p 5,aL p 6,aL p 7,aL p 8]))
def xJ(p:LD):Sh:=
 .ask (aQ (gI p 3) (gI p 0))
 (.ask (aA (gI p 3) (List.length (gL p 5)))
 (.loop 8 [aI p 0,aL p 1,.i 0,aI p 2,.l (D.els (gD (gL p 5) (tI p 3))),aI p 3,aI p 4,.i (iE (gD (gL p 5) (tI p 3))),aL p 5,aS p 6,aB p 7,aL p 8,aI p 9,aL p 10,aL p 11,aL p 12,aL p 13,aL p 14,aL p 15,aL p 16,aL p 17,aL p 18] (.cons (λc=>
 .again [aI c 0,aL c 1,aI c 2,dL c 3,aI c 4,aL c 5,aS c 6,aB c 7,aL c 8,aI c 9,aL c 10,aL c 11,aL c 12,aL c 13,aL c 14,aL c 15,aL c 16,aL c 17,aL c 18])
 .nil))
 bC)
 (.out (0,[aL p 1,aI p 2,aI p 4,aS p 6,aB p 7,aL p 8,aI p 9,aL p 10,aL p 11,aL p 12,aL p 13,aL p 14,aL p 15,aL p 16,aL p 17,aL p 18]))
def pJ(p:LD):Sh:=
 .ask (aQ (gI p 2) (gI p 7))
 (.ask (aA (gI p 2) (List.length (gL p 4)))
 (.ask (aD (vI (gD (gL p 4) (tI p 2)) 0) 2)
 (.ask (aA (vI (gD (gL p 4) (tI p 2)) 3) (List.length (gL p 18)))
 (.ask (!(aD (vI (gD (gL p 4) (tI p 2)) 1) 0))
 (.ask (aA (vI (gD (gL p 4) (tI p 2)) 2) (List.length (gL p 19)))
 (.again (let z0:=List.set (gL p 19) (Int.toNat (vI (gD (gL p 4) (tI p 2)) 2)) (D.l (cN (D.els (gD (gL p 19) (Int.toNat (vI (gD (gL p 4) (tI p 2)) 2)))) 0 (D.i (vI (gD (gL p 4) (tI p 2)) 0))));let c:=List.set z0 (Int.toNat (vI (gD (gL p 4) (tI p 2)) 2)) (D.l (cN (D.els (gD z0 (Int.toNat (vI (gD (gL p 4) (tI p 2)) 2)))) 1 (D.i (vI (gD (gL p 4) (tI p 2)) 1))));let z2:=List.set c (Int.toNat (vI (gD (gL p 4) (tI p 2)) 2)) (D.l (cN (D.els (gD c (Int.toNat (vI (gD (gL p 4) (tI p 2)) 2)))) 2 (D.i (vI (gD (gL p 4) (tI p 2)) 2))));let z3:=List.set z2 (Int.toNat (vI (gD (gL p 4) (tI p 2)) 2)) (D.l (cN (D.els (gD z2 (Int.toNat (vI (gD (gL p 4) (tI p 2)) 2)))) 3 (D.i (vI (gD (gL p 4) (tI p 2)) 3))));let z4:=List.set z3 (Int.toNat (vI (gD (gL p 4) (tI p 2)) 2)) (D.l (cN (D.els (gD z3 (Int.toNat (vI (gD (gL p 4) (tI p 2)) 2)))) 4 (D.i (vI (gD (gL p 4) (tI p 2)) 4))));let z5:=List.set z4 (Int.toNat (vI (gD (gL p 4) (tI p 2)) 2)) (D.l (cN (D.els (gD z4 (Int.toNat (vI (gD (gL p 4) (tI p 2)) 2)))) 5 (D.l (eX (gD (gL p 4) (tI p 2)) 5))));[aI p 0,aL p 1,dL p 2,aI p 3,aL p 4,aI p 5,aI p 6,aI p 7,aL p 8,aS p 9,aB p 10,aL p 11,aI p 12,aL p 13,aL p 14,aL p 15,aL p 16,aL p 17,.l (List.set (gL p 18) (Int.toNat (vI (gD (gL p 4) (tI p 2)) 3)) (D.b true)),.l (List.set z5 (Int.toNat (vI (gD (gL p 4) (tI p 2)) 2)) (D.l (cN (D.els (gD z5 (Int.toNat (vI (gD (gL p 4) (tI p 2)) 2)))) 6 (D.l (eX (gD (gL p 4) (tI p 2)) 6))))),aL p 20,aL p 21]))
 bC)
 (.again [aI p 0,aL p 1,dL p 2,aI p 3,aL p 4,aI p 5,aI p 6,aI p 7,aL p 8,aS p 9,aB p 10,aL p 11,aI p 12,aL p 13,aL p 14,aL p 15,aL p 16,aL p 17,.l (List.set (gL p 18) (Int.toNat (vI (gD (gL p 4) (tI p 2)) 3)) (D.b true)),aL p 19,aL p 20,aL p 21]))
 bC)
 (.ask (!(aD (vI (gD (gL p 4) (tI p 2)) 1) 0))
 (.ask (aA (vI (gD (gL p 4) (tI p 2)) 2) (List.length (gL p 19)))
 (.again (let z0:=List.set (gL p 19) (Int.toNat (vI (gD (gL p 4) (tI p 2)) 2)) (D.l (cN (D.els (gD (gL p 19) (Int.toNat (vI (gD (gL p 4) (tI p 2)) 2)))) 0 (D.i (vI (gD (gL p 4) (tI p 2)) 0))));let c:=List.set z0 (Int.toNat (vI (gD (gL p 4) (tI p 2)) 2)) (D.l (cN (D.els (gD z0 (Int.toNat (vI (gD (gL p 4) (tI p 2)) 2)))) 1 (D.i (vI (gD (gL p 4) (tI p 2)) 1))));let z2:=List.set c (Int.toNat (vI (gD (gL p 4) (tI p 2)) 2)) (D.l (cN (D.els (gD c (Int.toNat (vI (gD (gL p 4) (tI p 2)) 2)))) 2 (D.i (vI (gD (gL p 4) (tI p 2)) 2))));let z3:=List.set z2 (Int.toNat (vI (gD (gL p 4) (tI p 2)) 2)) (D.l (cN (D.els (gD z2 (Int.toNat (vI (gD (gL p 4) (tI p 2)) 2)))) 3 (D.i (vI (gD (gL p 4) (tI p 2)) 3))));let z4:=List.set z3 (Int.toNat (vI (gD (gL p 4) (tI p 2)) 2)) (D.l (cN (D.els (gD z3 (Int.toNat (vI (gD (gL p 4) (tI p 2)) 2)))) 4 (D.i (vI (gD (gL p 4) (tI p 2)) 4))));let z5:=List.set z4 (Int.toNat (vI (gD (gL p 4) (tI p 2)) 2)) (D.l (cN (D.els (gD z4 (Int.toNat (vI (gD (gL p 4) (tI p 2)) 2)))) 5 (D.l (eX (gD (gL p 4) (tI p 2)) 5))));[aI p 0,aL p 1,dL p 2,aI p 3,aL p 4,aI p 5,aI p 6,aI p 7,aL p 8,aS p 9,aB p 10,aL p 11,aI p 12,aL p 13,aL p 14,aL p 15,aL p 16,aL p 17,aL p 18,.l (List.set z5 (Int.toNat (vI (gD (gL p 4) (tI p 2)) 2)) (D.l (cN (D.els (gD z5 (Int.toNat (vI (gD (gL p 4) (tI p 2)) 2)))) 6 (D.l (eX (gD (gL p 4) (tI p 2)) 6))))),aL p 20,aL p 21]))
 bC)
 (.again [aI p 0,aL p 1,dL p 2,aI p 3,aL p 4,aI p 5,aI p 6,aI p 7,aL p 8,aS p 9,aB p 10,aL p 11,aI p 12,aL p 13,aL p 14,aL p 15,aL p 16,aL p 17,aL p 18,aL p 19,aL p 20,aL p 21])))
 bC)
 (.out (0,[aI p 0,aL p 1,aI p 3,aI p 5,aI p 6,aL p 8,aS p 9,aB p 10,aL p 11,aI p 12,aL p 13,aL p 14,aL p 15,aL p 16,aL p 17,aL p 18,aL p 19,aL p 20,aL p 21]))
def Ao(x:LD):Sh:=
 .ask ((!(!((aQ (iL (D.toS (gD x 0))) 1)||(aQ 12 (iL (D.toS (gD x 0)))))))||(aA 0 (List.length (D.toS (gD x 0)))))
 (.ask ((!(!(((aQ (iL (D.toS (gD x 0))) 1)||(aQ 12 (iL (D.toS (gD x 0)))))||(aQ (iZ (D.toS (gD x 0)) 0) 97))))||(aA 0 (List.length (D.toS (gD x 0)))))
 (.ask ((((aQ (iL (D.toS (gD x 0))) 1)||(aQ 12 (iL (D.toS (gD x 0)))))||(aQ (iZ (D.toS (gD x 0)) 0) 97))||(aQ 122 (iZ (D.toS (gD x 0)) 0)))
 (.ret (.b false) [])
 (.loop 0 [.s (D.toS (gD x 0)),.i 0] (.cons (λc=>
 .ret (aB c 0) [])
 (.cons (λc=>
 .ret (.b true) [])
 .nil))))
 bC)
 bC
def AK(p:LD):Sh:=
 .ask (aQ (gI p 1) (iL (gS p 0)))
 (.ask (aA (gI p 1) (List.length (gS p 0)))
 (.ask ((((aQ (iZ (gS p 0) (gI p 1)) 97)||(aQ 122 (iZ (gS p 0) (gI p 1))))&&((aQ (iZ (gS p 0) (gI p 1)) 48)||(aQ 57 (iZ (gS p 0) (gI p 1)))))&&(!(aD (iZ (gS p 0) (gI p 1)) 95)))
 (.out (0,[.b false]))
 (.again [aS p 0,dL p 1]))
 bC)
 (.out (1,[]))
def Zd(x:LD):Sh:=
 .ret (.b ((aD (D.toI (gD x 0)) 1)||(aD (D.toI (gD x 0)) 2))) []
def kR(x:LD):Sh:=
 .call oA [.l (D.els (gD x 0)),.b (D.toB (gD x 1))] 0 λc _=>
 .ret (.b (cK 0 (D.toI c))) []
def TL(x:LD):Sh:=
 .call Kh [.l [.s (D.toS (D.fld (gD x 0) 0)),.b (vB (gD x 0) 1),.l (eX (gD x 0) 2),.i (vI (gD x 0) 3),.l (eX (gD x 0) 4)]] 0 λc _=>
 .call NL [.l (D.els c)] 0 λd _=>
 .ret (.l (D.els d)) []
def tW(x:LD):Sh:=
 .ask ((cK 0 (iX (gD x 0) 0))&&((aD (iX (gD x 0) 0) (iX (gD x 0) 0))&&(jP (Int.toNat (iX (gD x 0) 0)) 24)))
 (.loop 0 [.i (iX (gD x 1) 2),.i 0,.l (eX (gD x 1) 2),.l (List.replicate (nX (gD x 0) 0) (D.l [])),.l (eX (gD x 0) 0),.l (eX (gD x 0) 2),.l (eX (gD x 0) 3)] (.cons (λc=>
 .loop 2 [.b true,aL c 0,aL c 1,aL c 2,aL c 3] (.cons (λd=>
 .ret (.l []) [.l [aL d 1,aL d 0,aL d 2,aL d 3]])
 .nil))
 .nil))
 bC
def kC(p:LD):Sh:=
 .ask (aQ (gI p 1) (gI p 0))
 (.ask (aA (gI p 1) (List.length (gL p 2)))
 (.ask (aD (D.toI (gD (gL p 2) (tI p 1))) 3)
 (.ask (aA (bJ .i64 (gI p 1) 1) (List.length (gL p 3)))
 (.again [aI p 0,dL p 1,aL p 2,.l (List.set (gL p 3) (Int.toNat (bJ .i64 (gI p 1) 1)) (D.l [.l [.i 1,dL p 1]])),aL p 4,aL p 5,aL p 6])
 bC)
 (.again [aI p 0,dL p 1,aL p 2,aL p 3,aL p 4,aL p 5,aL p 6]))
 bC)
 (.out (0,[aL p 3,aL p 4,aL p 5,aL p 6]))
def kD(p:LD):Sh:=
 .ask (gB p 0)
 (.loop 4 [.i 0,.i (iL (gL p 4)),.b false,aL p 1,aL p 2,aL p 3,aL p 4] (.cons (λc=>
 .again [aB c 0,aL c 1,aL c 2,aL c 3,aL c 4])
 .nil))
 (.out (0,[aL p 1,aL p 2,aL p 3,aL p 4]))
def mW(p:LD)(c:D):Sh:=
 .ask (!(aD (iE c) (iE (gD (gL p 3) (tI p 0)))))
 (.ask (aA (gI p 0) (List.length (gL p 3)))
 (.again [dL p 0,aI p 1,.b true,.l (List.set (gL p 3) (tI p 0) (D.l (D.els c))),aL p 4,aL p 5,aL p 6])
 bC)
 (.again [dL p 0,aI p 1,aB p 2,aL p 3,aL p 4,aL p 5,aL p 6])
def gF(p:LD):Sh:=
 .ask (aQ (gI p 0) (gI p 1))
 (.ask (aA (gI p 0) (List.length (gL p 6)))
 (.ask (!(aD (vI (gD (gL p 6) (tI p 0)) 1) 3))
 (.again [dL p 0,aI p 1,aB p 2,aL p 3,aL p 4,aL p 5,aL p 6])
 (.ask (aD (vI (gD (gL p 6) (tI p 0)) 0) 18)
 (.call bP [.l [.l [.i 2,aI p 0]]] 0 λd _=>
 .call bD [.l (D.els d),.l []] 1 λg f=>
 .call bV [.l (D.els (gD f 0))] 0 λe _=>
 .ask (aA (gI p 0) (List.length (gL p 3)))
 (mW p e)
 bC)
 (.ask (aD (vI (gD (gL p 6) (tI p 0)) 0) 3)
 (.call bP [.l [.l [.i 3,.i (vI (gD (gL p 6) (tI p 0)) 3)]]] 0 λd _=>
 .call bD [.l (D.els d),.l []] 1 λg f=>
 .call bV [.l (D.els (gD f 0))] 0 λe _=>
 .ask (aA (gI p 0) (List.length (gL p 3)))
 (mW p e)
 bC)
 (.ask (aD (vI (gD (gL p 6) (tI p 0)) 0) 19)
 (.ask (aA 0 (nX (gD (gL p 6) (tI p 0)) 5))
 (.ask (aA (D.toI (gD (eX (gD (gL p 6) (tI p 0)) 5) 0)) (List.length (gL p 3)))
 (.call bP [.l (D.els (gD (gL p 3) (Int.toNat (D.toI (gD (eX (gD (gL p 6) (tI p 0)) 5) 0)))))] 0 λd _=>
 .call bD [.l (D.els d),.l []] 1 λg f=>
 .call bV [.l (D.els (gD f 0))] 0 λe _=>
 .ask (aA (gI p 0) (List.length (gL p 3)))
 (mW p e)
 bC)
 bC)
 bC)
 (.ask (aD (vI (gD (gL p 6) (tI p 0)) 0) 17)
 (.ask (aA 1 (nX (gD (gL p 6) (tI p 0)) 5))
 (.ask (aA (D.toI (gD (eX (gD (gL p 6) (tI p 0)) 5) 1)) (List.length (gL p 3)))
 (.ask (aA 2 (nX (gD (gL p 6) (tI p 0)) 5))
 (.ask (aA (D.toI (gD (eX (gD (gL p 6) (tI p 0)) 5) 2)) (List.length (gL p 3)))
 (.call jA [.l [.l (D.els (gD (gL p 3) (Int.toNat (D.toI (gD (eX (gD (gL p 6) (tI p 0)) 5) 1))))),.l (D.els (gD (gL p 3) (Int.toNat (D.toI (gD (eX (gD (gL p 6) (tI p 0)) 5) 2)))))]] 0 λd _=>
 .call bP [.l (D.els d)] 0 λg _=>
 .call bD [.l (D.els g),.l []] 1 λe j=>
 .call bV [.l (D.els (gD j 0))] 0 λh _=>
 .ask (aA (gI p 0) (List.length (gL p 3)))
 (.ask (!(aD (iE h) (iE (gD (gL p 3) (tI p 0)))))
 (.ask (aA (gI p 0) (List.length (gL p 3)))
 (.again [dL p 0,aI p 1,.b true,.l (List.set (gL p 3) (tI p 0) (D.l (D.els h))),aL p 4,aL p 5,aL p 6])
 bC)
 (.again [dL p 0,aI p 1,aB p 2,aL p 3,aL p 4,aL p 5,aL p 6]))
 bC)
 bC)
 bC)
 bC)
 bC)
 (.ask (aD (vI (gD (gL p 6) (tI p 0)) 0) 26)
 (.loop 7 [aI p 0,.i 0,aI p 0,.l (eX (gD (gL p 6) (tI p 0)) 5),aI p 1,aB p 2,.i (iX (gD (gL p 6) (tI p 0)) 5),aL p 3,.l [],aL p 4,aL p 5,aL p 6] (.cons (λc=>
 .call bP [aL c 5] 0 λg _=>
 .call bD [.l (D.els g),.l []] 1 λe j=>
 .call bV [.l (D.els (gD j 0))] 0 λh _=>
 .ask (aA (gI c 0) (List.length (gL c 4)))
 (.ask (!(aD (iE h) (iE (gD (gL c 4) (tI c 0)))))
 (.ask (aA (gI c 0) (List.length (gL c 4)))
 (.again [dL c 1,aI c 2,.b true,.l (List.set (gL c 4) (tI c 0) (D.l (D.els h))),aL c 6,aL c 7,aL c 8])
 bC)
 (.again [dL c 1,aI c 2,aB c 3,aL c 4,aL c 6,aL c 7,aL c 8]))
 bC)
 .nil))
 (.call bP [.l []] 0 λd _=>
 .call bD [.l (D.els d),.l []] 1 λg f=>
 .call bV [.l (D.els (gD f 0))] 0 λe _=>
 .ask (aA (gI p 0) (List.length (gL p 3)))
 (mW p e)
 bC)))))))
 bC)
 (.out (0,[aB p 2,aL p 3,aL p 4,aL p 5,aL p 6]))
def kE(p:LD):Sh:=
 .ask (aQ (gI p 1) (gI p 6))
 (.ask (aA (gI p 1) (List.length (gL p 3)))
 (.ask (aA (D.toI (gD (gL p 3) (tI p 1))) (List.length (gL p 7)))
 (.ask (jP ((List.length (gL p 8))+(nE (gD (gL p 7) (Int.toNat (D.toI (gD (gL p 3) (tI p 1))))))) 16)
 (.again [aI p 0,dL p 1,aI p 2,aL p 3,aI p 4,aB p 5,aI p 6,aL p 7,.l ((gL p 8)++(D.els (gD (gL p 7) (Int.toNat (D.toI (gD (gL p 3) (tI p 1))))))),aL p 9,aL p 10,aL p 11])
 bC)
 bC)
 bC)
 (.out (0,[aI p 0,aI p 2,aI p 4,aB p 5,aL p 7,aL p 8,aL p 9,aL p 10,aL p 11]))
def NO(x:LD):Sh:=
 .ask (aD (D.toI (gD x 0)) 26)
 (.ret (.l [.i (-1),.i (-1),.b false,.b false]) [])
 (.ask (aD (D.toI (gD x 0)) 27)
 (.ret (.l [.i 0,.i 1,.b false,.b false]) [])
 (.ask (aD (D.toI (gD x 0)) 28)
 (.ret (.l [.i 1,.i 2,.b false,.b false]) [])
 (.ret (.l [.i 0,.i 0,.b false,.b false]) [])))
def NP(x:LD):Sh:=
 .ask (aD (D.toI (gD x 0)) 24)
 (.ret (.l [.i 1,.i 0,.b true,.b false]) [])
 (.ask (aD (D.toI (gD x 0)) 25)
 (.ask (aD (D.toI (gD x 0)) 25)
 (.ret (.l [.i (-1),.i 0,.b false,.b false]) [])
 (NO x))
 (.ask (aD (D.toI (gD x 0)) 29)
 (.ret (.l [.i (-1),.i 0,.b false,.b false]) [])
 (NO x)))
def NQ(x:LD):Sh:=
 .ask (aD (D.toI (gD x 0)) 17)
 (.ret (.l [.i 3,.i 0,.b false,.b false]) [])
 (.ask (aD (D.toI (gD x 0)) 22)
 (.ask (aD (D.toI (gD x 0)) 22)
 (.ret (.l [.i (-1),.i 0,.b true,.b false]) [])
 (NP x))
 (.ask (aD (D.toI (gD x 0)) 23)
 (.ret (.l [.i (-1),.i 0,.b true,.b false]) [])
 (NP x)))
def gC(x:LD):Sh:=
 .ask (aD (D.toI (gD x 0)) 16)
 (.ask (aD (D.toI (gD x 0)) 16)
 (.ret (.l [.i 1,.i 0,.b false,.b false]) [])
 (NQ x))
 (.ask (aD (D.toI (gD x 0)) 20)
 (.ret (.l [.i 1,.i 0,.b false,.b false]) [])
 (NQ x))
def NR(x:LD):Sh:=
 .ask (aD (D.toI (gD x 0)) 4)
 (.ask (aD (D.toI (gD x 0)) 4)
 (.ret (.l [.i 2,.i 0,.b false,.b false]) [])
 (gC x))
 (.ask (aD (D.toI (gD x 0)) 5)
 (.ask (aD (D.toI (gD x 0)) 5)
 (.ret (.l [.i 2,.i 0,.b false,.b false]) [])
 (gC x))
 (.ask (aD (D.toI (gD x 0)) 6)
 (.ask (aD (D.toI (gD x 0)) 6)
 (.ret (.l [.i 2,.i 0,.b false,.b false]) [])
 (gC x))
 (.ask (aD (D.toI (gD x 0)) 7)
 (.ask (aD (D.toI (gD x 0)) 7)
 (.ret (.l [.i 2,.i 0,.b false,.b false]) [])
 (gC x))
 (.ask (aD (D.toI (gD x 0)) 8)
 (.ask (aD (D.toI (gD x 0)) 8)
 (.ret (.l [.i 2,.i 0,.b false,.b false]) [])
 (gC x))
 (.ask (aD (D.toI (gD x 0)) 9)
 (.ask (aD (D.toI (gD x 0)) 9)
 (.ret (.l [.i 2,.i 0,.b false,.b false]) [])
 (gC x))
 (.ask (aD (D.toI (gD x 0)) 10)
 (.ask (aD (D.toI (gD x 0)) 10)
 (.ret (.l [.i 2,.i 0,.b false,.b false]) [])
 (gC x))
 (.ask (aD (D.toI (gD x 0)) 11)
 (.ask (aD (D.toI (gD x 0)) 11)
 (.ret (.l [.i 2,.i 0,.b false,.b false]) [])
 (gC x))
 (.ask (aD (D.toI (gD x 0)) 12)
 (.ask (aD (D.toI (gD x 0)) 12)
 (.ret (.l [.i 2,.i 0,.b false,.b false]) [])
 (gC x))
 (.ask (aD (D.toI (gD x 0)) 13)
 (.ask (aD (D.toI (gD x 0)) 13)
 (.ret (.l [.i 2,.i 0,.b false,.b false]) [])
 (gC x))
 (.ask (aD (D.toI (gD x 0)) 14)
 (.ask (aD (D.toI (gD x 0)) 14)
 (.ret (.l [.i 2,.i 0,.b false,.b false]) [])
 (gC x))
 (.ask (aD (D.toI (gD x 0)) 15)
 (.ask (aD (D.toI (gD x 0)) 15)
 (.ret (.l [.i 2,.i 0,.b false,.b false]) [])
 (gC x))
 (.ask (aD (D.toI (gD x 0)) 19)
 (.ask (aD (D.toI (gD x 0)) 19)
 (.ret (.l [.i 2,.i 0,.b false,.b false]) [])
 (gC x))
 (.ask (aD (D.toI (gD x 0)) 21)
 (.ret (.l [.i 2,.i 0,.b false,.b false]) [])
 (gC x))))))))))))))
def NS(x:LD):Sh:=
 .ask (aD (D.toI (gD x 0)) 2)
 (.ask (aD (D.toI (gD x 0)) 2)
 (.ret (.l [.i 0,.i 0,.b true,.b false]) [])
 (NR x))
 (.ask (aD (D.toI (gD x 0)) 3)
 (.ret (.l [.i 0,.i 0,.b true,.b false]) [])
 (NR x))
def QA(x:LD):Sh:=
 .ask (aD (D.toI (gD x 0)) 1)
 (.ask (aD (D.toI (gD x 0)) 1)
 (.ret (.l [.i 0,.i 0,.b false,.b true]) [])
 (NS x))
 (.ask (aD (D.toI (gD x 0)) 18)
 (.ret (.l [.i 0,.i 0,.b false,.b true]) [])
 (NS x))
def GW(x:LD):Sh:=
 .ask ((cK 0 (iE (gD x 0)))&&((aD (iE (gD x 0)) (iE (gD x 0)))&&(jP (Int.toNat (iE (gD x 0))) 8)))
 (.loop 0 [.l (D.els (gD x 0)),.i 0,.i (iL (List.replicate (nE (gD x 0)) (D.i 0))),.l (List.replicate (nE (gD x 0)) (D.i 0))] (.cons (λc=>
 .ret (aL c 0) [])
 .nil))
 bC
def pT(p:LD):Sh:=
 .ask (aQ (gI p 1) (gI p 2))
 (.ask (aA (gI p 1) (List.length (gL p 3)))
 (.loop 2 [aL p 0,aI p 1,.i 0,aI p 1,aI p 2,.i (iL (gL p 0)),.l (List.set (gL p 3) (tI p 1) (D.i (-1)))] (.cons (λc=>
 .again [aL c 0,dL c 1,aI c 2,aL c 3])
 .nil))
 bC)
 (.out (0,[aL p 3]))
def fP(p:LD):Sh:=
 .ask (aQ (gI p 2) (gI p 5))
 (.ask ((!(!(aD (gI p 2) (gI p 3))))||(aA (gI p 2) (List.length (gL p 0))))
 (.ask ((!(!(aD (gI p 2) (gI p 3))))||(aA (gI p 3) (nE (gD (gL p 0) (tI p 2)))))
 (.ask ((aD (gI p 2) (gI p 3))||(!(D.toB (gE (gD (gL p 0) (tI p 2)) (tI p 3)))))
 (.again [aL p 0,aI p 1,dL p 2,aI p 3,aI p 4,aI p 5,aL p 6])
 (.ask (aA (gI p 3) (List.length (gL p 6)))
 (.ask ((!(!(aQ (D.toI (gD (gL p 6) (tI p 3))) 0)))||(aA (gI p 3) (List.length (gL p 6))))
 (.ask ((!(!(aQ (D.toI (gD (gL p 6) (tI p 3))) 0)))||(aA (D.toI (gD (gL p 6) (tI p 3))) (List.length (gL p 0))))
 (.ask ((!(!(aQ (D.toI (gD (gL p 6) (tI p 3))) 0)))||(aA (gI p 2) (nE (gD (gL p 0) (Int.toNat (D.toI (gD (gL p 6) (tI p 3))))))))
 (.ask ((aQ (D.toI (gD (gL p 6) (tI p 3))) 0)||(D.toB (gE (gD (gL p 0) (Int.toNat (D.toI (gD (gL p 6) (tI p 3))))) (tI p 2))))
 (.ask (aA (gI p 3) (List.length (gL p 6)))
 (.again [aL p 0,aI p 1,dL p 2,aI p 3,aI p 4,aI p 5,.l (List.set (gL p 6) (tI p 3) (aI p 2))])
 bC)
 (.again [aL p 0,aI p 1,dL p 2,aI p 3,aI p 4,aI p 5,aL p 6]))
 bC)
 bC)
 bC)
 bC))
 bC)
 bC)
 (.out (0,[aL p 0,aI p 1,aI p 4,aL p 6]))
def iJ(x:LD):Sh:=
 .loop 0 [.l (D.els (gD x 0)),.i 0,.i 0,.l (D.els (gD x 0)),.i (iE (gD x 0))] (.cons (λc=>
 .ask (aQ (gI c 1) 0)
 bC
 (.ask (aQ 0 (bE .i64 ((gI c 1)-(bE .i64 (0-0)))))
 (.ask ((aQ 0 (bE .i64 ((gI c 1)-(bE .i64 (0-0)))))&&(jP (Int.toNat (bE .i64 ((gI c 1)-(bE .i64 (0-0))))) 16))
 (.ask (kP 0 0 (iL (List.replicate (Int.toNat (bE .i64 ((gI c 1)-(bE .i64 (0-0))))) (D.l [.i 0,.i 0]))))
 (.loop 2 [.i 0,aL c 0,.i (iL (gL c 0)),.l (List.drop 0 (List.take 0 (List.replicate (Int.toNat (bE .i64 ((gI c 1)-(bE .i64 (0-0))))) (D.l [.i 0,.i 0]))))] (.cons (λd=>
 .ret (aL d 0) [])
 .nil))
 bC)
 bC)
 (.loop 2 [.i 0,aL c 0,.i (iL (gL c 0)),.l []] (.cons (λd=>
 .ret (aL d 0) [])
 .nil))))
 .nil)
def cG(p:LD):Sh:=
 .ask (aQ (gI p 2) (gI p 4))
 (.ask (aA (gI p 2) (List.length (gL p 3)))
 (.ask (aQ (bJ .i64 (gI p 1) (iE (gD (gL p 3) (tI p 2)))) 0)
 bC
 (.again [aL p 0,.i (bJ .i64 (gI p 1) (iE (gD (gL p 3) (tI p 2)))),dL p 2,aL p 3,aI p 4]))
 bC)
 (.out (0,[aL p 0,aI p 1]))
def cH(p:LD):Sh:=
 .ask (aQ (gI p 0) (gI p 2))
 (.ask (aA (gI p 0) (List.length (gL p 1)))
 (.ask (jP ((List.length (gL p 3))+(nE (gD (gL p 1) (tI p 0)))) 16)
 (.again [dL p 0,aL p 1,aI p 2,.l ((gL p 3)++(D.els (gD (gL p 1) (tI p 0))))])
 bC)
 bC)
 (.out (0,[aL p 3]))
def sG(x:LD):Sh:=
 .ask (aA (pS x 1) (nX (gD x 0) 5))
 (.call HM [.l [.s (D.toS (D.fld (gD x 0) 0)),.b (vB (gD x 0) 1),.l (eX (gD x 0) 2),.i (vI (gD x 0) 3),.l (eX (gD x 0) 4)],.i (pS x 1)] 0 λd _=>
 .loop 0 [.i (pS x 1),.i 0,.i (iE d),.s (D.toS (D.fld (gD x 0) 0)),.b (vB (gD x 0) 1),.l (eX (gD x 0) 2),.i (vI (gD x 0) 3),.l (eX (gD x 0) 4),.b (vB (gD x 0) 7),.l (List.set (eX (gD x 0) 5) (oQ x 1) (D.i 1)),.l (eX (gD x 0) 6),.l (D.els d)] (.cons (λc=>
 .ask (aA (gI c 0) (List.length (gL c 7)))
 (.ask (jP ((List.length (gL c 8))+1) 8)
 (.ret (.l []) [.l [aS c 1,aB c 2,aL c 3,aI c 4,aL c 5,.l (List.set (gL c 7) (tI c 0) (D.i 2)),.l ((gL c 8)++[aI c 0]),aB c 6]])
 bC)
 bC)
 .nil))
 bC
def eE(p:LD):Sh:=
 .ask (aQ (gI p 1) (gI p 2))
 (.ask (aA (gI p 1) (List.length (gL p 11)))
 (.ask (aA (D.toI (gD (gL p 11) (tI p 1))) (List.length (gL p 9)))
 (.ask (aD (D.toI (gD (gL p 9) (Int.toNat (D.toI (gD (gL p 11) (tI p 1)))))) 0)
 (.call kL [.l [aS p 3,aB p 4,aL p 5,aI p 6,aL p 7,aL p 9,aL p 10,aB p 8],.i (D.toI (gD (gL p 11) (tI p 1)))] 1 λd c=>
 .again [aI p 0,dL p 1,aI p 2,.s (D.toS (D.fld (gD c 0) 0)),.b (vB (gD c 0) 1),.l (eX (gD c 0) 2),.i (vI (gD c 0) 3),.l (eX (gD c 0) 4),.b (vB (gD c 0) 7),.l (eX (gD c 0) 5),.l (eX (gD c 0) 6),aL p 11])
 (.ask (aD (D.toI (gD (gL p 9) (Int.toNat (D.toI (gD (gL p 11) (tI p 1)))))) 1)
 (.again [aI p 0,dL p 1,aI p 2,aS p 3,aB p 4,aL p 5,aI p 6,aL p 7,.b true,aL p 9,aL p 10,aL p 11])
 (.again [aI p 0,dL p 1,aI p 2,aS p 3,aB p 4,aL p 5,aI p 6,aL p 7,aB p 8,aL p 9,aL p 10,aL p 11])))
 bC)
 bC)
 (.out (0,[aI p 0,aS p 3,aB p 4,aL p 5,aI p 6,aL p 7,aB p 8,aL p 9,aL p 10]))
def iN(x:LD):Sh:=
 .loop 0 [.l (D.els (gD x 0)),.i (pS x 1),.i (iE (gD x 0)),.i 0] (.cons (λc=>
 .ret (aI c 0) [])
 (.cons (λc=>
 .ret (.i (-1)) [])
 .nil))
def dH(p:LD):Sh:=
 .ask (aQ (gI p 3) (gI p 2))
 (.ask (aA (gI p 3) (List.length (gL p 0)))
 (.ask (aD (gI p 1) (D.toI (gD (gL p 0) (tI p 3))))
 (.out (0,[aI p 3]))
 (.again [aL p 0,aI p 1,aI p 2,dL p 3]))
 bC)
 (.out (1,[]))
def mS(x:LD):Sh:=
 .ask (Yn (D.els (gD x 0)))
 bC
 (.ask false
 (.ret (.l []) [])
 (.ask (jP (0+(nE (gD x 0))) 8)
 (.ret (.l (D.els (gD x 0))) [])
 bC))
def jW(x:LD):Sh:=
 .ask (Yn (D.els (gD x 0)))
 bC
 (.ask false
 (.ret (.l []) [])
 (.ask (jP (0+(nE (gD x 0))) 8)
 (.ret (.l (D.els (gD x 0))) [])
 bC))
end
end Go.Eng.Q
