/- Part 5 of the proof: the functions' trees. -/
import Derived.Test.YtglojhiigapkbabGreatEnv
set_option linter.unusedVariables false
namespace Go.Eng.Q
open Go.Eng
noncomputable section
abbrev iX(x:D)(n:Nat):Int:=Int.ofNat (List.length (D.els (D.fld x n)))
abbrev iE(x:D):Int:=Int.ofNat (List.length (D.els x))
abbrev nX(x:D)(n:Nat):Nat:=List.length (D.els (D.fld x n))
abbrev nE(x:D):Nat:=List.length (D.els x)
abbrev eX(x:D)(n:Nat):LD:=D.els (D.fld x n)
abbrev vI(x:D)(n:Nat):Int:=D.toI (D.fld x n)
abbrev vB(x:D)(n:Nat):Bool:=D.toB (D.fld x n)
abbrev gE(x:D)(n:Nat):D:=gD (D.els x) n
abbrev iL{α:Type}(l:List α):Int:=Int.ofNat (List.length l)
abbrev aI(p:LD)(n:Nat):D:=.i (gI p n)
abbrev aL(p:LD)(n:Nat):D:=.l (gL p n)
abbrev aS(p:LD)(n:Nat):D:=.s (gS p n)
abbrev aB(p:LD)(n:Nat):D:=.b (gB p n)
abbrev aN(p:LD)(n:Nat):D:=.i (Int.ofNat (gN p n))
abbrev tI(p:LD)(n:Nat):Nat:=Int.toNat (gI p n)
abbrev nI(p:LD)(n:Nat):A:=.int .i64 (gI p n)
abbrev nB(p:LD)(n:Nat):A:=.bool (gB p n)
abbrev fL(t:TypeId)(l:List LT)(p:LD)(n:Nat):A:=.fz [] t l (gL p n)
abbrev Z:Tr:=.nil
abbrev aR(n:Nat)(t:TypeId)(l:List LT)(d:LD):Nat×yN:=(n,⟨t,l,d,[],0,[0,0,0,0],0⟩)
abbrev Gd:Nat:=3
abbrev vD:Nat:=4
abbrev KG:Nat:=5
abbrev Ki:Nat:=6
abbrev XW:Nat:=7
abbrev NU:Nat:=8
abbrev mD:Nat:=9
abbrev bR:Nat:=10
abbrev QI:Nat:=11
abbrev Kj:Nat:=12
abbrev Kk:Nat:=13
abbrev TT:Nat:=14
abbrev HY:Nat:=15
abbrev cK:Nat:=16
abbrev gX:Nat:=17
abbrev AM:Nat:=18
abbrev TU:Nat:=19
abbrev Hd:Nat:=20
abbrev Av:Nat:=21
abbrev Kl:Nat:=22
abbrev Km:Nat:=23
abbrev Uk:Nat:=24
abbrev Kn:Nat:=25
abbrev Ul:Nat:=26
abbrev Ko:Nat:=27
abbrev EN:Nat:=28
abbrev bK:Nat:=29
abbrev GL:Nat:=30
abbrev zG:Nat:=31
abbrev QJ:Nat:=32
abbrev EO:Nat:=33
abbrev NV:Nat:=34
abbrev Um:Nat:=35
abbrev XX:Nat:=36
abbrev Un:Nat:=37
abbrev CS:Nat:=39
abbrev XY:Nat:=40
abbrev Uo:Nat:=41
abbrev QK:Nat:=42
abbrev Kp:Nat:=43
abbrev Uq:Nat:=44
abbrev He:Nat:=45
abbrev XZ:Nat:=46
abbrev Kq:Nat:=47
abbrev NW:Nat:=50
abbrev Aw:Nat:=51
abbrev QL:Nat:=52
abbrev KH:Nat:=53
abbrev Hf:Nat:=54
abbrev Hg:Nat:=55
abbrev Kr:Nat:=56
abbrev Ax:Nat:=57
abbrev Ks:Nat:=58
abbrev Kt:Nat:=59
abbrev YA:Nat:=60
abbrev Ur:Nat:=61
abbrev Ku:Nat:=62
abbrev YB:Nat:=63
abbrev zH:Nat:=64
abbrev BX:Nat:=65
abbrev Us:Nat:=66
abbrev aCM:Nat:=67
abbrev Ut:Nat:=68
abbrev DI:Nat:=69
abbrev Ay:Nat:=70
abbrev Uu:Nat:=71
abbrev GM:Nat:=72
abbrev mE:Nat:=73
abbrev KI:Nat:=74
abbrev Az:Nat:=75
abbrev mR:Nat:=76
abbrev Kv:Nat:=77
abbrev Kw:Nat:=78
abbrev KJ:Nat:=79
abbrev jE:Nat:=80
abbrev bC:Nat:=81
abbrev bY:Nat:=83
abbrev wC:Nat:=84
abbrev QM:Nat:=85
abbrev oI:Nat:=86
abbrev NX:Nat:=87
abbrev HZ:Nat:=88
abbrev NY:Nat:=89
abbrev Kx:Nat:=90
abbrev Ba:Nat:=91
abbrev wD:Nat:=92
abbrev EP:Nat:=96
abbrev kQ:Nat:=97
abbrev nN:Nat:=98
abbrev NZ:Nat:=99
abbrev qF:Nat:=110
abbrev KM(d:FD):Prop:=∀x:LD,Pt E d.h sites (itN E sites (tOf d.T) Nv) (tOf d.T) d.f d.c d.s (Jv x 0 d.F.np)=(d.F.main x).up d.S d.T 0
abbrev KL(d:FD)(b:Nat)(g:LD->Sh):Prop:=∀p:LD,At E (lA d sites b).h sites (itN E sites (tOf d.T) Nv) (lA d sites b).lb (tOf d.T) (lA d sites b).b (uE (lA d sites b).b (lA d sites b).c) (Uf d.S b p)=(g p).up d.S d.T b
abbrev dK(p:LD)(n:Nat):D:=.i (bJ .i64 (gI p n) 1)
abbrev iO(p:LD)(n:Nat):Nat:=Int.toNat (D.toI (gD p n))
abbrev dB(p:LD)(n:Nat):Int:=D.toI (gD p n)
abbrev pQ(x:LD):D:=.l [.l (eX (gD x 0) 0),.l (eX (gD x 0) 1),.l (eX (gD x 0) 2),.l (eX (gD x 0) 3)]
abbrev GN(x:D):D:=.l [.s (D.toS (D.fld x 0)),.b (vB x 1),.l (eX x 2),.i (vI x 3),.l (eX x 4)]
abbrev zqS(x:LD)(k:D->Sh):Sh:=.call bR [pQ x,.i (dB x 1),.i (dB x 2),.i (dB x 3)] 0 λr _=>k r
abbrev zqK(x:LD)(k:D->Sh):Sh:=.call mD [pQ x,.i (dB x 1)] 0 λr _=>k r
abbrev zqO(x:LD)(k:D->Sh):Sh:=.call NU [pQ x,.i (dB x 1)] 0 λr _=>k r
abbrev zqL(x:LD)(k:D->Sh):Sh:=.call gX [GN (gD (eX (gD x 0) 3) (iO x 1))] 0 λr _=>k r
abbrev zqB(a b:D)(k:D->Sh):Sh:=.call cK [.l (D.els a),.l (D.els b)] 0 λr _=>k r
abbrev zqV(a b:D)(k:D->Sh):Sh:=.call HY [.l (D.els a),.l (D.els b)] 0 λr _=>k r
abbrev zqR(a b c d e:D):Sh:=.ret (.b ((((D.toB a)&&(D.toB b))&&(D.toB c))&&(bif D.toB d then D.toB e else !(D.toB e)))) []
abbrev zqN(a b c d:D):Sh:=.ret (.b ((((D.toB a)&&(D.toB b))&&(D.toB c))&&(!(D.toB d)))) []
abbrev zq3(a b c:D):Bool:=(((D.toB a)&&(D.toB b))&&(D.toB c))&&true
abbrev bX(a b:D):Bool:=((D.toB a)&&(D.toB b))&&true
abbrev bA{c d:Type}:IX c d:=.bad
def lt0:List LT:=[.sl true 3 [.int .i64],.sl true 58 [.sl true 60 [.int .i64,.int .i64]],.sl true 57 [.int .i64,.int .i64],.sl true 50 [.int .i64,.int .i64,.int .i64,.int .i64,.int .i64,.sl false 3 [.int .i64],.sl false 3 [.int .i64]]]
def zY:List LT:=[.sl false 50 [.int .i64,.int .i64,.int .i64,.int .i64,.int .i64,.sl false 3 [.int .i64],.sl false 3 [.int .i64]]]
def Zl:List LT:=[.str,.sl false 3 [.int .i64],.int .i64]
def LV:List LT:=[.str,.bool,.sl false 3 [.int .i64],.int .i64,.sl false 47 [.sl false 50 [.int .i64,.int .i64,.int .i64,.int .i64,.int .i64,.sl false 3 [.int .i64],.sl false 3 [.int .i64]]]]
def KK:List LT:=[.int .i64,.int .i64,.int .i64,.int .i64,.int .i64,.sl false 3 [.int .i64],.sl false 3 [.int .i64]]
def lt5:List LT:=[.sl false 3 [.int .i64],.sl false 58 [.sl false 60 [.int .i64,.int .i64]],.sl false 57 [.int .i64,.int .i64],.sl false 50 [.int .i64,.int .i64,.int .i64,.int .i64,.int .i64,.sl false 3 [.int .i64],.sl false 3 [.int .i64]]]
def aAp(x:LD):Sh:=
 .call EN [pQ x,.i (dB x 1)] 0 λc _=>
 .ask (Ga (D.els c))
 (.ask true
 (.ret (.l []) [])
 bA)
 (.ask false
 (.ret (.l []) [])
 (.ask (aA (dB x 1) (nX (RF (D.els c)) 5))
 (.ask ((cX 0 (iX (gD (eX (RF (D.els c)) 5) (iO x 1)) 1))&&((aD (iX (gD (eX (RF (D.els c)) 5) (iO x 1)) 1) (iX (gD (eX (RF (D.els c)) 5) (iO x 1)) 1))&&(jN (Int.toNat (iX (gD (eX (RF (D.els c)) 5) (iO x 1)) 1)) 24)))
 (.ask (aA (dB x 1) (nX (RF (D.els c)) 5))
 (.loop 0 (let z0:=nX (gD (eX (RF (D.els c)) 5) (iO x 1)) 1;[.i (Int.ofNat (iO x 1)),.i 0,.i (Int.ofNat z0),.l (List.replicate z0 (D.l [])),.l (eX (RF (D.els c)) 5)]) (.cons (λd=>
 .ret (aL d 0) [])
 .nil))
 bA)
 bA)
 bA))
def Zm(p:LD):Sh:=
 .ask (aT (gI p 1) (gI p 2))
 (.ask (aA (gI p 1) (nX (gD (gL p 4) (gN p 0)) 1))
 (.call bK [.l (D.els (gD (eX (gD (gL p 4) (gN p 0)) 1) (tI p 1)))] 0 λc _=>
 .ask (aA (gI p 1) (List.length (gL p 3)))
 (.again [aN p 0,dK p 1,aI p 2,.l (List.set (gL p 3) (tI p 1) (D.l (D.els c))),aL p 4])
 bA)
 bA)
 (.out (0,[aL p 3]))
def OA(x:LD):Sh:=
 .call QJ [GN (gD x 0)] 0 λd _=>
 .ask ((cX 0 (bJ .i64 (D.toI d) 1))&&((aD (bJ .i64 (D.toI d) 1) (bJ .i64 (D.toI d) 1))&&(jN (Int.toNat (bJ .i64 (D.toI d) 1)) 24)))
 (.loop 0 [.i 1,.s (D.toS (D.fld (gD x 0) 0)),.b (vB (gD x 0) 1),.l (eX (gD x 0) 2),.i (vI (gD x 0) 3),.l (eX (gD x 0) 4),.l (List.replicate (Int.toNat (bJ .i64 (D.toI d) 1)) (D.l []))] (.cons (λc=>
 .loop 2 [.b true,aS c 0,aB c 1,aL c 2,aI c 3,aL c 4,aL c 5] (.cons (λe=>
 .ret (aL e 0) [])
 .nil))
 .nil))
 bA
def sZ(p:LD):Sh:=
 .ask (cX (gI p 0) (iL (gL p 3)))
 (.ask (aA (bD .i64 ((gI p 0)-1)) (List.length (gL p 3)))
 (.ask (aD (D.toI (gD (gL p 3) (Int.toNat (bD .i64 ((gI p 0)-1))))) 3)
 (.ask (aA (gI p 0) (List.length (gL p 6)))
 (.again [dK p 0,aS p 1,aB p 2,aL p 3,aI p 4,aL p 5,.l (List.set (gL p 6) (tI p 0) (D.l [.l [.i 1,aI p 0]]))])
 bA)
 (.again [dK p 0,aS p 1,aB p 2,aL p 3,aI p 4,aL p 5,aL p 6]))
 bA)
 (.out (0,[aS p 1,aB p 2,aL p 3,aI p 4,aL p 5,aL p 6]))
def tC(p:LD):Sh:=
 .ask (gB p 0)
 (.loop 4 [.b false,.i 0,aS p 1,aB p 2,aL p 3,aI p 4,aL p 5,aL p 6] (.cons (λc=>
 .again [aB c 0,aS c 1,aB c 2,aL c 3,aI c 4,aL c 5,aL c 6])
 .nil))
 (.out (0,[aL p 6]))
def tD(p:LD):Sh:=
 .ask (aT (gI p 1) (iL (gL p 6)))
 (.loop 6 [.i 0,aB p 0,aI p 1,aS p 2,aB p 3,aL p 4,aI p 5,aL p 6,aL p 7] (.cons (λc=>
 .again [aB c 0,dK c 1,aS c 2,aB c 3,aL c 4,aI c 5,aL c 6,aL c 7])
 .nil))
 (.out (0,[aB p 0,aS p 2,aB p 3,aL p 4,aI p 5,aL p 6,aL p 7]))
def kA(p:LD):Sh:=
 .ask (aA (gI p 2) (List.length (gL p 7)))
 (.ask (aT (gI p 0) (iE (gD (gL p 7) (tI p 2))))
 (.ask (aA (gI p 2) (List.length (gL p 7)))
 (.ask (aA (gI p 0) (nE (gD (gL p 7) (tI p 2))))
 (.ask (!(aD (vI (gE (gD (gL p 7) (tI p 2)) (tI p 0)) 1) 3))
 (.again [dK p 0,aB p 1,aI p 2,aS p 3,aB p 4,aL p 5,aI p 6,aL p 7,aL p 8])
 (.ask (aA (vI (gE (gD (gL p 7) (tI p 2)) (tI p 0)) 2) (List.length (gL p 8)))
 (.ask (aD (vI (gE (gD (gL p 7) (tI p 2)) (tI p 0)) 0) 18)
 (.ask (aA (vI (gE (gD (gL p 7) (tI p 2)) (tI p 0)) 2) (List.length (gL p 8)))
 (.ask ((!(!(gB p 1)))||(aA (vI (gE (gD (gL p 7) (tI p 2)) (tI p 0)) 2) (List.length (List.set (gL p 8) (Int.toNat (vI (gE (gD (gL p 7) (tI p 2)) (tI p 0)) 2)) (D.l [.l [.i 2,.i (vI (gE (gD (gL p 7) (tI p 2)) (tI p 0)) 2)]])))))
 (.again (let z0:=Int.toNat (vI (gE (gD (gL p 7) (tI p 2)) (tI p 0)) 2);let d:=List.set (gL p 8) z0 (D.l [D.l [D.i 2,D.i (vI (gE (gD (gL p 7) (tI p 2)) (tI p 0)) 2)]]);[dK p 0,.b ((gB p 1)||(!(aD (iE (gD d z0)) (iE (gD (gL p 8) z0))))),aI p 2,aS p 3,aB p 4,aL p 5,aI p 6,aL p 7,.l d]))
 bA)
 bA)
 (.ask (aD (vI (gE (gD (gL p 7) (tI p 2)) (tI p 0)) 0) 3)
 (.ask (aA (vI (gE (gD (gL p 7) (tI p 2)) (tI p 0)) 2) (List.length (gL p 8)))
 (.ask ((!(!(gB p 1)))||(aA (vI (gE (gD (gL p 7) (tI p 2)) (tI p 0)) 2) (List.length (List.set (gL p 8) (Int.toNat (vI (gE (gD (gL p 7) (tI p 2)) (tI p 0)) 2)) (D.l [.l [.i 3,.i (vI (gE (gD (gL p 7) (tI p 2)) (tI p 0)) 3)]])))))
 (.again (let z0:=Int.toNat (vI (gE (gD (gL p 7) (tI p 2)) (tI p 0)) 2);let d:=List.set (gL p 8) z0 (D.l [D.l [D.i 3,D.i (vI (gE (gD (gL p 7) (tI p 2)) (tI p 0)) 3)]]);[dK p 0,.b ((gB p 1)||(!(aD (iE (gD d z0)) (iE (gD (gL p 8) z0))))),aI p 2,aS p 3,aB p 4,aL p 5,aI p 6,aL p 7,.l d]))
 bA)
 bA)
 (.ask (aD (vI (gE (gD (gL p 7) (tI p 2)) (tI p 0)) 0) 19)
 (.ask (aA (vI (gE (gD (gL p 7) (tI p 2)) (tI p 0)) 2) (List.length (gL p 8)))
 (.ask (aA 0 (nX (gE (gD (gL p 7) (tI p 2)) (tI p 0)) 5))
 (.ask (aA (D.toI (gD (eX (gE (gD (gL p 7) (tI p 2)) (tI p 0)) 5) 0)) (List.length (gL p 8)))
 (.call EO [.l (D.els (gD (gL p 8) (Int.toNat (vI (gE (gD (gL p 7) (tI p 2)) (tI p 0)) 2)))),.l (D.els (gD (gL p 8) (Int.toNat (D.toI (gD (eX (gE (gD (gL p 7) (tI p 2)) (tI p 0)) 5) 0)))))] 0 λe _=>
 .ask (aA (vI (gE (gD (gL p 7) (tI p 2)) (tI p 0)) 2) (List.length (gL p 8)))
 (.ask ((!(!(gB p 1)))||(aA (vI (gE (gD (gL p 7) (tI p 2)) (tI p 0)) 2) (List.length (List.set (gL p 8) (Int.toNat (vI (gE (gD (gL p 7) (tI p 2)) (tI p 0)) 2)) (D.l (D.els e))))))
 (.again (let z0:=Int.toNat (vI (gE (gD (gL p 7) (tI p 2)) (tI p 0)) 2);let d:=List.set (gL p 8) z0 (D.l (D.els e));[dK p 0,.b ((gB p 1)||(!(aD (iE (gD d z0)) (iE (gD (gL p 8) z0))))),aI p 2,aS p 3,aB p 4,aL p 5,aI p 6,aL p 7,.l d]))
 bA)
 bA)
 bA)
 bA)
 bA)
 (.ask (aD (vI (gE (gD (gL p 7) (tI p 2)) (tI p 0)) 0) 17)
 (.ask (aA (vI (gE (gD (gL p 7) (tI p 2)) (tI p 0)) 2) (List.length (gL p 8)))
 (.ask (aA 1 (nX (gE (gD (gL p 7) (tI p 2)) (tI p 0)) 5))
 (.ask (aA (D.toI (gD (eX (gE (gD (gL p 7) (tI p 2)) (tI p 0)) 5) 1)) (List.length (gL p 8)))
 (.ask (aA 2 (nX (gE (gD (gL p 7) (tI p 2)) (tI p 0)) 5))
 (.ask (aA (D.toI (gD (eX (gE (gD (gL p 7) (tI p 2)) (tI p 0)) 5) 2)) (List.length (gL p 8)))
 (.call EO [.l (D.els (gD (gL p 8) (Int.toNat (vI (gE (gD (gL p 7) (tI p 2)) (tI p 0)) 2)))),.l (D.els (gD (gL p 8) (Int.toNat (D.toI (gD (eX (gE (gD (gL p 7) (tI p 2)) (tI p 0)) 5) 1)))))] 0 λe _=>
 .call EO [.l (D.els e),.l (D.els (gD (gL p 8) (Int.toNat (D.toI (gD (eX (gE (gD (gL p 7) (tI p 2)) (tI p 0)) 5) 2)))))] 0 λf _=>
 .ask (aA (vI (gE (gD (gL p 7) (tI p 2)) (tI p 0)) 2) (List.length (gL p 8)))
 (.ask ((!(!(gB p 1)))||(aA (vI (gE (gD (gL p 7) (tI p 2)) (tI p 0)) 2) (List.length (List.set (gL p 8) (Int.toNat (vI (gE (gD (gL p 7) (tI p 2)) (tI p 0)) 2)) (D.l (D.els f))))))
 (.again (let z0:=Int.toNat (vI (gE (gD (gL p 7) (tI p 2)) (tI p 0)) 2);let d:=List.set (gL p 8) z0 (D.l (D.els f));[dK p 0,.b ((gB p 1)||(!(aD (iE (gD d z0)) (iE (gD (gL p 8) z0))))),aI p 2,aS p 3,aB p 4,aL p 5,aI p 6,aL p 7,.l d]))
 bA)
 bA)
 bA)
 bA)
 bA)
 bA)
 bA)
 (.ask (aD (vI (gE (gD (gL p 7) (tI p 2)) (tI p 0)) 0) 26)
 (.loop 9 [aI p 0,aB p 1,.i (iE (gD (gL p 8) (Int.toNat (vI (gE (gD (gL p 7) (tI p 2)) (tI p 0)) 2)))),aI p 2,.i 0,aS p 3,aB p 4,aL p 5,aI p 6,aL p 7,.i (vI (gE (gD (gL p 7) (tI p 2)) (tI p 0)) 0),.i (vI (gE (gD (gL p 7) (tI p 2)) (tI p 0)) 1),.i (vI (gE (gD (gL p 7) (tI p 2)) (tI p 0)) 2),.i (vI (gE (gD (gL p 7) (tI p 2)) (tI p 0)) 3),.i (vI (gE (gD (gL p 7) (tI p 2)) (tI p 0)) 4),.l (eX (gE (gD (gL p 7) (tI p 2)) (tI p 0)) 5),.l (eX (gE (gD (gL p 7) (tI p 2)) (tI p 0)) 6),aL p 8] (.cons (λc=>
 .ask ((!(!(gB c 1)))||(aA (gI c 11) (List.length (gL c 16))))
 (.again [dK c 0,.b ((gB c 1)||(!(aD (iE (gD (gL c 16) (tI c 11))) (gI c 2)))),aI c 3,aS c 4,aB c 5,aL c 6,aI c 7,aL c 8,aL c 16])
 bA)
 .nil))
 (.ask ((!(!(gB p 1)))||(aA (vI (gE (gD (gL p 7) (tI p 2)) (tI p 0)) 2) (List.length (gL p 8))))
 (.again [dK p 0,.b ((gB p 1)||(!(aD (iE (gD (gL p 8) (Int.toNat (vI (gE (gD (gL p 7) (tI p 2)) (tI p 0)) 2)))) (iE (gD (gL p 8) (Int.toNat (vI (gE (gD (gL p 7) (tI p 2)) (tI p 0)) 2))))))),aI p 2,aS p 3,aB p 4,aL p 5,aI p 6,aL p 7,aL p 8])
 bA))))))
 bA))
 bA)
 bA)
 (.out (0,[aB p 1,aI p 2,aS p 3,aB p 4,aL p 5,aI p 6,aL p 7,aL p 8])))
 bA
def tE(p:LD):Sh:=
 .ask (aT (gI p 4) (iL (gL p 15)))
 (.ask (aA (gI p 12) (List.length (gL p 17)))
 (.ask (aA (gI p 4) (List.length (gL p 15)))
 (.ask (aA (D.toI (gD (gL p 15) (tI p 4))) (List.length (gL p 17)))
 (.call EO [.l (D.els (gD (gL p 17) (tI p 12))),.l (D.els (gD (gL p 17) (Int.toNat (D.toI (gD (gL p 15) (tI p 4))))))] 0 λc _=>
 .ask (aA (gI p 12) (List.length (gL p 17)))
 (.again [aI p 0,aB p 1,aI p 2,aI p 3,dK p 4,aS p 5,aB p 6,aL p 7,aI p 8,aL p 9,aI p 10,aI p 11,aI p 12,aI p 13,aI p 14,aL p 15,aL p 16,.l (List.set (gL p 17) (tI p 12) (D.l (D.els c)))])
 bA)
 bA)
 bA)
 bA)
 (.out (0,[aI p 0,aB p 1,aI p 2,aI p 3,aS p 5,aB p 6,aL p 7,aI p 8,aL p 9,aI p 10,aI p 11,aI p 12,aI p 13,aI p 14,aL p 15,aL p 16,aL p 17]))
def Zn(x:LD):Sh:=
 .ask (!(aD (iE (gD x 0)) (iE (gD x 1))))
 (.ret (.b false) [])
 (.loop 0 [.l (D.els (gD x 0)),.l (D.els (gD x 1)),.i 0] (.cons (λc=>
 .ret (aB c 0) [])
 (.cons (λc=>
 .ret (.b true) [])
 .nil)))
def Nw(p:LD):Sh:=
 .ask (aT (gI p 2) (iL (gL p 0)))
 (.ask (aA (gI p 2) (List.length (gL p 0)))
 (.ask (aA (gI p 2) (List.length (gL p 1)))
 (.ask (!((aD (vI (gD (gL p 0) (tI p 2)) 0) (vI (gD (gL p 1) (tI p 2)) 0))&&((aD (vI (gD (gL p 0) (tI p 2)) 1) (vI (gD (gL p 1) (tI p 2)) 1))&&true)))
 (.out (0,[.b false]))
 (.again [aL p 0,aL p 1,dK p 2]))
 bA)
 bA)
 (.out (1,[]))
def pA(x:LD):Sh:=
 .ask (((aT 40 (iL (D.toS (D.fld (gD x 0) 0))))||(aT 8 (iX (gD x 0) 2)))||(aT 16 (iX (gD x 0) 4)))
 (.ret (.b false) [])
 (.loop 0 [.i 0,.i 0,.s (D.toS (D.fld (gD x 0) 0)),.b (vB (gD x 0) 1),.l (eX (gD x 0) 2),.i (vI (gD x 0) 3),.l (eX (gD x 0) 4)] (.cons (λc=>
 .ret (aB c 0) [])
 (.cons (λc=>
 .ret (.b true) [])
 .nil)))
def jF(p:LD):Sh:=
 .ask (aT (gI p 1) (iL (gL p 6)))
 (.ask (aA (gI p 1) (List.length (gL p 6)))
 (.ask (aT 90 (bJ .i64 (gI p 0) (iE (gD (gL p 6) (tI p 1)))))
 (.out (0,[.b false]))
 (.loop 2 [.i (bJ .i64 (gI p 0) (iE (gD (gL p 6) (tI p 1)))),.i 0,aI p 1,aS p 2,aB p 3,aL p 4,aI p 5,aL p 6] (.cons (λc=>
 .out (0,[aB c 1]))
 (.cons (λc=>
 .again [aI c 0,dK c 1,aS c 2,aB c 3,aL c 4,aI c 5,aL c 6])
 .nil))))
 bA)
 (.out (1,[]))
def mF(p:LD):Sh:=
 .ask (aA (gI p 2) (List.length (gL p 7)))
 (.ask (aT (gI p 1) (iE (gD (gL p 7) (tI p 2))))
 (.ask (aA (gI p 2) (List.length (gL p 7)))
 (.ask (aA (gI p 1) (nE (gD (gL p 7) (tI p 2))))
 (.ask ((!(!(aT 20 (iX (gE (gD (gL p 7) (tI p 2)) (tI p 1)) 5))))||(aA (gI p 2) (List.length (gL p 7))))
 (.ask ((!(!(aT 20 (iX (gE (gD (gL p 7) (tI p 2)) (tI p 1)) 5))))||(aA (gI p 1) (nE (gD (gL p 7) (tI p 2)))))
 (.ask ((aT 20 (iX (gE (gD (gL p 7) (tI p 2)) (tI p 1)) 5))||(aT 20 (iX (gE (gD (gL p 7) (tI p 2)) (tI p 1)) 6)))
 (.out (0,[aI p 0,.b false,aI p 2,aS p 3,aB p 4,aL p 5,aI p 6,aL p 7]))
 (.again [aI p 0,dK p 1,aI p 2,aS p 3,aB p 4,aL p 5,aI p 6,aL p 7]))
 bA)
 bA)
 bA)
 bA)
 (.out (1,[aI p 0,aI p 2,aS p 3,aB p 4,aL p 5,aI p 6,aL p 7])))
 bA
def TV(x:LD):Sh:=
 .loop 0 [.i 0,.i 0,.l (eX (gD x 0) 0),.l (eX (gD x 0) 1),.l (eX (gD x 0) 2),.l (eX (gD x 0) 3),.l []] (.cons (λc=>
 .loop 2 [aI c 0,.i 0,aL c 1,aL c 2,aL c 3,aL c 4,aL c 5] (.cons (λd=>
 .loop 4 [.i 0,aI d 0,aL d 1,aL d 2,aL d 3,aL d 4,aL d 5] (.cons (λe=>
 .loop 6 [aI e 0,.i 0,aL e 1,aL e 2,aL e 3,aL e 4,aL e 5] (.cons (λf=>
 .ret (.b (aD (gI f 0) 0)) [])
 .nil))
 .nil))
 .nil))
 .nil)
def wE(p:LD):Sh:=
 .ask (aT (gI p 0) (iL (gL p 2)))
 (.ask (aA (gI p 0) (List.length (gL p 2)))
 (.call KH [.s (D.toS (D.fld (gD (gL p 2) (tI p 0)) 0))] 0 λc _=>
 .ask ((!(D.toB c))||(aT 1 (D.toI (yT (.int .i64) (iM .str (.s (D.toS (D.fld (gD (gL p 2) (tI p 0)) 0))) 0 (DQ (.s (D.toS (D.fld (gD (gL p 2) (tI p 0)) 0))) (.i (bJ .i64 (D.toI (yT (.int .i64) (iM .str (.s (D.toS (D.fld (gD (gL p 2) (tI p 0)) 0))) 0 (gL p 6)))) 1)) (gL p 6) (iM .str (.s (D.toS (D.fld (gD (gL p 2) (tI p 0)) 0))) 0 (gL p 6))))))))
 (.again (let z0:=iM .str (D.s (D.toS (D.fld (gD (gL p 2) (tI p 0)) 0))) 0 (gL p 6);[dK p 0,dK p 1,aL p 2,aL p 3,aL p 4,aL p 5,.l (DQ (D.s (D.toS (D.fld (gD (gL p 2) (tI p 0)) 0))) (D.i (bJ .i64 (D.toI (yT (.int .i64) z0)) 1)) (gL p 6) z0)]))
 (.again (let z0:=iM .str (D.s (D.toS (D.fld (gD (gL p 2) (tI p 0)) 0))) 0 (gL p 6);[dK p 0,.i (bJ .i64 (gI p 1) 0),aL p 2,aL p 3,aL p 4,aL p 5,.l (DQ (D.s (D.toS (D.fld (gD (gL p 2) (tI p 0)) 0))) (D.i (bJ .i64 (D.toI (yT (.int .i64) z0)) 1)) (gL p 6) z0)])))
 bA)
 (.out (0,[aI p 1,aL p 2,aL p 3,aL p 4,aL p 5,aL p 6]))
def wF(p:LD):Sh:=
 .ask (aT (gI p 1) (iL (gL p 3)))
 (.ask (aA (gI p 1) (List.length (gL p 3)))
 (.call KH [.s (D.toS (D.fld (gD (gL p 3) (tI p 1)) 0))] 0 λc _=>
 .ask ((!(D.toB c))||(aT 1 (D.toI (yT (.int .i64) (iM .str (.s (D.toS (D.fld (gD (gL p 3) (tI p 1)) 0))) 0 (DQ (.s (D.toS (D.fld (gD (gL p 3) (tI p 1)) 0))) (.i (bJ .i64 (D.toI (yT (.int .i64) (iM .str (.s (D.toS (D.fld (gD (gL p 3) (tI p 1)) 0))) 0 (gL p 6)))) 1)) (gL p 6) (iM .str (.s (D.toS (D.fld (gD (gL p 3) (tI p 1)) 0))) 0 (gL p 6))))))))
 (.again (let z0:=iM .str (D.s (D.toS (D.fld (gD (gL p 3) (tI p 1)) 0))) 0 (gL p 6);[dK p 0,dK p 1,aL p 2,aL p 3,aL p 4,aL p 5,.l (DQ (D.s (D.toS (D.fld (gD (gL p 3) (tI p 1)) 0))) (D.i (bJ .i64 (D.toI (yT (.int .i64) z0)) 1)) (gL p 6) z0)]))
 (.again (let z0:=iM .str (D.s (D.toS (D.fld (gD (gL p 3) (tI p 1)) 0))) 0 (gL p 6);[.i (bJ .i64 (gI p 0) 0),dK p 1,aL p 2,aL p 3,aL p 4,aL p 5,.l (DQ (D.s (D.toS (D.fld (gD (gL p 3) (tI p 1)) 0))) (D.i (bJ .i64 (D.toI (yT (.int .i64) z0)) 1)) (gL p 6) z0)])))
 bA)
 (.out (0,[aI p 0,aL p 2,aL p 3,aL p 4,aL p 5,aL p 6]))
def wG(p:LD):Sh:=
 .ask (aT (gI p 0) (iL (gL p 4)))
 (.ask (aA (gI p 0) (List.length (gL p 4)))
 (.call KH [.s (D.toS (D.fld (gD (gL p 4) (tI p 0)) 0))] 0 λc _=>
 .ask ((!(D.toB c))||(aT 1 (D.toI (yT (.int .i64) (iM .str (.s (D.toS (D.fld (gD (gL p 4) (tI p 0)) 0))) 0 (DQ (.s (D.toS (D.fld (gD (gL p 4) (tI p 0)) 0))) (.i (bJ .i64 (D.toI (yT (.int .i64) (iM .str (.s (D.toS (D.fld (gD (gL p 4) (tI p 0)) 0))) 0 (gL p 6)))) 1)) (gL p 6) (iM .str (.s (D.toS (D.fld (gD (gL p 4) (tI p 0)) 0))) 0 (gL p 6))))))))
 (.again (let z0:=iM .str (D.s (D.toS (D.fld (gD (gL p 4) (tI p 0)) 0))) 0 (gL p 6);[dK p 0,dK p 1,aL p 2,aL p 3,aL p 4,aL p 5,.l (DQ (D.s (D.toS (D.fld (gD (gL p 4) (tI p 0)) 0))) (D.i (bJ .i64 (D.toI (yT (.int .i64) z0)) 1)) (gL p 6) z0)]))
 (.again (let z0:=iM .str (D.s (D.toS (D.fld (gD (gL p 4) (tI p 0)) 0))) 0 (gL p 6);[dK p 0,.i (bJ .i64 (gI p 1) 0),aL p 2,aL p 3,aL p 4,aL p 5,.l (DQ (D.s (D.toS (D.fld (gD (gL p 4) (tI p 0)) 0))) (D.i (bJ .i64 (D.toI (yT (.int .i64) z0)) 1)) (gL p 6) z0)])))
 bA)
 (.out (0,[aI p 1,aL p 2,aL p 3,aL p 4,aL p 5,aL p 6]))
def wH(p:LD):Sh:=
 .ask (aT (gI p 1) (iL (gL p 5)))
 (.ask (aA (gI p 1) (List.length (gL p 5)))
 (.call KH [.s (D.toS (D.fld (gD (gL p 5) (tI p 1)) 0))] 0 λc _=>
 .ask ((!(D.toB c))||(aT 1 (D.toI (yT (.int .i64) (iM .str (.s (D.toS (D.fld (gD (gL p 5) (tI p 1)) 0))) 0 (DQ (.s (D.toS (D.fld (gD (gL p 5) (tI p 1)) 0))) (.i (bJ .i64 (D.toI (yT (.int .i64) (iM .str (.s (D.toS (D.fld (gD (gL p 5) (tI p 1)) 0))) 0 (gL p 6)))) 1)) (gL p 6) (iM .str (.s (D.toS (D.fld (gD (gL p 5) (tI p 1)) 0))) 0 (gL p 6))))))))
 (.again (let z0:=iM .str (D.s (D.toS (D.fld (gD (gL p 5) (tI p 1)) 0))) 0 (gL p 6);[dK p 0,dK p 1,aL p 2,aL p 3,aL p 4,aL p 5,.l (DQ (D.s (D.toS (D.fld (gD (gL p 5) (tI p 1)) 0))) (D.i (bJ .i64 (D.toI (yT (.int .i64) z0)) 1)) (gL p 6) z0)]))
 (.again (let z0:=iM .str (D.s (D.toS (D.fld (gD (gL p 5) (tI p 1)) 0))) 0 (gL p 6);[.i (bJ .i64 (gI p 0) 0),dK p 1,aL p 2,aL p 3,aL p 4,aL p 5,.l (DQ (D.s (D.toS (D.fld (gD (gL p 5) (tI p 1)) 0))) (D.i (bJ .i64 (D.toI (yT (.int .i64) z0)) 1)) (gL p 6) z0)])))
 bA)
 (.out (0,[aI p 0]))
def TW(x:LD):Sh:=
 .call NV [GN (gD x 1)] 0 λd _=>
 .loop 0 [.i 0,.l (eX (gD x 0) 0),.l (eX (gD x 0) 1),.l (eX (gD x 0) 2),.l (eX (gD x 0) 3),.s (D.toS (D.fld (gD x 1) 0)),.b (vB (gD x 1) 1),.l (eX (gD x 1) 2),.i (vI (gD x 1) 3),.l (eX (gD x 1) 4),.l (D.els d)] (.cons (λc=>
 .ret (aB c 0) [])
 (.cons (λc=>
 .ret (.b true) [])
 .nil))
def wI(p:LD):Sh:=
 .ask (aT (gI p 0) (iL (gL p 9)))
 (.loop 2 [.i 0,aI p 0,aL p 1,aL p 2,aL p 3,aL p 4,aS p 5,aB p 6,aL p 7,aI p 8,aL p 9,aL p 10] (.cons (λc=>
 .out (0,[aB c 0]))
 (.cons (λc=>
 .again [dK c 0,aL c 1,aL c 2,aL c 3,aL c 4,aS c 5,aB c 6,aL c 7,aI c 8,aL c 9,aL c 10])
 .nil)))
 (.out (1,[]))
def wJ(p:LD):Sh:=
 .ask (aA (gI p 1) (List.length (gL p 10)))
 (.ask (aT (gI p 0) (iE (gD (gL p 10) (tI p 1))))
 (.ask (aA (gI p 1) (List.length (gL p 10)))
 (.ask (aA (gI p 0) (nE (gD (gL p 10) (tI p 1))))
 (.loop 4 [aI p 0,aI p 1,.i 0,aL p 2,aL p 3,aL p 4,aL p 5,aS p 6,aB p 7,aL p 8,aI p 9,aL p 10,.i (vI (gE (gD (gL p 10) (tI p 1)) (tI p 0)) 0),.i (vI (gE (gD (gL p 10) (tI p 1)) (tI p 0)) 1),.i (vI (gE (gD (gL p 10) (tI p 1)) (tI p 0)) 2),.i (vI (gE (gD (gL p 10) (tI p 1)) (tI p 0)) 3),.i (vI (gE (gD (gL p 10) (tI p 1)) (tI p 0)) 4),.l (eX (gE (gD (gL p 10) (tI p 1)) (tI p 0)) 5),.l (eX (gE (gD (gL p 10) (tI p 1)) (tI p 0)) 6),.l [],aL p 11] (.cons (λc=>
 .call He [.l [aL c 2,aL c 3,aL c 4,aL c 5],.l [aS c 6,aB c 7,aL c 8,aI c 9,aL c 10],.l [aI c 11,aI c 12,aI c 13,aI c 14,aI c 15,aL c 16,aL c 17],aL c 18] 0 λd _=>
 .ask (!(D.toB d))
 (.out (0,[.b false,aI c 1,aL c 2,aL c 3,aL c 4,aL c 5,aS c 6,aB c 7,aL c 8,aI c 9,aL c 10,aL c 19]))
 (.again [dK c 0,aI c 1,aL c 2,aL c 3,aL c 4,aL c 5,aS c 6,aB c 7,aL c 8,aI c 9,aL c 10,aL c 19]))
 .nil))
 bA)
 bA)
 (.out (1,[aI p 1,aL p 2,aL p 3,aL p 4,aL p 5,aS p 6,aB p 7,aL p 8,aI p 9,aL p 10,aL p 11])))
 bA
def wK(p:LD):Sh:=
 .ask (aT (gI p 2) (iL (gL p 17)))
 (.ask (aA (gI p 2) (List.length (gL p 17)))
 (.ask (aA (D.toI (gD (gL p 17) (tI p 2))) (List.length (gL p 20)))
 (.ask (jN ((List.length (gL p 19))+1) 8)
 (.again [aI p 0,aI p 1,dK p 2,aL p 3,aL p 4,aL p 5,aL p 6,aS p 7,aB p 8,aL p 9,aI p 10,aL p 11,aI p 12,aI p 13,aI p 14,aI p 15,aI p 16,aL p 17,aL p 18,.l ((gL p 19)++[.i (D.toI (gD (gL p 20) (Int.toNat (D.toI (gD (gL p 17) (tI p 2))))))]),aL p 20])
 bA)
 bA)
 bA)
 (.out (0,[aI p 0,aI p 1,aL p 3,aL p 4,aL p 5,aL p 6,aS p 7,aB p 8,aL p 9,aI p 10,aL p 11,aI p 12,aI p 13,aI p 14,aI p 15,aI p 16,aL p 17,aL p 18,aL p 19,aL p 20]))
def uF(x:LD):Sh:=
 .ask ((!(aD (vI (gD x 2) 0) 20))&&(!(aD (vI (gD x 2) 0) 21)))
 (.ret (.b false) [])
 (.ask (aA (dB x 1) (nX (gD x 0) 5))
 (.ask (aA 0 (nX (gD x 2) 5))
 (.ask (aA (D.toI (gD (eX (gD x 2) 5) 0)) (nX (gD (eX (gD x 0) 5) (iO x 1)) 2))
 (.ask (!(aD (vI (gD (eX (gD (eX (gD x 0) 5) (iO x 1)) 2) (Int.toNat (D.toI (gD (eX (gD x 2) 5) 0)))) 0) 1))
 (.ret (.b false) [])
 (.ask (aA 0 (nX (gD x 2) 5))
 (.ask (aA (D.toI (gD (eX (gD x 2) 5) 0)) (nX (gD (eX (gD x 0) 5) (iO x 1)) 1))
 (.ask (aA 0 (nE (gD (eX (gD (eX (gD x 0) 5) (iO x 1)) 1) (Int.toNat (D.toI (gD (eX (gD x 2) 5) 0))))))
 (.ask (aD (vI (gE (gD (eX (gD (eX (gD x 0) 5) (iO x 1)) 1) (Int.toNat (D.toI (gD (eX (gD x 2) 5) 0)))) 0) 0) 3)
 (.ask (aA (vI (gE (gD (eX (gD (eX (gD x 0) 5) (iO x 1)) 1) (Int.toNat (D.toI (gD (eX (gD x 2) 5) 0)))) 0) 1) (nX (gD x 0) 1))
 (let z0:=vI (gD (eX (gD (eX (gD x 0) 5) (iO x 1)) 2) (Int.toNat (D.toI (gD (eX (gD x 2) 5) 0)))) 1;.ret (D.b ((cX 0 z0)&&(aT z0 (iX (gD (eX (gD x 0) 1) (Int.toNat (vI (gE (gD (eX (gD (eX (gD x 0) 5) (iO x 1)) 1) (Int.toNat (D.toI (gD (eX (gD x 2) 5) 0)))) 0) 1))) 1)))) [])
 bA)
 (.ask (aA (vI (gE (gD (eX (gD (eX (gD x 0) 5) (iO x 1)) 1) (Int.toNat (D.toI (gD (eX (gD x 2) 5) 0)))) 0) 1) (nX (gD (eX (gD x 0) 5) (iO x 1)) 3))
 (let z0:=vI (gD (eX (gD (eX (gD x 0) 5) (iO x 1)) 2) (Int.toNat (D.toI (gD (eX (gD x 2) 5) 0)))) 1;.ret (D.b ((cX 0 z0)&&(aT z0 (vI (gD (eX (gD (eX (gD x 0) 5) (iO x 1)) 3) (Int.toNat (vI (gE (gD (eX (gD (eX (gD x 0) 5) (iO x 1)) 1) (Int.toNat (D.toI (gD (eX (gD x 2) 5) 0)))) 0) 1))) 4)))) [])
 bA))
 bA)
 bA)
 bA))
 bA)
 bA)
 bA)
def Bb(x:LD):Sh:=
 .loop 0 [.i (dB x 1),.i 0,.s (D.toS (D.fld (gD x 0) 0)),.b (vB (gD x 0) 1),.l (eX (gD x 0) 2),.i (vI (gD x 0) 3),.l (eX (gD x 0) 4),.i 0,.i 0] (.cons (λc=>
 .ret (.l [aI c 0,aI c 1]) [])
 .nil)
def AN(p:LD)(c:D):Sh:=
 .ask (aD (vI (gE (gD (gL p 6) (Int.toNat (vI c 0))) (Int.toNat (vI c 1))) 0) 19)
 (.ask (aA 1 (nX (gE (gD (gL p 6) (Int.toNat (vI c 0))) (Int.toNat (vI c 1))) 5))
 (.call Aw [.l [aS p 2,aB p 3,aL p 4,aI p 5,aL p 6],.i (D.toI (gD (eX (gE (gD (gL p 6) (Int.toNat (vI c 0))) (Int.toNat (vI c 1))) 5) 1))] 0 λd _=>
 .ask (!(vB d 1))
 (.out (0,[.i 2,.i 0]))
 (.ask (aA 0 (nX (gE (gD (gL p 6) (Int.toNat (vI c 0))) (Int.toNat (vI c 1))) 5))
 (.again [.i (D.toI (gD (eX (gE (gD (gL p 6) (Int.toNat (vI c 0))) (Int.toNat (vI c 1))) 5) 0)),.i (bJ .i64 (gI p 1) (vI d 0)),aS p 2,aB p 3,aL p 4,aI p 5,aL p 6,aI p 7,aI p 8])
 bA))
 bA)
 (.out (0,[.i 2,.i 0]))
def kF(p:LD):Sh:=
 .call XX [.l [aS p 2,aB p 3,aL p 4,aI p 5,aL p 6],aI p 0] 0 λc _=>
 .ask (aT (vI c 0) 0)
 (.out (0,[.i 2,.i 0]))
 (.ask (aA (vI c 0) (List.length (gL p 6)))
 (.ask (aA (vI c 1) (nE (gD (gL p 6) (Int.toNat (vI c 0)))))
 (.ask (aD (vI (gE (gD (gL p 6) (Int.toNat (vI c 0))) (Int.toNat (vI c 1))) 0) 18)
 (.ask (aD (vI (gE (gD (gL p 6) (Int.toNat (vI c 0))) (Int.toNat (vI c 1))) 0) 18)
 (.out (0,[.i 1,aI p 1]))
 (AN p c))
 (.ask (aD (vI (gE (gD (gL p 6) (Int.toNat (vI c 0))) (Int.toNat (vI c 1))) 0) 3)
 (.out (0,[.i 1,aI p 1]))
 (AN p c)))
 bA)
 bA)
def TX(x:LD):Sh:=
 .call Hf [GN (gD x 0),.i 0,.i (-1)] 0 λc _=>
 .ret (.l (D.els c)) []
def Bc(x:LD):Sh:=
 .ask ((cX 0 (iX (gD x 0) 4))&&((aD (iX (gD x 0) 4) (iX (gD x 0) 4))&&(jN (Int.toNat (iX (gD x 0) 4)) 24)))
 (.call XY [GN (gD x 0)] 0 λd _=>
 .loop 0 [.i 0,.s (D.toS (D.fld (gD x 0) 0)),.b (vB (gD x 0) 1),.l (eX (gD x 0) 2),.i (vI (gD x 0) 3),.l (eX (gD x 0) 4),.l (List.replicate (nX (gD x 0) 4) (D.l [])),.l (D.els d)] (.cons (λc=>
 .ret (aL c 0) [])
 .nil))
 bA
def AO(p:LD):Sh:=
 .ask (aT (gI p 0) (iL (gL p 6)))
 (.ask ((cX 0 (iL (gL p 7)))&&((aD (iL (gL p 7)) (iL (gL p 7)))&&(jN (Int.toNat (iL (gL p 7))) 1)))
 (.ask (aA (gI p 0) (List.length (gL p 6)))
 (.ask (aA (gI p 0) (List.length (gL p 7)))
 (.ask (!(D.toB (gD (gL p 7) (tI p 0))))
 (.again [dK p 0,aS p 1,aB p 2,aL p 3,aI p 4,aL p 5,.l (List.set (gL p 6) (tI p 0) (D.l (List.replicate (List.length (gL p 7)) (D.b false)))),aL p 7])
 (.call Hf [.l [aS p 1,aB p 2,aL p 3,aI p 4,aL p 5],.i 0,aI p 0] 0 λd _=>
 .loop 2 [.i 0,aI p 0,aS p 1,aB p 2,aL p 3,aI p 4,aL p 5,.l (List.set (gL p 6) (tI p 0) (D.l (List.replicate (List.length (gL p 7)) (D.b false)))),aL p 7,.l (D.els d)] (.cons (λc=>
 .again [dK c 0,aS c 1,aB c 2,aL c 3,aI c 4,aL c 5,aL c 6,aL c 7])
 .nil)))
 bA)
 bA)
 bA)
 (.out (0,[aL p 6]))
def AP(p:LD):Sh:=
 .ask (aT (gI p 0) (iL (gL p 8)))
 (.ask (aA (gI p 1) (List.length (gL p 7)))
 (.ask (aA (gI p 0) (List.length (gL p 8)))
 (.ask ((!(((D.toB (gD (gL p 8) (tI p 0)))&&true)&&(!(aD (gI p 1) (gI p 0)))))||(aA (gI p 0) (List.length (gL p 9))))
 (.ask (aA (gI p 0) (nE (gD (gL p 7) (tI p 1))))
 (.again [dK p 0,aI p 1,aS p 2,aB p 3,aL p 4,aI p 5,aL p 6,.l (List.set (gL p 7) (tI p 1) (D.l (List.set (D.els (gD (gL p 7) (tI p 1))) (tI p 0) (D.b ((D.toB (gD (gL p 8) (tI p 0)))&&((aD (gI p 1) (gI p 0))||(!(D.toB (gD (gL p 9) (tI p 0)))))))))),aL p 8,aL p 9])
 bA)
 bA)
 bA)
 bA)
 (.out (0,[aI p 1,aS p 2,aB p 3,aL p 4,aI p 5,aL p 6,aL p 7,aL p 8]))
def Bd(x:LD):Sh:=
 .ask ((!(!((aT (iL (D.toS (gD x 0))) 1)||(aT 12 (iL (D.toS (gD x 0)))))))||(aA 0 (List.length (D.toS (gD x 0)))))
 (.ask ((!(!(((aT (iL (D.toS (gD x 0))) 1)||(aT 12 (iL (D.toS (gD x 0)))))||(aT (jD (D.toS (gD x 0)) 0) 97))))||(aA 0 (List.length (D.toS (gD x 0)))))
 (.ask ((((aT (iL (D.toS (gD x 0))) 1)||(aT 12 (iL (D.toS (gD x 0)))))||(aT (jD (D.toS (gD x 0)) 0) 97))||(aT 122 (jD (D.toS (gD x 0)) 0)))
 (.ret (.b false) [])
 (.loop 0 [.s (D.toS (gD x 0)),.i 0] (.cons (λc=>
 .ret (aB c 0) [])
 (.cons (λc=>
 .ret (.b true) [])
 .nil))))
 bA)
 bA
def AQ(p:LD):Sh:=
 .ask (aT (gI p 1) (iL (gS p 0)))
 (.ask (aA (gI p 1) (List.length (gS p 0)))
 (.ask ((((aT (jD (gS p 0) (gI p 1)) 97)||(aT 122 (jD (gS p 0) (gI p 1))))&&((aT (jD (gS p 0) (gI p 1)) 48)||(aT 57 (jD (gS p 0) (gI p 1)))))&&(!(aD (jD (gS p 0) (gI p 1)) 95)))
 (.out (0,[.b false]))
 (.again [aS p 0,dK p 1]))
 bA)
 (.out (1,[]))
def OB(x:LD):Sh:=
 .loop 0 [.i (iX (gD x 0) 0),.l (eX (gD x 0) 0),.i 0,.l (eX (gD x 0) 0),.l (eX (gD x 0) 1),.l (eX (gD x 0) 2),.l (eX (gD x 0) 3)] (.cons (λc=>
 .ret (aB c 0) [])
 (.cons (λc=>
 .loop 4 [.i (iL (gL c 3)),aL c 3,.i 0] (.cons (λd=>
 .ret (aB d 0) [])
 (.cons (λd=>
 .ret (.b true) [])
 .nil)))
 .nil))
def hJ(p:LD):Sh:=
 .ask (aT (gI p 2) (gI p 0))
 (.ask (aA (gI p 2) (List.length (gL p 1)))
 (.loop 2 [.l (eX (gD (gL p 1) (tI p 2)) 1),aI p 0,.i 0,aL p 1,.i (iX (gD (gL p 1) (tI p 2)) 1),aI p 2,aL p 3,aL p 4,aL p 5,aL p 6,.s (D.toS (D.fld (gD (gL p 1) (tI p 2)) 0)),.l (eX (gD (gL p 1) (tI p 2)) 1),.i (vI (gD (gL p 1) (tI p 2)) 2)] (.cons (λc=>
 .out (0,[aB c 1,aL c 4,aL c 5,aL c 6,aL c 7]))
 (.cons (λc=>
 .ask ((!(aD (gI c 9) 0))&&true)
 (.call DI [aI c 9] 0 λd _=>
 .ask ((!(aD (gI c 9) 0))&&(!(D.toB d)))
 (.out (0,[.b false,aL c 3,aL c 4,aL c 5,aL c 6]))
 (.again [aI c 0,aL c 1,dK c 2,aL c 3,aL c 4,aL c 5,aL c 6]))
 (.ask ((!(aD (gI c 9) 0))&&(!(D.toB (.i 0))))
 (.out (0,[.b false,aL c 3,aL c 4,aL c 5,aL c 6]))
 (.again [aI c 0,aL c 1,dK c 2,aL c 3,aL c 4,aL c 5,aL c 6])))
 .nil)))
 bA)
 (.out (1,[aL p 3,aL p 4,aL p 5,aL p 6]))
def nO(p:LD):Sh:=
 .ask (aT (gI p 2) (gI p 4))
 (.ask (aA (gI p 2) (List.length (gL p 0)))
 (.call DI [.i (D.toI (gD (gL p 0) (tI p 2)))] 0 λc _=>
 .ask (!(D.toB c))
 (.out (0,[aI p 1,.b false,aL p 3,aI p 5,aL p 6,aL p 7,aL p 8,aL p 9,aS p 10,aL p 11,aI p 12]))
 (.again [aL p 0,aI p 1,dK p 2,aL p 3,aI p 4,aI p 5,aL p 6,aL p 7,aL p 8,aL p 9,aS p 10,aL p 11,aI p 12]))
 bA)
 (.out (1,[aI p 1,aL p 3,aI p 5,aL p 6,aL p 7,aL p 8,aL p 9,aS p 10,aL p 11,aI p 12]))
def eA(p:LD):Sh:=
 .ask (aT (gI p 2) (gI p 0))
 (.ask (aA (gI p 2) (List.length (gL p 1)))
 (.ask ((!(aD (vI (gD (gL p 1) (tI p 2)) 3) 0))&&true)
 (.call DI [.i (vI (gD (gL p 1) (tI p 2)) 3)] 0 λf _=>
 .ask (((!(aD (vI (gD (gL p 1) (tI p 2)) 3) 0))&&(!(D.toB f)))&&((!(aD (vI (gD (gL p 1) (tI p 2)) 3) 4))||(vB (gD (gL p 1) (tI p 2)) 1)))
 (.out (0,[.b false]))
 (.loop 6 [.i 0,.l (eX (gD (gL p 1) (tI p 2)) 2),aI p 0,aL p 1,.i (iX (gD (gL p 1) (tI p 2)) 2),aI p 2,.s (D.toS (D.fld (gD (gL p 1) (tI p 2)) 0)),.b (vB (gD (gL p 1) (tI p 2)) 1),.l (eX (gD (gL p 1) (tI p 2)) 2),.i (vI (gD (gL p 1) (tI p 2)) 3),.l (eX (gD (gL p 1) (tI p 2)) 4)] (.cons (λc=>
 .out (0,[aB c 1]))
 (.cons (λc=>
 .loop 8 [aI c 0,.i (iL (gL c 7)),aL c 1,aL c 7,aI c 2,.i 0] (.cons (λe=>
 .out (0,[aB e 1]))
 (.cons (λe=>
 .again [aI e 0,aL e 1,dK e 2])
 .nil)))
 .nil))))
 (.ask (((!(aD (vI (gD (gL p 1) (tI p 2)) 3) 0))&&(!(D.toB (.i 0))))&&((!(aD (vI (gD (gL p 1) (tI p 2)) 3) 4))||(vB (gD (gL p 1) (tI p 2)) 1)))
 (.out (0,[.b false]))
 (.loop 6 [.i 0,.l (eX (gD (gL p 1) (tI p 2)) 2),aI p 0,aL p 1,.i (iX (gD (gL p 1) (tI p 2)) 2),aI p 2,.s (D.toS (D.fld (gD (gL p 1) (tI p 2)) 0)),.b (vB (gD (gL p 1) (tI p 2)) 1),.l (eX (gD (gL p 1) (tI p 2)) 2),.i (vI (gD (gL p 1) (tI p 2)) 3),.l (eX (gD (gL p 1) (tI p 2)) 4)] (.cons (λd=>
 .out (0,[aB d 1]))
 (.cons (λd=>
 .loop 8 [aI d 0,.i (iL (gL d 7)),aL d 1,aL d 7,aI d 2,.i 0] (.cons (λc=>
 .out (0,[aB c 1]))
 (.cons (λc=>
 .again [aI c 0,aL c 1,dK c 2])
 .nil)))
 .nil)))))
 bA)
 (.out (1,[]))
def hZ(p:LD):Sh:=
 .ask (aT (gI p 0) (gI p 4))
 (.ask (aA (gI p 0) (List.length (gL p 1)))
 (.ask ((!((aT (D.toI (gD (gL p 1) (tI p 0))) 1)||(aT 4 (D.toI (gD (gL p 1) (tI p 0))))))&&((gB p 7)&&true))
 (.call DI [.i (D.toI (gD (gL p 1) (tI p 0)))] 0 λc _=>
 .ask (((aT (D.toI (gD (gL p 1) (tI p 0))) 1)||(aT 4 (D.toI (gD (gL p 1) (tI p 0)))))||((gB p 7)&&(!(D.toB c))))
 (.out (0,[aI p 2,.b false,aL p 3,aI p 5,aS p 6,aB p 7,aL p 8,aI p 9,aL p 10]))
 (.again [dK p 0,aL p 1,aI p 2,aL p 3,aI p 4,aI p 5,aS p 6,aB p 7,aL p 8,aI p 9,aL p 10]))
 (.ask (((aT (D.toI (gD (gL p 1) (tI p 0))) 1)||(aT 4 (D.toI (gD (gL p 1) (tI p 0)))))||((gB p 7)&&(!(D.toB (.i 0)))))
 (.out (0,[aI p 2,.b false,aL p 3,aI p 5,aS p 6,aB p 7,aL p 8,aI p 9,aL p 10]))
 (.again [dK p 0,aL p 1,aI p 2,aL p 3,aI p 4,aI p 5,aS p 6,aB p 7,aL p 8,aI p 9,aL p 10])))
 bA)
 (.out (1,[aI p 2,aL p 3,aI p 5,aS p 6,aB p 7,aL p 8,aI p 9,aL p 10]))
def nP(p:LD):Sh:=
 .ask (aT (gI p 5) (gI p 1))
 (.ask (aA (gI p 5) (List.length (gL p 3)))
 (.loop 10 [.l (D.els (gD (gL p 3) (tI p 5))),.i 0,aI p 0,aI p 1,.i (iE (gD (gL p 3) (tI p 5))),aL p 2,aL p 3,aI p 4,aI p 5] (.cons (λc=>
 .out (0,[aI c 0,aB c 2,aL c 3,aI c 5]))
 (.cons (λc=>
 .again [aI c 0,aI c 1,aL c 2,aL c 3,aI c 4,dK c 5])
 .nil)))
 bA)
 (.out (1,[aI p 0,aL p 2,aI p 4]))
def mG(p:LD):Sh:=
 .ask (aT (gI p 1) (gI p 4))
 (.ask (aA (gI p 1) (List.length (gL p 0)))
 (.call Ay [.l [.i (vI (gD (gL p 0) (tI p 1)) 0),.i (vI (gD (gL p 0) (tI p 1)) 1),.i (vI (gD (gL p 0) (tI p 1)) 2),.i (vI (gD (gL p 0) (tI p 1)) 3),.i (vI (gD (gL p 0) (tI p 1)) 4),.l (eX (gD (gL p 0) (tI p 1)) 5),.l (eX (gD (gL p 0) (tI p 1)) 6)]] 0 λc _=>
 .ask (!(D.toB c))
 (.out (0,[aI p 2,aI p 3,.b false,aL p 5,aL p 6,aI p 7,aI p 8]))
 (.again [aL p 0,dK p 1,aI p 2,aI p 3,aI p 4,aL p 5,aL p 6,aI p 7,aI p 8]))
 bA)
 (.out (1,[aI p 2,aI p 3,aL p 5,aL p 6,aI p 7,aI p 8]))
def Be(x:LD):Sh:=
 .ask ((cX 0 (bJ .i64 (iX (gD x 0) 2) 1))&&((aD (bJ .i64 (iX (gD x 0) 2) 1) (bJ .i64 (iX (gD x 0) 2) 1))&&(jN (Int.toNat (bJ .i64 (iX (gD x 0) 2) 1)) 8)))
 (.loop 0 [.i (iX (gD x 0) 2),.i (iX (gD x 0) 4),.l (eX (gD x 0) 4),.i 0,.s (D.toS (D.fld (gD x 0) 0)),.b (vB (gD x 0) 1),.l (eX (gD x 0) 2),.i (vI (gD x 0) 3),.l (eX (gD x 0) 4),.l (List.replicate (Int.toNat (bJ .i64 (iX (gD x 0) 2) 1)) (D.i 0))] (.cons (λc=>
 .ret (aB c 1) [])
 (.cons (λc=>
 .ask ((cX 0 (iL (gL c 5)))&&((aD (iL (gL c 5)) (iL (gL c 5)))&&(jN (Int.toNat (iL (gL c 5))) 24)))
 (.call Kv [.l [aS c 1,aB c 2,aL c 3,aI c 4,aL c 5]] 0 λf _=>
 .loop 4 [aI c 0,.i 0,.i (iL (List.replicate (List.length (gL c 5)) (D.l []))),aS c 1,aB c 2,aL c 3,aI c 4,aL c 5,.l (List.replicate (List.length (gL c 5)) (D.l [])),aL c 6,.l (D.els f)] (.cons (λd=>
 .loop 8 [aI d 0,.i (iL (gL d 5)),.i 0,aL d 5,aS d 1,aB d 2,aL d 3,aI d 4,aL d 5,aL d 6,aL d 7] (.cons (λe=>
 .ret (aB e 0) [])
 (.cons (λe=>
 .ret (.b true) [])
 .nil)))
 .nil))
 bA)
 .nil)))
 bA
def mY(p:LD):Sh:=
 .ask (aT (gI p 3) (gI p 1))
 (.ask (aA (gI p 3) (List.length (gL p 2)))
 (.loop 2 [aI p 0,aI p 3,.i (iE (gD (gL p 2) (tI p 3))),aI p 1,.l (D.els (gD (gL p 2) (tI p 3))),aL p 2,.i 0,aI p 3,aS p 4,aB p 5,aL p 6,aI p 7,aL p 8,aL p 9] (.cons (λc=>
 .out (0,[aI c 0,aB c 2,aS c 5,aB c 6,aL c 7,aI c 8,aL c 9,aL c 10]))
 (.cons (λc=>
 .again [aI c 0,aI c 1,aL c 2,dK c 3,aS c 4,aB c 5,aL c 6,aI c 7,aL c 8,aL c 9])
 .nil)))
 bA)
 (.out (1,[aI p 0,aS p 4,aB p 5,aL p 6,aI p 7,aL p 8,aL p 9]))
def qU(p:LD):Sh:=
 .ask (aT (gI p 6) (gI p 2))
 (.ask (aA (gI p 6) (List.length (gL p 4)))
 (.ask (aD (vI (gD (gL p 4) (tI p 6)) 1) 0)
 (.again [aI p 0,aI p 1,aI p 2,aI p 3,aL p 4,aL p 5,dK p 6,aI p 7,aS p 8,aB p 9,aL p 10,aI p 11,aL p 12,aL p 13])
 (.ask (!(aD (vI (gD (gL p 4) (tI p 6)) 2) (bJ .i64 (gI p 0) 1)))
 (.out (0,[dK p 0,aI p 3,.b false,aL p 5,aI p 7,aS p 8,aB p 9,aL p 10,aI p 11,aL p 12,aL p 13]))
 (.ask (jN ((List.length (gL p 13))+1) 8)
 (.again [dK p 0,aI p 1,aI p 2,aI p 3,aL p 4,aL p 5,dK p 6,aI p 7,aS p 8,aB p 9,aL p 10,aI p 11,aL p 12,.l ((gL p 13)++[aI p 1])])
 bA)))
 bA)
 (.out (1,[aI p 0,aI p 3,aL p 5,aI p 7,aS p 8,aB p 9,aL p 10,aI p 11,aL p 12,aL p 13]))
def AR(p:LD):Sh:=
 .ask (aT (gI p 1) (gI p 2))
 (.ask ((cX 0 (iL (gL p 7)))&&((aD (iL (gL p 7)) (iL (gL p 7)))&&(jN (Int.toNat (iL (gL p 7))) 1)))
 (.ask (aA (gI p 1) (List.length (gL p 8)))
 (.loop 6 [aI p 0,aI p 1,aI p 1,aI p 2,aI p 1,aS p 3,aB p 4,aL p 5,aI p 6,aL p 7,.l (List.set (gL p 8) (tI p 1) (D.l (List.replicate (List.length (gL p 7)) (D.b false)))),aL p 9,aL p 10] (.cons (λc=>
 .again [aI c 0,dK c 1,aI c 2,aS c 3,aB c 4,aL c 5,aI c 6,aL c 7,aL c 8,aL c 9,aL c 10])
 .nil))
 bA)
 bA)
 (.out (0,[aI p 0,aS p 3,aB p 4,aL p 5,aI p 6,aL p 7,aL p 8,aL p 9]))
def AS(p:LD):Sh:=
 .ask (cX 0 (gI p 4))
 (.ask (aA (gI p 1) (List.length (gL p 10)))
 (.ask (aA (gI p 4) (nE (gD (gL p 10) (tI p 1))))
 (.ask (aA (gI p 4) (List.length (gL p 12)))
 (.again [aI p 0,aI p 1,aI p 2,aI p 3,.i (D.toI (gD (gL p 12) (tI p 4))),aS p 5,aB p 6,aL p 7,aI p 8,aL p 9,.l (List.set (gL p 10) (tI p 1) (D.l (List.set (D.els (gD (gL p 10) (tI p 1))) (tI p 4) (D.b true)))),aL p 11,aL p 12])
 bA)
 bA)
 bA)
 (.out (0,[aI p 0,aI p 2,aI p 3,aS p 5,aB p 6,aL p 7,aI p 8,aL p 9,aL p 10,aL p 11,aL p 12]))
def AT(p:LD):Sh:=
 .ask (aT (gI p 2) (gI p 1))
 (.ask (aA (gI p 2) (List.length (gL p 3)))
 (.ask (aT 0 (iE (gD (gL p 3) (tI p 2))))
 (.call Kw [.l [aS p 4,aB p 5,aL p 6,aI p 7,aL p 8],aI p 2] 0 λe _=>
 .loop 10 [aI p 0,.i (D.toI e),aI p 1,aI p 2,.i (iE (gD (gL p 3) (tI p 2))),.l (D.els (gD (gL p 3) (tI p 2))),aI p 2,aL p 3,.i 0,aS p 4,aB p 5,aL p 6,aI p 7,aL p 8,aL p 9,aL p 10] (.cons (λd=>
 .out (0,[aB d 2]))
 (.cons (λd=>
 .again [aI d 0,aI d 1,dK d 2,aL d 3,aS d 4,aB d 5,aL d 6,aI d 7,aL d 8,aL d 9,aL d 10])
 .nil)))
 (.loop 10 [aI p 0,.i (iL (gL p 6)),aI p 1,aI p 2,.i (iE (gD (gL p 3) (tI p 2))),.l (D.els (gD (gL p 3) (tI p 2))),aI p 2,aL p 3,.i 0,aS p 4,aB p 5,aL p 6,aI p 7,aL p 8,aL p 9,aL p 10] (.cons (λc=>
 .out (0,[aB c 2]))
 (.cons (λc=>
 .again [aI c 0,aI c 1,dK c 2,aL c 3,aS c 4,aB c 5,aL c 6,aI c 7,aL c 8,aL c 9,aL c 10])
 .nil))))
 bA)
 (.out (1,[]))
def wL(p:LD):Sh:=
 .ask (aT (gI p 8) (gI p 4))
 (.ask (aA (gI p 8) (List.length (gL p 5)))
 (.loop 12 [aI p 0,aI p 1,.l (eX (gD (gL p 5) (tI p 8)) 5),aI p 2,aI p 3,.i 0,aI p 4,.i (iX (gD (gL p 5) (tI p 8)) 5),aL p 5,aI p 6,aL p 7,aI p 8,aS p 9,aB p 10,aL p 11,aI p 12,aL p 13,.i (vI (gD (gL p 5) (tI p 8)) 0),.i (vI (gD (gL p 5) (tI p 8)) 1),.i (vI (gD (gL p 5) (tI p 8)) 2),.i (vI (gD (gL p 5) (tI p 8)) 3),.i (vI (gD (gL p 5) (tI p 8)) 4),.l (eX (gD (gL p 5) (tI p 8)) 5),.l (eX (gD (gL p 5) (tI p 8)) 6),aL p 14,aL p 15] (.cons (λc=>
 .out (0,[aI c 0,aI c 2,aB c 5,aI c 7,aL c 8,aS c 10,aB c 11,aL c 12,aI c 13,aL c 14,aL c 22,aL c 23]))
 (.cons (λc=>
 .ask (!(aD (gI c 15) 0))
 (.again [aI c 0,aI c 16,aI c 2,aI c 3,aI c 4,aL c 5,aI c 6,aL c 7,dK c 8,aS c 9,aB c 10,aL c 11,aI c 12,aL c 13,aL c 21,aL c 22])
 (.again [aI c 0,aI c 1,aI c 2,aI c 3,aI c 4,aL c 5,aI c 6,aL c 7,dK c 8,aS c 9,aB c 10,aL c 11,aI c 12,aL c 13,aL c 21,aL c 22]))
 .nil)))
 bA)
 (.out (1,[aI p 0,aI p 2,aI p 6,aL p 7,aS p 9,aB p 10,aL p 11,aI p 12,aL p 13,aL p 14,aL p 15]))
def wM(p:LD):Sh:=
 .ask (aT (gI p 5) (gI p 7))
 (.ask (aA (gI p 5) (List.length (gL p 2)))
 (.ask ((aT (D.toI (gD (gL p 2) (tI p 5))) 1)||(aT (gI p 0) (D.toI (gD (gL p 2) (tI p 5)))))
 (.out (0,[aI p 0,aI p 1,aI p 3,aI p 4,aI p 6,.b false,aL p 8,aI p 9,aL p 10,aI p 11,aS p 12,aB p 13,aL p 14,aI p 15,aL p 16,aI p 17,aI p 18,aI p 19,aI p 20,aI p 21,aL p 22,aL p 23,aL p 24,aL p 25]))
 (.ask (cX (D.toI (gD (gL p 2) (tI p 5))) (iL (gL p 14)))
 (.again [aI p 0,aI p 1,aL p 2,aI p 3,aI p 4,dK p 5,aI p 6,aI p 7,aL p 8,aI p 9,aL p 10,aI p 11,aS p 12,aB p 13,aL p 14,aI p 15,aL p 16,aI p 17,aI p 18,aI p 19,aI p 20,aI p 21,aL p 22,aL p 23,aL p 24,aL p 25])
 (.ask (aA (D.toI (gD (gL p 2) (tI p 5))) (List.length (gL p 25)))
 (.ask ((!((!(aD (D.toI (gD (gL p 25) (Int.toNat (D.toI (gD (gL p 2) (tI p 5)))))) (gI p 4)))&&true))||(aA (gI p 4) (List.length (gL p 24))))
 (.ask ((!((!(aD (D.toI (gD (gL p 25) (Int.toNat (D.toI (gD (gL p 2) (tI p 5)))))) (gI p 4)))&&true))||(aA (D.toI (gD (gL p 2) (tI p 5))) (List.length (gL p 25))))
 (.ask ((!((!(aD (D.toI (gD (gL p 25) (Int.toNat (D.toI (gD (gL p 2) (tI p 5)))))) (gI p 4)))&&true))||(aA (D.toI (gD (gL p 25) (Int.toNat (D.toI (gD (gL p 2) (tI p 5)))))) (nE (gD (gL p 24) (tI p 4)))))
 (.ask ((!(!((!(aD (D.toI (gD (gL p 25) (Int.toNat (D.toI (gD (gL p 2) (tI p 5)))))) (gI p 4)))&&(D.toB (gE (gD (gL p 24) (tI p 4)) (Int.toNat (D.toI (gD (gL p 25) (Int.toNat (D.toI (gD (gL p 2) (tI p 5))))))))))))||(aA (D.toI (gD (gL p 2) (tI p 5))) (List.length (gL p 25))))
 (.ask (aD (gI p 17) 26)
 (.ask (aA (gI p 5) (List.length (gL p 23)))
 (.ask (aA (D.toI (gD (gL p 23) (tI p 5))) (List.length (gL p 24)))
 (.ask (aA (D.toI (gD (gL p 2) (tI p 5))) (List.length (gL p 25)))
 (.ask (aA (D.toI (gD (gL p 25) (Int.toNat (D.toI (gD (gL p 2) (tI p 5)))))) (nE (gD (gL p 24) (Int.toNat (D.toI (gD (gL p 23) (tI p 5)))))))
 (.ask (!(D.toB (gE (gD (gL p 24) (Int.toNat (D.toI (gD (gL p 23) (tI p 5))))) (Int.toNat (D.toI (gD (gL p 25) (Int.toNat (D.toI (gD (gL p 2) (tI p 5))))))))))
 (.out (0,[aI p 0,aI p 1,aI p 3,aI p 4,aI p 6,.b false,aL p 8,aI p 9,aL p 10,aI p 11,aS p 12,aB p 13,aL p 14,aI p 15,aL p 16,aI p 17,aI p 18,aI p 19,aI p 20,aI p 21,aL p 22,aL p 23,aL p 24,aL p 25]))
 (.again [aI p 0,aI p 1,aL p 2,aI p 3,aI p 4,dK p 5,aI p 6,aI p 7,aL p 8,aI p 9,aL p 10,aI p 11,aS p 12,aB p 13,aL p 14,aI p 15,aL p 16,aI p 17,aI p 18,aI p 19,aI p 20,aI p 21,aL p 22,aL p 23,aL p 24,aL p 25]))
 bA)
 bA)
 bA)
 bA)
 (.ask (!(((!(aD (D.toI (gD (gL p 25) (Int.toNat (D.toI (gD (gL p 2) (tI p 5)))))) (gI p 4)))&&(D.toB (gE (gD (gL p 24) (tI p 4)) (Int.toNat (D.toI (gD (gL p 25) (Int.toNat (D.toI (gD (gL p 2) (tI p 5))))))))))||((aD (D.toI (gD (gL p 25) (Int.toNat (D.toI (gD (gL p 2) (tI p 5)))))) (gI p 4))&&(cX (D.toI (gD (gL p 2) (tI p 5))) (gI p 1)))))
 (.out (0,[aI p 0,aI p 1,aI p 3,aI p 4,aI p 6,.b false,aL p 8,aI p 9,aL p 10,aI p 11,aS p 12,aB p 13,aL p 14,aI p 15,aL p 16,aI p 17,aI p 18,aI p 19,aI p 20,aI p 21,aL p 22,aL p 23,aL p 24,aL p 25]))
 (.again [aI p 0,aI p 1,aL p 2,aI p 3,aI p 4,dK p 5,aI p 6,aI p 7,aL p 8,aI p 9,aL p 10,aI p 11,aS p 12,aB p 13,aL p 14,aI p 15,aL p 16,aI p 17,aI p 18,aI p 19,aI p 20,aI p 21,aL p 22,aL p 23,aL p 24,aL p 25])))
 bA)
 bA)
 bA)
 bA)
 bA)))
 bA)
 (.out (1,[aI p 0,aI p 1,aI p 3,aI p 4,aI p 6,aL p 8,aI p 9,aL p 10,aI p 11,aS p 12,aB p 13,aL p 14,aI p 15,aL p 16,aI p 17,aI p 18,aI p 19,aI p 20,aI p 21,aL p 22,aL p 23,aL p 24,aL p 25]))
def wN(x:LD):Sh:=
 .ask ((cX 0 (iX (gD x 0) 0))&&((aD (iX (gD x 0) 0) (iX (gD x 0) 0))&&(jN (Int.toNat (iX (gD x 0) 0)) 16)))
 (.loop 0 [.i 0,.i (iX (gD x 0) 0),.l (eX (gD x 0) 0),.l (eX (gD x 0) 1),.l (List.replicate (nX (gD x 0) 0) (D.l [.i 0,.i 0])),.l (eX (gD x 0) 3)] (.cons (λc=>
 .ret (.l []) [.l [aL c 0,aL c 1,aL c 2,aL c 3]])
 .nil))
 bA
def lC(p:LD):Sh:=
 .ask (aT (gI p 0) (gI p 1))
 (.call wC [.l [aL p 2,aL p 3,aL p 4,aL p 5],aI p 0] 1 λd c=>
 .again [dK p 0,aI p 1,.l (eX (gD c 0) 0),.l (eX (gD c 0) 1),.l (eX (gD c 0) 2),.l (eX (gD c 0) 3)])
 (.out (0,[aL p 2,aL p 3,aL p 4,aL p 5]))
def Zo(x:LD):Sh:=
 .ret (.b ((aD (D.toI (gD x 0)) 1)||(aD (D.toI (gD x 0)) 2))) []
def kU(x:LD):Sh:=
 .call oI [.l (D.els (gD x 0)),.b (D.toB (gD x 1))] 0 λc _=>
 .ret (.b (cX 0 (D.toI c))) []
def TY(x:LD):Sh:=
 .call Kx [GN (gD x 0)] 0 λc _=>
 .call NY [.l (D.els c)] 0 λd _=>
 .ret (.l (D.els d)) []
def iA(x:LD):Sh:=
 .ask (aT (iE (gD x 0)) 2)
 (.ret (.l (D.els (gD x 0))) [])
 (.loop 0 [.i 1,.l (D.els (gD x 0))] (.cons (λc=>
 .ret (aL c 0) [])
 (.cons (λc=>
 .ret (aL c 0) [])
 .nil)))
def cH(p:LD):Sh:=
 .ask (aT (gI p 0) (iL (gL p 1)))
 (.ask (aA (gI p 0) (List.length (gL p 1)))
 (.ask (aA (bD .i64 ((gI p 0)-1)) (List.length (gL p 1)))
 (.ask ((aD (vI (gD (gL p 1) (tI p 0)) 0) (vI (gD (gL p 1) (Int.toNat (bD .i64 ((gI p 0)-1)))) 0))&&((aD (vI (gD (gL p 1) (tI p 0)) 1) (vI (gD (gL p 1) (Int.toNat (bD .i64 ((gI p 0)-1)))) 1))&&true))
 (.ask ((cX 0 (gI p 0))&&(cX (gI p 0) (iL (gL p 1))))
 (.loop 2 [aI p 0,.i 1,.i (Int.ofNat ((List.length (gL p 1))-(tI p 0))),.i (Int.ofNat (tI p 0)),aL p 1] (.cons (λc=>
 .ask ((cX 0 (gI c 0))&&(cX (gI c 0) (iL (gL c 1))))
 (.ask (kT 0 (gI c 0) (iL ((List.take (tI c 0) (gL c 1))++(List.replicate ((List.length (gL c 1))-(tI c 0)) (D.l [.i 0,.i 0])))))
 (.out (0,[.l (List.drop 0 (List.take (tI c 0) ((List.take (tI c 0) (gL c 1))++(List.replicate ((List.length (gL c 1))-(tI c 0)) (D.l [.i 0,.i 0])))))]))
 bA)
 bA)
 .nil))
 bA)
 (.again [dK p 0,aL p 1]))
 bA)
 bA)
 (.out (1,[aL p 1]))
def dT(p:LD):Sh:=
 .ask (aT (gI p 1) (Int.ofNat (gN p 2)))
 (.ask (aA (gI p 1) (gN p 2))
 (.ask (aA (bD .i64 ((gI p 1)-1)) (gN p 2))
 (.ask (!((aD (vI (gD (gL p 4) ((gN p 3)+(tI p 1))) 0) (vI (gD (gL p 4) ((gN p 3)+(Int.toNat (bD .i64 ((gI p 1)-1))))) 0))&&((aD (vI (gD (gL p 4) ((gN p 3)+(tI p 1))) 1) (vI (gD (gL p 4) ((gN p 3)+(Int.toNat (bD .i64 ((gI p 1)-1))))) 1))&&true)))
 (.ask (aA (gI p 1) (gN p 2))
 (.ask (aA (gI p 0) (List.length (gL p 4)))
 (.again (let z0:=List.set (gL p 4) (tI p 0) (D.l (cP (D.els (gD (gL p 4) (tI p 0))) 0 (D.i (vI (gD (gL p 4) ((gN p 3)+(tI p 1))) 0))));[dK p 0,dK p 1,aN p 2,aN p 3,.l (List.set z0 (tI p 0) (D.l (cP (D.els (gD z0 (tI p 0))) 1 (D.i (vI (gD (gL p 4) ((gN p 3)+(tI p 1))) 1)))))]))
 bA)
 bA)
 (.again [aI p 0,dK p 1,aN p 2,aN p 3,aL p 4]))
 bA)
 bA)
 (.out (0,[aI p 0,aL p 4]))
def HF(x:LD):Sh:=
 .ask ((cX 0 (iX (gD x 0) 4))&&((aD (iX (gD x 0) 4) (iX (gD x 0) 4))&&(jN (Int.toNat (iX (gD x 0) 4)) 8)))
 (.ask (aT 0 (iX (gD x 0) 4))
 (.call kQ [.l [.s (D.toS (D.fld (gD x 0) 0)),.b (vB (gD x 0) 1),.l (eX (gD x 0) 2),.i (vI (gD x 0) 3),.l (eX (gD x 0) 4),.l (List.replicate (nX (gD x 0) 4) (D.i 0)),.l [],.b false],.i 0] 1 λd c=>
 .ret (.l [.l [.s (D.toS (D.fld (gD c 0) 0)),.b (vB (gD c 0) 1),.l (eX (gD c 0) 2),.i (vI (gD c 0) 3),.l (eX (gD c 0) 4),.l (eX (gD c 0) 5),.l (eX (gD c 0) 6),.b (vB (gD c 0) 7)]]) [])
 (.ret (.l [.l [.s (D.toS (D.fld (gD x 0) 0)),.b (vB (gD x 0) 1),.l (eX (gD x 0) 2),.i (vI (gD x 0) 3),.l (eX (gD x 0) 4),.l (List.replicate (nX (gD x 0) 4) (D.i 0)),.l [],.b false]]) []))
 bA
def Ky(x:LD):Sh:=
 .loop 0 [.l (D.els (gD x 0)),.i 0,.l (D.els (gD x 1)),.i (dB x 2),.i (iE (gD x 1))] (.cons (λc=>
 .ret (aB c 0) [])
 (.cons (λc=>
 .ret (.b true) [])
 .nil))
def EQ(p:LD):Sh:=
 .ask (aT (gI p 1) (gI p 4))
 (.ask (aA (gI p 1) (List.length (gL p 2)))
 (.ask (aA (D.toI (gD (gL p 2) (tI p 1))) (List.length (gL p 0)))
 (.ask (!(aD (D.toI (gD (gL p 0) (Int.toNat (D.toI (gD (gL p 2) (tI p 1)))))) (gI p 3)))
 (.out (0,[.b false]))
 (.again [aL p 0,dK p 1,aL p 2,aI p 3,aI p 4]))
 bA)
 bA)
 (.out (1,[]))
def mH(x:LD):Sh:=
 .call qF [.l (D.els (gD x 0)),.i (dB x 1)] 0 λc _=>
 .ret (.b (cX 0 (D.toI c))) []
def LW(c:D)(d:D)(e:D):Sh:=
 .ask ((!((((D.toB e)&&(!(D.toB (.i 0))))&&(aD (iE c) 5))&&true))||(aA 3 (nE c)))
 (.ask ((!((((((D.toB e)&&(!(D.toB (.i 0))))&&(aD (iE c) 5))&&((aD (vI (gE c 3) 0) 1)&&((aD (vI (gE c 3) 1) 1)&&true)))&&(aD (iE d) 5))&&true))||(aA 3 (nE d)))
 (.ask ((!(((((((D.toB e)&&(!(D.toB (.i 0))))&&(aD (iE c) 5))&&((aD (vI (gE c 3) 0) 1)&&((aD (vI (gE c 3) 1) 1)&&true)))&&(aD (iE d) 5))&&(aD (iE (gE d 3)) 1))&&true))||(aA 3 (nE d)))
 (.ask ((!(((((((D.toB e)&&(!(D.toB (.i 0))))&&(aD (iE c) 5))&&((aD (vI (gE c 3) 0) 1)&&((aD (vI (gE c 3) 1) 1)&&true)))&&(aD (iE d) 5))&&(aD (iE (gE d 3)) 1))&&true))||(aA 0 (nE (gE d 3))))
 (.ret (.b (((((((D.toB e)&&(!(D.toB (.i 0))))&&(aD (iE c) 5))&&((aD (vI (gE c 3) 0) 1)&&((aD (vI (gE c 3) 1) 1)&&true)))&&(aD (iE d) 5))&&(aD (iE (gE d 3)) 1))&&((aD (vI (gE (gE d 3) 0) 0) 2)&&((aD (vI (gE (gE d 3) 0) 1) 1)&&true)))) [])
 bA)
 bA)
 bA)
 bA
def Nx(x:LD):Sh:=
 .call AM [.i 1] 0 λh _=>
 .call NU [.l [.l (eX h 0),.l (eX h 1),.l (eX h 2),.l (eX h 3)],.i 0] 0 λc _=>
 .call AM [.i 1] 0 λj _=>
 .call XW [.l [.l (eX j 0),.l (eX j 1),.l (eX j 2),.l (eX j 3)],.i 0] 0 λd _=>
 .call AM [.i 1] 0 λl _=>
 .call bR [.l [.l (eX l 0),.l (eX l 1),.l (eX l 2),.l (eX l 3)],.i 0,.i 0,.i 3] 0 λe _=>
 .ask ((D.toB e)&&true)
 (.call AM [.i 2] 0 λf _=>
 .ask ((D.toB e)&&true)
 (.call bR [.l [.l (eX f 0),.l (eX f 1),.l (eX f 2),.l (eX f 3)],.i 0,.i 0,.i 3] 0 λg _=>
 .ask ((!((((D.toB e)&&(!(D.toB g)))&&(aD (iE c) 5))&&true))||(aA 3 (nE c)))
 (.ask ((!((((((D.toB e)&&(!(D.toB g)))&&(aD (iE c) 5))&&((aD (vI (gE c 3) 0) 1)&&((aD (vI (gE c 3) 1) 1)&&true)))&&(aD (iE d) 5))&&true))||(aA 3 (nE d)))
 (.ask ((!(((((((D.toB e)&&(!(D.toB g)))&&(aD (iE c) 5))&&((aD (vI (gE c 3) 0) 1)&&((aD (vI (gE c 3) 1) 1)&&true)))&&(aD (iE d) 5))&&(aD (iE (gE d 3)) 1))&&true))||(aA 3 (nE d)))
 (.ask ((!(((((((D.toB e)&&(!(D.toB g)))&&(aD (iE c) 5))&&((aD (vI (gE c 3) 0) 1)&&((aD (vI (gE c 3) 1) 1)&&true)))&&(aD (iE d) 5))&&(aD (iE (gE d 3)) 1))&&true))||(aA 0 (nE (gE d 3))))
 (.ret (.b (((((((D.toB e)&&(!(D.toB g)))&&(aD (iE c) 5))&&((aD (vI (gE c 3) 0) 1)&&((aD (vI (gE c 3) 1) 1)&&true)))&&(aD (iE d) 5))&&(aD (iE (gE d 3)) 1))&&((aD (vI (gE (gE d 3) 0) 0) 2)&&((aD (vI (gE (gE d 3) 0) 1) 1)&&true)))) [])
 bA)
 bA)
 bA)
 bA)
 (LW c d e))
 (.ask ((D.toB e)&&true)
 (.call bR [.l [.l (eX (.i 0) 0),.l (eX (.i 0) 1),.l (eX (.i 0) 2),.l (eX (.i 0) 3)],.i 0,.i 0,.i 3] 0 λf _=>
 .ask ((!((((D.toB e)&&(!(D.toB f)))&&(aD (iE c) 5))&&true))||(aA 3 (nE c)))
 (.ask ((!((((((D.toB e)&&(!(D.toB f)))&&(aD (iE c) 5))&&((aD (vI (gE c 3) 0) 1)&&((aD (vI (gE c 3) 1) 1)&&true)))&&(aD (iE d) 5))&&true))||(aA 3 (nE d)))
 (.ask ((!(((((((D.toB e)&&(!(D.toB f)))&&(aD (iE c) 5))&&((aD (vI (gE c 3) 0) 1)&&((aD (vI (gE c 3) 1) 1)&&true)))&&(aD (iE d) 5))&&(aD (iE (gE d 3)) 1))&&true))||(aA 3 (nE d)))
 (.ask ((!(((((((D.toB e)&&(!(D.toB f)))&&(aD (iE c) 5))&&((aD (vI (gE c 3) 0) 1)&&((aD (vI (gE c 3) 1) 1)&&true)))&&(aD (iE d) 5))&&(aD (iE (gE d 3)) 1))&&true))||(aA 0 (nE (gE d 3))))
 (.ret (.b (((((((D.toB e)&&(!(D.toB f)))&&(aD (iE c) 5))&&((aD (vI (gE c 3) 0) 1)&&((aD (vI (gE c 3) 1) 1)&&true)))&&(aD (iE d) 5))&&(aD (iE (gE d 3)) 1))&&((aD (vI (gE (gE d 3) 0) 0) 2)&&((aD (vI (gE (gE d 3) 0) 1) 1)&&true)))) [])
 bA)
 bA)
 bA)
 bA)
 (LW c d e))
def N6(x:LD):Sh:=
 .call EN [pQ x,.i (dB x 1)] 0 λc _=>
 .ask (Ga (D.els c))
 (.ask true
 (.ret (.l []) [])
 bA)
 (.ask false
 (.ret (.l []) [])
 (.ask (aA (dB x 1) (nX (RF (D.els c)) 5))
 (.ret (.l (eX (gD (eX (RF (D.els c)) 5) (iO x 1)) 2)) [])
 bA))
def TZ(x:LD):Sh:=
 .call NV [GN (gD x 0)] 0 λc _=>
 .ask ((cX 0 (iE c))&&((aD (iE c) (iE c))&&(jN (Int.toNat (iE c)) 16)))
 (.loop 0 [.i 1,.s (D.toS (D.fld (gD x 0) 0)),.b (vB (gD x 0) 1),.l (eX (gD x 0) 2),.i (vI (gD x 0) 3),.l (eX (gD x 0) 4),.l (List.replicate (nE c) (D.l [.i 0,.i 0])),.l (D.els c)] (.cons (λd=>
 .ret (aL d 0) [])
 .nil))
 bA
def wO(p:LD):Sh:=
 .ask (aT (gI p 0) (iL (gL p 7)))
 (.ask (aA (gI p 0) (List.length (gL p 7)))
 (.ask (aD (D.toI (gD (gL p 7) (tI p 0))) 3)
 (.call Um [.l [aS p 1,aB p 2,aL p 3,aI p 4,aL p 5],aI p 0] 0 λc _=>
 .ask (aA (gI p 0) (List.length (gL p 6)))
 (.again (let z0:=List.set (gL p 6) (tI p 0) (D.l (cP (D.els (gD (gL p 6) (tI p 0))) 0 (D.i (vI c 0))));[dK p 0,aS p 1,aB p 2,aL p 3,aI p 4,aL p 5,.l (List.set z0 (tI p 0) (D.l (cP (D.els (gD z0 (tI p 0))) 1 (D.i (vI c 1))))),aL p 7]))
 bA)
 (.again [dK p 0,aS p 1,aB p 2,aL p 3,aI p 4,aL p 5,aL p 6,aL p 7]))
 bA)
 (.out (0,[aL p 6]))
def Uv(x:LD):Sh:=
 .ask (!(aD (iE (gD x 0)) (iE (gD x 1))))
 (.ret (.b false) [])
 (.loop 0 [.l (D.els (gD x 0)),.l (D.els (gD x 1)),.i 0] (.cons (λc=>
 .ret (aB c 0) [])
 (.cons (λc=>
 .ret (.b true) [])
 .nil)))
def Kz(p:LD):Sh:=
 .ask (aT (gI p 2) (iL (gL p 0)))
 (.ask (aA (gI p 2) (List.length (gL p 0)))
 (.ask (aA (gI p 2) (List.length (gL p 1)))
 (.ask (!(bif D.toB (gD (gL p 0) (tI p 2))then D.toB (gD (gL p 1) (tI p 2))else !(D.toB (gD (gL p 1) (tI p 2)))))
 (.out (0,[.b false]))
 (.again [aL p 0,aL p 1,dK p 2]))
 bA)
 bA)
 (.out (1,[]))
def Bf(x:LD):Sh:=
 .loop 0 [.i 0,.i 0,.s (D.toS (D.fld (gD x 0) 0)),.b (vB (gD x 0) 1),.l (eX (gD x 0) 2),.i (vI (gD x 0) 3),.l (eX (gD x 0) 4)] (.cons (λc=>
 .ret (aI c 0) [])
 .nil)
def AU(p:LD):Sh:=
 .ask (aT (gI p 1) (iL (gL p 6)))
 (.ask (aA (gI p 1) (List.length (gL p 6)))
 (.again [.i (bJ .i64 (gI p 0) (iE (gD (gL p 6) (tI p 1)))),dK p 1,aS p 2,aB p 3,aL p 4,aI p 5,aL p 6])
 bA)
 (.out (0,[aI p 0]))
def Bg(x:LD):Sh:=
 .loop 0 [.i 0,.l (eX (gD x 0) 0),.l (eX (gD x 0) 1),.l (eX (gD x 0) 2),.l (eX (gD x 0) 3)] (.cons (λc=>
 .ret (aB c 0) [])
 (.cons (λc=>
 .loop 4 [.i 0,aL c 0,aL c 1,aL c 2,aL c 3] (.cons (λd=>
 .ret (aB d 0) [])
 (.cons (λd=>
 .ret (.b true) [])
 .nil)))
 .nil))
def AV(p:LD):Sh:=
 .ask (aT (gI p 0) (iL (gL p 3)))
 (.loop 2 [aI p 0,.i 0,aL p 1,aL p 2,aL p 3,aL p 4] (.cons (λc=>
 .out (0,[aB c 1,aL c 2,aL c 3,aL c 4,aL c 5]))
 (.cons (λc=>
 .again [dK c 0,aL c 1,aL c 2,aL c 3,aL c 4])
 .nil)))
 (.out (1,[aL p 1,aL p 2,aL p 3,aL p 4]))
def AW(p:LD):Sh:=
 .ask (aA (gI p 0) (List.length (gL p 4)))
 (.ask (aT (gI p 1) (iX (gD (gL p 4) (tI p 0)) 1))
 (.ask (aA (gI p 0) (List.length (gL p 4)))
 (.ask (aA (gI p 1) (nX (gD (gL p 4) (tI p 0)) 1))
 (.ask ((aT (D.toI (gD (eX (gD (gL p 4) (tI p 0)) 1) (tI p 1))) (-1))||(cX (iL (gL p 5)) (D.toI (gD (eX (gD (gL p 4) (tI p 0)) 1) (tI p 1)))))
 (.out (0,[aI p 0,.b false,aL p 2,aL p 3,aL p 4,aL p 5]))
 (.again [aI p 0,dK p 1,aL p 2,aL p 3,aL p 4,aL p 5]))
 bA)
 bA)
 (.out (1,[aI p 0,aL p 2,aL p 3,aL p 4,aL p 5])))
 bA
def AX(p:LD):Sh:=
 .ask (aT (gI p 0) (iL (gL p 4)))
 (.loop 6 [.i 0,aI p 0,aL p 1,aL p 2,aL p 3,aL p 4] (.cons (λc=>
 .out (0,[aB c 0]))
 (.cons (λc=>
 .again [dK c 0,aL c 1,aL c 2,aL c 3,aL c 4])
 .nil)))
 (.out (1,[]))
def AY(p:LD):Sh:=
 .ask (aA (gI p 1) (List.length (gL p 5)))
 (.ask (aT (gI p 0) (iX (gD (gL p 5) (tI p 1)) 4))
 (.loop 8 [aI p 0,.i 0,aI p 1,aL p 2,aL p 3,aL p 4,aL p 5] (.cons (λc=>
 .out (0,[aB c 1,aI c 2,aL c 3,aL c 4,aL c 5,aL c 6]))
 (.cons (λc=>
 .again [dK c 0,aI c 1,aL c 2,aL c 3,aL c 4,aL c 5])
 .nil)))
 (.out (1,[aI p 1,aL p 2,aL p 3,aL p 4,aL p 5])))
 bA
def GO(p:LD):Sh:=
 .ask (aD (vI (gE (gD (eX (gD (gL p 6) (tI p 2)) 4) (tI p 0)) (tI p 1)) 0) 3)
 (.ask ((aT (vI (gE (gD (eX (gD (gL p 6) (tI p 2)) 4) (tI p 0)) (tI p 1)) 3) 0)||(cX (iL (gL p 4)) (vI (gE (gD (eX (gD (gL p 6) (tI p 2)) 4) (tI p 0)) (tI p 1)) 3)))
 (.out (0,[aI p 0,.b false,aI p 2,aL p 3,aL p 4,aL p 5,aL p 6]))
 (.again [aI p 0,dK p 1,aI p 2,aL p 3,aL p 4,aL p 5,aL p 6]))
 (.ask (aD (vI (gE (gD (eX (gD (gL p 6) (tI p 2)) 4) (tI p 0)) (tI p 1)) 0) 23)
 (.ask ((aT (vI (gE (gD (eX (gD (gL p 6) (tI p 2)) 4) (tI p 0)) (tI p 1)) 3) 0)||(cX (iL (gL p 3)) (vI (gE (gD (eX (gD (gL p 6) (tI p 2)) 4) (tI p 0)) (tI p 1)) 3)))
 (.out (0,[aI p 0,.b false,aI p 2,aL p 3,aL p 4,aL p 5,aL p 6]))
 (.again [aI p 0,dK p 1,aI p 2,aL p 3,aL p 4,aL p 5,aL p 6]))
 (.ask (aD (vI (gE (gD (eX (gD (gL p 6) (tI p 2)) 4) (tI p 0)) (tI p 1)) 0) 24)
 (.ask ((aT (vI (gE (gD (eX (gD (gL p 6) (tI p 2)) 4) (tI p 0)) (tI p 1)) 3) 0)||(cX (iL (gL p 5)) (vI (gE (gD (eX (gD (gL p 6) (tI p 2)) 4) (tI p 0)) (tI p 1)) 3)))
 (.out (0,[aI p 0,.b false,aI p 2,aL p 3,aL p 4,aL p 5,aL p 6]))
 (.again [aI p 0,dK p 1,aI p 2,aL p 3,aL p 4,aL p 5,aL p 6]))
 (.ask ((aT (vI (gE (gD (eX (gD (gL p 6) (tI p 2)) 4) (tI p 0)) (tI p 1)) 3) 0)||(cX 1 (vI (gE (gD (eX (gD (gL p 6) (tI p 2)) 4) (tI p 0)) (tI p 1)) 3)))
 (.out (0,[aI p 0,.b false,aI p 2,aL p 3,aL p 4,aL p 5,aL p 6]))
 (.again [aI p 0,dK p 1,aI p 2,aL p 3,aL p 4,aL p 5,aL p 6]))))
def GP(p:LD):Sh:=
 .ask ((aT (vI (gE (gD (eX (gD (gL p 6) (tI p 2)) 4) (tI p 0)) (tI p 1)) 3) 0)||(cX (iL (gL p 6)) (vI (gE (gD (eX (gD (gL p 6) (tI p 2)) 4) (tI p 0)) (tI p 1)) 3)))
 (.out (0,[aI p 0,.b false,aI p 2,aL p 3,aL p 4,aL p 5,aL p 6]))
 (.again [aI p 0,dK p 1,aI p 2,aL p 3,aL p 4,aL p 5,aL p 6])
def AZ(p:LD):Sh:=
 .ask (aA (gI p 2) (List.length (gL p 6)))
 (.ask (aA (gI p 0) (nX (gD (gL p 6) (tI p 2)) 4))
 (.ask (aT (gI p 1) (iE (gD (eX (gD (gL p 6) (tI p 2)) 4) (tI p 0))))
 (.ask (aA (gI p 2) (List.length (gL p 6)))
 (.ask (aA (gI p 0) (nX (gD (gL p 6) (tI p 2)) 4))
 (.ask (aA (gI p 1) (nE (gD (eX (gD (gL p 6) (tI p 2)) 4) (tI p 0))))
 (.ask (aD (vI (gE (gD (eX (gD (gL p 6) (tI p 2)) 4) (tI p 0)) (tI p 1)) 0) 2)
 (.ask (aD (vI (gE (gD (eX (gD (gL p 6) (tI p 2)) 4) (tI p 0)) (tI p 1)) 0) 2)
 (GP p)
 (GO p))
 (.ask (aD (vI (gE (gD (eX (gD (gL p 6) (tI p 2)) 4) (tI p 0)) (tI p 1)) 0) 22)
 (GP p)
 (GO p)))
 bA)
 bA)
 bA)
 (.out (1,[aI p 0,aI p 2,aL p 3,aL p 4,aL p 5,aL p 6])))
 bA)
 bA
def Uw(x:LD):Sh:=
 .call XZ [pQ x] 0 λd _=>
 .ask (((!(aD (D.toI d) 0))||(aT (dB x 1) 0))||(cX (iX (gD x 0) 3) (dB x 1)))
 (.ret (.l []) [])
 (.call Kq [pQ x] 0 λc _=>
 .ask (Ga (D.els c))
 bA
 (.ret (.l [.l [.l (eX (RF (D.els c)) 0),.l (eX (RF (D.els c)) 1),.l (eX (RF (D.els c)) 2),.l (eX (RF (D.els c)) 3),.l (eX (RF (D.els c)) 4),.l (eX (RF (D.els c)) 5)]]) []))
def OC(x:LD):Sh:=
 .call NV [GN (gD x 0)] 0 λc _=>
 .ret (.i (bD .i64 ((iE c)-1))) []
def Bh(x:LD):Sh:=
 .loop 0 [.i (dB x 1),.i 0,.s (D.toS (D.fld (gD x 0) 0)),.b (vB (gD x 0) 1),.l (eX (gD x 0) 2),.i (vI (gD x 0) 3),.l (eX (gD x 0) 4)] (.cons (λc=>
 .ret (.l [aI c 1,aI c 0]) [])
 (.cons (λc=>
 .ret (.l [.i (-1),.i (-1)]) [])
 .nil))
def qV(p:LD):Sh:=
 .ask (aT (gI p 1) (iL (gL p 6)))
 (.loop 2 [aI p 0,.i 0,aI p 1,aS p 2,aB p 3,aL p 4,aI p 5,aL p 6] (.cons (λc=>
 .out (0,[aI c 1,aI c 2]))
 (.cons (λc=>
 .again [aI c 0,dK c 1,aS c 2,aB c 3,aL c 4,aI c 5,aL c 6])
 .nil)))
 (.out (1,[]))
def qW(p:LD):Sh:=
 .ask (aA (gI p 2) (List.length (gL p 7)))
 (.ask (aT (gI p 1) (iE (gD (gL p 7) (tI p 2))))
 (.ask (aA (gI p 2) (List.length (gL p 7)))
 (.ask (aA (gI p 1) (nE (gD (gL p 7) (tI p 2))))
 (.ask ((!(aD (vI (gE (gD (gL p 7) (tI p 2)) (tI p 1)) 1) 0))&&(aD (vI (gE (gD (gL p 7) (tI p 2)) (tI p 1)) 2) (gI p 0)))
 (.out (0,[aI p 0,aI p 1,aI p 2,aI p 2,aS p 3,aB p 4,aL p 5,aI p 6,aL p 7]))
 (.again [aI p 0,dK p 1,aI p 2,aS p 3,aB p 4,aL p 5,aI p 6,aL p 7]))
 bA)
 bA)
 (.out (1,[aI p 0,aI p 2,aS p 3,aB p 4,aL p 5,aI p 6,aL p 7])))
 bA
def Bi(x:LD):Sh:=
 .ask ((cX 0 (iX (gD x 0) 4))&&((aD (iX (gD x 0) 4) (iX (gD x 0) 4))&&(jN (Int.toNat (iX (gD x 0) 4)) 24)))
 (.loop 0 [.i 0,.s (D.toS (D.fld (gD x 0) 0)),.b (vB (gD x 0) 1),.l (eX (gD x 0) 2),.i (vI (gD x 0) 3),.l (eX (gD x 0) 4),.l (List.replicate (nX (gD x 0) 4) (D.l []))] (.cons (λc=>
 .ret (aL c 0) [])
 .nil))
 bA
def BA(p:LD):Sh:=
 .ask (aT (gI p 0) (iL (gL p 5)))
 (.call Hg [.l [aS p 1,aB p 2,aL p 3,aI p 4,aL p 5],aI p 0] 0 λd _=>
 .loop 2 [aI p 0,.i 0,aS p 1,aB p 2,aL p 3,aI p 4,aL p 5,aL p 6,.l (D.els d)] (.cons (λc=>
 .again [dK c 0,aS c 1,aB c 2,aL c 3,aI c 4,aL c 5,aL c 6])
 .nil))
 (.out (0,[aL p 6]))
def BB(p:LD):Sh:=
 .ask (aT (gI p 1) (iL (gL p 8)))
 (.ask (aA (gI p 1) (List.length (gL p 8)))
 (.ask (aA (gI p 1) (List.length (gL p 8)))
 (.ask (aA (D.toI (gD (gL p 8) (tI p 1))) (List.length (gL p 7)))
 (.ask (jN ((nE (gD (gL p 7) (Int.toNat (D.toI (gD (gL p 8) (tI p 1))))))+1) 8)
 (.ask ((aD (D.toI (gD (gL p 8) (tI p 1))) (D.toI (gD (gL p 8) (tI p 1))))&&true)
 (.ask (aA (D.toI (gD (gL p 8) (tI p 1))) (List.length (gL p 7)))
 (.ask ((Nat.beq (Int.toNat (D.toI (gD (gL p 8) (tI p 1)))) (Int.toNat (D.toI (gD (gL p 8) (tI p 1)))))&&true)
 (.again [aI p 0,dK p 1,aS p 2,aB p 3,aL p 4,aI p 5,aL p 6,.l (List.set (gL p 7) (Int.toNat (D.toI (gD (gL p 8) (tI p 1)))) (D.l ((D.els (gD (gL p 7) (Int.toNat (D.toI (gD (gL p 8) (tI p 1))))))++[aI p 0]))),aL p 8])
 bA)
 bA)
 bA)
 bA)
 bA)
 bA)
 bA)
 (.out (0,[aI p 0,aS p 2,aB p 3,aL p 4,aI p 5,aL p 6,aL p 7]))
def Em(x:LD):Sh:=
 .ask (aD (vI (gD x 2) 0) 16)
 (.ask ((!((aD (vI (gD x 2) 1) 2)&&true))||(aA 0 (nE (gD x 3))))
 (.ret (.b ((aD (vI (gD x 2) 1) 2)&&(aD (D.toI (gE (gD x 3) 0)) 2))) [])
 bA)
 (.ask (aD (vI (gD x 2) 0) 17)
 (.ask (aA 0 (nE (gD x 3)))
 (.ask ((!((aD (D.toI (gE (gD x 3) 0)) 2)&&true))||(aA 1 (nE (gD x 3))))
 (.ask ((!(((aD (D.toI (gE (gD x 3) 0)) 2)&&(aD (D.toI (gE (gD x 3) 1)) (vI (gD x 2) 1)))&&true))||(aA 2 (nE (gD x 3))))
 (.ret (.b (((aD (D.toI (gE (gD x 3) 0)) 2)&&(aD (D.toI (gE (gD x 3) 1)) (vI (gD x 2) 1)))&&(aD (D.toI (gE (gD x 3) 2)) (vI (gD x 2) 1)))) [])
 bA)
 bA)
 bA)
 (.ask (aD (vI (gD x 2) 0) 19)
 (.ask ((!((aD (vI (gD x 2) 1) 3)&&true))||(aA 0 (nE (gD x 3))))
 (.ask ((!(((aD (vI (gD x 2) 1) 3)&&(aD (D.toI (gE (gD x 3) 0)) 3))&&true))||(aA 1 (nE (gD x 3))))
 (.ret (.b (((aD (vI (gD x 2) 1) 3)&&(aD (D.toI (gE (gD x 3) 0)) 3))&&(aD (D.toI (gE (gD x 3) 1)) 1))) [])
 bA)
 bA)
 (.ask (aD (vI (gD x 2) 0) 20)
 (.ask ((!((aD (vI (gD x 2) 1) 1)&&true))||(aA 0 (nE (gD x 3))))
 (.ret (.b ((aD (vI (gD x 2) 1) 1)&&(aD (D.toI (gE (gD x 3) 0)) 3))) [])
 bA)
 (.ask (aD (vI (gD x 2) 0) 21)
 (.ask (aA 0 (nE (gD x 3)))
 (.ask ((!((aD (D.toI (gE (gD x 3) 0)) 3)&&true))||(aA 1 (nE (gD x 3))))
 (.ret (.b ((aD (D.toI (gE (gD x 3) 0)) 3)&&(aD (D.toI (gE (gD x 3) 1)) 1))) [])
 bA)
 bA)
 (.ask (aD (vI (gD x 2) 0) 22)
 (.ask (aA (vI (gD x 2) 3) (nX (gD x 0) 3))
 (.call QK [.l (D.els (gD x 3)),.l (eX (gD (eX (gD x 0) 3) (Int.toNat (vI (gD x 2) 3))) 2)] 0 λc _=>
 .ask ((!((D.toB c)&&true))||(aA (vI (gD x 2) 3) (nX (gD x 0) 3)))
 (.ret (.b ((D.toB c)&&(aD (vI (gD x 2) 1) (vI (gD (eX (gD x 0) 3) (Int.toNat (vI (gD x 2) 3))) 3)))) [])
 bA)
 bA)
 (.ask (aD (vI (gD x 2) 0) 23)
 (.ask (aA (vI (gD x 2) 3) (nX (gD x 0) 0))
 (.call QK [.l (D.els (gD x 3)),.l (eX (gD (eX (gD x 0) 0) (Int.toNat (vI (gD x 2) 3))) 1)] 0 λc _=>
 .ask ((!((D.toB c)&&true))||(aA (vI (gD x 2) 3) (nX (gD x 0) 0)))
 (.ret (.b ((D.toB c)&&(aD (vI (gD x 2) 1) (vI (gD (eX (gD x 0) 0) (Int.toNat (vI (gD x 2) 3))) 2)))) [])
 bA)
 bA)
 (.ask (aD (vI (gD x 2) 0) 24)
 (.ask ((!((aD (vI (gD x 2) 1) 4)&&true))||(aA 0 (nE (gD x 3))))
 (.ret (.b ((aD (vI (gD x 2) 1) 4)&&(aD (D.toI (gE (gD x 3) 0)) 1))) [])
 bA)
 (.ask (aD (vI (gD x 2) 0) 25)
 (.ask (aA 0 (nE (gD x 3)))
 (.ret (.b ((aD (D.toI (gE (gD x 3) 0)) 4)&&(!(aD (vI (gD x 2) 1) 3)))) [])
 bA)
 (.ask (aD (vI (gD x 2) 0) 26)
 (.loop 1 [.l (D.els (gD x 3)),.i 0,.i (vI (gD x 2) 0),.i (vI (gD x 2) 1),.i (vI (gD x 2) 2),.i (vI (gD x 2) 3),.i (vI (gD x 2) 4),.l (eX (gD x 2) 5),.l (eX (gD x 2) 6)] (.cons (λd=>
 .ret (aB d 0) [])
 (.cons (λd=>
 .ret (.b true) [])
 .nil)))
 (.ask (aD (vI (gD x 2) 0) 28)
 (.ask (aA 0 (nE (gD x 3)))
 (.ret (.b (aD (D.toI (gE (gD x 3) 0)) 2)) [])
 bA)
 (.ask (aD (vI (gD x 2) 0) 29)
 (.ask (aD (vI (gD x 1) 3) 0)
 (.ret (.b (aD (iE (gD x 3)) 0)) [])
 (.ask ((!((aD (iE (gD x 3)) 1)&&true))||(aA 0 (nE (gD x 3))))
 (.ret (.b ((aD (iE (gD x 3)) 1)&&(aD (D.toI (gE (gD x 3) 0)) (vI (gD x 1) 3)))) [])
 bA))
 (.ret (.b true) []))))))))))))
def En(x:LD):Sh:=
 .ask ((!((aD (vI (gD x 2) 1) 2)&&true))||(aA 0 (nE (gD x 3))))
 (.ask ((!(((aD (vI (gD x 2) 1) 2)&&(aD (D.toI (gE (gD x 3) 0)) 1))&&true))||(aA 1 (nE (gD x 3))))
 (.ret (.b (((aD (vI (gD x 2) 1) 2)&&(aD (D.toI (gE (gD x 3) 0)) 1))&&(aD (D.toI (gE (gD x 3) 1)) 1))) [])
 bA)
 bA
def lS(x:LD):Sh:=
 .ask (aD (vI (gD x 2) 0) 14)
 (.ask (aD (vI (gD x 2) 0) 14)
 (En x)
 (Em x))
 (.ask (aD (vI (gD x 2) 0) 15)
 (En x)
 (Em x))
def lT(x:LD):Sh:=
 .ask ((!((aD (vI (gD x 2) 1) 1)&&true))||(aA 0 (nE (gD x 3))))
 (.ask ((!(((aD (vI (gD x 2) 1) 1)&&(aD (D.toI (gE (gD x 3) 0)) 1))&&true))||(aA 1 (nE (gD x 3))))
 (.ret (.b (((aD (vI (gD x 2) 1) 1)&&(aD (D.toI (gE (gD x 3) 0)) 1))&&(aD (D.toI (gE (gD x 3) 1)) 1))) [])
 bA)
 bA
def Eo(x:LD):Sh:=
 .ask (aD (vI (gD x 2) 0) 4)
 (.ask (aD (vI (gD x 2) 0) 4)
 (lT x)
 (lS x))
 (.ask (aD (vI (gD x 2) 0) 5)
 (.ask (aD (vI (gD x 2) 0) 5)
 (lT x)
 (lS x))
 (.ask (aD (vI (gD x 2) 0) 6)
 (.ask (aD (vI (gD x 2) 0) 6)
 (lT x)
 (lS x))
 (.ask (aD (vI (gD x 2) 0) 7)
 (.ask (aD (vI (gD x 2) 0) 7)
 (lT x)
 (lS x))
 (.ask (aD (vI (gD x 2) 0) 8)
 (.ask (aD (vI (gD x 2) 0) 8)
 (lT x)
 (lS x))
 (.ask (aD (vI (gD x 2) 0) 9)
 (.ask (aD (vI (gD x 2) 0) 9)
 (lT x)
 (lS x))
 (.ask (aD (vI (gD x 2) 0) 10)
 (.ask (aD (vI (gD x 2) 0) 10)
 (lT x)
 (lS x))
 (.ask (aD (vI (gD x 2) 0) 11)
 (.ask (aD (vI (gD x 2) 0) 11)
 (lT x)
 (lS x))
 (.ask (aD (vI (gD x 2) 0) 12)
 (.ask (aD (vI (gD x 2) 0) 12)
 (lT x)
 (lS x))
 (.ask (aD (vI (gD x 2) 0) 13)
 (lT x)
 (lS x))))))))))
def Px(x:LD):Sh:=
 .ask (aD (vI (gD x 2) 0) 1)
 (.ret (.b ((aD (vI (gD x 2) 1) 1)||((aD (vI (gD x 2) 1) 2)&&((aD (vI (gD x 2) 4) 0)||(aD (vI (gD x 2) 4) 1))))) [])
 (.ask (aD (vI (gD x 2) 0) 2)
 (.ret (.b (aD (vI (gD x 2) 1) 4)) [])
 (.ask (aD (vI (gD x 2) 0) 3)
 (.ask (aD (vI (gD x 2) 0) 3)
 (.ret (.b (aD (vI (gD x 2) 1) 3)) [])
 (Eo x))
 (.ask (aD (vI (gD x 2) 0) 18)
 (.ret (.b (aD (vI (gD x 2) 1) 3)) [])
 (Eo x))))
def BC(p:LD):Sh:=
 .ask (aT (gI p 1) (iL (gL p 0)))
 (.ask (aA (gI p 1) (List.length (gL p 0)))
 (.ask (!(aD (D.toI (gD (gL p 0) (tI p 1))) (gI p 3)))
 (.out (0,[.b false]))
 (.again [aL p 0,dK p 1,aI p 2,aI p 3,aI p 4,aI p 5,aI p 6,aL p 7,aL p 8]))
 bA)
 (.out (1,[]))
def HG(x:LD):Sh:=
 .loop 0 [.l (D.els (gD x 0)),.i 0,.i (vI (gD x 1) 0),.i (vI (gD x 1) 1)] (.cons (λc=>
 .ret (aB c 0) [])
 (.cons (λc=>
 .ret (.b false) [])
 .nil))
def kV(p:LD):Sh:=
 .ask (aT (gI p 1) (iL (gL p 0)))
 (.ask (aA (gI p 1) (List.length (gL p 0)))
 (.ask ((aD (vI (gD (gL p 0) (tI p 1)) 0) (gI p 2))&&((aD (vI (gD (gL p 0) (tI p 1)) 1) (gI p 3))&&true))
 (.out (0,[.b true]))
 (.again [aL p 0,dK p 1,aI p 2,aI p 3]))
 bA)
 (.out (1,[]))
def Bj(x:LD):Sh:=
 .ask ((cX 0 (iX (gD x 0) 4))&&((aD (iX (gD x 0) 4) (iX (gD x 0) 4))&&(jN (Int.toNat (iX (gD x 0) 4)) 1)))
 (.ask (((aT (dB x 1) 0)||(cX (iL (List.replicate (nX (gD x 0) 4) (D.b false))) (dB x 1)))||(aD (dB x 1) (dB x 2)))
 (.ret (.l (List.replicate (nX (gD x 0) 4) (D.b false))) [])
 (.ask (aA (dB x 1) (List.length (List.replicate (nX (gD x 0) 4) (D.b false))))
 (.loop 0 [.i (dB x 2),.b true,.s (D.toS (D.fld (gD x 0) 0)),.b (vB (gD x 0) 1),.l (eX (gD x 0) 2),.i (vI (gD x 0) 3),.l (eX (gD x 0) 4),.l (List.set (List.replicate (nX (gD x 0) 4) (D.b false)) (iO x 1) (D.b true))] (.cons (λc=>
 .ret (aL c 0) [])
 .nil))
 bA))
 bA
def BD(p:LD):Sh:=
 .ask (gB p 1)
 (.loop 2 [.i 0,aI p 0,.b false,aS p 2,aB p 3,aL p 4,aI p 5,aL p 6,aL p 7] (.cons (λc=>
 .again [aI c 0,aB c 1,aS c 2,aB c 3,aL c 4,aI c 5,aL c 6,aL c 7])
 .nil))
 (.out (0,[aL p 7]))
def qX(p:LD):Sh:=
 .ask (aT (gI p 0) (iL (gL p 8)))
 (.ask (aA (gI p 0) (List.length (gL p 8)))
 (.ask (!(D.toB (gD (gL p 8) (tI p 0))))
 (.again [dK p 0,aI p 1,aB p 2,aS p 3,aB p 4,aL p 5,aI p 6,aL p 7,aL p 8])
 (.call Hg [.l [aS p 3,aB p 4,aL p 5,aI p 6,aL p 7],aI p 0] 0 λd _=>
 .loop 4 [.i 0,aI p 0,aI p 1,aB p 2,aS p 3,aB p 4,aL p 5,aI p 6,aL p 7,aL p 8,.l (D.els d)] (.cons (λc=>
 .again [dK c 0,aI c 1,aB c 2,aS c 3,aB c 4,aL c 5,aI c 6,aL c 7,aL c 8])
 .nil)))
 bA)
 (.out (0,[aI p 1,aB p 2,aS p 3,aB p 4,aL p 5,aI p 6,aL p 7,aL p 8]))
def mZ(p:LD):Sh:=
 .ask (aT (gI p 0) (iL (gL p 10)))
 (.ask (aA (gI p 0) (List.length (gL p 10)))
 (.ask ((!((!(aD (D.toI (gD (gL p 10) (tI p 0))) (gI p 2)))&&true))||(aA (gI p 0) (List.length (gL p 10))))
 (.ask ((!((!(aD (D.toI (gD (gL p 10) (tI p 0))) (gI p 2)))&&true))||(aA (D.toI (gD (gL p 10) (tI p 0))) (List.length (gL p 9))))
 (.ask ((!(aD (D.toI (gD (gL p 10) (tI p 0))) (gI p 2)))&&(!(D.toB (gD (gL p 9) (Int.toNat (D.toI (gD (gL p 10) (tI p 0))))))))
 (.ask (aA (gI p 0) (List.length (gL p 10)))
 (.ask (aA (D.toI (gD (gL p 10) (tI p 0))) (List.length (gL p 9)))
 (.again [dK p 0,aI p 1,aI p 2,.b true,aS p 4,aB p 5,aL p 6,aI p 7,aL p 8,.l (List.set (gL p 9) (Int.toNat (D.toI (gD (gL p 10) (tI p 0)))) (D.b true)),aL p 10])
 bA)
 bA)
 (.again [dK p 0,aI p 1,aI p 2,aB p 3,aS p 4,aB p 5,aL p 6,aI p 7,aL p 8,aL p 9,aL p 10]))
 bA)
 bA)
 bA)
 (.out (0,[aI p 1,aI p 2,aB p 3,aS p 4,aB p 5,aL p 6,aI p 7,aL p 8,aL p 9]))
def UA(x:LD):Sh:=
 .loop 0 [.i (iX (gD x 0) 0),.l (eX (gD x 0) 0),.i 0,.l (eX (gD x 0) 0),.l (eX (gD x 0) 1),.l (eX (gD x 0) 2),.l (eX (gD x 0) 3),.l []] (.cons (λc=>
 .loop 2 [.i 0,aL c 1,.i (iL (gL c 1)),aL c 0,aL c 1,aL c 2,aL c 3,aL c 4] (.cons (λd=>
 .loop 4 [.i (iL (gL d 2)),.i 0,aL d 2,aL d 0,aL d 1,aL d 2,aL d 3,aL d 4] (.cons (λe=>
 .loop 6 [aL e 3,.i 0,.i (iL (gL e 3)),aL e 4] (.cons (λf=>
 .loop 8 [.i (iL (gL f 0)),.i 0,.l [],aL f 0] (.cons (λg=>
 .ret (aB g 0) [])
 (.cons (λg=>
 .ret (.b true) [])
 .nil)))
 .nil))
 .nil))
 .nil))
 .nil)
def wP(p:LD):Sh:=
 .ask (aT (gI p 2) (gI p 0))
 (.ask (aA (gI p 2) (List.length (gL p 1)))
 (.ask (jN ((List.length (gL p 7))+1) 16)
 (.again [aI p 0,aL p 1,dK p 2,aL p 3,aL p 4,aL p 5,aL p 6,.l ((gL p 7)++[.s (D.toS (D.fld (gD (gL p 1) (tI p 2)) 0))])])
 bA)
 bA)
 (.out (0,[aL p 3,aL p 4,aL p 5,aL p 6,aL p 7]))
def wQ(p:LD):Sh:=
 .ask (aT (gI p 0) (gI p 2))
 (.ask (aA (gI p 0) (List.length (gL p 1)))
 (.ask (jN ((List.length (gL p 7))+1) 16)
 (.again [dK p 0,aL p 1,aI p 2,aL p 3,aL p 4,aL p 5,aL p 6,.l ((gL p 7)++[.s (D.toS (D.fld (gD (gL p 1) (tI p 0)) 0))])])
 bA)
 bA)
 (.out (0,[aL p 3,aL p 4,aL p 5,aL p 6,aL p 7]))
def wR(p:LD):Sh:=
 .ask (aT (gI p 1) (gI p 0))
 (.ask (aA (gI p 1) (List.length (gL p 2)))
 (.ask (jN ((List.length (gL p 7))+1) 16)
 (.again [aI p 0,dK p 1,aL p 2,aL p 3,aL p 4,aL p 5,aL p 6,.l ((gL p 7)++[.s (D.toS (D.fld (gD (gL p 2) (tI p 1)) 0))])])
 bA)
 bA)
 (.out (0,[aL p 3,aL p 4,aL p 5,aL p 6,aL p 7]))
def wS(p:LD):Sh:=
 .ask (aT (gI p 1) (gI p 2))
 (.ask (aA (gI p 1) (List.length (gL p 0)))
 (.ask (jN ((List.length (gL p 3))+1) 16)
 (.again [aL p 0,dK p 1,aI p 2,.l ((gL p 3)++[.s (D.toS (D.fld (gD (gL p 0) (tI p 1)) 0))])])
 bA)
 bA)
 (.out (0,[aL p 3]))
def pB(p:LD):Sh:=
 .ask (aT (gI p 1) (gI p 0))
 (.ask (aA (gI p 1) (List.length (gL p 3)))
 (.call Uu [.s (D.toS (gD (gL p 3) (tI p 1)))] 0 λc _=>
 .ask ((!(D.toB c))||(aT 1 (D.toI (yT (.int .i64) (iM .str (.s (D.toS (gD (gL p 3) (tI p 1)))) 0 (DQ (.s (D.toS (gD (gL p 3) (tI p 1)))) (.i (bJ .i64 (D.toI (yT (.int .i64) (iM .str (.s (D.toS (gD (gL p 3) (tI p 1)))) 0 (gL p 2)))) 1)) (gL p 2) (iM .str (.s (D.toS (gD (gL p 3) (tI p 1)))) 0 (gL p 2))))))))
 (.out (0,[.b false]))
 (.again [aI p 0,dK p 1,.l (DQ (.s (D.toS (gD (gL p 3) (tI p 1)))) (.i (bJ .i64 (D.toI (yT (.int .i64) (iM .str (.s (D.toS (gD (gL p 3) (tI p 1)))) 0 (gL p 2)))) 1)) (gL p 2) (iM .str (.s (D.toS (gD (gL p 3) (tI p 1)))) 0 (gL p 2))),aL p 3]))
 bA)
 (.out (1,[]))
def UB(x:LD):Sh:=
 .call YB [GN (gD x 1)] 0 λd _=>
 .loop 0 [.i 0,.l (eX (gD x 1) 4),.i (iX (gD x 1) 4),.l (eX (gD x 0) 0),.l (eX (gD x 0) 1),.l (eX (gD x 0) 2),.l (eX (gD x 0) 3),.s (D.toS (D.fld (gD x 1) 0)),.b (vB (gD x 1) 1),.l (eX (gD x 1) 2),.i (vI (gD x 1) 3),.l (eX (gD x 1) 4),.l (D.els d)] (.cons (λc=>
 .ret (aB c 0) [])
 (.cons (λc=>
 .ret (.b true) [])
 .nil))
def wT(p:LD):Sh:=
 .ask (aT (gI p 0) (gI p 2))
 (.ask (aA (gI p 0) (List.length (gL p 1)))
 (.loop 2 [aI p 0,aL p 1,.i (iE (gD (gL p 1) (tI p 0))),.l (D.els (gD (gL p 1) (tI p 0))),aI p 2,.i 0,aL p 3,aL p 4,aL p 5,aL p 6,aS p 7,aB p 8,aL p 9,aI p 10,aL p 11,aL p 12] (.cons (λc=>
 .out (0,[aB c 2]))
 (.cons (λc=>
 .again [dK c 0,aL c 1,aI c 2,aL c 3,aL c 4,aL c 5,aL c 6,aS c 7,aB c 8,aL c 9,aI c 10,aL c 11,aL c 12])
 .nil)))
 bA)
 (.out (1,[]))
def wU(p:LD):Sh:=
 .ask (aT (gI p 5) (gI p 2))
 (.ask (aA (gI p 5) (List.length (gL p 3)))
 (.call KJ [.l [aL p 6,aL p 7,aL p 8,aL p 9],.l [aS p 10,aB p 11,aL p 12,aI p 13,aL p 14],aL p 15,.l [.i (vI (gD (gL p 3) (tI p 5)) 0),.i (vI (gD (gL p 3) (tI p 5)) 1),.i (vI (gD (gL p 3) (tI p 5)) 2),.i (vI (gD (gL p 3) (tI p 5)) 3),.i (vI (gD (gL p 3) (tI p 5)) 4),.l (eX (gD (gL p 3) (tI p 5)) 5),.l (eX (gD (gL p 3) (tI p 5)) 6)]] 0 λc _=>
 .ask (!(D.toB c))
 (.out (0,[aI p 0,aL p 1,.b false,aI p 4,aL p 6,aL p 7,aL p 8,aL p 9,aS p 10,aB p 11,aL p 12,aI p 13,aL p 14,aL p 15]))
 (.again [aI p 0,aL p 1,aI p 2,aL p 3,aI p 4,dK p 5,aL p 6,aL p 7,aL p 8,aL p 9,aS p 10,aB p 11,aL p 12,aI p 13,aL p 14,aL p 15]))
 bA)
 (.out (1,[aI p 0,aL p 1,aI p 4,aL p 6,aL p 7,aL p 8,aL p 9,aS p 10,aB p 11,aL p 12,aI p 13,aL p 14,aL p 15]))
def Bk(x:LD):Sh:=
 .ask ((!(!((aT (dB x 1) 0)||(cX (iX (gD x 0) 4) (dB x 1)))))||(aA (dB x 1) (nX (gD x 0) 4)))
 (.ask (((aT (dB x 1) 0)||(cX (iX (gD x 0) 4) (dB x 1)))||(aD (iE (gD (eX (gD x 0) 4) (iO x 1))) 0))
 (.ret (.l [.l [.i 0,.i 0,.i 0,.i 0,.i 0,.l [],.l []],.b false]) [])
 (.ask (aA (dB x 1) (nX (gD x 0) 4))
 (.ask (aA (bD .i64 ((iE (gD (eX (gD x 0) 4) (iO x 1)))-1)) (nE (gD (eX (gD x 0) 4) (iO x 1))))
 (let z0:=gE (gD (eX (gD x 0) 4) (iO x 1)) (Int.toNat (bD .i64 ((iE (gD (eX (gD x 0) 4) (iO x 1)))-1)));.ret (D.l [D.l [D.i (vI z0 0),D.i (vI z0 1),D.i (vI z0 2),D.i (vI z0 3),D.i (vI z0 4),D.l (eX z0 5),D.l (eX z0 6)],D.b true]) [])
 bA)
 bA))
 bA
def bN(x:LD):Sh:=
 .ask (!(aD (vI (gD x 0) 0) 21))
 (.call GM [.i (vI (gD x 0) 0)] 0 λc _=>
 .ask ((!(((aD (vI (gD x 0) 0) 22)||(aD (vI (gD x 0) 0) 23))||(aD (vI (gD x 0) 0) 25)))&&(!(bif (aD (vI (gD x 0) 0) 21)||(D.toB c)then aD (vI (gD x 0) 1) 0 else !(aD (vI (gD x 0) 1) 0))))
 (.ret (.b false) [])
 (.ask (aD (vI (gD x 0) 1) 0)
 (.ret (.b (aD (vI (gD x 0) 2) 0)) [])
 (.ret (.b (cX 1 (vI (gD x 0) 2))) [])))
 (.ask ((!(((aD (vI (gD x 0) 0) 22)||(aD (vI (gD x 0) 0) 23))||(aD (vI (gD x 0) 0) 25)))&&(!(bif (aD (vI (gD x 0) 0) 21)||(D.toB (.i 0))then aD (vI (gD x 0) 1) 0 else !(aD (vI (gD x 0) 1) 0))))
 (.ret (.b false) [])
 (.ask (aD (vI (gD x 0) 1) 0)
 (.ret (.b (aD (vI (gD x 0) 2) 0)) [])
 (.ret (.b (cX 1 (vI (gD x 0) 2))) [])))
def bO(x:LD)(c:D):Sh:=
 .ask (aD (vI (gD x 0) 0) 18)
 (.ask (((((!(((((aT (vI c 0) 0)||(aD (iX (gD x 0) 5) (vI c 0)))&&((aT (vI c 1) 0)||(aD (iX (gD x 0) 6) (vI c 1))))&&(cX 1 (vI (gD x 0) 4)))&&(cX (vI (gD x 0) 4) 16)))||((!(vB c 2))&&(!(aD (vI (gD x 0) 3) 0))))||((!(vB c 3))&&(!(aD (vI (gD x 0) 4) 0))))||(aT (vI (gD x 0) 1) 0))||(aT 4 (vI (gD x 0) 1)))
 (.ret (.b false) [])
 (bN x))
 (.ask (((((!(((aT (vI c 0) 0)||(aD (iX (gD x 0) 5) (vI c 0)))&&((aT (vI c 1) 0)||(aD (iX (gD x 0) 6) (vI c 1)))))||((!(vB c 2))&&(!(aD (vI (gD x 0) 3) 0))))||((!(vB c 3))&&(!(aD (vI (gD x 0) 4) 0))))||(aT (vI (gD x 0) 1) 0))||(aT 4 (vI (gD x 0) 1)))
 (.ret (.b false) [])
 (bN x))
def bP(x:LD)(c:D):Sh:=
 .ask (((((!((((aT (vI c 0) 0)||(aD (iX (gD x 0) 5) (vI c 0)))&&((aT (vI c 1) 0)||(aD (iX (gD x 0) 6) (vI c 1))))&&(cX (iX (gD x 0) 5) 5)))||((!(vB c 2))&&(!(aD (vI (gD x 0) 3) 0))))||((!(vB c 3))&&(!(aD (vI (gD x 0) 4) 0))))||(aT (vI (gD x 0) 1) 0))||(aT 4 (vI (gD x 0) 1)))
 (.ret (.b false) [])
 (.ask (!(aD (vI (gD x 0) 0) 21))
 (.call GM [.i (vI (gD x 0) 0)] 0 λd _=>
 .ask ((!(((aD (vI (gD x 0) 0) 22)||(aD (vI (gD x 0) 0) 23))||(aD (vI (gD x 0) 0) 25)))&&(!(bif (aD (vI (gD x 0) 0) 21)||(D.toB d)then aD (vI (gD x 0) 1) 0 else !(aD (vI (gD x 0) 1) 0))))
 (.ret (.b false) [])
 (.ask (aD (vI (gD x 0) 1) 0)
 (.ret (.b (aD (vI (gD x 0) 2) 0)) [])
 (.ret (.b (cX 1 (vI (gD x 0) 2))) [])))
 (.ask ((!(((aD (vI (gD x 0) 0) 22)||(aD (vI (gD x 0) 0) 23))||(aD (vI (gD x 0) 0) 25)))&&(!(bif (aD (vI (gD x 0) 0) 21)||(D.toB (.i 0))then aD (vI (gD x 0) 1) 0 else !(aD (vI (gD x 0) 1) 0))))
 (.ret (.b false) [])
 (.ask (aD (vI (gD x 0) 1) 0)
 (.ret (.b (aD (vI (gD x 0) 2) 0)) [])
 (.ret (.b (cX 1 (vI (gD x 0) 2))) []))))
def bL(x:LD):Sh:=
 .ask (!(aD (vI (gD x 0) 0) 21))
 (.call GM [.i (vI (gD x 0) 0)] 0 λc _=>
 .ask ((!(((aD (vI (gD x 0) 0) 22)||(aD (vI (gD x 0) 0) 23))||(aD (vI (gD x 0) 0) 25)))&&(!(bif (aD (vI (gD x 0) 0) 21)||(D.toB c)then aD (vI (gD x 0) 1) 0 else !(aD (vI (gD x 0) 1) 0))))
 (.ret (.b false) [])
 (.ask (aD (vI (gD x 0) 1) 0)
 (.ret (.b (aD (vI (gD x 0) 2) 0)) [])
 (.ret (.b (cX 1 (vI (gD x 0) 2))) [])))
 (.ask ((!(((aD (vI (gD x 0) 0) 22)||(aD (vI (gD x 0) 0) 23))||(aD (vI (gD x 0) 0) 25)))&&(!(bif (aD (vI (gD x 0) 0) 21)||(D.toB (.i 0))then aD (vI (gD x 0) 1) 0 else !(aD (vI (gD x 0) 1) 0))))
 (.ret (.b false) [])
 (.ask (aD (vI (gD x 0) 1) 0)
 (.ret (.b (aD (vI (gD x 0) 2) 0)) [])
 (.ret (.b (cX 1 (vI (gD x 0) 2))) [])))
def bV(x:LD):Sh:=
 .ask ((aT (vI (gD x 0) 0) 1)||(aT 30 (vI (gD x 0) 0)))
 (.ret (.b false) [])
 (.call QM [.i (vI (gD x 0) 0)] 0 λc _=>
 .ask (aD (vI (gD x 0) 0) 26)
 (.ask (((((!((aD (iX (gD x 0) 5) (iX (gD x 0) 6))&&(cX 1 (iX (gD x 0) 5))))||((!(vB c 2))&&(!(aD (vI (gD x 0) 3) 0))))||((!(vB c 3))&&(!(aD (vI (gD x 0) 4) 0))))||(aT (vI (gD x 0) 1) 0))||(aT 4 (vI (gD x 0) 1)))
 (.ret (.b false) [])
 (bL x))
 (.ask (aD (vI (gD x 0) 0) 29)
 (.ask (((((!((((aT (vI c 0) 0)||(aD (iX (gD x 0) 5) (vI c 0)))&&((aT (vI c 1) 0)||(aD (iX (gD x 0) 6) (vI c 1))))&&(cX (iX (gD x 0) 5) 1)))||((!(vB c 2))&&(!(aD (vI (gD x 0) 3) 0))))||((!(vB c 3))&&(!(aD (vI (gD x 0) 4) 0))))||(aT (vI (gD x 0) 1) 0))||(aT 4 (vI (gD x 0) 1)))
 (.ret (.b false) [])
 (bL x))
 (.ask (aD (vI (gD x 0) 0) 25)
 (.ask (((((!(((((aT (vI c 0) 0)||(aD (iX (gD x 0) 5) (vI c 0)))&&((aT (vI c 1) 0)||(aD (iX (gD x 0) 6) (vI c 1))))&&(cX 1 (iX (gD x 0) 5)))&&(cX (iX (gD x 0) 5) 6)))||((!(vB c 2))&&(!(aD (vI (gD x 0) 3) 0))))||((!(vB c 3))&&(!(aD (vI (gD x 0) 4) 0))))||(aT (vI (gD x 0) 1) 0))||(aT 4 (vI (gD x 0) 1)))
 (.ret (.b false) [])
 (bL x))
 (.ask (aD (vI (gD x 0) 0) 22)
 (.ask (aD (vI (gD x 0) 0) 22)
 (bP x c)
 (bO x c))
 (.ask (aD (vI (gD x 0) 0) 23)
 (bP x c)
 (bO x c))))))
def KN(x:LD):Sh:=
 .call NX [GN (gD x 0)] 0 λc _=>
 .ask (Ga (D.els c))
 (.ask ((cX 0 (iX (gD x 0) 4))&&((aD (iX (gD x 0) 4) (iX (gD x 0) 4))&&(jN (Int.toNat (iX (gD x 0) 4)) 1)))
 bA
 bA)
 (.ask ((cX 0 (iX (gD x 0) 4))&&((aD (iX (gD x 0) 4) (iX (gD x 0) 4))&&(jN (Int.toNat (iX (gD x 0) 4)) 1)))
 (.loop 0 [.i (iX (RF (D.els c)) 5),.i 0,.l (List.replicate (nX (gD x 0) 4) (D.b false)),.l (eX (RF (D.els c)) 5)] (.cons (λd=>
 .ret (aL d 0) [])
 .nil))
 bA)
def qY(p:LD):Sh:=
 .ask (aT (gI p 1) (gI p 0))
 (.ask (aA (gI p 1) (List.length (gL p 3)))
 (.ask (aA (gI p 1) (List.length (gL p 2)))
 (.again [aI p 0,dK p 1,.l (List.set (gL p 2) (tI p 1) (D.b (!(aD (D.toI (gD (gL p 3) (tI p 1))) 0)))),aL p 3])
 bA)
 bA)
 (.out (0,[aL p 2]))
def UC(x:LD):Sh:=
 .ask (kT 0 (dB x 1) (iX (gD x 0) 4))
 (.loop 0 [.i (iX (gD x 0) 2),.i (iL (List.drop 0 (List.take (iO x 1) (eX (gD x 0) 4)))),.l (List.drop 0 (List.take (iO x 1) (eX (gD x 0) 4))),.i 0] (.cons (λc=>
 .ret (aI c 0) [])
 .nil))
 bA
def wV(p:LD):Sh:=
 .ask (aT (gI p 3) (gI p 1))
 (.ask (aA (gI p 3) (List.length (gL p 2)))
 (.loop 2 [.l (D.els (gD (gL p 2) (tI p 3))),aI p 0,aI p 1,.i 0,aL p 2,.i (iE (gD (gL p 2) (tI p 3))),aI p 3] (.cons (λc=>
 .again [aI c 0,aI c 1,aL c 2,dK c 3])
 .nil))
 bA)
 (.out (0,[aI p 0]))
def wW(p:LD):Sh:=
 .ask (aT (gI p 3) (gI p 5))
 (.ask (aA (gI p 3) (List.length (gL p 0)))
 (.ask (!(aD (vI (gD (gL p 0) (tI p 3)) 1) 0))
 (.again [aL p 0,dK p 1,aI p 2,dK p 3,aL p 4,aI p 5,aI p 6])
 (.again [aL p 0,aI p 1,aI p 2,dK p 3,aL p 4,aI p 5,aI p 6]))
 bA)
 (.out (0,[aI p 1,aI p 2,aL p 4,aI p 6]))
def pC(x:LD):Sh:=
 .ask (aD (vI (gD (eX (gD x 0) 3) (iO x 1)) 0) 19)
 (.ask (aA 0 (nX (gD (eX (gD x 0) 3) (iO x 1)) 5))
 (.call wC [pQ x,.i (D.toI (gD (eX (gD (eX (gD x 0) 3) (iO x 1)) 5) 0))] 1 λd c=>
 .ask (aA 1 (nX (gD (eX (gD x 0) 3) (iO x 1)) 5))
 (.call EP [.l [.l (eX (gD c 0) 0),.l (eX (gD c 0) 1),.l (eX (gD c 0) 2),.l (eX (gD c 0) 3)],.i (D.toI (gD (eX (gD (eX (gD x 0) 3) (iO x 1)) 5) 1))] 0 λe _=>
 .ask ((aD (vI d 0) 1)&&(vB e 1))
 (.ask (aA (dB x 1) (nX (gD c 0) 2))
 (let z0:=List.set (eX (gD c 0) 2) (iO x 1) (D.l (cP (D.els (gD (eX (gD c 0) 2) (iO x 1))) 0 (D.i 1)));.ret (D.l [D.i 1,D.i (bJ .i64 (vI d 1) (vI e 0))]) [D.l [D.l (eX (gD c 0) 0),D.l (eX (gD c 0) 1),D.l (List.set z0 (iO x 1) (D.l (cP (D.els (gD z0 (iO x 1))) 1 (D.i (bJ .i64 (vI d 1) (vI e 0)))))),D.l (eX (gD c 0) 3)]])
 bA)
 (.ask (aA (dB x 1) (nX (gD c 0) 2))
 (let z0:=List.set (eX (gD c 0) 2) (iO x 1) (D.l (cP (D.els (gD (eX (gD c 0) 2) (iO x 1))) 0 (D.i 2)));.ret (D.l [D.i 2,D.i 0]) [D.l [D.l (eX (gD c 0) 0),D.l (eX (gD c 0) 1),D.l (List.set z0 (iO x 1) (D.l (cP (D.els (gD z0 (iO x 1))) 1 (D.i 0)))),D.l (eX (gD c 0) 3)]])
 bA))
 bA)
 bA)
 (.ask (aA (dB x 1) (nX (gD x 0) 2))
 (let z0:=List.set (eX (gD x 0) 2) (iO x 1) (D.l (cP (D.els (gD (eX (gD x 0) 2) (iO x 1))) 0 (D.i 2)));.ret (D.l [D.i 2,D.i 0]) [D.l [D.l (eX (gD x 0) 0),D.l (eX (gD x 0) 1),D.l (List.set z0 (iO x 1) (D.l (cP (D.els (gD z0 (iO x 1))) 1 (D.i 0)))),D.l (eX (gD x 0) 3)]])
 bA)
def ER(x:LD):Sh:=
 .ask (aA (dB x 1) (nX (gD x 0) 2))
 (let z0:=List.set (eX (gD x 0) 2) (iO x 1) (D.l (cP (D.els (gD (eX (gD x 0) 2) (iO x 1))) 0 (D.i 1)));.ret (D.l [D.i 1,D.i 0]) [D.l [D.l (eX (gD x 0) 0),D.l (eX (gD x 0) 1),D.l (List.set z0 (iO x 1) (D.l (cP (D.els (gD z0 (iO x 1))) 1 (D.i 0)))),D.l (eX (gD x 0) 3)]])
 bA
def fG(x:LD):Sh:=
 .ask (aA (dB x 1) (nX (gD x 0) 0))
 (.ask ((!(!(!(aD (D.toI (gD (eX (gD x 0) 0) (iO x 1))) 3))))||(aA (dB x 1) (nX (gD x 0) 2)))
 (.ask ((!(aD (D.toI (gD (eX (gD x 0) 0) (iO x 1))) 3))||(!(aD (vI (gD (eX (gD x 0) 2) (iO x 1)) 0) 0)))
 (.ask (aA (dB x 1) (nX (gD x 0) 2))
 (.ret (.l [.i (vI (gD (eX (gD x 0) 2) (iO x 1)) 0),.i (vI (gD (eX (gD x 0) 2) (iO x 1)) 1)]) [pQ x])
 bA)
 (.ask (aA (dB x 1) (nX (gD x 0) 3))
 (.ask (aD (vI (gD (eX (gD x 0) 3) (iO x 1)) 0) 18)
 (.ask (aD (vI (gD (eX (gD x 0) 3) (iO x 1)) 0) 18)
 (ER x)
 (pC x))
 (.ask (aD (vI (gD (eX (gD x 0) 3) (iO x 1)) 0) 3)
 (ER x)
 (pC x)))
 bA))
 bA)
 bA
def OD(x:LD):Sh:=
 .ask ((!(!((aT (dB x 1) 0)||(cX (iX (gD x 0) 4) (dB x 1)))))||(aA (dB x 1) (nX (gD x 0) 4)))
 (.ask (((aT (dB x 1) 0)||(cX (iX (gD x 0) 4) (dB x 1)))||(aD (iE (gD (eX (gD x 0) 4) (iO x 1))) 0))
 (.ret (.l []) [])
 (.ask (aA (dB x 1) (nX (gD x 0) 4))
 (.ask (aA (dB x 1) (nX (gD x 0) 4))
 (.ask (aA (bD .i64 ((iE (gD (eX (gD x 0) 4) (iO x 1)))-1)) (nE (gD (eX (gD x 0) 4) (iO x 1))))
 (.ask ((!(aD (vI (gE (gD (eX (gD x 0) 4) (iO x 1)) (Int.toNat (bD .i64 ((iE (gD (eX (gD x 0) 4) (iO x 1)))-1)))) 0) 27))&&(!(aD (vI (gE (gD (eX (gD x 0) 4) (iO x 1)) (Int.toNat (bD .i64 ((iE (gD (eX (gD x 0) 4) (iO x 1)))-1)))) 0) 28)))
 (.ret (.l []) [])
 (.loop 0 (let z0:=eX (gE (gD (eX (gD x 0) 4) (iO x 1)) (Int.toNat (bD .i64 ((iE (gD (eX (gD x 0) 4) (iO x 1)))-1)))) 6;[.l z0,.i 0,.i (iL z0),.s (D.toS (D.fld (gD x 0) 0)),.b (vB (gD x 0) 1),.l (eX (gD x 0) 2),.i (vI (gD x 0) 3),.l (eX (gD x 0) 4),.l []]) (.cons (λc=>
 .ret (aL c 0) [])
 .nil)))
 bA)
 bA)
 bA))
 bA
def HH(p:LD):Sh:=
 .ask (jN ((List.length (gL p 8))+1) 8)
 (.again [aL p 0,dK p 1,aI p 2,aS p 3,aB p 4,aL p 5,aI p 6,aL p 7,.l ((gL p 8)++[.i (D.toI (gD (gL p 0) (tI p 1)))])])
 bA
def tF(p:LD):Sh:=
 .ask (aT (gI p 1) (gI p 2))
 (.ask (aA (gI p 1) (List.length (gL p 0)))
 (.ask (((cX 0 (D.toI (gD (gL p 0) (tI p 1))))&&(aT (D.toI (gD (gL p 0) (tI p 1))) (iL (gL p 7))))&&true)
 (.call nN [aL p 8,.i (D.toI (gD (gL p 0) (tI p 1)))] 0 λc _=>
 .ask (((cX 0 (D.toI (gD (gL p 0) (tI p 1))))&&(aT (D.toI (gD (gL p 0) (tI p 1))) (iL (gL p 7))))&&(!(D.toB c)))
 (HH p)
 (.again [aL p 0,dK p 1,aI p 2,aS p 3,aB p 4,aL p 5,aI p 6,aL p 7,aL p 8]))
 (.ask (((cX 0 (D.toI (gD (gL p 0) (tI p 1))))&&(aT (D.toI (gD (gL p 0) (tI p 1))) (iL (gL p 7))))&&(!(D.toB (.i 0))))
 (HH p)
 (.again [aL p 0,dK p 1,aI p 2,aS p 3,aB p 4,aL p 5,aI p 6,aL p 7,aL p 8])))
 bA)
 (.out (0,[aL p 8]))
def Bl(x:LD):Sh:=
 .ask (!(aD (iE (gD x 1)) (iE (gD x 2))))
 (.ret (.b false) [])
 (.loop 0 [.l (D.els (gD x 0)),.i (iE (gD x 1)),.l (D.els (gD x 2)),.i 0,.l (D.els (gD x 1))] (.cons (λc=>
 .ret (aB c 0) [])
 (.cons (λc=>
 .ret (.b true) [])
 .nil)))
def BE(p:LD):Sh:=
 .ask (aT (gI p 3) (gI p 1))
 (.ask (aA (gI p 3) (List.length (gL p 4)))
 (.ask (aA (D.toI (gD (gL p 4) (tI p 3))) (List.length (gL p 0)))
 (.ask (aA (gI p 3) (List.length (gL p 2)))
 (.ask (!(aD (D.toI (gD (gL p 0) (Int.toNat (D.toI (gD (gL p 4) (tI p 3)))))) (D.toI (gD (gL p 2) (tI p 3)))))
 (.out (0,[.b false]))
 (.again [aL p 0,aI p 1,aL p 2,dK p 3,aL p 4]))
 bA)
 bA)
 bA)
 (.out (1,[]))
def HI(x:LD):Sh:=
 .ask ((cX 0 (iE (gD x 0)))&&((aD (iE (gD x 0)) (iE (gD x 0)))&&(jN (Int.toNat (iE (gD x 0))) 1)))
 (.ask (!(aD (dB x 1) 0))
 (.ask (aA 0 (List.length (List.replicate (nE (gD x 0)) (D.b false))))
 (.ask (jN (0+1) 8)
 (.loop 0 [.l (D.els (gD x 0)),.i (dB x 1),.l (List.set (List.replicate (nE (gD x 0)) (D.b false)) 0 (D.b true)),.l [.i 0]] (.cons (λc=>
 .ret (aL c 0) [])
 .nil))
 bA)
 bA)
 (.loop 0 [.l (D.els (gD x 0)),.i (dB x 1),.l (List.replicate (nE (gD x 0)) (D.b false)),.l []] (.cons (λc=>
 .ret (aL c 0) [])
 .nil)))
 bA
def pT(p:LD):Sh:=
 .ask (aT 0 (iL (gL p 3)))
 (.ask (aA (bD .i64 ((iL (gL p 3))-1)) (List.length (gL p 3)))
 (.ask (kT 0 (bD .i64 ((iL (gL p 3))-1)) (iL (gL p 3)))
 (.ask (aA (D.toI (gD (gL p 3) (Int.toNat (bD .i64 ((iL (gL p 3))-1))))) (List.length (gL p 0)))
 (.loop 2 (let z0:=D.els (gD (gL p 0) (Int.toNat (D.toI (gD (gL p 3) (Int.toNat (bD .i64 ((iL (gL p 3))-1)))))));[aL p 0,aI p 1,.i 0,.l z0,.i (iL z0),aL p 2,.l (List.drop 0 (List.take (Int.toNat (bD .i64 ((iL (gL p 3))-1))) (gL p 3)))]) (.cons (λc=>
 .again [aL c 0,aI c 1,aL c 2,aL c 3])
 .nil))
 bA)
 bA)
 bA)
 (.out (0,[aL p 2]))
def kW(p:LD):Sh:=
 .ask (aT (gI p 2) (gI p 4))
 (.ask (aA (gI p 2) (List.length (gL p 3)))
 (.ask ((!((!(aD (D.toI (gD (gL p 3) (tI p 2))) (gI p 1)))&&true))||(aA (D.toI (gD (gL p 3) (tI p 2))) (List.length (gL p 5))))
 (.ask ((!(aD (D.toI (gD (gL p 3) (tI p 2))) (gI p 1)))&&(!(D.toB (gD (gL p 5) (Int.toNat (D.toI (gD (gL p 3) (tI p 2))))))))
 (.ask (aA (D.toI (gD (gL p 3) (tI p 2))) (List.length (gL p 5)))
 (.ask (jN ((List.length (gL p 6))+1) 8)
 (.again [aL p 0,aI p 1,dK p 2,aL p 3,aI p 4,.l (List.set (gL p 5) (Int.toNat (D.toI (gD (gL p 3) (tI p 2)))) (D.b true)),.l ((gL p 6)++[.i (D.toI (gD (gL p 3) (tI p 2)))])])
 bA)
 bA)
 (.again [aL p 0,aI p 1,dK p 2,aL p 3,aI p 4,aL p 5,aL p 6]))
 bA)
 bA)
 (.out (0,[aL p 0,aI p 1,aL p 5,aL p 6]))
def lK(x:LD):Sh:=
 .ask ((((aT 14 (iX (gD x 0) 0))||(aT 14 (iX (gD x 0) 1)))||(aT 8 (iX (gD x 0) 2)))||(aT 26 (iX (gD x 0) 3)))
 (.ret (.b false) [])
 (.loop 0 [.i 0,.l (eX (gD x 0) 0),.l (eX (gD x 0) 1),.l (eX (gD x 0) 2),.l (eX (gD x 0) 3)] (.cons (λc=>
 .ret (aB c 0) [])
 (.cons (λc=>
 .loop 2 [.i 0,aL c 0,aL c 1,aL c 2,aL c 3] (.cons (λd=>
 .ret (aB d 0) [])
 (.cons (λd=>
 .loop 4 [.i 0,aL d 0,aL d 1,aL d 2,aL d 3] (.cons (λe=>
 .ret (aB e 0) [])
 (.cons (λe=>
 .loop 6 [.i 0,.i 0,aL e 0,aL e 1,aL e 2,aL e 3] (.cons (λf=>
 .ret (aB f 0) [])
 (.cons (λf=>
 .ret (.b (cX (gI f 0) 160)) [])
 .nil)))
 .nil)))
 .nil)))
 .nil)))
def mI(p:LD):Sh:=
 .ask (aT (gI p 0) (iL (gL p 1)))
 (.ask (aA (gI p 0) (List.length (gL p 1)))
 (.ask ((!(!(aT 40 (iL (D.toS (D.fld (gD (gL p 1) (tI p 0)) 0))))))||(aA (gI p 0) (List.length (gL p 1))))
 (.ask ((aT 40 (iL (D.toS (D.fld (gD (gL p 1) (tI p 0)) 0))))||(aT 10 (iX (gD (gL p 1) (tI p 0)) 1)))
 (.out (0,[.b false,aL p 1,aL p 2,aL p 3,aL p 4]))
 (.again [dK p 0,aL p 1,aL p 2,aL p 3,aL p 4]))
 bA)
 bA)
 (.out (1,[aL p 1,aL p 2,aL p 3,aL p 4]))
def mJ(p:LD):Sh:=
 .ask (aT (gI p 0) (iL (gL p 2)))
 (.ask (aA (gI p 0) (List.length (gL p 2)))
 (.ask ((!(!(aT 40 (iL (D.toS (D.fld (gD (gL p 2) (tI p 0)) 0))))))||(aA (gI p 0) (List.length (gL p 2))))
 (.ask ((aT 40 (iL (D.toS (D.fld (gD (gL p 2) (tI p 0)) 0))))||(aT 20 (iX (gD (gL p 2) (tI p 0)) 1)))
 (.out (0,[.b false,aL p 1,aL p 2,aL p 3,aL p 4]))
 (.again [dK p 0,aL p 1,aL p 2,aL p 3,aL p 4]))
 bA)
 bA)
 (.out (1,[aL p 1,aL p 2,aL p 3,aL p 4]))
def mK(p:LD):Sh:=
 .ask (aT (gI p 0) (iL (gL p 3)))
 (.ask (aA (gI p 0) (List.length (gL p 3)))
 (.ask ((!(!(aT 40 (iL (D.toS (D.fld (gD (gL p 3) (tI p 0)) 0))))))||(aA (gI p 0) (List.length (gL p 3))))
 (.ask ((aT 40 (iL (D.toS (D.fld (gD (gL p 3) (tI p 0)) 0))))||(aT 16 (iX (gD (gL p 3) (tI p 0)) 1)))
 (.out (0,[.b false,aL p 1,aL p 2,aL p 3,aL p 4]))
 (.again [dK p 0,aL p 1,aL p 2,aL p 3,aL p 4]))
 bA)
 bA)
 (.out (1,[aL p 1,aL p 2,aL p 3,aL p 4]))
def mL(p:LD):Sh:=
 .ask (aT (gI p 0) (iL (gL p 5)))
 (.ask (aA (gI p 0) (List.length (gL p 5)))
 (.call TU [GN (gD (gL p 5) (tI p 0))] 0 λc _=>
 .ask (!(D.toB c))
 (.out (0,[.b false,aI p 1]))
 (.ask (aA (gI p 0) (List.length (gL p 5)))
 (.call Hd [GN (gD (gL p 5) (tI p 0))] 0 λd _=>
 .again [dK p 0,.i (bJ .i64 (gI p 1) (D.toI d)),aL p 2,aL p 3,aL p 4,aL p 5])
 bA))
 bA)
 (.out (1,[aI p 1]))
def UD(x:LD):Sh:=
 .ask ((!(aD (vI (gD x 2) 0) 20))&&(!(aD (vI (gD x 2) 0) 21)))
 (.ret (.b false) [])
 (.ask (aA 0 (nX (gD x 2) 5))
 (.ask (aA (D.toI (gD (eX (gD x 2) 5) 0)) (nE (gD x 4)))
 (.ask ((!(!(!(aD (vI (gE (gD x 4) (Int.toNat (D.toI (gD (eX (gD x 2) 5) 0)))) 0) 1))))||(aA (D.toI (gD (eX (gD x 2) 5) 0)) (nE (gD x 3))))
 (.ask ((!(aD (vI (gE (gD x 4) (Int.toNat (D.toI (gD (eX (gD x 2) 5) 0)))) 0) 1))||(!(aD (iE (gE (gD x 3) (Int.toNat (D.toI (gD (eX (gD x 2) 5) 0))))) 1)))
 (.ret (.b false) [])
 (.ask (aA (D.toI (gD (eX (gD x 2) 5) 0)) (nE (gD x 3)))
 (.ask (aA 0 (nE (gE (gD x 3) (Int.toNat (D.toI (gD (eX (gD x 2) 5) 0))))))
 (.ask (aD (vI (gE (gE (gD x 3) (Int.toNat (D.toI (gD (eX (gD x 2) 5) 0)))) 0) 0) 2)
 (.ask (aA (D.toI (gD (eX (gD x 2) 5) 0)) (nE (gD x 3)))
 (.ask (aA 0 (nE (gE (gD x 3) (Int.toNat (D.toI (gD (eX (gD x 2) 5) 0))))))
 (.call XX [GN (gD x 1),.i (vI (gE (gE (gD x 3) (Int.toNat (D.toI (gD (eX (gD x 2) 5) 0)))) 0) 1)] 0 λc _=>
 .ask (aA (vI c 0) (nX (gD x 1) 4))
 (.ask (aA (vI c 1) (nE (gD (eX (gD x 1) 4) (Int.toNat (vI c 0)))))
 (.ask (aA (D.toI (gD (eX (gD x 2) 5) 0)) (nE (gD x 4)))
 (.ask ((!((cX 0 (vI (gE (gD x 4) (Int.toNat (D.toI (gD (eX (gD x 2) 5) 0)))) 1))&&true))||(aA (D.toI (gD (eX (gD x 2) 5) 0)) (nE (gD x 4))))
 (let z0:=vI (gE (gD x 4) (Int.toNat (D.toI (gD (eX (gD x 2) 5) 0)))) 1;.ret (D.b ((cX 0 z0)&&(aT z0 (vI (gE (gD (eX (gD x 1) 4) (Int.toNat (vI c 0))) (Int.toNat (vI c 1))) 4)))) [])
 bA)
 bA)
 bA)
 bA)
 bA)
 bA)
 (.ask (aD (vI (gE (gE (gD x 3) (Int.toNat (D.toI (gD (eX (gD x 2) 5) 0)))) 0) 0) 3)
 (.ask (aA (D.toI (gD (eX (gD x 2) 5) 0)) (nE (gD x 3)))
 (.ask (aA 0 (nE (gE (gD x 3) (Int.toNat (D.toI (gD (eX (gD x 2) 5) 0))))))
 (.ask (aA (vI (gE (gE (gD x 3) (Int.toNat (D.toI (gD (eX (gD x 2) 5) 0)))) 0) 1) (nX (gD x 0) 1))
 (.ask (aA (D.toI (gD (eX (gD x 2) 5) 0)) (nE (gD x 4)))
 (.ask ((!((cX 0 (vI (gE (gD x 4) (Int.toNat (D.toI (gD (eX (gD x 2) 5) 0)))) 1))&&true))||(aA (D.toI (gD (eX (gD x 2) 5) 0)) (nE (gD x 4))))
 (let z0:=vI (gE (gD x 4) (Int.toNat (D.toI (gD (eX (gD x 2) 5) 0)))) 1;.ret (D.b ((cX 0 z0)&&(aT z0 (iX (gD (eX (gD x 0) 1) (Int.toNat (vI (gE (gE (gD x 3) (Int.toNat (D.toI (gD (eX (gD x 2) 5) 0)))) 0) 1))) 1)))) [])
 bA)
 bA)
 bA)
 bA)
 bA)
 (.ask (aA (D.toI (gD (eX (gD x 2) 5) 0)) (nE (gD x 4)))
 (.ask ((!((cX 0 (vI (gE (gD x 4) (Int.toNat (D.toI (gD (eX (gD x 2) 5) 0)))) 1))&&true))||(aA (D.toI (gD (eX (gD x 2) 5) 0)) (nE (gD x 4))))
 (let z0:=vI (gE (gD x 4) (Int.toNat (D.toI (gD (eX (gD x 2) 5) 0)))) 1;.ret (D.b ((cX 0 z0)&&(aT z0 0))) [])
 bA)
 bA)))
 bA)
 bA))
 bA)
 bA)
 bA)
def OE(x:LD):Sh:=
 .call QI [GN (gD x 0)] 0 λc _=>
 .ask ((cX 0 (iE c))&&((aD (iE c) (iE c))&&(jN (Int.toNat (iE c)) 1)))
 (.loop 0 [.i 0,.s (D.toS (D.fld (gD x 0) 0)),.b (vB (gD x 0) 1),.l (eX (gD x 0) 2),.i (vI (gD x 0) 3),.l (eX (gD x 0) 4),.l (List.replicate (nE c) (D.b false)),.l (D.els c)] (.cons (λd=>
 .ret (aL d 0) [])
 .nil))
 bA
def tG(p:LD):Sh:=
 .ask (aT (gI p 0) (iL (gL p 5)))
 (.loop 2 [aI p 0,.i 0,aS p 1,aB p 2,aL p 3,aI p 4,aL p 5,aL p 6,aL p 7] (.cons (λc=>
 .again [dK c 0,aS c 1,aB c 2,aL c 3,aI c 4,aL c 5,aL c 6,aL c 7])
 .nil))
 (.out (0,[aL p 6]))
def tH(p:LD):Sh:=
 .ask (aA (gI p 0) (List.length (gL p 6)))
 (.ask (aT (gI p 1) (iE (gD (gL p 6) (tI p 0))))
 (.ask (aA (gI p 0) (List.length (gL p 6)))
 (.ask (aA (gI p 1) (nE (gD (gL p 6) (tI p 0))))
 (.ask ((!(aD (vI (gE (gD (gL p 6) (tI p 0)) (tI p 1)) 0) 22))&&(!(aD (vI (gE (gD (gL p 6) (tI p 0)) (tI p 1)) 0) 25)))
 (.again [aI p 0,dK p 1,aS p 2,aB p 3,aL p 4,aI p 5,aL p 6,aL p 7,aL p 8])
 (.loop 4 [aI p 0,.i 0,aI p 1,aS p 2,aB p 3,aL p 4,aI p 5,aL p 6,.i (vI (gE (gD (gL p 6) (tI p 0)) (tI p 1)) 0),.i (vI (gE (gD (gL p 6) (tI p 0)) (tI p 1)) 1),.i (vI (gE (gD (gL p 6) (tI p 0)) (tI p 1)) 2),.i (vI (gE (gD (gL p 6) (tI p 0)) (tI p 1)) 3),.i (vI (gE (gD (gL p 6) (tI p 0)) (tI p 1)) 4),.l (eX (gE (gD (gL p 6) (tI p 0)) (tI p 1)) 5),.l (eX (gE (gD (gL p 6) (tI p 0)) (tI p 1)) 6),aL p 7,aL p 8] (.cons (λc=>
 .again [aI c 0,dK c 1,aS c 2,aB c 3,aL c 4,aI c 5,aL c 6,aL c 7,aL c 8])
 .nil)))
 bA)
 bA)
 (.out (0,[aI p 0,aS p 2,aB p 3,aL p 4,aI p 5,aL p 6,aL p 7,aL p 8])))
 bA
def tJ(p:LD):Sh:=
 .ask (aT (gI p 1) (iL (gL p 13)))
 (.ask (aA (gI p 1) (List.length (gL p 13)))
 (.ask (aA (D.toI (gD (gL p 13) (tI p 1))) (List.length (gL p 16)))
 (.loop 6 [aI p 0,.i (Int.ofNat (Int.toNat (D.toI (gD (gL p 13) (tI p 1))))),aI p 1,aI p 2,.i 0,aS p 3,aB p 4,aL p 5,aI p 6,aL p 7,aI p 8,aI p 9,aI p 10,aI p 11,aI p 12,aL p 13,aL p 14,aL p 15,aL p 16] (.cons (λc=>
 .again [aI c 0,dK c 1,aI c 2,aS c 3,aB c 4,aL c 5,aI c 6,aL c 7,aI c 8,aI c 9,aI c 10,aI c 11,aI c 12,aL c 13,aL c 14,aL c 15,aL c 16])
 .nil))
 bA)
 bA)
 (.out (0,[aI p 0,aI p 2,aS p 3,aB p 4,aL p 5,aI p 6,aL p 7,aL p 15,aL p 16]))
def tK(p:LD):Sh:=
 .ask (aT (gI p 4) (iE (gD (gL p 18) (gN p 1))))
 (.ask (aA (gI p 4) (nE (gD (gL p 18) (gN p 1))))
 (.ask (aD (vI (gE (gD (gL p 18) (gN p 1)) (tI p 4)) 0) 2)
 (.ask (aA (gI p 4) (nE (gD (gL p 18) (gN p 1))))
 (.ask (aA (vI (gE (gD (gL p 18) (gN p 1)) (tI p 4)) 1) (List.length (gL p 17)))
 (.again [aI p 0,aN p 1,aI p 2,aI p 3,dK p 4,aS p 5,aB p 6,aL p 7,aI p 8,aL p 9,aI p 10,aI p 11,aI p 12,aI p 13,aI p 14,aL p 15,aL p 16,.l (List.set (gL p 17) (Int.toNat (vI (gE (gD (gL p 18) (gN p 1)) (tI p 4)) 1)) (D.b true)),aL p 18])
 bA)
 bA)
 (.again [aI p 0,aN p 1,aI p 2,aI p 3,dK p 4,aS p 5,aB p 6,aL p 7,aI p 8,aL p 9,aI p 10,aI p 11,aI p 12,aI p 13,aI p 14,aL p 15,aL p 16,aL p 17,aL p 18]))
 bA)
 (.out (0,[aI p 0,aI p 2,aI p 3,aS p 5,aB p 6,aL p 7,aI p 8,aL p 9,aI p 10,aI p 11,aI p 12,aI p 13,aI p 14,aL p 15,aL p 16,aL p 17,aL p 18]))
def OF(x:LD):Sh:=
 .ask ((((aT 24 (iX (gD x 0) 3))||(aT 12 (iX (gD x 0) 0)))||(aT 12 (iX (gD x 0) 1)))||(aT 6 (iX (gD x 0) 2)))
 (.ret (.b false) [])
 (.loop 0 [.i 0,.l (eX (gD x 0) 0),.l (eX (gD x 0) 1),.l (eX (gD x 0) 2),.l (eX (gD x 0) 3)] (.cons (λc=>
 .ret (aB c 0) [])
 (.cons (λc=>
 .loop 2 [.i 0,aL c 0,aL c 1,aL c 2,aL c 3] (.cons (λd=>
 .ret (aB d 0) [])
 (.cons (λd=>
 .loop 4 [.i 0,aL d 0,aL d 1,aL d 2,aL d 3] (.cons (λe=>
 .ret (aB e 0) [])
 (.cons (λe=>
 .loop 6 [.i 0,aL e 0,aL e 1,aL e 2,aL e 3] (.cons (λf=>
 .ret (aB f 0) [])
 (.cons (λf=>
 .ret (.b true) [])
 .nil)))
 .nil)))
 .nil)))
 .nil)))
def nQ(p:LD):Sh:=
 .ask (aT (gI p 0) (iL (gL p 1)))
 (.ask (aA (gI p 0) (List.length (gL p 1)))
 (.ask (aT 5 (iX (gD (gL p 1) (tI p 0)) 1))
 (.out (0,[.b false,aL p 1,aL p 2,aL p 3,aL p 4]))
 (.again [dK p 0,aL p 1,aL p 2,aL p 3,aL p 4]))
 bA)
 (.out (1,[aL p 1,aL p 2,aL p 3,aL p 4]))
def nR(p:LD):Sh:=
 .ask (aT (gI p 0) (iL (gL p 2)))
 (.ask (aA (gI p 0) (List.length (gL p 2)))
 (.ask ((aT (iX (gD (gL p 2) (tI p 0)) 1) 1)||(aT 16 (iX (gD (gL p 2) (tI p 0)) 1)))
 (.out (0,[.b false,aL p 1,aL p 2,aL p 3,aL p 4]))
 (.again [dK p 0,aL p 1,aL p 2,aL p 3,aL p 4]))
 bA)
 (.out (1,[aL p 1,aL p 2,aL p 3,aL p 4]))
def nS(p:LD):Sh:=
 .ask (aT (gI p 0) (iL (gL p 3)))
 (.ask (aA (gI p 0) (List.length (gL p 3)))
 (.ask ((aT (iX (gD (gL p 3) (tI p 0)) 1) 1)||(aT 12 (iX (gD (gL p 3) (tI p 0)) 1)))
 (.out (0,[.b false,aL p 1,aL p 2,aL p 3,aL p 4]))
 (.again [dK p 0,aL p 1,aL p 2,aL p 3,aL p 4]))
 bA)
 (.out (1,[aL p 1,aL p 2,aL p 3,aL p 4]))
def nT(p:LD):Sh:=
 .ask (aT (gI p 0) (iL (gL p 4)))
 (.ask (aA (gI p 0) (List.length (gL p 4)))
 (.ask (!(((aT 5 (iX (gD (gL p 4) (tI p 0)) 2))||(aT (iX (gD (gL p 4) (tI p 0)) 4) 1))||(aT 40 (iX (gD (gL p 4) (tI p 0)) 4))))
 (.call Hd [GN (gD (gL p 4) (tI p 0))] 0 λc _=>
 .ask ((((aT 5 (iX (gD (gL p 4) (tI p 0)) 2))||(aT (iX (gD (gL p 4) (tI p 0)) 4) 1))||(aT 40 (iX (gD (gL p 4) (tI p 0)) 4)))||(aT 300 (D.toI c)))
 (.out (0,[.b false]))
 (.again [dK p 0,aL p 1,aL p 2,aL p 3,aL p 4]))
 (.ask ((((aT 5 (iX (gD (gL p 4) (tI p 0)) 2))||(aT (iX (gD (gL p 4) (tI p 0)) 4) 1))||(aT 40 (iX (gD (gL p 4) (tI p 0)) 4)))||(aT 300 0))
 (.out (0,[.b false]))
 (.again [dK p 0,aL p 1,aL p 2,aL p 3,aL p 4])))
 bA)
 (.out (1,[]))
def UE(x:LD):Sh:=
 .loop 0 [.i 0,.s (D.toS (D.fld (gD x 0) 0)),.b (vB (gD x 0) 1),.l (eX (gD x 0) 2),.i (vI (gD x 0) 3),.l (eX (gD x 0) 4)] (.cons (λc=>
 .ret (aB c 0) [])
 (.cons (λc=>
 .call XY [.l [aS c 0,aB c 1,aL c 2,aI c 3,aL c 4]] 0 λe _=>
 .call Uo [.l [aS c 0,aB c 1,aL c 2,aI c 3,aL c 4]] 0 λf _=>
 .loop 6 [.i 0,aS c 0,aB c 1,aL c 2,aI c 3,aL c 4,.l (D.els e),.l (D.els f)] (.cons (λd=>
 .ret (aB d 0) [])
 (.cons (λd=>
 .ret (.b true) [])
 .nil)))
 .nil))
def wX(p:LD):Sh:=
 .ask (aT (gI p 0) (iL (gL p 5)))
 (.ask (aA (gI p 0) (List.length (gL p 5)))
 (.ask (aD (iE (gD (gL p 5) (tI p 0))) 0)
 (.out (0,[.b false,aS p 1,aB p 2,aL p 3,aI p 4,aL p 5]))
 (.loop 2 [aI p 0,.i 0,.l (D.els (gD (gL p 5) (tI p 0))),aS p 1,aB p 2,aL p 3,aI p 4,aL p 5] (.cons (λc=>
 .out (0,[aB c 1,aS c 3,aB c 4,aL c 5,aI c 6,aL c 7]))
 (.cons (λc=>
 .ask (aA (bD .i64 ((iL (gL c 1))-1)) (List.length (gL c 1)))
 (.loop 4 [aI c 0,.i 0,aS c 2,aB c 3,aL c 4,aI c 5,aL c 6,.i (vI (gD (gL c 1) (Int.toNat (bD .i64 ((iL (gL c 1))-1)))) 0),.i (vI (gD (gL c 1) (Int.toNat (bD .i64 ((iL (gL c 1))-1)))) 1),.i (vI (gD (gL c 1) (Int.toNat (bD .i64 ((iL (gL c 1))-1)))) 2),.i (vI (gD (gL c 1) (Int.toNat (bD .i64 ((iL (gL c 1))-1)))) 3),.i (vI (gD (gL c 1) (Int.toNat (bD .i64 ((iL (gL c 1))-1)))) 4),.l (eX (gD (gL c 1) (Int.toNat (bD .i64 ((iL (gL c 1))-1)))) 5),.l (eX (gD (gL c 1) (Int.toNat (bD .i64 ((iL (gL c 1))-1)))) 6)] (.cons (λd=>
 .out (0,[aB d 1,aS d 2,aB d 3,aL d 4,aI d 5,aL d 6]))
 (.cons (λd=>
 .ask ((!((aD (gI d 6) 28)&&true))||(aA 0 (List.length (gL d 12))))
 (.ask ((!((aD (gI d 6) 28)&&true))||(aA 1 (List.length (gL d 12))))
 (.ask ((aD (gI d 6) 28)&&(aD (D.toI (gD (gL d 12) 0)) (D.toI (gD (gL d 12) 1))))
 (.out (0,[.b false,aS d 1,aB d 2,aL d 3,aI d 4,aL d 5]))
 (.again [dK d 0,aS d 1,aB d 2,aL d 3,aI d 4,aL d 5]))
 bA)
 bA)
 .nil)))
 bA)
 .nil))))
 bA)
 (.out (1,[aS p 1,aB p 2,aL p 3,aI p 4,aL p 5]))
def wY(p:LD):Sh:=
 .ask (aT (gI p 1) (iL (gL p 2)))
 (.ask (aA (gI p 1) (List.length (gL p 2)))
 (.call CS [.i (vI (gD (gL p 2) (tI p 1)) 0)] 0 λc _=>
 .ask ((!((!(!(bif D.toB c then aD (gI p 1) (bD .i64 ((iL (gL p 2))-1))else !(aD (gI p 1) (bD .i64 ((iL (gL p 2))-1))))))&&((aT 0 (gI p 1))&&true)))||(aA (gI p 1) (List.length (gL p 2))))
 (.ask ((!((!(!(bif D.toB c then aD (gI p 1) (bD .i64 ((iL (gL p 2))-1))else !(aD (gI p 1) (bD .i64 ((iL (gL p 2))-1))))))&&(((aT 0 (gI p 1))&&(aD (vI (gD (gL p 2) (tI p 1)) 0) 26))&&true)))||(aA (bD .i64 ((gI p 1)-1)) (List.length (gL p 2))))
 (.ask ((!(bif D.toB c then aD (gI p 1) (bD .i64 ((iL (gL p 2))-1))else !(aD (gI p 1) (bD .i64 ((iL (gL p 2))-1)))))||(((aT 0 (gI p 1))&&(aD (vI (gD (gL p 2) (tI p 1)) 0) 26))&&(!(aD (vI (gD (gL p 2) (Int.toNat (bD .i64 ((gI p 1)-1)))) 0) 26))))
 (.out (0,[aI p 0,.b false,aL p 2,aS p 3,aB p 4,aL p 5,aI p 6,aL p 7]))
 (.again [aI p 0,dK p 1,aL p 2,aS p 3,aB p 4,aL p 5,aI p 6,aL p 7]))
 bA)
 bA)
 bA)
 (.out (1,[aI p 0,aL p 2,aS p 3,aB p 4,aL p 5,aI p 6,aL p 7]))
def wZ(p:LD):Sh:=
 .ask (aT (gI p 1) (iL (gL p 13)))
 (.ask (aA (gI p 1) (List.length (gL p 13)))
 (.ask ((!(!(aT (D.toI (gD (gL p 13) (tI p 1))) 1)))||(aA (gI p 1) (List.length (gL p 13))))
 (.ask ((aT (D.toI (gD (gL p 13) (tI p 1))) 1)||(cX (iL (gL p 6)) (D.toI (gD (gL p 13) (tI p 1)))))
 (.out (0,[aI p 0,.b false,aS p 2,aB p 3,aL p 4,aI p 5,aL p 6,aI p 7,aI p 8,aI p 9,aI p 10,aI p 11,aL p 12,aL p 13]))
 (.again [aI p 0,dK p 1,aS p 2,aB p 3,aL p 4,aI p 5,aL p 6,aI p 7,aI p 8,aI p 9,aI p 10,aI p 11,aL p 12,aL p 13]))
 bA)
 bA)
 (.out (1,[aI p 0,aS p 2,aB p 3,aL p 4,aI p 5,aL p 6,aI p 7,aI p 8,aI p 9,aI p 10,aI p 11,aL p 12,aL p 13]))
def xA(p:LD):Sh:=
 .ask (aT (gI p 0) (iL (gL p 5)))
 (.ask (aA (gI p 0) (List.length (gL p 6)))
 (.ask (!(D.toB (gD (gL p 6) (tI p 0))))
 (.out (0,[.b false]))
 (.ask (aA (gI p 0) (List.length (gL p 5)))
 (.loop 8 [.l (D.els (gD (gL p 5) (tI p 0))),.i 0,aI p 0,aS p 1,aB p 2,aL p 3,aI p 4,aL p 5,aL p 6,aL p 7] (.cons (λc=>
 .out (0,[aB c 0]))
 (.cons (λc=>
 .again [dK c 0,aS c 1,aB c 2,aL c 3,aI c 4,aL c 5,aL c 6,aL c 7])
 .nil)))
 bA))
 bA)
 (.out (1,[]))
def xB(p:LD):Sh:=
 .ask (aT (gI p 1) (iL (gL p 0)))
 (.ask (aA (gI p 1) (List.length (gL p 0)))
 (.ask ((!(((aD (vI (gD (gL p 0) (tI p 1)) 0) 26)&&true)&&(!(aD (gI p 2) 0))))||(aA (gI p 1) (List.length (gL p 0))))
 (.ask ((!(((aD (vI (gD (gL p 0) (tI p 1)) 0) 26)&&true)&&(!(aD (gI p 2) 0))))||(aA (gI p 2) (List.length (gL p 9))))
 (.ask (((aD (vI (gD (gL p 0) (tI p 1)) 0) 26)&&true)&&(!(aD (gI p 2) 0)))
 (.call QK [.l (eX (gD (gL p 0) (tI p 1)) 6),.l (D.els (gD (gL p 9) (tI p 2)))] 0 λc _=>
 .ask ((aD (vI (gD (gL p 0) (tI p 1)) 0) 26)&&((aD (gI p 2) 0)||(!(D.toB c))))
 (.out (0,[.b false,aI p 2,aS p 3,aB p 4,aL p 5,aI p 6,aL p 7,aL p 8,aL p 9]))
 (.again [aL p 0,dK p 1,aI p 2,aS p 3,aB p 4,aL p 5,aI p 6,aL p 7,aL p 8,aL p 9]))
 (.ask ((aD (vI (gD (gL p 0) (tI p 1)) 0) 26)&&((aD (gI p 2) 0)||(!(D.toB (.i 0)))))
 (.out (0,[.b false,aI p 2,aS p 3,aB p 4,aL p 5,aI p 6,aL p 7,aL p 8,aL p 9]))
 (.again [aL p 0,dK p 1,aI p 2,aS p 3,aB p 4,aL p 5,aI p 6,aL p 7,aL p 8,aL p 9])))
 bA)
 bA)
 bA)
 (.out (1,[aI p 2,aS p 3,aB p 4,aL p 5,aI p 6,aL p 7,aL p 8,aL p 9]))
def iU(x:LD):Sh:=
 .ask (Ga (D.els (gD x 0)))
 bA
 (.ask false
 (.ret (.l []) [])
 (.ask (jN (0+(nE (gD x 0))) 16)
 (.ret (.l (D.els (gD x 0))) [])
 bA))
def UF(x:LD):Sh:=
 .ask (jN (0+(nE (gD x 0))) 16)
 (.loop 0 [.l (D.els (gD x 1)),.i 0,.l (D.els (gD x 0))] (.cons (λc=>
 .ret (aL c 0) [])
 .nil))
 bA
def xC(p:LD):Sh:=
 .ask (aT (gI p 1) (iL (gL p 0)))
 (.ask (aA (gI p 1) (List.length (gL p 0)))
 (.call NW [aL p 2,.l [.i (vI (gD (gL p 0) (tI p 1)) 0),.i (vI (gD (gL p 0) (tI p 1)) 1)]] 0 λd _=>
 .ask (D.toB d)
 (.again [aL p 0,dK p 1,aL p 2])
 (.loop 2 [aL p 0,.i 0,aI p 1,aL p 2] (.cons (λc=>
 .ask ((cX 0 (gI c 1))&&(cX (gI c 1) (iL (gL c 3))))
 (.ask (aA (gI c 2) (List.length (gL c 0)))
 (.ask (kT (gI c 1) (iL (gL c 3)) (iL (gL c 3)))
 (.ask (jN (1+(List.length (List.drop (tI c 1) (List.take (List.length (gL c 3)) (gL c 3))))) 16)
 (.ask (Nat.ble (tI c 1) (List.length (gL c 3)))
 (.ask (jN ((List.length (List.take (tI c 1) (gL c 3)))+(List.length ([.l [.i (vI (gD (gL c 0) (tI c 2)) 0),.i (vI (gD (gL c 0) (tI c 2)) 1)]]++(List.drop (tI c 1) (List.take (List.length (gL c 3)) (gL c 3)))))) 16)
 (.again [aL c 0,dK c 2,.l ((List.take (tI c 1) (gL c 3))++([.l [.i (vI (gD (gL c 0) (tI c 2)) 0),.i (vI (gD (gL c 0) (tI c 2)) 1)]]++(List.drop (tI c 1) (List.take (List.length (gL c 3)) (gL c 3)))))])
 bA)
 bA)
 bA)
 bA)
 bA)
 bA)
 .nil)))
 bA)
 (.out (0,[aL p 2]))
def xD(p:LD):Sh:=
 .ask ((!((aT (gI p 1) (iL (gL p 3)))&&true))||(aA (gI p 1) (List.length (gL p 3))))
 (.ask ((!((aT (gI p 1) (iL (gL p 3)))&&true))||(aA (gI p 2) (List.length (gL p 0))))
 (.ask ((!(((aT (gI p 1) (iL (gL p 3)))&&true)&&(!(aT (vI (gD (gL p 3) (tI p 1)) 0) (vI (gD (gL p 0) (tI p 2)) 0)))))||(aA (gI p 1) (List.length (gL p 3))))
 (.ask ((!(((aT (gI p 1) (iL (gL p 3)))&&true)&&(!(aT (vI (gD (gL p 3) (tI p 1)) 0) (vI (gD (gL p 0) (tI p 2)) 0)))))||(aA (gI p 2) (List.length (gL p 0))))
 (.ask ((!((((aT (gI p 1) (iL (gL p 3)))&&true)&&(!(aT (vI (gD (gL p 3) (tI p 1)) 0) (vI (gD (gL p 0) (tI p 2)) 0))))&&((aD (vI (gD (gL p 3) (tI p 1)) 0) (vI (gD (gL p 0) (tI p 2)) 0))&&true)))||(aA (gI p 1) (List.length (gL p 3))))
 (.ask ((!((((aT (gI p 1) (iL (gL p 3)))&&true)&&(!(aT (vI (gD (gL p 3) (tI p 1)) 0) (vI (gD (gL p 0) (tI p 2)) 0))))&&((aD (vI (gD (gL p 3) (tI p 1)) 0) (vI (gD (gL p 0) (tI p 2)) 0))&&true)))||(aA (gI p 2) (List.length (gL p 0))))
 (.ask ((aT (gI p 1) (iL (gL p 3)))&&((aT (vI (gD (gL p 3) (tI p 1)) 0) (vI (gD (gL p 0) (tI p 2)) 0))||((aD (vI (gD (gL p 3) (tI p 1)) 0) (vI (gD (gL p 0) (tI p 2)) 0))&&(aT (vI (gD (gL p 3) (tI p 1)) 1) (vI (gD (gL p 0) (tI p 2)) 1)))))
 (.again [aL p 0,dK p 1,aI p 2,aL p 3])
 (.out (0,[aL p 0,aI p 1,aI p 2,aL p 3])))
 bA)
 bA)
 bA)
 bA)
 bA)
 bA
def bZ(x:LD):Sh:=
 .ask (!(aD (vI (gD x 0) 0) 21))
 (.call CS [.i (vI (gD x 0) 0)] 0 λc _=>
 .ask (!(bif (aD (vI (gD x 0) 0) 21)||(D.toB c)then aD (vI (gD x 0) 1) 0 else !(aD (vI (gD x 0) 1) 0)))
 (.ret (.b false) [])
 (.ret (.b (((aD (vI (gD x 0) 1) 0)&&(aD (vI (gD x 0) 2) 0))||((!(aD (vI (gD x 0) 1) 0))&&(cX 1 (vI (gD x 0) 2))))) []))
 (.ask (!(bif (aD (vI (gD x 0) 0) 21)||(D.toB (.i 0))then aD (vI (gD x 0) 1) 0 else !(aD (vI (gD x 0) 1) 0)))
 (.ret (.b false) [])
 (.ret (.b (((aD (vI (gD x 0) 1) 0)&&(aD (vI (gD x 0) 2) 0))||((!(aD (vI (gD x 0) 1) 0))&&(cX 1 (vI (gD x 0) 2))))) []))
def cA(x:LD):Sh:=
 .ask (aD (vI (gD x 0) 0) 18)
 (.ask ((aT (vI (gD x 0) 4) 1)||(aT 16 (vI (gD x 0) 4)))
 (.ret (.b false) [])
 (bZ x))
 (bZ x)
def cB(x:LD):Sh:=
 .ask (!(aD (vI (gD x 0) 0) 21))
 (.call CS [.i (vI (gD x 0) 0)] 0 λc _=>
 .ask (!(bif (aD (vI (gD x 0) 0) 21)||(D.toB c)then aD (vI (gD x 0) 1) 0 else !(aD (vI (gD x 0) 1) 0)))
 (.ret (.b false) [])
 (.ret (.b (((aD (vI (gD x 0) 1) 0)&&(aD (vI (gD x 0) 2) 0))||((!(aD (vI (gD x 0) 1) 0))&&(cX 1 (vI (gD x 0) 2))))) []))
 (.ask (!(bif (aD (vI (gD x 0) 0) 21)||(D.toB (.i 0))then aD (vI (gD x 0) 1) 0 else !(aD (vI (gD x 0) 1) 0)))
 (.ret (.b false) [])
 (.ret (.b (((aD (vI (gD x 0) 1) 0)&&(aD (vI (gD x 0) 2) 0))||((!(aD (vI (gD x 0) 1) 0))&&(cX 1 (vI (gD x 0) 2))))) []))
def cC(x:LD):Sh:=
 .ask (aT 5 (iX (gD x 0) 5))
 (.ret (.b false) [])
 (.ask (!(aD (vI (gD x 0) 0) 21))
 (.call CS [.i (vI (gD x 0) 0)] 0 λc _=>
 .ask false
 (.ret (.b false) [])
 (.ret (.b (((aD (vI (gD x 0) 1) 0)&&(aD (vI (gD x 0) 2) 0))||((!(aD (vI (gD x 0) 1) 0))&&(cX 1 (vI (gD x 0) 2))))) []))
 (.ask false
 (.ret (.b false) [])
 (.ret (.b (((aD (vI (gD x 0) 1) 0)&&(aD (vI (gD x 0) 2) 0))||((!(aD (vI (gD x 0) 1) 0))&&(cX 1 (vI (gD x 0) 2))))) [])))
def cV(x:LD):Sh:=
 .ask ((((aT (vI (gD x 0) 0) 1)||(aT 30 (vI (gD x 0) 0)))||(aT (vI (gD x 0) 1) 0))||(aT 4 (vI (gD x 0) 1)))
 (.ret (.b false) [])
 (.call QL [.i (vI (gD x 0) 0)] 0 λc _=>
 .ask (((((cX 0 (vI c 0))&&(!(aD (iX (gD x 0) 5) (vI c 0))))||((cX 0 (vI c 1))&&(!(aD (iX (gD x 0) 6) (vI c 1)))))||((!(vB c 2))&&(!(aD (vI (gD x 0) 3) 0))))||((!(vB c 3))&&(!(aD (vI (gD x 0) 4) 0))))
 (.ret (.b false) [])
 (.ask (aD (vI (gD x 0) 0) 26)
 (.ask ((aT (iX (gD x 0) 5) 1)||(!(aD (iX (gD x 0) 6) (iX (gD x 0) 5))))
 (.ret (.b false) [])
 (cB x))
 (.ask (aD (vI (gD x 0) 0) 29)
 (.ask (aT 1 (iX (gD x 0) 5))
 (.ret (.b false) [])
 (cB x))
 (.ask (aD (vI (gD x 0) 0) 25)
 (.ask ((aT (iX (gD x 0) 5) 1)||(aT 6 (iX (gD x 0) 5)))
 (.ret (.b false) [])
 (.ask (!(aD (vI (gD x 0) 0) 21))
 (.call CS [.i (vI (gD x 0) 0)] 0 λd _=>
 .ask false
 (.ret (.b false) [])
 (.ret (.b (((aD (vI (gD x 0) 1) 0)&&(aD (vI (gD x 0) 2) 0))||((!(aD (vI (gD x 0) 1) 0))&&(cX 1 (vI (gD x 0) 2))))) []))
 (.ask false
 (.ret (.b false) [])
 (.ret (.b (((aD (vI (gD x 0) 1) 0)&&(aD (vI (gD x 0) 2) 0))||((!(aD (vI (gD x 0) 1) 0))&&(cX 1 (vI (gD x 0) 2))))) []))))
 (.ask (aD (vI (gD x 0) 0) 22)
 (.ask (aD (vI (gD x 0) 0) 22)
 (cC x)
 (cA x))
 (.ask (aD (vI (gD x 0) 0) 23)
 (cC x)
 (cA x)))))))
def Bm(x:LD):Sh:=
 .ask (!(aD (iE (gD x 0)) (iE (gD x 1))))
 (.ret (.b false) [])
 (.loop 0 [.l (D.els (gD x 0)),.l (D.els (gD x 1)),.i 0] (.cons (λc=>
 .ret (aB c 0) [])
 (.cons (λc=>
 .ret (.b true) [])
 .nil)))
def BF(p:LD):Sh:=
 .ask (aT (gI p 2) (iL (gL p 0)))
 (.ask (aA (gI p 2) (List.length (gL p 0)))
 (.ask (aA (gI p 2) (List.length (gL p 1)))
 (.ask (!(aD (D.toI (gD (gL p 0) (tI p 2))) (D.toI (gD (gL p 1) (tI p 2)))))
 (.out (0,[.b false]))
 (.again [aL p 0,aL p 1,dK p 2]))
 bA)
 bA)
 (.out (1,[]))
def UG(x:LD):Sh:=
 .call Kr [pQ x] 0 λf _=>
 .ask (!(D.toB f))
 (.ret (.i 2) [])
 (.call Ax [pQ x] 0 λg _=>
 .ask (!(D.toB g))
 (.ret (.i 1) [])
 (.call Ks [pQ x] 0 λh _=>
 .ask (!(D.toB h))
 (.ret (.i 3) [])
 (.call Kt [pQ x] 0 λj _=>
 .ask (!(D.toB j))
 (.ret (.i 4) [])
 (.loop 1 [.i (iX (gD x 0) 3),.i 0,.l (eX (gD x 0) 3),.l (eX (gD x 0) 0),.l (eX (gD x 0) 1),.l (eX (gD x 0) 2),.l (eX (gD x 0) 3)] (.cons (λc=>
 .ret (aI c 0) [])
 (.cons (λc=>
 .loop 3 [.i 0,aL c 3,.i (iL (gL c 3)),aL c 0,aL c 1,aL c 2,aL c 3] (.cons (λd=>
 .ret (aI d 0) [])
 (.cons (λd=>
 .loop 5 [.i (iL (gL d 3)),aL d 3,.i 0,aL d 0,aL d 1,aL d 2,aL d 3] (.cons (λe=>
 .ret (aI e 0) [])
 (.cons (λe=>
 .ret (.i 0) [])
 .nil)))
 .nil)))
 .nil))))))
def xE(p:LD):Sh:=
 .ask (aT (gI p 1) (gI p 0))
 (.ask (aA (gI p 1) (List.length (gL p 2)))
 (.call YA [GN (gD (gL p 2) (tI p 1))] 0 λc _=>
 .ask (!(D.toB c))
 (.out (0,[.i 5,aL p 3,aL p 4,aL p 5,aL p 6]))
 (.again [aI p 0,dK p 1,aL p 2,aL p 3,aL p 4,aL p 5,aL p 6]))
 bA)
 (.out (1,[aL p 3,aL p 4,aL p 5,aL p 6]))
def xF(p:LD):Sh:=
 .ask (aT (gI p 0) (gI p 2))
 (.ask (aA (gI p 0) (List.length (gL p 1)))
 (.call Ur [GN (gD (gL p 1) (tI p 0))] 0 λc _=>
 .ask (!(D.toB c))
 (.out (0,[.i 6,aL p 3,aL p 4,aL p 5,aL p 6]))
 (.again [dK p 0,aL p 1,aI p 2,aL p 3,aL p 4,aL p 5,aL p 6]))
 bA)
 (.out (1,[aL p 3,aL p 4,aL p 5,aL p 6]))
def xG(p:LD):Sh:=
 .ask (aT (gI p 2) (gI p 0))
 (.ask (aA (gI p 2) (List.length (gL p 1)))
 (.call Ku [.l [aL p 3,aL p 4,aL p 5,aL p 6],GN (gD (gL p 1) (tI p 2))] 0 λc _=>
 .ask (!(D.toB c))
 (.out (0,[.i 7]))
 (.again [aI p 0,aL p 1,dK p 2,aL p 3,aL p 4,aL p 5,aL p 6]))
 bA)
 (.out (1,[]))
def OG(x:LD):Sh:=
 .call XX [GN (gD x 0),.i (dB x 1)] 0 λc _=>
 .ask ((!(!(aT (vI c 0) 0)))||(aA (vI c 0) (nX (gD x 0) 4)))
 (.ask ((!(!(aT (vI c 0) 0)))||(aA (vI c 1) (nE (gD (eX (gD x 0) 4) (Int.toNat (vI c 0))))))
 (.ask ((aT (vI c 0) 0)||(!(aD (vI (gE (gD (eX (gD x 0) 4) (Int.toNat (vI c 0))) (Int.toNat (vI c 1))) 0) 1)))
 (.ret (.l [.i 0,.b false]) [])
 (.ask (aA (vI c 0) (nX (gD x 0) 4))
 (.ask (aA (vI c 1) (nE (gD (eX (gD x 0) 4) (Int.toNat (vI c 0)))))
 (.ret (.l [.i (vI (gE (gD (eX (gD x 0) 4) (Int.toNat (vI c 0))) (Int.toNat (vI c 1))) 4),.b true]) [])
 bA)
 bA))
 bA)
 bA
def Bn(x:LD):Sh:=
 .call Us [GN (gD x 0),.i (dB x 1)] 0 λc _=>
 .ask ((!(vB c 1))||((!(aD (vI (D.fld c 0) 0) 27))&&(!(aD (vI (D.fld c 0) 0) 28))))
 (.ret (.l []) [])
 (.loop 0 [.i 0,.s (D.toS (D.fld (gD x 0) 0)),.b (vB (gD x 0) 1),.l (eX (gD x 0) 2),.i (vI (gD x 0) 3),.l (eX (gD x 0) 4),.i (vI (D.fld c 0) 0),.i (vI (D.fld c 0) 1),.i (vI (D.fld c 0) 2),.i (vI (D.fld c 0) 3),.i (vI (D.fld c 0) 4),.l (eX (D.fld c 0) 5),.l (eX (D.fld c 0) 6),.l []] (.cons (λd=>
 .ret (aL d 0) [])
 .nil))
def OH(p:LD):Sh:=
 .ask (jN ((List.length (gL p 13))+1) 8)
 (.again [dK p 0,aS p 1,aB p 2,aL p 3,aI p 4,aL p 5,aI p 6,aI p 7,aI p 8,aI p 9,aI p 10,aL p 11,aL p 12,.l ((gL p 13)++[.i (D.toI (gD (gL p 12) (tI p 0)))])])
 bA
def BG(p:LD):Sh:=
 .ask (aT (gI p 0) (iL (gL p 12)))
 (.ask (aA (gI p 0) (List.length (gL p 12)))
 (.ask (((cX 0 (D.toI (gD (gL p 12) (tI p 0))))&&(aT (D.toI (gD (gL p 12) (tI p 0))) (iL (gL p 5))))&&true)
 (.call aCM [aL p 13,.i (D.toI (gD (gL p 12) (tI p 0)))] 0 λc _=>
 .ask (((cX 0 (D.toI (gD (gL p 12) (tI p 0))))&&(aT (D.toI (gD (gL p 12) (tI p 0))) (iL (gL p 5))))&&(!(D.toB c)))
 (OH p)
 (.again [dK p 0,aS p 1,aB p 2,aL p 3,aI p 4,aL p 5,aI p 6,aI p 7,aI p 8,aI p 9,aI p 10,aL p 11,aL p 12,aL p 13]))
 (.ask (((cX 0 (D.toI (gD (gL p 12) (tI p 0))))&&(aT (D.toI (gD (gL p 12) (tI p 0))) (iL (gL p 5))))&&(!(D.toB (.i 0))))
 (OH p)
 (.again [dK p 0,aS p 1,aB p 2,aL p 3,aI p 4,aL p 5,aI p 6,aI p 7,aI p 8,aI p 9,aI p 10,aL p 11,aL p 12,aL p 13])))
 bA)
 (.out (0,[aL p 13]))
def UH(x:LD):Sh:=
 .loop 0 [.l (eX (gD x 0) 2),.i 0,.i (iX (gD x 0) 2),.l (eX (gD x 0) 0),.l (eX (gD x 0) 1),.l (eX (gD x 0) 2),.l (eX (gD x 0) 3)] (.cons (λc=>
 .ret (aB c 0) [])
 (.cons (λc=>
 .loop 4 [.i (iL (gL c 3)),aL c 3,.i 0,aL c 0,aL c 1,aL c 2,aL c 3] (.cons (λd=>
 .ret (aB d 0) [])
 (.cons (λd=>
 .ret (.b true) [])
 .nil)))
 .nil))
def xH(p:LD):Sh:=
 .ask (aT (gI p 1) (gI p 2))
 (.ask (aA (gI p 1) (List.length (gL p 0)))
 (.loop 2 [aL p 0,.i (iX (gD (gL p 0) (tI p 1)) 1),aI p 1,aI p 2,.i 0,.l (eX (gD (gL p 0) (tI p 1)) 1),aL p 3,aL p 4,aL p 5,aL p 6] (.cons (λc=>
 .out (0,[aB c 2,aL c 4,aL c 5,aL c 6,aL c 7]))
 (.cons (λc=>
 .again [aL c 0,dK c 1,aI c 2,aL c 3,aL c 4,aL c 5,aL c 6])
 .nil)))
 bA)
 (.out (1,[aL p 3,aL p 4,aL p 5,aL p 6]))
def xI(p:LD):Sh:=
 .ask (aT (gI p 4) (gI p 1))
 (.ask (aA (gI p 4) (List.length (gL p 5)))
 (.ask ((aT (D.toI (gD (gL p 5) (tI p 4))) (-1))||(cX (iL (gL p 9)) (D.toI (gD (gL p 5) (tI p 4)))))
 (.out (0,[aL p 0,aI p 2,.b false,aI p 3,aL p 6,aL p 7,aL p 8,aL p 9]))
 (.again [aL p 0,aI p 1,aI p 2,aI p 3,dK p 4,aL p 5,aL p 6,aL p 7,aL p 8,aL p 9]))
 bA)
 (.out (1,[aL p 0,aI p 2,aI p 3,aL p 6,aL p 7,aL p 8,aL p 9]))
def xJ(p:LD):Sh:=
 .ask (aT (gI p 2) (gI p 0))
 (.ask (aA (gI p 2) (List.length (gL p 1)))
 (.loop 6 [.l (eX (gD (gL p 1) (tI p 2)) 4),.i 0,aI p 0,.i (iX (gD (gL p 1) (tI p 2)) 4),aL p 1,aI p 2,aL p 3,aL p 4,aL p 5,aL p 6] (.cons (λc=>
 .out (0,[aB c 1]))
 (.cons (λc=>
 .again [aI c 0,aL c 1,dK c 2,aL c 3,aL c 4,aL c 5,aL c 6])
 .nil)))
 bA)
 (.out (1,[]))
def xK(p:LD):Sh:=
 .ask (aT (gI p 1) (gI p 3))
 (.ask (aA (gI p 1) (List.length (gL p 0)))
 (.loop 8 [aL p 0,.i (iE (gD (gL p 0) (tI p 1))),aI p 1,aI p 2,aI p 3,aL p 4,.i 0,aI p 5,.l (D.els (gD (gL p 0) (tI p 1))),aL p 6,aL p 7,aL p 8,aL p 9] (.cons (λc=>
 .out (0,[aI c 2,aB c 3,aL c 5,aI c 6,aL c 7,aL c 8,aL c 9,aL c 10]))
 (.cons (λc=>
 .again [aL c 0,dK c 1,aI c 2,aI c 3,aL c 4,aI c 5,aL c 6,aL c 7,aL c 8,aL c 9])
 .nil)))
 bA)
 (.out (1,[aI p 2,aL p 4,aI p 5,aL p 6,aL p 7,aL p 8,aL p 9]))
def CT(p:LD):Sh:=
 .ask (aD (vI (gD (gL p 8) (tI p 6)) 0) 3)
 (.ask ((aT (vI (gD (gL p 8) (tI p 6)) 3) 0)||(cX (iL (gL p 10)) (vI (gD (gL p 8) (tI p 6)) 3)))
 (.out (0,[aL p 0,aI p 2,aI p 3,.b false,aI p 4,aL p 5,aI p 7,aL p 9,aL p 10,aL p 11,aL p 12]))
 (.again [aL p 0,aI p 1,aI p 2,aI p 3,aI p 4,aL p 5,dK p 6,aI p 7,aL p 8,aL p 9,aL p 10,aL p 11,aL p 12]))
 (.ask (aD (vI (gD (gL p 8) (tI p 6)) 0) 23)
 (.ask ((aT (vI (gD (gL p 8) (tI p 6)) 3) 0)||(cX (iL (gL p 9)) (vI (gD (gL p 8) (tI p 6)) 3)))
 (.out (0,[aL p 0,aI p 2,aI p 3,.b false,aI p 4,aL p 5,aI p 7,aL p 9,aL p 10,aL p 11,aL p 12]))
 (.again [aL p 0,aI p 1,aI p 2,aI p 3,aI p 4,aL p 5,dK p 6,aI p 7,aL p 8,aL p 9,aL p 10,aL p 11,aL p 12]))
 (.ask (aD (vI (gD (gL p 8) (tI p 6)) 0) 24)
 (.ask ((aT (vI (gD (gL p 8) (tI p 6)) 3) 0)||(cX (iL (gL p 11)) (vI (gD (gL p 8) (tI p 6)) 3)))
 (.out (0,[aL p 0,aI p 2,aI p 3,.b false,aI p 4,aL p 5,aI p 7,aL p 9,aL p 10,aL p 11,aL p 12]))
 (.again [aL p 0,aI p 1,aI p 2,aI p 3,aI p 4,aL p 5,dK p 6,aI p 7,aL p 8,aL p 9,aL p 10,aL p 11,aL p 12]))
 (.ask ((aT (vI (gD (gL p 8) (tI p 6)) 3) 0)||(cX (bJ .i64 (vI (gD (gL p 8) (tI p 6)) 3) 1) (vI (gD (gL p 8) (tI p 6)) 3)))
 (.out (0,[aL p 0,aI p 2,aI p 3,.b false,aI p 4,aL p 5,aI p 7,aL p 9,aL p 10,aL p 11,aL p 12]))
 (.again [aL p 0,aI p 1,aI p 2,aI p 3,aI p 4,aL p 5,dK p 6,aI p 7,aL p 8,aL p 9,aL p 10,aL p 11,aL p 12]))))
def CU(p:LD):Sh:=
 .ask ((aT (vI (gD (gL p 8) (tI p 6)) 3) 0)||(cX (iL (gL p 12)) (vI (gD (gL p 8) (tI p 6)) 3)))
 (.out (0,[aL p 0,aI p 2,aI p 3,.b false,aI p 4,aL p 5,aI p 7,aL p 9,aL p 10,aL p 11,aL p 12]))
 (.again [aL p 0,aI p 1,aI p 2,aI p 3,aI p 4,aL p 5,dK p 6,aI p 7,aL p 8,aL p 9,aL p 10,aL p 11,aL p 12])
def xL(p:LD):Sh:=
 .ask (aT (gI p 6) (gI p 1))
 (.ask (aA (gI p 6) (List.length (gL p 8)))
 (.ask (aD (vI (gD (gL p 8) (tI p 6)) 0) 2)
 (.ask (aD (vI (gD (gL p 8) (tI p 6)) 0) 2)
 (CU p)
 (CT p))
 (.ask (aD (vI (gD (gL p 8) (tI p 6)) 0) 22)
 (CU p)
 (CT p)))
 bA)
 (.out (1,[aL p 0,aI p 2,aI p 3,aI p 4,aL p 5,aI p 7,aL p 9,aL p 10,aL p 11,aL p 12]))
def UI(x:LD):Sh:=
 .ask (jN (1+(nX (gD x 0) 2)) 8)
 (.loop 0 [.i 0,.l (eX (gD x 0) 4),.i (iX (gD x 0) 4),.l ([.i 0]++(eX (gD x 0) 2))] (.cons (λc=>
 .ret (aL c 0) [])
 .nil))
 bA
def xM(p:LD):Sh:=
 .ask (aT (gI p 0) (gI p 2))
 (.ask (aA (gI p 0) (List.length (gL p 1)))
 (.loop 2 [aI p 0,aL p 1,.i (iE (gD (gL p 1) (tI p 0))),.l (D.els (gD (gL p 1) (tI p 0))),aI p 2,.i 0,aL p 3] (.cons (λc=>
 .again [dK c 0,aL c 1,aI c 2,aL c 3])
 .nil))
 bA)
 (.out (0,[aL p 3]))
def xN(p:LD):Sh:=
 .ask (aT (gI p 5) (gI p 2))
 (.ask (aA (gI p 5) (List.length (gL p 3)))
 (.ask (!(aD (vI (gD (gL p 3) (tI p 5)) 1) 0))
 (.ask (jN ((List.length (gL p 6))+1) 8)
 (.again [aI p 0,aL p 1,aI p 2,aL p 3,aI p 4,dK p 5,.l ((gL p 6)++[.i (vI (gD (gL p 3) (tI p 5)) 1)])])
 bA)
 (.again [aI p 0,aL p 1,aI p 2,aL p 3,aI p 4,dK p 5,aL p 6]))
 bA)
 (.out (0,[aI p 0,aL p 1,aI p 4,aL p 6]))
def Ux(x:LD):Sh:=
 .loop 0 [.l (D.els (gD x 0)),.i (dB x 1),.i 0] (.cons (λc=>
 .ret (aB c 0) [])
 (.cons (λc=>
 .ret (.b false) [])
 .nil))
def IA(p:LD):Sh:=
 .ask (aT (gI p 2) (iL (gL p 0)))
 (.ask (aA (gI p 2) (List.length (gL p 0)))
 (.ask (aD (D.toI (gD (gL p 0) (tI p 2))) (gI p 1))
 (.out (0,[.b true]))
 (.again [aL p 0,aI p 1,dK p 2]))
 bA)
 (.out (1,[]))
def Bo(x:LD):Sh:=
 .ask ((aT (iL (D.toS (gD x 0))) 1)||(aT 12 (iL (D.toS (gD x 0)))))
 (.ret (.b false) [])
 (.loop 0 [.s (D.toS (gD x 0)),.i (iL (D.toS (gD x 0))),.i 0] (.cons (λc=>
 .ret (aB c 0) [])
 (.cons (λc=>
 .ret (.b true) [])
 .nil)))
def BH(p:LD):Sh:=
 .ask (aT (gI p 2) (gI p 1))
 (.ask (aA (gI p 2) (List.length (gS p 0)))
 (.ask ((!((cX 97 (jD (gS p 0) (gI p 2)))&&(cX (jD (gS p 0) (gI p 2)) 122)))&&((aD (gI p 2) 0)||((!(aD (jD (gS p 0) (gI p 2)) 95))&&((aT (jD (gS p 0) (gI p 2)) 48)||(aT 57 (jD (gS p 0) (gI p 2)))))))
 (.out (0,[.b false]))
 (.again [aS p 0,aI p 1,dK p 2]))
 bA)
 (.out (1,[]))
def OI(x:LD):Sh:=
 .ask ((cX 0 (iX (gD x 0) 4))&&((aD (iX (gD x 0) 4) (iX (gD x 0) 4))&&(jN (Int.toNat (iX (gD x 0) 4)) 24)))
 (.loop 0 [.i (iX (gD x 0) 4),.i 0,.s (D.toS (D.fld (gD x 0) 0)),.b (vB (gD x 0) 1),.l (eX (gD x 0) 2),.i (vI (gD x 0) 3),.l (eX (gD x 0) 4),.l (List.replicate (nX (gD x 0) 4) (D.l []))] (.cons (λc=>
 .ret (aL c 0) [])
 .nil))
 bA
def tL(p:LD):Sh:=
 .ask (aT (gI p 1) (gI p 0))
 (.call HZ [.l [aS p 2,aB p 3,aL p 4,aI p 5,aL p 6],aI p 1] 0 λd _=>
 .loop 2 [aI p 0,.i 0,aI p 1,.i (iE d),aI p 1,aS p 2,aB p 3,aL p 4,aI p 5,aL p 6,aL p 7,.l (D.els d)] (.cons (λc=>
 .again [aI c 0,dK c 1,aS c 2,aB c 3,aL c 4,aI c 5,aL c 6,aL c 7])
 .nil))
 (.out (0,[aL p 7]))
def tM(p:LD):Sh:=
 .ask (aT (gI p 1) (gI p 3))
 (.ask (aA (gI p 1) (List.length (gL p 11)))
 (.ask (aA (D.toI (gD (gL p 11) (tI p 1))) (List.length (gL p 10)))
 (.ask (jN ((nE (gD (gL p 10) (Int.toNat (D.toI (gD (gL p 11) (tI p 1))))))+1) 8)
 (.ask (aA (D.toI (gD (gL p 11) (tI p 1))) (List.length (gL p 10)))
 (.ask ((Nat.beq (Int.toNat (D.toI (gD (gL p 11) (tI p 1)))) (Int.toNat (D.toI (gD (gL p 11) (tI p 1)))))&&true)
 (.again [aI p 0,dK p 1,aI p 2,aI p 3,aI p 4,aS p 5,aB p 6,aL p 7,aI p 8,aL p 9,.l (List.set (gL p 10) (Int.toNat (D.toI (gD (gL p 11) (tI p 1)))) (D.l ((D.els (gD (gL p 10) (Int.toNat (D.toI (gD (gL p 11) (tI p 1))))))++[aI p 2]))),aL p 11])
 bA)
 bA)
 bA)
 bA)
 bA)
 (.out (0,[aI p 0,aI p 4,aS p 5,aB p 6,aL p 7,aI p 8,aL p 9,aL p 10]))
def OJ(x:LD):Sh:=
 .ask (aD (vI (gD x 3) 0) 16)
 (.ask ((aD (vI (gD x 3) 1) 2)&&true)
 (.call Ba [.l (D.els (gD x 2)),.l (eX (gD x 3) 5),.i 2] 0 λc _=>
 .ret (.b ((aD (vI (gD x 3) 1) 2)&&(D.toB c))) [])
 (.ret (.b ((aD (vI (gD x 3) 1) 2)&&(D.toB (.i 0)))) []))
 (.ask (aD (vI (gD x 3) 0) 17)
 (.call wD [.l (D.els (gD x 2)),.l (eX (gD x 3) 5),.l [.i 2,.i (vI (gD x 3) 1),.i (vI (gD x 3) 1)]] 0 λc _=>
 .ret (.b (D.toB c)) [])
 (.ask (aD (vI (gD x 3) 0) 19)
 (.ask ((aD (vI (gD x 3) 1) 3)&&true)
 (.call wD [.l (D.els (gD x 2)),.l (eX (gD x 3) 5),.l [.i 3,.i 1]] 0 λc _=>
 .ret (.b ((aD (vI (gD x 3) 1) 3)&&(D.toB c))) [])
 (.ret (.b ((aD (vI (gD x 3) 1) 3)&&(D.toB (.i 0)))) []))
 (.ask (aD (vI (gD x 3) 0) 20)
 (.ask ((aD (vI (gD x 3) 1) 1)&&true)
 (.call wD [.l (D.els (gD x 2)),.l (eX (gD x 3) 5),.l [.i 3]] 0 λc _=>
 .ret (.b ((aD (vI (gD x 3) 1) 1)&&(D.toB c))) [])
 (.ret (.b ((aD (vI (gD x 3) 1) 1)&&(D.toB (.i 0)))) []))
 (.ask (aD (vI (gD x 3) 0) 21)
 (.call wD [.l (D.els (gD x 2)),.l (eX (gD x 3) 5),.l [.i 3,.i 1]] 0 λc _=>
 .ret (.b (D.toB c)) [])
 (.ask (aD (vI (gD x 3) 0) 24)
 (.ask ((aD (vI (gD x 3) 1) 4)&&true)
 (.call wD [.l (D.els (gD x 2)),.l (eX (gD x 3) 5),.l [.i 1]] 0 λc _=>
 .ret (.b ((aD (vI (gD x 3) 1) 4)&&(D.toB c))) [])
 (.ret (.b ((aD (vI (gD x 3) 1) 4)&&(D.toB (.i 0)))) []))
 (.ask (aD (vI (gD x 3) 0) 25)
 (.ask (aA 0 (nX (gD x 3) 5))
 (.ask (aA (D.toI (gD (eX (gD x 3) 5) 0)) (nE (gD x 2)))
 (.ret (.b ((aD (D.toI (gE (gD x 2) (Int.toNat (D.toI (gD (eX (gD x 3) 5) 0))))) 4)&&(!(aD (vI (gD x 3) 1) 3)))) [])
 bA)
 bA)
 (.ask (aD (vI (gD x 3) 0) 22)
 (.ask (aA (vI (gD x 3) 3) (nX (gD x 0) 3))
 (.ask ((aD (vI (gD x 3) 1) (vI (gD (eX (gD x 0) 3) (Int.toNat (vI (gD x 3) 3))) 3))&&true)
 (.call wD [.l (D.els (gD x 2)),.l (eX (gD x 3) 5),.l (eX (gD (eX (gD x 0) 3) (Int.toNat (vI (gD x 3) 3))) 2)] 0 λc _=>
 .ret (.b ((aD (vI (gD x 3) 1) (vI (gD (eX (gD x 0) 3) (Int.toNat (vI (gD x 3) 3))) 3))&&(D.toB c))) [])
 (.ret (.b ((aD (vI (gD x 3) 1) (vI (gD (eX (gD x 0) 3) (Int.toNat (vI (gD x 3) 3))) 3))&&(D.toB (.i 0)))) []))
 bA)
 (.ask (aD (vI (gD x 3) 0) 23)
 (.ask (aA (vI (gD x 3) 3) (nX (gD x 0) 0))
 (.ask ((aD (vI (gD x 3) 1) (vI (gD (eX (gD x 0) 0) (Int.toNat (vI (gD x 3) 3))) 2))&&true)
 (.call wD [.l (D.els (gD x 2)),.l (eX (gD x 3) 5),.l (eX (gD (eX (gD x 0) 0) (Int.toNat (vI (gD x 3) 3))) 1)] 0 λc _=>
 .ret (.b ((aD (vI (gD x 3) 1) (vI (gD (eX (gD x 0) 0) (Int.toNat (vI (gD x 3) 3))) 2))&&(D.toB c))) [])
 (.ret (.b ((aD (vI (gD x 3) 1) (vI (gD (eX (gD x 0) 0) (Int.toNat (vI (gD x 3) 3))) 2))&&(D.toB (.i 0)))) []))
 bA)
 (.ask (aD (vI (gD x 3) 0) 26)
 (.call Ba [.l (D.els (gD x 2)),.l (eX (gD x 3) 5),.i (vI (gD x 3) 1)] 0 λc _=>
 .ret (.b (D.toB c)) [])
 (.ask (aD (vI (gD x 3) 0) 28)
 (.call wD [.l (D.els (gD x 2)),.l (eX (gD x 3) 5),.l [.i 2]] 0 λc _=>
 .ret (.b (D.toB c)) [])
 (.ask (aD (vI (gD x 3) 0) 29)
 (.ask (aD (vI (gD x 1) 3) 0)
 (.ret (.b (aD (iX (gD x 3) 5) 0)) [])
 (.call wD [.l (D.els (gD x 2)),.l (eX (gD x 3) 5),.l [.i (vI (gD x 1) 3)]] 0 λc _=>
 .ret (.b (D.toB c)) []))
 (.ret (.b true) []))))))))))))
def OK(x:LD):Sh:=
 .ask ((aD (vI (gD x 3) 1) 2)&&true)
 (.call Ba [.l (D.els (gD x 2)),.l (eX (gD x 3) 5),.i 1] 0 λc _=>
 .ret (.b ((aD (vI (gD x 3) 1) 2)&&(D.toB c))) [])
 (.ret (.b ((aD (vI (gD x 3) 1) 2)&&(D.toB (.i 0)))) [])
def iB(x:LD):Sh:=
 .ask (aD (vI (gD x 3) 0) 14)
 (.ask (aD (vI (gD x 3) 0) 14)
 (OK x)
 (OJ x))
 (.ask (aD (vI (gD x 3) 0) 15)
 (OK x)
 (OJ x))
def iC(x:LD):Sh:=
 .ask ((aD (vI (gD x 3) 1) 1)&&true)
 (.call Ba [.l (D.els (gD x 2)),.l (eX (gD x 3) 5),.i 1] 0 λc _=>
 .ret (.b ((aD (vI (gD x 3) 1) 1)&&(D.toB c))) [])
 (.ret (.b ((aD (vI (gD x 3) 1) 1)&&(D.toB (.i 0)))) [])
def OL(x:LD):Sh:=
 .ask (aD (vI (gD x 3) 0) 4)
 (.ask (aD (vI (gD x 3) 0) 4)
 (iC x)
 (iB x))
 (.ask (aD (vI (gD x 3) 0) 5)
 (.ask (aD (vI (gD x 3) 0) 5)
 (iC x)
 (iB x))
 (.ask (aD (vI (gD x 3) 0) 6)
 (.ask (aD (vI (gD x 3) 0) 6)
 (iC x)
 (iB x))
 (.ask (aD (vI (gD x 3) 0) 7)
 (.ask (aD (vI (gD x 3) 0) 7)
 (iC x)
 (iB x))
 (.ask (aD (vI (gD x 3) 0) 8)
 (.ask (aD (vI (gD x 3) 0) 8)
 (iC x)
 (iB x))
 (.ask (aD (vI (gD x 3) 0) 9)
 (.ask (aD (vI (gD x 3) 0) 9)
 (iC x)
 (iB x))
 (.ask (aD (vI (gD x 3) 0) 10)
 (.ask (aD (vI (gD x 3) 0) 10)
 (iC x)
 (iB x))
 (.ask (aD (vI (gD x 3) 0) 11)
 (.ask (aD (vI (gD x 3) 0) 11)
 (iC x)
 (iB x))
 (.ask (aD (vI (gD x 3) 0) 12)
 (.ask (aD (vI (gD x 3) 0) 12)
 (iC x)
 (iB x))
 (.ask (aD (vI (gD x 3) 0) 13)
 (iC x)
 (iB x))))))))))
def YC(x:LD):Sh:=
 .ask (aD (vI (gD x 3) 0) 1)
 (.ret (.b ((aD (vI (gD x 3) 1) 1)||((aD (vI (gD x 3) 1) 2)&&((aD (vI (gD x 3) 4) 0)||(aD (vI (gD x 3) 4) 1))))) [])
 (.ask (aD (vI (gD x 3) 0) 2)
 (.ret (.b (aD (vI (gD x 3) 1) 4)) [])
 (.ask (aD (vI (gD x 3) 0) 3)
 (.ask (aD (vI (gD x 3) 0) 3)
 (.ret (.b (aD (vI (gD x 3) 1) 3)) [])
 (OL x))
 (.ask (aD (vI (gD x 3) 0) 18)
 (.ret (.b (aD (vI (gD x 3) 1) 3)) [])
 (OL x))))
def OM(x:LD):Sh:=
 .ask (aD (D.toI (gD x 0)) 26)
 (.ret (.l [.i (-1),.i (-1),.b false,.b false]) [])
 (.ask (aD (D.toI (gD x 0)) 27)
 (.ret (.l [.i 0,.i 1,.b false,.b false]) [])
 (.ask (aD (D.toI (gD x 0)) 28)
 (.ret (.l [.i 1,.i 2,.b false,.b false]) [])
 (.ret (.l [.i 0,.i 0,.b false,.b false]) [])))
def ON(x:LD):Sh:=
 .ask (aD (D.toI (gD x 0)) 24)
 (.ret (.l [.i 1,.i 0,.b true,.b false]) [])
 (.ask (aD (D.toI (gD x 0)) 25)
 (.ask (aD (D.toI (gD x 0)) 25)
 (.ret (.l [.i (-1),.i 0,.b false,.b false]) [])
 (OM x))
 (.ask (aD (D.toI (gD x 0)) 29)
 (.ret (.l [.i (-1),.i 0,.b false,.b false]) [])
 (OM x)))
def OO(x:LD):Sh:=
 .ask (aD (D.toI (gD x 0)) 17)
 (.ret (.l [.i 3,.i 0,.b false,.b false]) [])
 (.ask (aD (D.toI (gD x 0)) 22)
 (.ask (aD (D.toI (gD x 0)) 22)
 (.ret (.l [.i (-1),.i 0,.b true,.b false]) [])
 (ON x))
 (.ask (aD (D.toI (gD x 0)) 23)
 (.ret (.l [.i (-1),.i 0,.b true,.b false]) [])
 (ON x)))
def gG(x:LD):Sh:=
 .ask (aD (D.toI (gD x 0)) 16)
 (.ask (aD (D.toI (gD x 0)) 16)
 (.ret (.l [.i 1,.i 0,.b false,.b false]) [])
 (OO x))
 (.ask (aD (D.toI (gD x 0)) 20)
 (.ret (.l [.i 1,.i 0,.b false,.b false]) [])
 (OO x))
def OP(x:LD):Sh:=
 .ask (aD (D.toI (gD x 0)) 4)
 (.ask (aD (D.toI (gD x 0)) 4)
 (.ret (.l [.i 2,.i 0,.b false,.b false]) [])
 (gG x))
 (.ask (aD (D.toI (gD x 0)) 5)
 (.ask (aD (D.toI (gD x 0)) 5)
 (.ret (.l [.i 2,.i 0,.b false,.b false]) [])
 (gG x))
 (.ask (aD (D.toI (gD x 0)) 6)
 (.ask (aD (D.toI (gD x 0)) 6)
 (.ret (.l [.i 2,.i 0,.b false,.b false]) [])
 (gG x))
 (.ask (aD (D.toI (gD x 0)) 7)
 (.ask (aD (D.toI (gD x 0)) 7)
 (.ret (.l [.i 2,.i 0,.b false,.b false]) [])
 (gG x))
 (.ask (aD (D.toI (gD x 0)) 8)
 (.ask (aD (D.toI (gD x 0)) 8)
 (.ret (.l [.i 2,.i 0,.b false,.b false]) [])
 (gG x))
 (.ask (aD (D.toI (gD x 0)) 9)
 (.ask (aD (D.toI (gD x 0)) 9)
 (.ret (.l [.i 2,.i 0,.b false,.b false]) [])
 (gG x))
 (.ask (aD (D.toI (gD x 0)) 10)
 (.ask (aD (D.toI (gD x 0)) 10)
 (.ret (.l [.i 2,.i 0,.b false,.b false]) [])
 (gG x))
 (.ask (aD (D.toI (gD x 0)) 11)
 (.ask (aD (D.toI (gD x 0)) 11)
 (.ret (.l [.i 2,.i 0,.b false,.b false]) [])
 (gG x))
 (.ask (aD (D.toI (gD x 0)) 12)
 (.ask (aD (D.toI (gD x 0)) 12)
 (.ret (.l [.i 2,.i 0,.b false,.b false]) [])
 (gG x))
 (.ask (aD (D.toI (gD x 0)) 13)
 (.ask (aD (D.toI (gD x 0)) 13)
 (.ret (.l [.i 2,.i 0,.b false,.b false]) [])
 (gG x))
 (.ask (aD (D.toI (gD x 0)) 14)
 (.ask (aD (D.toI (gD x 0)) 14)
 (.ret (.l [.i 2,.i 0,.b false,.b false]) [])
 (gG x))
 (.ask (aD (D.toI (gD x 0)) 15)
 (.ask (aD (D.toI (gD x 0)) 15)
 (.ret (.l [.i 2,.i 0,.b false,.b false]) [])
 (gG x))
 (.ask (aD (D.toI (gD x 0)) 19)
 (.ask (aD (D.toI (gD x 0)) 19)
 (.ret (.l [.i 2,.i 0,.b false,.b false]) [])
 (gG x))
 (.ask (aD (D.toI (gD x 0)) 21)
 (.ret (.l [.i 2,.i 0,.b false,.b false]) [])
 (gG x))))))))))))))
def OQ(x:LD):Sh:=
 .ask (aD (D.toI (gD x 0)) 2)
 (.ask (aD (D.toI (gD x 0)) 2)
 (.ret (.l [.i 0,.i 0,.b true,.b false]) [])
 (OP x))
 (.ask (aD (D.toI (gD x 0)) 3)
 (.ret (.l [.i 0,.i 0,.b true,.b false]) [])
 (OP x))
def QN(x:LD):Sh:=
 .ask (aD (D.toI (gD x 0)) 1)
 (.ask (aD (D.toI (gD x 0)) 1)
 (.ret (.l [.i 0,.i 0,.b false,.b true]) [])
 (OQ x))
 (.ask (aD (D.toI (gD x 0)) 18)
 (.ret (.l [.i 0,.i 0,.b false,.b true]) [])
 (OQ x))
def HJ(x:LD):Sh:=
 .ask ((cX 0 (iE (gD x 0)))&&((aD (iE (gD x 0)) (iE (gD x 0)))&&(jN (Int.toNat (iE (gD x 0))) 8)))
 (.loop 0 [.l (D.els (gD x 0)),.i 0,.i (iL (List.replicate (nE (gD x 0)) (D.i 0))),.l (List.replicate (nE (gD x 0)) (D.i 0))] (.cons (λc=>
 .ret (aL c 0) [])
 .nil))
 bA
def pU(p:LD):Sh:=
 .ask (aT (gI p 1) (gI p 2))
 (.ask (aA (gI p 1) (List.length (gL p 3)))
 (.loop 2 [aL p 0,aI p 1,.i 0,aI p 1,aI p 2,.i (iL (gL p 0)),.l (List.set (gL p 3) (tI p 1) (D.i (-1)))] (.cons (λc=>
 .again [aL c 0,dK c 1,aI c 2,aL c 3])
 .nil))
 bA)
 (.out (0,[aL p 3]))
def fT(p:LD):Sh:=
 .ask (aT (gI p 2) (gI p 5))
 (.ask ((!(!(aD (gI p 2) (gI p 3))))||(aA (gI p 2) (List.length (gL p 0))))
 (.ask ((!(!(aD (gI p 2) (gI p 3))))||(aA (gI p 3) (nE (gD (gL p 0) (tI p 2)))))
 (.ask ((aD (gI p 2) (gI p 3))||(!(D.toB (gE (gD (gL p 0) (tI p 2)) (tI p 3)))))
 (.again [aL p 0,aI p 1,dK p 2,aI p 3,aI p 4,aI p 5,aL p 6])
 (.ask (aA (gI p 3) (List.length (gL p 6)))
 (.ask ((!(!(aT (D.toI (gD (gL p 6) (tI p 3))) 0)))||(aA (gI p 3) (List.length (gL p 6))))
 (.ask ((!(!(aT (D.toI (gD (gL p 6) (tI p 3))) 0)))||(aA (D.toI (gD (gL p 6) (tI p 3))) (List.length (gL p 0))))
 (.ask ((!(!(aT (D.toI (gD (gL p 6) (tI p 3))) 0)))||(aA (gI p 2) (nE (gD (gL p 0) (Int.toNat (D.toI (gD (gL p 6) (tI p 3))))))))
 (.ask ((aT (D.toI (gD (gL p 6) (tI p 3))) 0)||(D.toB (gE (gD (gL p 0) (Int.toNat (D.toI (gD (gL p 6) (tI p 3))))) (tI p 2))))
 (.ask (aA (gI p 3) (List.length (gL p 6)))
 (.again [aL p 0,aI p 1,dK p 2,aI p 3,aI p 4,aI p 5,.l (List.set (gL p 6) (tI p 3) (aI p 2))])
 bA)
 (.again [aL p 0,aI p 1,dK p 2,aI p 3,aI p 4,aI p 5,aL p 6]))
 bA)
 bA)
 bA)
 bA))
 bA)
 bA)
 (.out (0,[aL p 0,aI p 1,aI p 4,aL p 6]))
def zI(x:LD):Sh:=
 .ask (aA (dB x 1) (nX (gD x 0) 3))
 (.ret (.l [.i (vI (gD (eX (gD x 0) 3) (iO x 1)) 4),.b (aD (vI (gD (eX (gD x 0) 3) (iO x 1)) 0) 1)]) [])
 bA
def iR(x:LD):Sh:=
 .loop 0 [.l (D.els (gD x 0)),.i (dB x 1),.i (iE (gD x 0)),.i 0] (.cons (λc=>
 .ret (aI c 0) [])
 (.cons (λc=>
 .ret (.i (-1)) [])
 .nil))
def dH(p:LD):Sh:=
 .ask (aT (gI p 3) (gI p 2))
 (.ask (aA (gI p 3) (List.length (gL p 0)))
 (.ask (aD (gI p 1) (D.toI (gD (gL p 0) (tI p 3))))
 (.out (0,[aI p 3]))
 (.again [aL p 0,aI p 1,aI p 2,dK p 3]))
 bA)
 (.out (1,[]))
def UJ(x:LD):Sh:=
 .call Av [pQ x] 0 λf _=>
 .ask (!(D.toB f))
 (.ret (.i 2) [])
 (.call Kl [pQ x] 0 λg _=>
 .ask (!(D.toB g))
 (.ret (.i 1) [])
 (.call Km [pQ x] 0 λh _=>
 .ask (!(D.toB h))
 (.ret (.i 3) [])
 (.call Uk [pQ x] 0 λj _=>
 .ask (!(D.toB j))
 (.ret (.i 4) [])
 (.loop 0 [.i 0,.l (eX (gD x 0) 0),.l (eX (gD x 0) 1),.l (eX (gD x 0) 2),.l (eX (gD x 0) 3)] (.cons (λc=>
 .ret (aI c 0) [])
 (.cons (λc=>
 .loop 2 [.i 0,aL c 0,aL c 1,aL c 2,aL c 3] (.cons (λd=>
 .ret (aI d 0) [])
 (.cons (λd=>
 .loop 4 [.i 0,aL d 0,aL d 1,aL d 2,aL d 3] (.cons (λe=>
 .ret (aI e 0) [])
 (.cons (λe=>
 .ret (.i 0) [])
 .nil)))
 .nil)))
 .nil))))))
def xO(p:LD):Sh:=
 .ask (aT (gI p 0) (iL (gL p 4)))
 (.ask (aA (gI p 0) (List.length (gL p 4)))
 (.call Kn [GN (gD (gL p 4) (tI p 0))] 0 λc _=>
 .ask (!(D.toB c))
 (.out (0,[.i 5,aL p 1,aL p 2,aL p 3,aL p 4]))
 (.again [dK p 0,aL p 1,aL p 2,aL p 3,aL p 4]))
 bA)
 (.out (1,[aL p 1,aL p 2,aL p 3,aL p 4]))
def xP(p:LD):Sh:=
 .ask (aT (gI p 0) (iL (gL p 4)))
 (.ask (aA (gI p 0) (List.length (gL p 4)))
 (.call Ul [GN (gD (gL p 4) (tI p 0))] 0 λc _=>
 .ask (!(D.toB c))
 (.out (0,[.i 6,aL p 1,aL p 2,aL p 3,aL p 4]))
 (.again [dK p 0,aL p 1,aL p 2,aL p 3,aL p 4]))
 bA)
 (.out (1,[aL p 1,aL p 2,aL p 3,aL p 4]))
def xQ(p:LD):Sh:=
 .ask (aT (gI p 0) (iL (gL p 4)))
 (.ask (aA (gI p 0) (List.length (gL p 4)))
 (.call Ko [.l [aL p 1,aL p 2,aL p 3,aL p 4],GN (gD (gL p 4) (tI p 0))] 0 λc _=>
 .ask (!(D.toB c))
 (.out (0,[.i 7]))
 (.again [dK p 0,aL p 1,aL p 2,aL p 3,aL p 4]))
 bA)
 (.out (1,[]))
def Zp(x:LD):Sh:=
 .call EN [pQ x,.i (dB x 1)] 0 λc _=>
 .ask (Ga (D.els c))
 (.ask true
 (.ask true
 (.ask true
 (.ask true
 (.ret (.b false) [])
 (.ask (aA (dB x 1) (nX (gD x 0) 3))
 (.ask (aA (dB x 2) (nX (gD (eX (gD x 0) 3) (iO x 1)) 4))
 (.ask (aA (dB x 3) (nE (gD (eX (gD (eX (gD x 0) 3) (iO x 1)) 4) (iO x 2))))
 bA
 bA)
 bA)
 bA))
 bA)
 bA)
 bA)
 (.ask ((!(!(aT (dB x 2) 0)))||(aA (dB x 1) (nX (gD x 0) 3)))
 (.ask ((!(!(((aT (dB x 2) 0)||(cX (iX (gD (eX (gD x 0) 3) (iO x 1)) 4) (dB x 2)))||(aT (dB x 3) 0))))||(aA (dB x 1) (nX (gD x 0) 3)))
 (.ask ((!(!(((aT (dB x 2) 0)||(cX (iX (gD (eX (gD x 0) 3) (iO x 1)) 4) (dB x 2)))||(aT (dB x 3) 0))))||(aA (dB x 2) (nX (gD (eX (gD x 0) 3) (iO x 1)) 4)))
 (.ask ((((aT (dB x 2) 0)||(cX (iX (gD (eX (gD x 0) 3) (iO x 1)) 4) (dB x 2)))||(aT (dB x 3) 0))||(cX (iE (gD (eX (gD (eX (gD x 0) 3) (iO x 1)) 4) (iO x 2))) (dB x 3)))
 (.ret (.b false) [])
 (.ask (aA (dB x 1) (nX (gD x 0) 3))
 (.ask (aA (dB x 2) (nX (gD (eX (gD x 0) 3) (iO x 1)) 4))
 (.ask (aA (dB x 3) (nE (gD (eX (gD (eX (gD x 0) 3) (iO x 1)) 4) (iO x 2))))
 (.call zG (let z0:=gE (gD (eX (gD (eX (gD x 0) 3) (iO x 1)) 4) (iO x 2)) (iO x 3);[D.l [D.l (eX (RF (D.els c)) 0),D.l (eX (RF (D.els c)) 1),D.l (eX (RF (D.els c)) 2),D.l (eX (RF (D.els c)) 3),D.l (eX (RF (D.els c)) 4),D.l (eX (RF (D.els c)) 5)],D.i (dB x 1),D.l [D.i (vI z0 0),D.i (vI z0 1),D.i (vI z0 2),D.i (vI z0 3),D.i (vI z0 4),D.l (eX z0 5),D.l (eX z0 6)]]) 0 λd _=>
 .ret (.b (D.toB d)) [])
 bA)
 bA)
 bA))
 bA)
 bA)
 bA)
def Uy(x:LD):Sh:=
 .ask (!(aD (iE (gD x 0)) (iE (gD x 1))))
 (.ret (.b false) [])
 (.loop 0 [.l (D.els (gD x 0)),.l (D.els (gD x 1)),.i 0] (.cons (λc=>
 .ret (aB c 0) [])
 (.cons (λc=>
 .ret (.b true) [])
 .nil)))
def La(p:LD):Sh:=
 .ask (aT (gI p 2) (iL (gL p 0)))
 (.ask (aA (gI p 2) (List.length (gL p 0)))
 (.ask (aA (gI p 2) (List.length (gL p 1)))
 (.ask (!(aD (iE (gD (gL p 0) (tI p 2))) (iE (gD (gL p 1) (tI p 2)))))
 (.out (0,[.b false]))
 (.loop 2 [aL p 0,aL p 1,aI p 2,.i 0] (.cons (λc=>
 .out (0,[aB c 3]))
 (.cons (λc=>
 .again [aL c 0,aL c 1,dK c 2])
 .nil))))
 bA)
 bA)
 (.out (1,[]))
def Lb(p:LD):Sh:=
 .ask (aA (gI p 2) (List.length (gL p 0)))
 (.ask (aT (gI p 3) (iE (gD (gL p 0) (tI p 2))))
 (.ask (aA (gI p 2) (List.length (gL p 0)))
 (.ask (aA (gI p 3) (nE (gD (gL p 0) (tI p 2))))
 (.ask (aA (gI p 2) (List.length (gL p 1)))
 (.ask (aA (gI p 3) (nE (gD (gL p 1) (tI p 2))))
 (.ask (!((aD (vI (gE (gD (gL p 0) (tI p 2)) (tI p 3)) 0) (vI (gE (gD (gL p 1) (tI p 2)) (tI p 3)) 0))&&((aD (vI (gE (gD (gL p 0) (tI p 2)) (tI p 3)) 1) (vI (gE (gD (gL p 1) (tI p 2)) (tI p 3)) 1))&&true)))
 (.out (0,[aL p 0,aL p 1,aI p 2,.b false]))
 (.again [aL p 0,aL p 1,aI p 2,dK p 3]))
 bA)
 bA)
 bA)
 bA)
 (.out (1,[aL p 0,aL p 1,aI p 2])))
 bA
def Ny(x:LD):Sh:=
 .ret (.l [.l [],.l [],.l [],.l [.l [.s [102],.b false,.l [],.i 0,.l [.l [.l [.i 18,.i 3,.i 1,.i 0,.i 2,.l [],.l []],.l [.i 1,.i 1,.i 2,.i 0,.i (dB x 0),.l [],.l []],.l [.i 19,.i 3,.i 3,.i 0,.i 0,.l [.i 1,.i 2],.l []],.l [.i 20,.i 1,.i 4,.i 0,.i 0,.l [.i 3],.l []],.l [.i 29,.i 0,.i 0,.i 0,.i 0,.l [],.l []]]]]]]) []
def UK(x:LD):Sh:=
 .loop 0 [.i 0,.l (eX (gD x 0) 0),.l (eX (gD x 0) 1),.l (eX (gD x 0) 2),.l (eX (gD x 0) 3)] (.cons (λc=>
 .ret (aB c 0) [])
 (.cons (λc=>
 .loop 4 [.i 0,aL c 0,aL c 1,aL c 2,aL c 3] (.cons (λd=>
 .ret (aB d 0) [])
 (.cons (λd=>
 .ret (.b true) [])
 .nil)))
 .nil))
def lL(p:LD):Sh:=
 .ask (aT (gI p 0) (iL (gL p 1)))
 (.ask (aA (gI p 0) (List.length (gL p 1)))
 (.ask ((aT (vI (gD (gL p 1) (tI p 0)) 2) 0)||(aT 2 (vI (gD (gL p 1) (tI p 0)) 2)))
 (.out (0,[.b false,aL p 1,aL p 2,aL p 3,aL p 4]))
 (.loop 2 [aI p 0,.i 0,aL p 1,aL p 2,aL p 3,aL p 4,.s (D.toS (D.fld (gD (gL p 1) (tI p 0)) 0)),.l (eX (gD (gL p 1) (tI p 0)) 1),.i (vI (gD (gL p 1) (tI p 0)) 2)] (.cons (λc=>
 .out (0,[aB c 1,aL c 2,aL c 3,aL c 4,aL c 5]))
 (.cons (λc=>
 .again [.i (bJ .i64 (gI c 0) 1),aL c 1,aL c 2,aL c 3,aL c 4])
 .nil))))
 (.bad))
 (.out (1,[aL p 1,aL p 2,aL p 3,aL p 4]))
def pD(p:LD):Sh:=
 .ask (aT (gI p 1) (iL (gL p 7)))
 (.ask (aA (gI p 1) (List.length (gL p 7)))
 (.ask ((!((!(aD (D.toI (gD (gL p 7) (tI p 1))) 1))&&true))||(aA (gI p 1) (List.length (gL p 7))))
 (.ask ((!(aD (D.toI (gD (gL p 7) (tI p 1))) 1))&&(!(aD (D.toI (gD (gL p 7) (tI p 1))) 2)))
 (.out (0,[aI p 0,.b false,aL p 2,aL p 3,aL p 4,aL p 5]))
 (.again [aI p 0,.i (bJ .i64 (gI p 1) 1),aL p 2,aL p 3,aL p 4,aL p 5,aS p 6,aL p 7,aI p 8]))
 (.bad))
 (.bad))
 (.out (1,[aI p 0,aL p 2,aL p 3,aL p 4,aL p 5]))
def jG(p:LD):Sh:=
 .ask (aT (gI p 0) (iL (gL p 4)))
 (.ask (aA (gI p 0) (List.length (gL p 4)))
 (.ask ((((aT (vI (gD (gL p 4) (tI p 0)) 3) 0)||(aT 4 (vI (gD (gL p 4) (tI p 0)) 3)))||(aD (vI (gD (gL p 4) (tI p 0)) 3) 3))||((vB (gD (gL p 4) (tI p 0)) 1)&&(aT 2 (vI (gD (gL p 4) (tI p 0)) 3))))
 (.out (0,[.b false]))
 (.loop 6 [.i 0,aI p 0,aL p 1,aL p 2,aL p 3,aL p 4,.s (D.toS (D.fld (gD (gL p 4) (tI p 0)) 0)),.b (vB (gD (gL p 4) (tI p 0)) 1),.l (eX (gD (gL p 4) (tI p 0)) 2),.i (vI (gD (gL p 4) (tI p 0)) 3),.l (eX (gD (gL p 4) (tI p 0)) 4)] (.cons (λc=>
 .out (0,[aB c 0]))
 (.cons (λc=>
 .loop 8 [.i 0,aI c 0,aL c 1,aL c 2,aL c 3,aL c 4,aS c 5,aB c 6,aL c 7,aI c 8,aL c 9] (.cons (λd=>
 .out (0,[aB d 0]))
 (.cons (λd=>
 .again [.i (bJ .i64 (gI d 0) 1),aL d 1,aL d 2,aL d 3,aL d 4])
 .nil)))
 .nil))))
 (.bad))
 (.out (1,[]))
def pE(p:LD):Sh:=
 .ask (aT (gI p 0) (iL (gL p 8)))
 (.ask (aA (gI p 0) (List.length (gL p 8)))
 (.ask ((!(!(aT (D.toI (gD (gL p 8) (tI p 0))) 1)))||(aA (gI p 0) (List.length (gL p 8))))
 (.ask ((!((!((aT (D.toI (gD (gL p 8) (tI p 0))) 1)||(aT 4 (D.toI (gD (gL p 8) (tI p 0))))))&&((gB p 7)&&true)))||(aA (gI p 0) (List.length (gL p 8))))
 (.ask (((aT (D.toI (gD (gL p 8) (tI p 0))) 1)||(aT 4 (D.toI (gD (gL p 8) (tI p 0)))))||((gB p 7)&&(aT 2 (D.toI (gD (gL p 8) (tI p 0))))))
 (.out (0,[.b false,aI p 1,aL p 2,aL p 3,aL p 4,aL p 5,aS p 6,aB p 7,aL p 8,aI p 9,aL p 10]))
 (.again [.i (bJ .i64 (gI p 0) 1),aI p 1,aL p 2,aL p 3,aL p 4,aL p 5,aS p 6,aB p 7,aL p 8,aI p 9,aL p 10]))
 (.bad))
 (.bad))
 (.bad))
 (.out (1,[aI p 1,aL p 2,aL p 3,aL p 4,aL p 5,aS p 6,aB p 7,aL p 8,aI p 9,aL p 10]))
def pF(p:LD):Sh:=
 .ask (aT (gI p 0) (iL (gL p 10)))
 (.loop 10 [aI p 0,aI p 1,.i 0,aL p 2,aL p 3,aL p 4,aL p 5,aS p 6,aB p 7,aL p 8,aI p 9,aL p 10] (.cons (λc=>
 .out (0,[aB c 1,aI c 2,aL c 3,aL c 4,aL c 5,aL c 6]))
 (.cons (λc=>
 .again [.i (bJ .i64 (gI c 0) 1),aI c 1,aL c 2,aL c 3,aL c 4,aL c 5,aS c 6,aB c 7,aL c 8,aI c 9,aL c 10])
 .nil)))
 (.out (1,[aI p 1,aL p 2,aL p 3,aL p 4,aL p 5]))
def nU(p:LD):Sh:=
 .ask (aA (gI p 0) (List.length (gL p 11)))
 (.ask (aT (gI p 2) (iE (gD (gL p 11) (tI p 0))))
 (.ask (aA (gI p 0) (List.length (gL p 11)))
 (.ask (aA (gI p 2) (nE (gD (gL p 11) (tI p 0))))
 (.call Un [.l [.i (vI (gE (gD (gL p 11) (tI p 0)) (tI p 2)) 0),.i (vI (gE (gD (gL p 11) (tI p 0)) (tI p 2)) 1),.i (vI (gE (gD (gL p 11) (tI p 0)) (tI p 2)) 2),.i (vI (gE (gD (gL p 11) (tI p 0)) (tI p 2)) 3),.i (vI (gE (gD (gL p 11) (tI p 0)) (tI p 2)) 4),.l (eX (gE (gD (gL p 11) (tI p 0)) (tI p 2)) 5),.l (eX (gE (gD (gL p 11) (tI p 0)) (tI p 2)) 6)]] 0 λc _=>
 .ask (!(D.toB c))
 (.out (0,[aI p 0,.b false,aI p 1,aL p 3,aL p 4,aL p 5,aL p 6,aS p 7,aB p 8,aL p 9,aI p 10,aL p 11]))
 (.again [aI p 0,aI p 1,.i (bJ .i64 (gI p 2) 1),aL p 3,aL p 4,aL p 5,aL p 6,aS p 7,aB p 8,aL p 9,aI p 10,aL p 11]))
 (.bad))
 (.bad))
 (.out (1,[aI p 0,aI p 1,aL p 3,aL p 4,aL p 5,aL p 6,aS p 7,aB p 8,aL p 9,aI p 10,aL p 11])))
 (.bad)
def Bp(x:LD):Sh:=
 .loop 0 [.i (iX (gD x 0) 2),.i 0,.s (D.toS (D.fld (gD x 0) 0)),.b (vB (gD x 0) 1),.l (eX (gD x 0) 2),.i (vI (gD x 0) 3),.l (eX (gD x 0) 4)] (.cons (λc=>
 .ret (aB c 1) [])
 (.cons (λc=>
 .call Kp [.l [aS c 1,aB c 2,aL c 3,aI c 4,aL c 5]] 0 λe _=>
 .call Uq [.l [aS c 1,aB c 2,aL c 3,aI c 4,aL c 5]] 0 λf _=>
 .loop 4 [aI c 0,.i 0,aS c 1,aB c 2,aL c 3,aI c 4,aL c 5,.l (D.els e),.l (D.els f)] (.cons (λd=>
 .ret (aB d 0) [])
 (.cons (λd=>
 .ret (.b true) [])
 .nil)))
 .nil))
def vE(p:LD):Sh:=
 .ask (aT (gI p 1) (iL (gL p 6)))
 (.loop 2 [aI p 0,.i 0,aI p 1,aS p 2,aB p 3,aL p 4,aI p 5,aL p 6] (.cons (λc=>
 .out (0,[aI c 0,aB c 1,aS c 3,aB c 4,aL c 5,aI c 6,aL c 7]))
 (.cons (λc=>
 .again [aI c 0,dK c 1,aS c 2,aB c 3,aL c 4,aI c 5,aL c 6])
 .nil)))
 (.out (1,[aI p 0,aS p 2,aB p 3,aL p 4,aI p 5,aL p 6]))
def vF(p:LD):Sh:=
 .ask (aA (gI p 2) (List.length (gL p 7)))
 (.ask (aT (gI p 1) (iE (gD (gL p 7) (tI p 2))))
 (.ask (aA (gI p 2) (List.length (gL p 7)))
 (.ask (aA (gI p 1) (nE (gD (gL p 7) (tI p 2))))
 (.ask (!(aD (vI (gE (gD (gL p 7) (tI p 2)) (tI p 1)) 1) 0))
 (.ask (!(aD (vI (gE (gD (gL p 7) (tI p 2)) (tI p 1)) 2) (bJ .i64 (gI p 0) 1)))
 (.out (0,[dK p 0,.b false,aI p 2,aS p 3,aB p 4,aL p 5,aI p 6,aL p 7]))
 (.again [dK p 0,dK p 1,aI p 2,aS p 3,aB p 4,aL p 5,aI p 6,aL p 7]))
 (.again [aI p 0,dK p 1,aI p 2,aS p 3,aB p 4,aL p 5,aI p 6,aL p 7]))
 bA)
 bA)
 (.out (1,[aI p 0,aI p 2,aS p 3,aB p 4,aL p 5,aI p 6,aL p 7])))
 bA
def BI(p:LD):Sh:=
 .ask (aT (gI p 1) (iL (gL p 6)))
 (.loop 6 [aI p 0,aI p 1,.i 0,aS p 2,aB p 3,aL p 4,aI p 5,aL p 6,aL p 7,aL p 8] (.cons (λc=>
 .out (0,[aB c 2]))
 (.cons (λc=>
 .again [aI c 0,dK c 1,aS c 2,aB c 3,aL c 4,aI c 5,aL c 6,aL c 7,aL c 8])
 .nil)))
 (.out (1,[]))
def BJ(p:LD):Sh:=
 .ask (aA (gI p 1) (List.length (gL p 7)))
 (.ask (aT (gI p 2) (iE (gD (gL p 7) (tI p 1))))
 (.ask (aA (gI p 1) (List.length (gL p 7)))
 (.ask (aA (gI p 2) (nE (gD (gL p 7) (tI p 1))))
 (.loop 8 [aI p 0,aI p 1,.i 0,aI p 2,aS p 3,aB p 4,aL p 5,aI p 6,aL p 7,.i (vI (gE (gD (gL p 7) (tI p 1)) (tI p 2)) 0),.i (vI (gE (gD (gL p 7) (tI p 1)) (tI p 2)) 1),.i (vI (gE (gD (gL p 7) (tI p 1)) (tI p 2)) 2),.i (vI (gE (gD (gL p 7) (tI p 1)) (tI p 2)) 3),.i (vI (gE (gD (gL p 7) (tI p 1)) (tI p 2)) 4),.l (eX (gE (gD (gL p 7) (tI p 1)) (tI p 2)) 5),.l (eX (gE (gD (gL p 7) (tI p 1)) (tI p 2)) 6),aL p 8,aL p 9] (.cons (λc=>
 .out (0,[aI c 0,aI c 1,aB c 2,aS c 4,aB c 5,aL c 6,aI c 7,aL c 8,aL c 9,aL c 10]))
 (.cons (λc=>
 .again [aI c 0,aI c 1,dK c 2,aS c 3,aB c 4,aL c 5,aI c 6,aL c 7,aL c 8,aL c 9])
 .nil)))
 bA)
 bA)
 (.out (1,[aI p 0,aI p 1,aS p 3,aB p 4,aL p 5,aI p 6,aL p 7,aL p 8,aL p 9])))
 bA
def BK(p:LD):Sh:=
 .ask (aT (gI p 2) (iL (gL p 14)))
 (.ask (aA (gI p 2) (List.length (gL p 14)))
 (.ask ((aT (D.toI (gD (gL p 14) (tI p 2))) 1)||(aT (gI p 0) (D.toI (gD (gL p 14) (tI p 2)))))
 (.out (0,[aI p 0,aI p 1,.b false,aI p 3,aS p 4,aB p 5,aL p 6,aI p 7,aL p 8,aL p 16,aL p 17]))
 (.ask (aA (D.toI (gD (gL p 14) (tI p 2))) (List.length (gL p 16)))
 (.ask (aA 0 2)
 (.ask (aT (vI (gD (gL p 16) (Int.toNat (D.toI (gD (gL p 14) (tI p 2))))) 0) 0)
 (.again [aI p 0,aI p 1,dK p 2,aI p 3,aS p 4,aB p 5,aL p 6,aI p 7,aL p 8,aI p 9,aI p 10,aI p 11,aI p 12,aI p 13,aL p 14,aL p 15,aL p 16,aL p 17])
 (.ask (aD (gI p 9) 26)
 (.ask (aA 0 2)
 (.ask (aA (vI (gD (gL p 16) (Int.toNat (D.toI (gD (gL p 14) (tI p 2))))) 0) (List.length (gL p 17)))
 (.ask (aA (gI p 2) (List.length (gL p 15)))
 (.ask (aA (D.toI (gD (gL p 15) (tI p 2))) (nE (gD (gL p 17) (Int.toNat (vI (gD (gL p 16) (Int.toNat (D.toI (gD (gL p 14) (tI p 2))))) 0)))))
 (.ask (!(D.toB (gE (gD (gL p 17) (Int.toNat (vI (gD (gL p 16) (Int.toNat (D.toI (gD (gL p 14) (tI p 2))))) 0))) (Int.toNat (D.toI (gD (gL p 15) (tI p 2)))))))
 (.out (0,[aI p 0,aI p 1,.b false,aI p 3,aS p 4,aB p 5,aL p 6,aI p 7,aL p 8,aL p 16,aL p 17]))
 (.again [aI p 0,aI p 1,dK p 2,aI p 3,aS p 4,aB p 5,aL p 6,aI p 7,aL p 8,aI p 9,aI p 10,aI p 11,aI p 12,aI p 13,aL p 14,aL p 15,aL p 16,aL p 17]))
 bA)
 bA)
 bA)
 bA)
 (.ask (aA 0 2)
 (.ask ((!((aD (vI (gD (gL p 16) (Int.toNat (D.toI (gD (gL p 14) (tI p 2))))) 0) (gI p 1))&&true))||(aA 1 2))
 (.ask ((!(!((aD (vI (gD (gL p 16) (Int.toNat (D.toI (gD (gL p 14) (tI p 2))))) 0) (gI p 1))&&(cX (gI p 3) (vI (gD (gL p 16) (Int.toNat (D.toI (gD (gL p 14) (tI p 2))))) 1)))))||(aA 0 2))
 (.ask ((!((!((aD (vI (gD (gL p 16) (Int.toNat (D.toI (gD (gL p 14) (tI p 2))))) 0) (gI p 1))&&(cX (gI p 3) (vI (gD (gL p 16) (Int.toNat (D.toI (gD (gL p 14) (tI p 2))))) 1))))&&((!(aD (vI (gD (gL p 16) (Int.toNat (D.toI (gD (gL p 14) (tI p 2))))) 0) (gI p 1)))&&true)))||(aA 0 2))
 (.ask ((!((!((aD (vI (gD (gL p 16) (Int.toNat (D.toI (gD (gL p 14) (tI p 2))))) 0) (gI p 1))&&(cX (gI p 3) (vI (gD (gL p 16) (Int.toNat (D.toI (gD (gL p 14) (tI p 2))))) 1))))&&((!(aD (vI (gD (gL p 16) (Int.toNat (D.toI (gD (gL p 14) (tI p 2))))) 0) (gI p 1)))&&true)))||(aA (vI (gD (gL p 16) (Int.toNat (D.toI (gD (gL p 14) (tI p 2))))) 0) (List.length (gL p 17))))
 (.ask ((!((!((aD (vI (gD (gL p 16) (Int.toNat (D.toI (gD (gL p 14) (tI p 2))))) 0) (gI p 1))&&(cX (gI p 3) (vI (gD (gL p 16) (Int.toNat (D.toI (gD (gL p 14) (tI p 2))))) 1))))&&((!(aD (vI (gD (gL p 16) (Int.toNat (D.toI (gD (gL p 14) (tI p 2))))) 0) (gI p 1)))&&true)))||(aA (gI p 1) (nE (gD (gL p 17) (Int.toNat (vI (gD (gL p 16) (Int.toNat (D.toI (gD (gL p 14) (tI p 2))))) 0))))))
 (.ask (((aD (vI (gD (gL p 16) (Int.toNat (D.toI (gD (gL p 14) (tI p 2))))) 0) (gI p 1))&&(cX (gI p 3) (vI (gD (gL p 16) (Int.toNat (D.toI (gD (gL p 14) (tI p 2))))) 1)))||((!(aD (vI (gD (gL p 16) (Int.toNat (D.toI (gD (gL p 14) (tI p 2))))) 0) (gI p 1)))&&(!(D.toB (gE (gD (gL p 17) (Int.toNat (vI (gD (gL p 16) (Int.toNat (D.toI (gD (gL p 14) (tI p 2))))) 0))) (tI p 1))))))
 (.out (0,[aI p 0,aI p 1,.b false,aI p 3,aS p 4,aB p 5,aL p 6,aI p 7,aL p 8,aL p 16,aL p 17]))
 (.again [aI p 0,aI p 1,dK p 2,aI p 3,aS p 4,aB p 5,aL p 6,aI p 7,aL p 8,aI p 9,aI p 10,aI p 11,aI p 12,aI p 13,aL p 14,aL p 15,aL p 16,aL p 17]))
 bA)
 bA)
 bA)
 bA)
 bA)
 bA)))
 bA)
 bA))
 bA)
 (.out (1,[aI p 0,aI p 1,aI p 3,aS p 4,aB p 5,aL p 6,aI p 7,aL p 8,aL p 16,aL p 17]))
def UL(x:LD):Sh:=
 .ask (jN (1+(nX (gD x 0) 2)) 8)
 (.loop 0 [.i 0,.s (D.toS (D.fld (gD x 0) 0)),.b (vB (gD x 0) 1),.l (eX (gD x 0) 2),.i (vI (gD x 0) 3),.l (eX (gD x 0) 4),.l ([.i 0]++(eX (gD x 0) 2))] (.cons (λc=>
 .ret (aL c 0) [])
 .nil))
 bA
def xR(p:LD):Sh:=
 .ask (aT (gI p 0) (iL (gL p 5)))
 (.loop 2 [.i 0,aI p 0,aS p 1,aB p 2,aL p 3,aI p 4,aL p 5,aL p 6] (.cons (λc=>
 .again [dK c 0,aS c 1,aB c 2,aL c 3,aI c 4,aL c 5,aL c 6])
 .nil))
 (.out (0,[aL p 6]))
def xS(p:LD):Sh:=
 .ask (aA (gI p 1) (List.length (gL p 6)))
 (.ask (aT (gI p 0) (iE (gD (gL p 6) (tI p 1))))
 (.ask (aA (gI p 1) (List.length (gL p 6)))
 (.ask (aA (gI p 0) (nE (gD (gL p 6) (tI p 1))))
 (.ask (!(aD (vI (gE (gD (gL p 6) (tI p 1)) (tI p 0)) 1) 0))
 (.ask (jN ((List.length (gL p 7))+1) 8)
 (.again [dK p 0,aI p 1,aS p 2,aB p 3,aL p 4,aI p 5,aL p 6,.l ((gL p 7)++[.i (vI (gE (gD (gL p 6) (tI p 1)) (tI p 0)) 1)])])
 bA)
 (.again [dK p 0,aI p 1,aS p 2,aB p 3,aL p 4,aI p 5,aL p 6,aL p 7]))
 bA)
 bA)
 (.out (0,[aI p 1,aS p 2,aB p 3,aL p 4,aI p 5,aL p 6,aL p 7])))
 bA
def aAq(x:LD):Sh:=
 .ret (.b ((cX 27 (D.toI (gD x 0)))&&(cX (D.toI (gD x 0)) 30))) []
def UM(x:LD):Sh:=
 .call QJ [GN (gD x 0)] 0 λd _=>
 .ask ((cX 0 (bJ .i64 (D.toI d) 1))&&((aD (bJ .i64 (D.toI d) 1) (bJ .i64 (D.toI d) 1))&&(jN (Int.toNat (bJ .i64 (D.toI d) 1)) 16)))
 (.loop 0 [.i 0,.s (D.toS (D.fld (gD x 0) 0)),.b (vB (gD x 0) 1),.l (eX (gD x 0) 2),.i (vI (gD x 0) 3),.l (eX (gD x 0) 4),.l (List.replicate (Int.toNat (bJ .i64 (D.toI d) 1)) (D.l [.i 0,.i 0]))] (.cons (λc=>
 .loop 2 [.i (iL (gL c 2)),.i 0,aS c 0,aB c 1,aL c 2,aI c 3,aL c 4,aL c 5] (.cons (λe=>
 .ret (aL e 0) [])
 .nil))
 .nil))
 bA
def xT(p:LD):Sh:=
 .ask (cX (gI p 0) (iL (gL p 3)))
 (.ask (aA (gI p 0) (List.length (gL p 6)))
 (.again (let z0:=List.set (gL p 6) (tI p 0) (D.l (cP (D.els (gD (gL p 6) (tI p 0))) 0 (D.i (-1))));[dK p 0,aS p 1,aB p 2,aL p 3,aI p 4,aL p 5,.l (List.set z0 (tI p 0) (D.l (cP (D.els (gD z0 (tI p 0))) 1 (D.i (-1)))))]))
 bA)
 (.out (0,[aS p 1,aB p 2,aL p 3,aI p 4,aL p 5,aL p 6]))
def xU(p:LD):Sh:=
 .ask (aT (gI p 1) (iL (gL p 6)))
 (.loop 4 [.i 0,aI p 0,aI p 1,aS p 2,aB p 3,aL p 4,aI p 5,aL p 6,aL p 7] (.cons (λc=>
 .again [aI c 0,dK c 1,aS c 2,aB c 3,aL c 4,aI c 5,aL c 6,aL c 7])
 .nil))
 (.out (0,[aL p 7]))
def xV(p:LD):Sh:=
 .ask (aA (gI p 2) (List.length (gL p 7)))
 (.ask (aT (gI p 0) (iE (gD (gL p 7) (tI p 2))))
 (.ask (aA (gI p 2) (List.length (gL p 7)))
 (.ask (aA (gI p 0) (nE (gD (gL p 7) (tI p 2))))
 (.ask (!(aD (vI (gE (gD (gL p 7) (tI p 2)) (tI p 0)) 1) 0))
 (.ask (aA (bJ .i64 (gI p 1) 1) (List.length (gL p 8)))
 (.again (let z0:=List.set (gL p 8) (Int.toNat (bJ .i64 (gI p 1) 1)) (D.l (cP (D.els (gD (gL p 8) (Int.toNat (bJ .i64 (gI p 1) 1)))) 0 (aI p 2)));[dK p 0,dK p 1,aI p 2,aS p 3,aB p 4,aL p 5,aI p 6,aL p 7,.l (List.set z0 (Int.toNat (bJ .i64 (gI p 1) 1)) (D.l (cP (D.els (gD z0 (Int.toNat (bJ .i64 (gI p 1) 1)))) 1 (aI p 0))))]))
 bA)
 (.again [dK p 0,aI p 1,aI p 2,aS p 3,aB p 4,aL p 5,aI p 6,aL p 7,aL p 8]))
 bA)
 bA)
 (.out (0,[aI p 1,aI p 2,aS p 3,aB p 4,aL p 5,aI p 6,aL p 7,aL p 8])))
 bA
def UN(x:LD):Sh:=
 .ask ((cX 0 (iX (gD x 0) 3))&&((aD (iX (gD x 0) 3) (iX (gD x 0) 3))&&(jN (Int.toNat (iX (gD x 0) 3)) 1)))
 (.loop 0 [.l (eX (gD x 0) 2),.i 0,.i (iX (gD x 0) 2),.l (eX (gD x 0) 0),.l (eX (gD x 0) 1),.l (eX (gD x 0) 2),.l (eX (gD x 0) 3),.l (eX (gD x 0) 0),.l (eX (gD x 0) 1),.l (eX (gD x 0) 2),.l (eX (gD x 0) 3),.l (List.replicate (nX (gD x 0) 3) (D.b false))] (.cons (λc=>
 .loop 4 [aL c 3,.i 0,.i (iL (gL c 3)),aL c 4,aL c 5,aL c 6,aL c 7,aL c 8,.l []] (.cons (λd=>
 .ret (.l [.l [aL d 0,aL d 1,aL d 2,aL d 3,aL d 4,aL d 5]]) [])
 .nil))
 .nil))
 bA
def xW(p:LD):Sh:=
 .ask (aT (gI p 1) (gI p 2))
 (.ask (aA (gI p 1) (List.length (gL p 0)))
 (.loop 2 [.i (iX (gD (gL p 0) (tI p 1)) 1),aL p 0,aI p 1,.i 0,aI p 2,.l (eX (gD (gL p 0) (tI p 1)) 1),aL p 3,aL p 4,aL p 5,aL p 6,aL p 7,aL p 8,aL p 9,aL p 10,aL p 11] (.cons (λc=>
 .again [aL c 0,dK c 1,aI c 2,aL c 3,aL c 4,aL c 5,aL c 6,aL c 7,aL c 8,aL c 9,aL c 10,aL c 11])
 .nil))
 bA)
 (.out (0,[aL p 3,aL p 4,aL p 5,aL p 6,aL p 7,aL p 8,aL p 9,aL p 10,aL p 11]))
def pG(p:LD):Sh:=
 .ask (aT (gI p 3) (gI p 0))
 (.ask (aA (gI p 3) (List.length (gL p 5)))
 (.ask (cX 0 (D.toI (gD (gL p 5) (tI p 3))))
 (.ask (aA (D.toI (gD (gL p 5) (tI p 3))) (List.length (gL p 14)))
 (.again [aI p 0,aL p 1,aI p 2,dK p 3,aI p 4,aL p 5,aL p 6,aL p 7,aL p 8,aL p 9,aL p 10,aL p 11,aL p 12,aL p 13,.l (List.set (gL p 14) (Int.toNat (D.toI (gD (gL p 5) (tI p 3)))) (D.b true))])
 bA)
 (.again [aI p 0,aL p 1,aI p 2,dK p 3,aI p 4,aL p 5,aL p 6,aL p 7,aL p 8,aL p 9,aL p 10,aL p 11,aL p 12,aL p 13,aL p 14]))
 bA)
 (.out (0,[aL p 1,aI p 2,aI p 4,aL p 6,aL p 7,aL p 8,aL p 9,aL p 10,aL p 11,aL p 12,aL p 13,aL p 14]))
def xX(p:LD):Sh:=
 .ask (aT (gI p 1) (gI p 2))
 (.ask (aA (gI p 1) (List.length (gL p 0)))
 (.call YB [GN (gD (gL p 0) (tI p 1))] 0 λd _=>
 .ask ((cX 0 (iE d))&&((aD (iE d) (iE d))&&(jN (Int.toNat (iE d)) 88)))
 (.loop 6 [.i (iX (gD (gL p 0) (tI p 1)) 4),aL p 0,aI p 1,.i 0,aI p 2,.l (eX (gD (gL p 0) (tI p 1)) 4),.s (D.toS (D.fld (gD (gL p 0) (tI p 1)) 0)),.b (vB (gD (gL p 0) (tI p 1)) 1),.l (eX (gD (gL p 0) (tI p 1)) 2),.i (vI (gD (gL p 0) (tI p 1)) 3),.l (eX (gD (gL p 0) (tI p 1)) 4),aL p 3,aL p 4,aL p 5,aL p 6,aL p 7,.l (List.replicate (nE d) (D.l [.i 0,.i 0,.i 0,.i 0,.i 0,.l [],.l []])),aL p 8,.l (D.els d)] (.cons (λc=>
 .call zH [.l [aL c 15,.l [],.l [],aL c 13],.l [aS c 3,aB c 4,aL c 5,aI c 6,aL c 7]] 1 λg e=>
 .call BX [.l [.l (eX (gD e 0) 0),.l (eX (gD e 0) 1),.l (eX (gD e 0) 2),.l (eX (gD e 0) 3)]] 1 λh f=>
 .ask (jN ((List.length (gL c 14))+1) 96)
 (.again [aL c 0,dK c 1,aI c 2,aL c 8,aL c 9,aL c 10,aL c 11,aL c 12,.l ((gL c 14)++[.l [.l (eX (gD f 0) 0),.l (eX (gD f 0) 1),.l (eX (gD f 0) 2),.l (eX (gD f 0) 3)]])])
 bA)
 .nil))
 bA)
 bA)
 (.out (0,[aL p 3,aL p 4,aL p 5,aL p 6,aL p 7,aL p 8]))
def xY(p:LD):Sh:=
 .ask (aT (gI p 3) (gI p 0))
 (.ask (aA (gI p 3) (List.length (gL p 5)))
 (.loop 8 [aI p 0,aL p 1,.i 0,aI p 2,.l (D.els (gD (gL p 5) (tI p 3))),aI p 3,aI p 4,.i (iE (gD (gL p 5) (tI p 3))),aL p 5,aS p 6,aB p 7,aL p 8,aI p 9,aL p 10,aL p 11,aL p 12,aL p 13,aL p 14,aL p 15,aL p 16,aL p 17,aL p 18] (.cons (λc=>
 .again [aI c 0,aL c 1,aI c 2,dK c 3,aI c 4,aL c 5,aS c 6,aB c 7,aL c 8,aI c 9,aL c 10,aL c 11,aL c 12,aL c 13,aL c 14,aL c 15,aL c 16,aL c 17,aL c 18])
 .nil))
 bA)
 (.out (0,[aL p 1,aI p 2,aI p 4,aS p 6,aB p 7,aL p 8,aI p 9,aL p 10,aL p 11,aL p 12,aL p 13,aL p 14,aL p 15,aL p 16,aL p 17,aL p 18]))
def pH(p:LD):Sh:=
 .ask (aT (gI p 2) (gI p 7))
 (.ask (aA (gI p 2) (List.length (gL p 4)))
 (.ask (aD (vI (gD (gL p 4) (tI p 2)) 0) 2)
 (.ask (aA (vI (gD (gL p 4) (tI p 2)) 3) (List.length (gL p 18)))
 (.ask (!(aD (vI (gD (gL p 4) (tI p 2)) 1) 0))
 (.ask (aA (vI (gD (gL p 4) (tI p 2)) 2) (List.length (gL p 19)))
 (.again (let z0:=List.set (gL p 19) (Int.toNat (vI (gD (gL p 4) (tI p 2)) 2)) (D.l (cP (D.els (gD (gL p 19) (Int.toNat (vI (gD (gL p 4) (tI p 2)) 2)))) 0 (D.i (vI (gD (gL p 4) (tI p 2)) 0))));let c:=List.set z0 (Int.toNat (vI (gD (gL p 4) (tI p 2)) 2)) (D.l (cP (D.els (gD z0 (Int.toNat (vI (gD (gL p 4) (tI p 2)) 2)))) 1 (D.i (vI (gD (gL p 4) (tI p 2)) 1))));let z2:=List.set c (Int.toNat (vI (gD (gL p 4) (tI p 2)) 2)) (D.l (cP (D.els (gD c (Int.toNat (vI (gD (gL p 4) (tI p 2)) 2)))) 2 (D.i (vI (gD (gL p 4) (tI p 2)) 2))));let z3:=List.set z2 (Int.toNat (vI (gD (gL p 4) (tI p 2)) 2)) (D.l (cP (D.els (gD z2 (Int.toNat (vI (gD (gL p 4) (tI p 2)) 2)))) 3 (D.i (vI (gD (gL p 4) (tI p 2)) 3))));let z4:=List.set z3 (Int.toNat (vI (gD (gL p 4) (tI p 2)) 2)) (D.l (cP (D.els (gD z3 (Int.toNat (vI (gD (gL p 4) (tI p 2)) 2)))) 4 (D.i (vI (gD (gL p 4) (tI p 2)) 4))));let z5:=List.set z4 (Int.toNat (vI (gD (gL p 4) (tI p 2)) 2)) (D.l (cP (D.els (gD z4 (Int.toNat (vI (gD (gL p 4) (tI p 2)) 2)))) 5 (D.l (eX (gD (gL p 4) (tI p 2)) 5))));[aI p 0,aL p 1,dK p 2,aI p 3,aL p 4,aI p 5,aI p 6,aI p 7,aL p 8,aS p 9,aB p 10,aL p 11,aI p 12,aL p 13,aL p 14,aL p 15,aL p 16,aL p 17,.l (List.set (gL p 18) (Int.toNat (vI (gD (gL p 4) (tI p 2)) 3)) (D.b true)),.l (List.set z5 (Int.toNat (vI (gD (gL p 4) (tI p 2)) 2)) (D.l (cP (D.els (gD z5 (Int.toNat (vI (gD (gL p 4) (tI p 2)) 2)))) 6 (D.l (eX (gD (gL p 4) (tI p 2)) 6))))),aL p 20,aL p 21]))
 bA)
 (.again [aI p 0,aL p 1,dK p 2,aI p 3,aL p 4,aI p 5,aI p 6,aI p 7,aL p 8,aS p 9,aB p 10,aL p 11,aI p 12,aL p 13,aL p 14,aL p 15,aL p 16,aL p 17,.l (List.set (gL p 18) (Int.toNat (vI (gD (gL p 4) (tI p 2)) 3)) (D.b true)),aL p 19,aL p 20,aL p 21]))
 bA)
 (.ask (!(aD (vI (gD (gL p 4) (tI p 2)) 1) 0))
 (.ask (aA (vI (gD (gL p 4) (tI p 2)) 2) (List.length (gL p 19)))
 (.again (let z0:=List.set (gL p 19) (Int.toNat (vI (gD (gL p 4) (tI p 2)) 2)) (D.l (cP (D.els (gD (gL p 19) (Int.toNat (vI (gD (gL p 4) (tI p 2)) 2)))) 0 (D.i (vI (gD (gL p 4) (tI p 2)) 0))));let c:=List.set z0 (Int.toNat (vI (gD (gL p 4) (tI p 2)) 2)) (D.l (cP (D.els (gD z0 (Int.toNat (vI (gD (gL p 4) (tI p 2)) 2)))) 1 (D.i (vI (gD (gL p 4) (tI p 2)) 1))));let z2:=List.set c (Int.toNat (vI (gD (gL p 4) (tI p 2)) 2)) (D.l (cP (D.els (gD c (Int.toNat (vI (gD (gL p 4) (tI p 2)) 2)))) 2 (D.i (vI (gD (gL p 4) (tI p 2)) 2))));let z3:=List.set z2 (Int.toNat (vI (gD (gL p 4) (tI p 2)) 2)) (D.l (cP (D.els (gD z2 (Int.toNat (vI (gD (gL p 4) (tI p 2)) 2)))) 3 (D.i (vI (gD (gL p 4) (tI p 2)) 3))));let z4:=List.set z3 (Int.toNat (vI (gD (gL p 4) (tI p 2)) 2)) (D.l (cP (D.els (gD z3 (Int.toNat (vI (gD (gL p 4) (tI p 2)) 2)))) 4 (D.i (vI (gD (gL p 4) (tI p 2)) 4))));let z5:=List.set z4 (Int.toNat (vI (gD (gL p 4) (tI p 2)) 2)) (D.l (cP (D.els (gD z4 (Int.toNat (vI (gD (gL p 4) (tI p 2)) 2)))) 5 (D.l (eX (gD (gL p 4) (tI p 2)) 5))));[aI p 0,aL p 1,dK p 2,aI p 3,aL p 4,aI p 5,aI p 6,aI p 7,aL p 8,aS p 9,aB p 10,aL p 11,aI p 12,aL p 13,aL p 14,aL p 15,aL p 16,aL p 17,aL p 18,.l (List.set z5 (Int.toNat (vI (gD (gL p 4) (tI p 2)) 2)) (D.l (cP (D.els (gD z5 (Int.toNat (vI (gD (gL p 4) (tI p 2)) 2)))) 6 (D.l (eX (gD (gL p 4) (tI p 2)) 6))))),aL p 20,aL p 21]))
 bA)
 (.again [aI p 0,aL p 1,dK p 2,aI p 3,aL p 4,aI p 5,aI p 6,aI p 7,aL p 8,aS p 9,aB p 10,aL p 11,aI p 12,aL p 13,aL p 14,aL p 15,aL p 16,aL p 17,aL p 18,aL p 19,aL p 20,aL p 21])))
 bA)
 (.out (0,[aI p 0,aL p 1,aI p 3,aI p 5,aI p 6,aL p 8,aS p 9,aB p 10,aL p 11,aI p 12,aL p 13,aL p 14,aL p 15,aL p 16,aL p 17,aL p 18,aL p 19,aL p 20,aL p 21]))
def Ep(x:LD):Sh:=
 .ask (aD (D.toI (gD x 0)) 26)
 (.ret (.l [.i (-1),.i (-1),.b false,.b false]) [])
 (.ask (aD (D.toI (gD x 0)) 27)
 (.ret (.l [.i 0,.i 1,.b false,.b false]) [])
 (.ask (aD (D.toI (gD x 0)) 28)
 (.ret (.l [.i 1,.i 2,.b false,.b false]) [])
 (.ret (.l [.i 0,.i 0,.b false,.b false]) [])))
def Eq(x:LD):Sh:=
 .ask (aD (D.toI (gD x 0)) 24)
 (.ret (.l [.i 1,.i 0,.b true,.b false]) [])
 (.ask (aD (D.toI (gD x 0)) 25)
 (.ask (aD (D.toI (gD x 0)) 25)
 (.ret (.l [.i (-1),.i 0,.b false,.b false]) [])
 (Ep x))
 (.ask (aD (D.toI (gD x 0)) 29)
 (.ret (.l [.i (-1),.i 0,.b false,.b false]) [])
 (Ep x)))
def Er(x:LD):Sh:=
 .ask (aD (D.toI (gD x 0)) 17)
 (.ret (.l [.i 3,.i 0,.b false,.b false]) [])
 (.ask (aD (D.toI (gD x 0)) 22)
 (.ask (aD (D.toI (gD x 0)) 22)
 (.ret (.l [.i (-1),.i 0,.b true,.b false]) [])
 (Eq x))
 (.ask (aD (D.toI (gD x 0)) 23)
 (.ret (.l [.i (-1),.i 0,.b true,.b false]) [])
 (Eq x)))
def gV(x:LD):Sh:=
 .ask (aD (D.toI (gD x 0)) 16)
 (.ask (aD (D.toI (gD x 0)) 16)
 (.ret (.l [.i 1,.i 0,.b false,.b false]) [])
 (Er x))
 (.ask (aD (D.toI (gD x 0)) 20)
 (.ret (.l [.i 1,.i 0,.b false,.b false]) [])
 (Er x))
def Es(x:LD):Sh:=
 .ask (aD (D.toI (gD x 0)) 4)
 (.ask (aD (D.toI (gD x 0)) 4)
 (.ret (.l [.i 2,.i 0,.b false,.b false]) [])
 (gV x))
 (.ask (aD (D.toI (gD x 0)) 5)
 (.ask (aD (D.toI (gD x 0)) 5)
 (.ret (.l [.i 2,.i 0,.b false,.b false]) [])
 (gV x))
 (.ask (aD (D.toI (gD x 0)) 6)
 (.ask (aD (D.toI (gD x 0)) 6)
 (.ret (.l [.i 2,.i 0,.b false,.b false]) [])
 (gV x))
 (.ask (aD (D.toI (gD x 0)) 7)
 (.ask (aD (D.toI (gD x 0)) 7)
 (.ret (.l [.i 2,.i 0,.b false,.b false]) [])
 (gV x))
 (.ask (aD (D.toI (gD x 0)) 8)
 (.ask (aD (D.toI (gD x 0)) 8)
 (.ret (.l [.i 2,.i 0,.b false,.b false]) [])
 (gV x))
 (.ask (aD (D.toI (gD x 0)) 9)
 (.ask (aD (D.toI (gD x 0)) 9)
 (.ret (.l [.i 2,.i 0,.b false,.b false]) [])
 (gV x))
 (.ask (aD (D.toI (gD x 0)) 10)
 (.ask (aD (D.toI (gD x 0)) 10)
 (.ret (.l [.i 2,.i 0,.b false,.b false]) [])
 (gV x))
 (.ask (aD (D.toI (gD x 0)) 11)
 (.ask (aD (D.toI (gD x 0)) 11)
 (.ret (.l [.i 2,.i 0,.b false,.b false]) [])
 (gV x))
 (.ask (aD (D.toI (gD x 0)) 12)
 (.ask (aD (D.toI (gD x 0)) 12)
 (.ret (.l [.i 2,.i 0,.b false,.b false]) [])
 (gV x))
 (.ask (aD (D.toI (gD x 0)) 13)
 (.ask (aD (D.toI (gD x 0)) 13)
 (.ret (.l [.i 2,.i 0,.b false,.b false]) [])
 (gV x))
 (.ask (aD (D.toI (gD x 0)) 14)
 (.ask (aD (D.toI (gD x 0)) 14)
 (.ret (.l [.i 2,.i 0,.b false,.b false]) [])
 (gV x))
 (.ask (aD (D.toI (gD x 0)) 15)
 (.ask (aD (D.toI (gD x 0)) 15)
 (.ret (.l [.i 2,.i 0,.b false,.b false]) [])
 (gV x))
 (.ask (aD (D.toI (gD x 0)) 19)
 (.ask (aD (D.toI (gD x 0)) 19)
 (.ret (.l [.i 2,.i 0,.b false,.b false]) [])
 (gV x))
 (.ask (aD (D.toI (gD x 0)) 21)
 (.ret (.l [.i 2,.i 0,.b false,.b false]) [])
 (gV x))))))))))))))
def Et(x:LD):Sh:=
 .ask (aD (D.toI (gD x 0)) 2)
 (.ask (aD (D.toI (gD x 0)) 2)
 (.ret (.l [.i 0,.i 0,.b true,.b false]) [])
 (Es x))
 (.ask (aD (D.toI (gD x 0)) 3)
 (.ret (.l [.i 0,.i 0,.b true,.b false]) [])
 (Es x))
def Py(x:LD):Sh:=
 .ask (aD (D.toI (gD x 0)) 1)
 (.ask (aD (D.toI (gD x 0)) 1)
 (.ret (.l [.i 0,.i 0,.b false,.b true]) [])
 (Et x))
 (.ask (aD (D.toI (gD x 0)) 18)
 (.ret (.l [.i 0,.i 0,.b false,.b true]) [])
 (Et x))
def UO(x:LD):Sh:=
 .ask ((((aT 24 (iX (gD x 0) 3))||(aT 12 (iX (gD x 0) 0)))||(aT 12 (iX (gD x 0) 1)))||(aT 6 (iX (gD x 0) 2)))
 (.ret (.b false) [])
 (.loop 0 [.i (iX (gD x 0) 0),.i 0,.l (eX (gD x 0) 0),.l (eX (gD x 0) 0),.l (eX (gD x 0) 1),.l (eX (gD x 0) 2),.l (eX (gD x 0) 3)] (.cons (λc=>
 .ret (aB c 0) [])
 (.cons (λc=>
 .loop 2 [.i (iL (gL c 1)),.i 0,aL c 1,aL c 0,aL c 1,aL c 2,aL c 3] (.cons (λd=>
 .ret (aB d 0) [])
 (.cons (λd=>
 .loop 4 [.i (iL (gL d 2)),aL d 2,.i 0,aL d 0,aL d 1,aL d 2,aL d 3] (.cons (λe=>
 .ret (aB e 0) [])
 (.cons (λe=>
 .loop 6 [.i (iL (gL e 3)),.i 0,aL e 3] (.cons (λf=>
 .ret (aB f 0) [])
 (.cons (λf=>
 .ret (.b true) [])
 .nil)))
 .nil)))
 .nil)))
 .nil)))
def pI(p:LD):Sh:=
 .ask (aT (gI p 1) (gI p 0))
 (.ask (aA (gI p 1) (List.length (gL p 2)))
 (.ask (aT 5 (iX (gD (gL p 2) (tI p 1)) 1))
 (.out (0,[.b false,aL p 3,aL p 4,aL p 5,aL p 6]))
 (.again [aI p 0,dK p 1,aL p 2,aL p 3,aL p 4,aL p 5,aL p 6]))
 bA)
 (.out (1,[aL p 3,aL p 4,aL p 5,aL p 6]))
def pJ(p:LD):Sh:=
 .ask (aT (gI p 1) (gI p 0))
 (.ask (aA (gI p 1) (List.length (gL p 2)))
 (.ask ((aT (iX (gD (gL p 2) (tI p 1)) 1) 1)||(aT 16 (iX (gD (gL p 2) (tI p 1)) 1)))
 (.out (0,[.b false,aL p 3,aL p 4,aL p 5,aL p 6]))
 (.again [aI p 0,dK p 1,aL p 2,aL p 3,aL p 4,aL p 5,aL p 6]))
 bA)
 (.out (1,[aL p 3,aL p 4,aL p 5,aL p 6]))
def pK(p:LD):Sh:=
 .ask (aT (gI p 2) (gI p 0))
 (.ask (aA (gI p 2) (List.length (gL p 1)))
 (.ask ((aT (iX (gD (gL p 1) (tI p 2)) 1) 1)||(aT 12 (iX (gD (gL p 1) (tI p 2)) 1)))
 (.out (0,[.b false,aL p 3,aL p 4,aL p 5,aL p 6]))
 (.again [aI p 0,aL p 1,dK p 2,aL p 3,aL p 4,aL p 5,aL p 6]))
 bA)
 (.out (1,[aL p 3,aL p 4,aL p 5,aL p 6]))
def pL(p:LD):Sh:=
 .ask (aT (gI p 1) (gI p 0))
 (.ask (aA (gI p 1) (List.length (gL p 2)))
 (.ask (!(((aT 5 (iX (gD (gL p 2) (tI p 1)) 2))||(aT (iX (gD (gL p 2) (tI p 1)) 4) 1))||(aT 40 (iX (gD (gL p 2) (tI p 1)) 4))))
 (.call Ut [GN (gD (gL p 2) (tI p 1))] 0 λc _=>
 .ask ((((aT 5 (iX (gD (gL p 2) (tI p 1)) 2))||(aT (iX (gD (gL p 2) (tI p 1)) 4) 1))||(aT 40 (iX (gD (gL p 2) (tI p 1)) 4)))||(aT 300 (D.toI c)))
 (.out (0,[.b false]))
 (.again [aI p 0,dK p 1,aL p 2]))
 (.ask ((((aT 5 (iX (gD (gL p 2) (tI p 1)) 2))||(aT (iX (gD (gL p 2) (tI p 1)) 4) 1))||(aT 40 (iX (gD (gL p 2) (tI p 1)) 4)))||(aT 300 0))
 (.out (0,[.b false]))
 (.again [aI p 0,dK p 1,aL p 2])))
 bA)
 (.out (1,[]))
def UP(x:LD):Sh:=
 .loop 0 [.i 0,.l (eX (gD x 0) 4),.i (iX (gD x 0) 4),.s (D.toS (D.fld (gD x 0) 0)),.b (vB (gD x 0) 1),.l (eX (gD x 0) 2),.i (vI (gD x 0) 3),.l (eX (gD x 0) 4)] (.cons (λc=>
 .ret (aB c 0) [])
 (.cons (λc=>
 .call KI [.l [aS c 0,aB c 1,aL c 2,aI c 3,aL c 4]] 0 λe _=>
 .call mE [.l (D.els e),.b false] 0 λf _=>
 .ask (D.toB f)
 (.ret (.b false) [])
 (.call Az [.l [aS c 0,aB c 1,aL c 2,aI c 3,aL c 4]] 0 λg _=>
 .loop 6 [.i 0,aL c 4,.i (iL (gL c 4)),.l (D.els g)] (.cons (λd=>
 .ret (aB d 0) [])
 (.cons (λd=>
 .ret (.b true) [])
 .nil))))
 .nil))
def xZ(p:LD):Sh:=
 .ask (aT (gI p 0) (gI p 2))
 (.ask (aA (gI p 0) (List.length (gL p 1)))
 (.ask (aD (iE (gD (gL p 1) (tI p 0))) 0)
 (.out (0,[.b false,aS p 3,aB p 4,aL p 5,aI p 6,aL p 7]))
 (.loop 2 [aI p 0,.i 0,aI p 0,.b false,aL p 1,.l (D.els (gD (gL p 1) (tI p 0))),aI p 2,.i (iE (gD (gL p 1) (tI p 0))),aS p 3,aB p 4,aL p 5,aI p 6,aL p 7,.l (D.els (gD (gL p 1) (tI p 0)))] (.cons (λd=>
 .out (0,[aB d 2,aS d 4,aB d 5,aL d 6,aI d 7,aL d 8]))
 (.cons (λd=>
 .ask (aA (bD .i64 ((iL (gL d 8))-1)) (List.length (gL d 8)))
 (.loop 4 (let z0:=eX (gD (gL d 8) (Int.toNat (bD .i64 ((iL (gL d 8))-1)))) 6;[aI d 0,.i (iL z0),aL d 1,.l z0,.i 0,aI d 2,.l z0,aS d 3,aB d 4,aL d 5,aI d 6,aL d 7]) (.cons (λc=>
 .out (0,[aB c 2,aS c 5,aB c 6,aL c 7,aI c 8,aL c 9]))
 (.cons (λc=>
 .ask ((!((aD (iL (gL c 2)) 2)&&true))||(aA 0 (List.length (gL c 2))))
 (.ask ((!((aD (iL (gL c 2)) 2)&&true))||(aA 1 (List.length (gL c 2))))
 (.ask ((aD (iL (gL c 2)) 2)&&(aD (D.toI (gD (gL c 2) 0)) (D.toI (gD (gL c 2) 1))))
 (.out (0,[.b false,aS c 4,aB c 5,aL c 6,aI c 7,aL c 8]))
 (.again [dK c 0,aL c 1,aI c 3,aS c 4,aB c 5,aL c 6,aI c 7,aL c 8]))
 bA)
 bA)
 .nil)))
 bA)
 .nil))))
 bA)
 (.out (1,[aS p 3,aB p 4,aL p 5,aI p 6,aL p 7]))
def yA(p:LD):Sh:=
 .ask (aT (gI p 1) (gI p 7))
 (.ask (aA (gI p 1) (List.length (gL p 5)))
 (.call GM [.i (vI (gD (gL p 5) (tI p 1)) 0)] 0 λc _=>
 .ask ((!(bif D.toB c then aD (gI p 1) (bD .i64 ((iL (gL p 13))-1))else !(aD (gI p 1) (bD .i64 ((iL (gL p 13))-1)))))||((aD (vI (gD (gL p 5) (tI p 1)) 0) 26)&&((gB p 3)||(aD (gI p 0) 0))))
 (.out (0,[aI p 2,aL p 4,.b false,aI p 6,aS p 8,aB p 9,aL p 10,aI p 11,aL p 12,aL p 13]))
 (.again [aI p 0,dK p 1,aI p 2,.b ((gB p 3)||(!(aD (vI (gD (gL p 5) (tI p 1)) 0) 26))),aL p 4,aL p 5,aI p 6,aI p 7,aS p 8,aB p 9,aL p 10,aI p 11,aL p 12,aL p 13]))
 bA)
 (.out (1,[aI p 2,aL p 4,aI p 6,aS p 8,aB p 9,aL p 10,aI p 11,aL p 12,aL p 13]))
def yB(p:LD):Sh:=
 .ask (aT (gI p 4) (gI p 1))
 (.ask (aA (gI p 4) (List.length (gL p 6)))
 (.ask ((aT (D.toI (gD (gL p 6) (tI p 4))) 1)||(cX (iL (gL p 11)) (D.toI (gD (gL p 6) (tI p 4)))))
 (.out (0,[aI p 0,aL p 2,.b false,aL p 3,aI p 5,aS p 7,aB p 8,aL p 9,aI p 10,aL p 11]))
 (.again [aI p 0,aI p 1,aL p 2,aL p 3,dK p 4,aI p 5,aL p 6,aS p 7,aB p 8,aL p 9,aI p 10,aL p 11]))
 bA)
 (.out (1,[aI p 0,aL p 2,aL p 3,aI p 5,aS p 7,aB p 8,aL p 9,aI p 10,aL p 11]))
def yC(p:LD):Sh:=
 .ask (aT (gI p 0) (gI p 2))
 (.ask (aA (gI p 0) (List.length (gL p 1)))
 (.loop 8 [aI p 0,.i 0,.l (D.els (gD (gL p 1) (tI p 0))),aL p 1,aI p 0,.i (iE (gD (gL p 1) (tI p 0))),aI p 2,aL p 3] (.cons (λc=>
 .out (0,[aB c 2]))
 (.cons (λc=>
 .again [dK c 0,aL c 1,aI c 2,aL c 3])
 .nil)))
 bA)
 (.out (1,[]))
def yD(p:LD):Sh:=
 .ask (aT (gI p 1) (gI p 5))
 (.ask (aA (gI p 1) (List.length (gL p 2)))
 (.ask ((!((aD (vI (gD (gL p 2) (tI p 1)) 0) 26)&&true))||(aA (gI p 4) (List.length (gL p 7))))
 (.ask ((aD (vI (gD (gL p 2) (tI p 1)) 0) 26)&&true)
 (.call mR [.l (eX (gD (gL p 2) (tI p 1)) 6),.l (D.els (gD (gL p 7) (tI p 4)))] 0 λc _=>
 .ask ((aD (vI (gD (gL p 2) (tI p 1)) 0) 26)&&(!(D.toB c)))
 (.out (0,[aI p 0,aL p 3,.b false,aI p 6,aL p 7]))
 (.again [aI p 0,dK p 1,aL p 2,aL p 3,aI p 4,aI p 5,aI p 6,aL p 7]))
 (.ask ((aD (vI (gD (gL p 2) (tI p 1)) 0) 26)&&(!(D.toB (.i 0))))
 (.out (0,[aI p 0,aL p 3,.b false,aI p 6,aL p 7]))
 (.again [aI p 0,dK p 1,aL p 2,aL p 3,aI p 4,aI p 5,aI p 6,aL p 7])))
 bA)
 bA)
 (.out (1,[aI p 0,aL p 3,aI p 6,aL p 7]))
def uG(x:LD):Sh:=
 .ask ((cX 0 (iX (gD x 0) 0))&&((aD (iX (gD x 0) 0) (iX (gD x 0) 0))&&(jN (Int.toNat (iX (gD x 0) 0)) 24)))
 (.loop 0 [.i (iX (gD x 1) 2),.i 0,.l (eX (gD x 1) 2),.l (List.replicate (nX (gD x 0) 0) (D.l [])),.l (eX (gD x 0) 0),.l (eX (gD x 0) 2),.l (eX (gD x 0) 3)] (.cons (λc=>
 .loop 2 [.b true,aL c 0,aL c 1,aL c 2,aL c 3] (.cons (λd=>
 .ret (.l []) [.l [aL d 1,aL d 0,aL d 2,aL d 3]])
 .nil))
 .nil))
 bA
def kG(p:LD):Sh:=
 .ask (aT (gI p 1) (gI p 0))
 (.ask (aA (gI p 1) (List.length (gL p 2)))
 (.ask (aD (D.toI (gD (gL p 2) (tI p 1))) 3)
 (.ask (aA (bJ .i64 (gI p 1) 1) (List.length (gL p 3)))
 (.again [aI p 0,dK p 1,aL p 2,.l (List.set (gL p 3) (Int.toNat (bJ .i64 (gI p 1) 1)) (D.l [.l [.i 1,dK p 1]])),aL p 4,aL p 5,aL p 6])
 bA)
 (.again [aI p 0,dK p 1,aL p 2,aL p 3,aL p 4,aL p 5,aL p 6]))
 bA)
 (.out (0,[aL p 3,aL p 4,aL p 5,aL p 6]))
def kH(p:LD):Sh:=
 .ask (gB p 0)
 (.loop 4 [.i 0,.i (iL (gL p 4)),.b false,aL p 1,aL p 2,aL p 3,aL p 4] (.cons (λc=>
 .again [aB c 0,aL c 1,aL c 2,aL c 3,aL c 4])
 .nil))
 (.out (0,[aL p 1,aL p 2,aL p 3,aL p 4]))
def nA(p:LD)(c:D):Sh:=
 .ask (!(aD (iE c) (iE (gD (gL p 3) (tI p 0)))))
 (.ask (aA (gI p 0) (List.length (gL p 3)))
 (.again [dK p 0,aI p 1,.b true,.l (List.set (gL p 3) (tI p 0) (D.l (D.els c))),aL p 4,aL p 5,aL p 6])
 bA)
 (.again [dK p 0,aI p 1,aB p 2,aL p 3,aL p 4,aL p 5,aL p 6])
def gH(p:LD):Sh:=
 .ask (aT (gI p 0) (gI p 1))
 (.ask (aA (gI p 0) (List.length (gL p 6)))
 (.ask (!(aD (vI (gD (gL p 6) (tI p 0)) 1) 3))
 (.again [dK p 0,aI p 1,aB p 2,aL p 3,aL p 4,aL p 5,aL p 6])
 (.ask (aD (vI (gD (gL p 6) (tI p 0)) 0) 18)
 (.call bK [.l [.l [.i 2,aI p 0]]] 0 λd _=>
 .call bC [.l (D.els d),.l []] 1 λg f=>
 .call bY [.l (D.els (gD f 0))] 0 λe _=>
 .ask (aA (gI p 0) (List.length (gL p 3)))
 (nA p e)
 bA)
 (.ask (aD (vI (gD (gL p 6) (tI p 0)) 0) 3)
 (.call bK [.l [.l [.i 3,.i (vI (gD (gL p 6) (tI p 0)) 3)]]] 0 λd _=>
 .call bC [.l (D.els d),.l []] 1 λg f=>
 .call bY [.l (D.els (gD f 0))] 0 λe _=>
 .ask (aA (gI p 0) (List.length (gL p 3)))
 (nA p e)
 bA)
 (.ask (aD (vI (gD (gL p 6) (tI p 0)) 0) 19)
 (.ask (aA 0 (nX (gD (gL p 6) (tI p 0)) 5))
 (.ask (aA (D.toI (gD (eX (gD (gL p 6) (tI p 0)) 5) 0)) (List.length (gL p 3)))
 (.call bK [.l (D.els (gD (gL p 3) (Int.toNat (D.toI (gD (eX (gD (gL p 6) (tI p 0)) 5) 0)))))] 0 λd _=>
 .call bC [.l (D.els d),.l []] 1 λg f=>
 .call bY [.l (D.els (gD f 0))] 0 λe _=>
 .ask (aA (gI p 0) (List.length (gL p 3)))
 (nA p e)
 bA)
 bA)
 bA)
 (.ask (aD (vI (gD (gL p 6) (tI p 0)) 0) 17)
 (.ask (aA 1 (nX (gD (gL p 6) (tI p 0)) 5))
 (.ask (aA (D.toI (gD (eX (gD (gL p 6) (tI p 0)) 5) 1)) (List.length (gL p 3)))
 (.ask (aA 2 (nX (gD (gL p 6) (tI p 0)) 5))
 (.ask (aA (D.toI (gD (eX (gD (gL p 6) (tI p 0)) 5) 2)) (List.length (gL p 3)))
 (.call jE [.l [.l (D.els (gD (gL p 3) (Int.toNat (D.toI (gD (eX (gD (gL p 6) (tI p 0)) 5) 1))))),.l (D.els (gD (gL p 3) (Int.toNat (D.toI (gD (eX (gD (gL p 6) (tI p 0)) 5) 2)))))]] 0 λd _=>
 .call bK [.l (D.els d)] 0 λg _=>
 .call bC [.l (D.els g),.l []] 1 λe j=>
 .call bY [.l (D.els (gD j 0))] 0 λh _=>
 .ask (aA (gI p 0) (List.length (gL p 3)))
 (.ask (!(aD (iE h) (iE (gD (gL p 3) (tI p 0)))))
 (.ask (aA (gI p 0) (List.length (gL p 3)))
 (.again [dK p 0,aI p 1,.b true,.l (List.set (gL p 3) (tI p 0) (D.l (D.els h))),aL p 4,aL p 5,aL p 6])
 bA)
 (.again [dK p 0,aI p 1,aB p 2,aL p 3,aL p 4,aL p 5,aL p 6]))
 bA)
 bA)
 bA)
 bA)
 bA)
 (.ask (aD (vI (gD (gL p 6) (tI p 0)) 0) 26)
 (.loop 7 [aI p 0,.i 0,aI p 0,.l (eX (gD (gL p 6) (tI p 0)) 5),aI p 1,aB p 2,.i (iX (gD (gL p 6) (tI p 0)) 5),aL p 3,.l [],aL p 4,aL p 5,aL p 6] (.cons (λc=>
 .call bK [aL c 5] 0 λg _=>
 .call bC [.l (D.els g),.l []] 1 λe j=>
 .call bY [.l (D.els (gD j 0))] 0 λh _=>
 .ask (aA (gI c 0) (List.length (gL c 4)))
 (.ask (!(aD (iE h) (iE (gD (gL c 4) (tI c 0)))))
 (.ask (aA (gI c 0) (List.length (gL c 4)))
 (.again [dK c 1,aI c 2,.b true,.l (List.set (gL c 4) (tI c 0) (D.l (D.els h))),aL c 6,aL c 7,aL c 8])
 bA)
 (.again [dK c 1,aI c 2,aB c 3,aL c 4,aL c 6,aL c 7,aL c 8]))
 bA)
 .nil))
 (.call bK [.l []] 0 λd _=>
 .call bC [.l (D.els d),.l []] 1 λg f=>
 .call bY [.l (D.els (gD f 0))] 0 λe _=>
 .ask (aA (gI p 0) (List.length (gL p 3)))
 (nA p e)
 bA)))))))
 bA)
 (.out (0,[aB p 2,aL p 3,aL p 4,aL p 5,aL p 6]))
def kI(p:LD):Sh:=
 .ask (aT (gI p 1) (gI p 6))
 (.ask (aA (gI p 1) (List.length (gL p 3)))
 (.ask (aA (D.toI (gD (gL p 3) (tI p 1))) (List.length (gL p 7)))
 (.ask (jN ((List.length (gL p 8))+(nE (gD (gL p 7) (Int.toNat (D.toI (gD (gL p 3) (tI p 1))))))) 16)
 (.again [aI p 0,dK p 1,aI p 2,aL p 3,aI p 4,aB p 5,aI p 6,aL p 7,.l ((gL p 8)++(D.els (gD (gL p 7) (Int.toNat (D.toI (gD (gL p 3) (tI p 1))))))),aL p 9,aL p 10,aL p 11])
 bA)
 bA)
 bA)
 (.out (0,[aI p 0,aI p 2,aI p 4,aB p 5,aL p 7,aL p 8,aL p 9,aL p 10,aL p 11]))
def Bq(x:LD):Sh:=
 .loop 0 [.i 0,.l (eX (gD x 0) 4),.i 0,.i (iX (gD x 0) 4)] (.cons (λc=>
 .ret (aI c 0) [])
 .nil)
def BL(p:LD):Sh:=
 .ask (aT (gI p 2) (gI p 3))
 (.ask (aA (gI p 2) (List.length (gL p 1)))
 (.again [.i (bJ .i64 (gI p 0) (iE (gD (gL p 1) (tI p 2)))),aL p 1,dK p 2,aI p 3])
 bA)
 (.out (0,[aI p 0]))
def aAr(x:LD):Sh:=
 .ret (.b ((((aD (D.toI (gD x 0)) 27)||(aD (D.toI (gD x 0)) 28))||(aD (D.toI (gD x 0)) 29))||(aD (D.toI (gD x 0)) 30))) []
def oJ(x:LD):Sh:=
 .ask (!(aD (iE (gD x 0)) (iE (gD x 1))))
 (.ret (.b false) [])
 (.loop 0 [.l (D.els (gD x 0)),.l (D.els (gD x 1)),.i 0,.i (iE (gD x 0))] (.cons (λc=>
 .ret (aB c 0) [])
 (.cons (λc=>
 .ret (.b true) [])
 .nil)))
def gO(p:LD):Sh:=
 .ask (aT (gI p 2) (gI p 3))
 (.ask (aA (gI p 2) (List.length (gL p 0)))
 (.ask (aA (gI p 2) (List.length (gL p 1)))
 (.ask (!(aD (D.toI (gD (gL p 0) (tI p 2))) (D.toI (gD (gL p 1) (tI p 2)))))
 (.out (0,[.b false]))
 (.again [aL p 0,aL p 1,dK p 2,aI p 3]))
 bA)
 bA)
 (.out (1,[]))
def iN(x:LD):Sh:=
 .loop 0 [.l (D.els (gD x 0)),.i 0,.i 0,.l (D.els (gD x 0)),.i (iE (gD x 0))] (.cons (λc=>
 .ask (aT (gI c 1) 0)
 bA
 (.ask (aT 0 (bD .i64 ((gI c 1)-(bD .i64 (0-0)))))
 (.ask ((aT 0 (bD .i64 ((gI c 1)-(bD .i64 (0-0)))))&&(jN (Int.toNat (bD .i64 ((gI c 1)-(bD .i64 (0-0))))) 16))
 (.ask (kT 0 0 (iL (List.replicate (Int.toNat (bD .i64 ((gI c 1)-(bD .i64 (0-0))))) (D.l [.i 0,.i 0]))))
 (.loop 2 [.i 0,aL c 0,.i (iL (gL c 0)),.l (List.drop 0 (List.take 0 (List.replicate (Int.toNat (bD .i64 ((gI c 1)-(bD .i64 (0-0))))) (D.l [.i 0,.i 0]))))] (.cons (λd=>
 .ret (aL d 0) [])
 .nil))
 bA)
 bA)
 (.loop 2 [.i 0,aL c 0,.i (iL (gL c 0)),.l []] (.cons (λd=>
 .ret (aL d 0) [])
 .nil))))
 .nil)
def cL(p:LD):Sh:=
 .ask (aT (gI p 2) (gI p 4))
 (.ask (aA (gI p 2) (List.length (gL p 3)))
 (.ask (aT (bJ .i64 (gI p 1) (iE (gD (gL p 3) (tI p 2)))) 0)
 bA
 (.again [aL p 0,.i (bJ .i64 (gI p 1) (iE (gD (gL p 3) (tI p 2)))),dK p 2,aL p 3,aI p 4]))
 bA)
 (.out (0,[aL p 0,aI p 1]))
def cM(p:LD):Sh:=
 .ask (aT (gI p 0) (gI p 2))
 (.ask (aA (gI p 0) (List.length (gL p 1)))
 (.ask (jN ((List.length (gL p 3))+(nE (gD (gL p 1) (tI p 0)))) 16)
 (.again [dK p 0,aL p 1,aI p 2,.l ((gL p 3)++(D.els (gD (gL p 1) (tI p 0))))])
 bA)
 bA)
 (.out (0,[aL p 3]))
def gQ(x:LD):Sh:=
 .loop 0 [.l (D.els (gD x 0)),.b (D.toB (gD x 1)),.i (iE (gD x 0)),.i 0] (.cons (λc=>
 .ret (aI c 0) [])
 (.cons (λc=>
 .ret (.i (-1)) [])
 .nil))
def cY(p:LD):Sh:=
 .ask (aT (gI p 3) (gI p 2))
 (.ask (aA (gI p 3) (List.length (gL p 0)))
 (.ask (bif (gB p 1)then D.toB (gD (gL p 0) (tI p 3))else !(D.toB (gD (gL p 0) (tI p 3))))
 (.out (0,[aI p 3]))
 (.again [aL p 0,aB p 1,aI p 2,dK p 3]))
 bA)
 (.out (1,[]))
def UQ(x:LD):Sh:=
 .ask ((cX 0 (iX (gD x 0) 4))&&((aD (iX (gD x 0) 4) (iX (gD x 0) 4))&&(jN (Int.toNat (iX (gD x 0) 4)) 24)))
 (.loop 0 [.i (iX (gD x 0) 4),.i 0,.i (iX (gD x 0) 4),.s (D.toS (D.fld (gD x 0) 0)),.b (vB (gD x 0) 1),.l (eX (gD x 0) 2),.i (vI (gD x 0) 3),.l (eX (gD x 0) 4),.l (List.replicate (nX (gD x 0) 4) (D.l []))] (.cons (λc=>
 .call KI [.l [aS c 1,aB c 2,aL c 3,aI c 4,aL c 5]] 0 λe _=>
 .ask ((cX 0 (gI c 0))&&((aD (gI c 0) (gI c 0))&&(jN (tI c 0) 24)))
 (.loop 2 [aI c 0,aI c 0,.i 0,aL c 6,.l (List.replicate (tI c 0) (D.l [])),.l (D.els e)] (.cons (λd=>
 .ret (aL d 0) [])
 .nil))
 bA)
 .nil))
 bA
def yE(p:LD):Sh:=
 .ask (aT (gI p 1) (gI p 2))
 (.call HZ [.l [aS p 3,aB p 4,aL p 5,aI p 6,aL p 7],aI p 1] 0 λc _=>
 .ask (aA (gI p 1) (List.length (gL p 8)))
 (.again [aI p 0,dK p 1,aI p 2,aS p 3,aB p 4,aL p 5,aI p 6,aL p 7,.l (List.set (gL p 8) (tI p 1) (D.l (D.els c)))])
 bA)
 (.out (0,[aI p 0,aS p 3,aB p 4,aL p 5,aI p 6,aL p 7,aL p 8]))
def yF(p:LD):Sh:=
 .ask (aT (gI p 2) (gI p 1))
 (.ask ((cX 0 (gI p 0))&&((aD (gI p 0) (gI p 0))&&(jN (tI p 0) 1)))
 (.ask (aA (gI p 2) (List.length (gL p 4)))
 (.ask (aA (gI p 2) (List.length (gL p 5)))
 (.ask (!(D.toB (gD (gL p 5) (tI p 2))))
 (.again [aI p 0,aI p 1,dK p 2,aL p 3,.l (List.set (gL p 4) (tI p 2) (D.l (List.replicate (tI p 0) (D.b false)))),aL p 5])
 (.call NZ [aL p 3,aI p 2] 0 λd _=>
 .loop 4 [aI p 0,aI p 1,.i 0,aI p 2,aI p 2,aI p 0,aL p 3,.l (List.set (gL p 4) (tI p 2) (D.l (List.replicate (tI p 0) (D.b false)))),aL p 5,.l (D.els d)] (.cons (λc=>
 .again [aI c 0,aI c 1,dK c 2,aL c 3,aL c 4,aL c 5])
 .nil)))
 bA)
 bA)
 bA)
 (.out (0,[aL p 4]))
def yG(p:LD):Sh:=
 .ask (aT (gI p 2) (gI p 5))
 (.ask (aA (gI p 3) (List.length (gL p 7)))
 (.ask (aA (gI p 2) (List.length (gL p 8)))
 (.ask ((!((D.toB (gD (gL p 8) (tI p 2)))&&true))||(aA (gI p 2) (List.length (gL p 9))))
 (.ask (aA (gI p 2) (nE (gD (gL p 7) (tI p 3))))
 (.again [aI p 0,aI p 1,dK p 2,aI p 3,aI p 4,aI p 5,aL p 6,.l (List.set (gL p 7) (tI p 3) (D.l (List.set (D.els (gD (gL p 7) (tI p 3))) (tI p 2) (D.b ((D.toB (gD (gL p 8) (tI p 2)))&&(!(D.toB (gD (gL p 9) (tI p 2))))))))),aL p 8,aL p 9])
 bA)
 bA)
 bA)
 bA)
 (.out (0,[aI p 0,aI p 1,aI p 4,aL p 6,aL p 7,aL p 8]))
def sF(x:LD):Sh:=
 .ask (aA (dB x 1) (nX (gD x 0) 5))
 (.call HZ [GN (gD x 0),.i (dB x 1)] 0 λd _=>
 .loop 0 [.i (dB x 1),.i 0,.i (iE d),.s (D.toS (D.fld (gD x 0) 0)),.b (vB (gD x 0) 1),.l (eX (gD x 0) 2),.i (vI (gD x 0) 3),.l (eX (gD x 0) 4),.b (vB (gD x 0) 7),.l (List.set (eX (gD x 0) 5) (iO x 1) (D.i 1)),.l (eX (gD x 0) 6),.l (D.els d)] (.cons (λc=>
 .ask (aA (gI c 0) (List.length (gL c 7)))
 (.ask (jN ((List.length (gL c 8))+1) 8)
 (.ret (.l []) [.l [aS c 1,aB c 2,aL c 3,aI c 4,aL c 5,.l (List.set (gL c 7) (tI c 0) (D.i 2)),.l ((gL c 8)++[aI c 0]),aB c 6]])
 bA)
 bA)
 .nil))
 bA
def eH(p:LD):Sh:=
 .ask (aT (gI p 1) (gI p 2))
 (.ask (aA (gI p 1) (List.length (gL p 11)))
 (.ask (aA (D.toI (gD (gL p 11) (tI p 1))) (List.length (gL p 9)))
 (.ask (aD (D.toI (gD (gL p 9) (Int.toNat (D.toI (gD (gL p 11) (tI p 1)))))) 0)
 (.call kQ [.l [aS p 3,aB p 4,aL p 5,aI p 6,aL p 7,aL p 9,aL p 10,aB p 8],.i (D.toI (gD (gL p 11) (tI p 1)))] 1 λd c=>
 .again [aI p 0,dK p 1,aI p 2,.s (D.toS (D.fld (gD c 0) 0)),.b (vB (gD c 0) 1),.l (eX (gD c 0) 2),.i (vI (gD c 0) 3),.l (eX (gD c 0) 4),.b (vB (gD c 0) 7),.l (eX (gD c 0) 5),.l (eX (gD c 0) 6),aL p 11])
 (.ask (aD (D.toI (gD (gL p 9) (Int.toNat (D.toI (gD (gL p 11) (tI p 1)))))) 1)
 (.again [aI p 0,dK p 1,aI p 2,aS p 3,aB p 4,aL p 5,aI p 6,aL p 7,.b true,aL p 9,aL p 10,aL p 11])
 (.again [aI p 0,dK p 1,aI p 2,aS p 3,aB p 4,aL p 5,aI p 6,aL p 7,aB p 8,aL p 9,aL p 10,aL p 11])))
 bA)
 bA)
 (.out (0,[aI p 0,aS p 3,aB p 4,aL p 5,aI p 6,aL p 7,aB p 8,aL p 9,aL p 10]))
def RH(x:LD):Sh:=
 .ask (aA (dB x 1) (nX (gD x 0) 5))
 (.ask ((cX 0 (iX (gD (eX (gD x 0) 5) (iO x 1)) 0))&&((aD (iX (gD (eX (gD x 0) 5) (iO x 1)) 0) (iX (gD (eX (gD x 0) 5) (iO x 1)) 0))&&(jN (Int.toNat (iX (gD (eX (gD x 0) 5) (iO x 1)) 0)) 1)))
 (.ask (aA (dB x 1) (nX (gD x 0) 3))
 (.loop 5000 [.i (iX (gD (eX (gD x 0) 3) (iO x 1)) 4),.i 0,.l (eX (gD (eX (gD x 0) 3) (iO x 1)) 4),gD (eX (gD x 0) 5) (iO x 1),.l (List.replicate (nX (gD (eX (gD x 0) 5) (iO x 1)) 0) (D.b false))] (.cons (λc=>
 .ret (aL c 0) [])
 .nil))
 bA)
 bA)
 bA
def iF(p:LD):Sh:=
 .ask (aT (gI p 1) (gI p 0))
 (.ask (aA (gI p 1) (List.length (gL p 2)))
 (.loop 5002 [aI p 0,.i 0,.l (D.els (gD (gL p 2) (tI p 1))),aI p 1,aL p 2,.i (iE (gD (gL p 2) (tI p 1))),(gD p 3),aL p 4] (.cons (λc=>
 .again [aI c 0,dK c 1,aL c 2,(gD c 3),aL c 4])
 .nil))
 bA)
 (.out (0,[aL p 4]))
def iG(p:LD):Sh:=
 .ask (aT (gI p 1) (gI p 5))
 (.ask (aA (gI p 1) (List.length (gL p 2)))
 (.ask ((!(aD (vI (gD (gL p 2) (tI p 1)) 0) 22))&&(!(aD (vI (gD (gL p 2) (tI p 1)) 0) 25)))
 (.again [aI p 0,dK p 1,aL p 2,aI p 3,aL p 4,aI p 5,(gD p 6),aL p 7])
 (.loop 6000 [.i 0,aI p 0,aI p 1,.l (eX (gD (gL p 2) (tI p 1)) 5),aL p 2,aI p 3,.i (iX (gD (gL p 2) (tI p 1)) 5),aL p 4,aI p 5,(gD p 6),aL p 7] (.cons (λc=>
 .again [aI c 0,dK c 1,aL c 2,aI c 3,aL c 4,aI c 5,(gD c 6),aL c 7])
 .nil)))
 bA)
 (.out (0,[aI p 0,aI p 3,aL p 4,(gD p 6),aL p 7]))
def iH(p:LD):Sh:=
 .ask (aT (gI p 0) (gI p 6))
 (.ask (aA (gI p 0) (List.length (gL p 3)))
 (.ask (aA (D.toI (gD (gL p 3) (tI p 0))) (nX (gD p 9) 1))
 (.loop 6002 (let z0:=D.els (gD (eX (gD p 9) 1) (Int.toNat (D.toI (gD (gL p 3) (tI p 0)))));[.i 0,aI p 0,aI p 1,aI p 2,aL p 3,aL p 4,.l z0,aI p 5,aI p 6,aL p 7,aI p 8,.i (iL z0),(gD p 9),aL p 10]) (.cons (λc=>
 .again [dK c 0,aI c 1,aI c 2,aL c 3,aL c 4,aI c 5,aI c 6,aL c 7,aI c 8,(gD c 9),aL c 10])
 .nil))
 bA)
 bA)
 (.out (0,[aI p 1,aI p 2,aL p 4,aI p 5,aL p 7,aI p 8,(gD p 9),aL p 10]))
def iI(p:LD):Sh:=
 .ask (aT (gI p 0) (gI p 11))
 (.ask (aA (gI p 0) (List.length (gL p 6)))
 (.ask (aD (vI (gD (gL p 6) (tI p 0)) 0) 2)
 (.ask (aA (vI (gD (gL p 6) (tI p 0)) 1) (List.length (gL p 13)))
 (.again [dK p 0,aI p 1,aI p 2,aI p 3,aL p 4,aL p 5,aL p 6,aI p 7,aI p 8,aL p 9,aI p 10,aI p 11,(gD p 12),.l (List.set (gL p 13) (Int.toNat (vI (gD (gL p 6) (tI p 0)) 1)) (D.b true))])
 bA)
 (.again [dK p 0,aI p 1,aI p 2,aI p 3,aL p 4,aL p 5,aL p 6,aI p 7,aI p 8,aL p 9,aI p 10,aI p 11,(gD p 12),aL p 13]))
 bA)
 (.out (0,[aI p 1,aI p 2,aI p 3,aL p 4,aL p 5,aI p 7,aI p 8,aL p 9,aI p 10,(gD p 12),aL p 13]))
def Uz(x:LD):Sh:=
 .call EN [pQ x,.i (dB x 1)] 0 λc _=>
 .ask (Ga (D.els c))
 (.ask true
 (.ret (.l []) [])
 bA)
 (.ask false
 (.ret (.l []) [])
 (.call GL [.l [.l (eX (RF (D.els c)) 0),.l (eX (RF (D.els c)) 1),.l (eX (RF (D.els c)) 2),.l (eX (RF (D.els c)) 3),.l (eX (RF (D.els c)) 4),.l (eX (RF (D.els c)) 5)],.i (dB x 1)] 0 λd _=>
 .ret (.l (D.els d)) []))
def sG(x:LD)(d:D)(c:D):Sh:=
 .ask (zq3 c (.i 0) (.i 0))
 (zqS x λe=>
 zqR c (.i 0) (.i 0) e d)
 (zqR c (.i 0) (.i 0) (.i 0) d)
def sH(x:LD)(d:D)(c:D):Sh:=
 .ask (zq3 c (.i 0) (.i 0))
 (zqS x λe=>
 zqR c (.i 0) (.i 0) e d)
 (zqR c (.i 0) (.i 0) (.i 0) d)
def CC(x:LD)(e:D)(c:D)(d:D):Sh:=
 .ask (zq3 c d (.i 0))
 (zqS x λf=>
 zqR c d (.i 0) f e)
 (zqR c d (.i 0) (.i 0) e)
def CD(x:LD)(e:D)(c:D)(d:D):Sh:=
 .ask (zq3 c d (.i 0))
 (zqS x λf=>
 zqR c d (.i 0) f e)
 (zqR c d (.i 0) (.i 0) e)
def sI(x:LD)(c:D):Sh:=
 .ask (zq3 c (.i 0) (.i 0))
 (zqS x λd=>
 zqN c (.i 0) (.i 0) d)
 (zqN c (.i 0) (.i 0) (.i 0))
def sJ(x:LD)(c:D):Sh:=
 .ask (zq3 c (.i 0) (.i 0))
 (zqS x λd=>
 zqN c (.i 0) (.i 0) d)
 (zqN c (.i 0) (.i 0) (.i 0))
def CE(x:LD)(c:D)(d:D):Sh:=
 .ask (zq3 c d (.i 0))
 (zqS x λe=>
 zqN c d (.i 0) e)
 (zqN c d (.i 0) (.i 0))
def CF(x:LD)(c:D)(d:D):Sh:=
 .ask (zq3 c d (.i 0))
 (zqS x λe=>
 zqN c d (.i 0) e)
 (zqN c d (.i 0) (.i 0))
def sK(x:LD)(e:D)(f:D)(c:D):Sh:=
 zqS x λd=>
 zqR f (.i 0) c d e
def sL(x:LD)(d:D)(e:D)(f:D):Sh:=
 zqS x λc=>
 zqR e (.i 0) f c d
def BM(x:LD)(e:D)(f:D)(g:D)(c:D):Sh:=
 zqS x λd=>
 zqR f g c d e
def BN(x:LD)(e:D)(f:D)(g:D)(c:D):Sh:=
 zqS x λd=>
 zqR f g c d e
def qZ(x:LD)(d:D)(e:D):Sh:=
 zqS x λc=>
 zqN d (.i 0) e c
def rA(x:LD)(c:D)(d:D):Sh:=
 zqS x λe=>
 zqN c (.i 0) d e
def BO(x:LD)(e:D)(f:D)(c:D):Sh:=
 zqS x λd=>
 zqN e f c d
def BP(x:LD)(d:D)(e:D)(f:D):Sh:=
 zqS x λc=>
 zqN d e f c
def YD(x:LD):Sh:=
 .call vD [] 0 λt _=>
 .ask (!(D.toB t))
 (.ret (.b false) [])
 (.call KG [pQ x] 0 λu _=>
 .ask (!(D.toB u))
 (.call vD [] 0 λs _=>
 .ret (.b (D.toB s)) [])
 (.call Ki [pQ x] 0 λs _=>
 .ask (((!(aD (D.toI s) 0))||(aT (dB x 1) 0))||(cX (iX (gD x 0) 3) (dB x 1)))
 (.call XW [pQ x,.i (dB x 1)] 0 λl _=>
 .ask ((aD (iE l) 0)&&true)
 (zqO x λm=>
 .ask (((aD (iE l) 0)&&(aD (iE m) 0))&&true)
 (zqK x λg=>
 .ask ((((aD (iE l) 0)&&(aD (iE m) 0))&&(aD (iE g) 0))&&true)
 (zqS x λd=>
 .ret (.b ((((aD (iE l) 0)&&(aD (iE m) 0))&&(aD (iE g) 0))&&(!(D.toB d)))) [])
 (.ret (.b ((((aD (iE l) 0)&&(aD (iE m) 0))&&(aD (iE g) 0))&&(!(D.toB (.i 0))))) []))
 (.ask ((((aD (iE l) 0)&&(aD (iE m) 0))&&(aD (iE (.i 0)) 0))&&true)
 (zqS x λg=>
 .ret (.b ((((aD (iE l) 0)&&(aD (iE m) 0))&&(aD (iE (.i 0)) 0))&&(!(D.toB g)))) [])
 (.ret (.b ((((aD (iE l) 0)&&(aD (iE m) 0))&&(aD (iE (.i 0)) 0))&&(!(D.toB (.i 0))))) [])))
 (.ask (((aD (iE l) 0)&&(aD (iE (.i 0)) 0))&&true)
 (zqK x λm=>
 .ask ((((aD (iE l) 0)&&(aD (iE (.i 0)) 0))&&(aD (iE m) 0))&&true)
 (zqS x λg=>
 .ret (.b ((((aD (iE l) 0)&&(aD (iE (.i 0)) 0))&&(aD (iE m) 0))&&(!(D.toB g)))) [])
 (.ret (.b ((((aD (iE l) 0)&&(aD (iE (.i 0)) 0))&&(aD (iE m) 0))&&(!(D.toB (.i 0))))) []))
 (.ask ((((aD (iE l) 0)&&(aD (iE (.i 0)) 0))&&(aD (iE (.i 0)) 0))&&true)
 (zqS x λm=>
 .ret (.b ((((aD (iE l) 0)&&(aD (iE (.i 0)) 0))&&(aD (iE (.i 0)) 0))&&(!(D.toB m)))) [])
 (.ret (.b ((((aD (iE l) 0)&&(aD (iE (.i 0)) 0))&&(aD (iE (.i 0)) 0))&&(!(D.toB (.i 0))))) []))))
 (.ask (aA (dB x 1) (nX (gD x 0) 3))
 (.call QI [GN (gD (eX (gD x 0) 3) (iO x 1))] 0 λl _=>
 .call Kj [GN (gD (eX (gD x 0) 3) (iO x 1))] 0 λm _=>
 .ask ((!((((cX 0 (dB x 2))&&(aT (dB x 2) (iX (gD (eX (gD x 0) 3) (iO x 1)) 4)))&&(cX 0 (dB x 3)))&&true))||(aA (dB x 2) (nX (gD (eX (gD x 0) 3) (iO x 1)) 4)))
 (.ask ((((cX 0 (dB x 2))&&(aT (dB x 2) (iX (gD (eX (gD x 0) 3) (iO x 1)) 4)))&&(cX 0 (dB x 3)))&&(aT (dB x 3) (iE (gD (eX (gD (eX (gD x 0) 3) (iO x 1)) 4) (iO x 2)))))
 (.ask (aA (dB x 2) (nX (gD (eX (gD x 0) 3) (iO x 1)) 4))
 (.ask (aA (dB x 3) (nE (gD (eX (gD (eX (gD x 0) 3) (iO x 1)) 4) (iO x 2))))
 (.call Kk (let z0:=gE (gD (eX (gD (eX (gD x 0) 3) (iO x 1)) 4) (iO x 2)) (iO x 3);[D.l [D.l (eX (gD x 0) 0),D.l (eX (gD x 0) 1),D.l (eX (gD x 0) 2),D.l (eX (gD x 0) 3)],D.l [D.s (D.toS (D.fld (gD (eX (gD x 0) 3) (iO x 1)) 0)),D.b (vB (gD (eX (gD x 0) 3) (iO x 1)) 1),D.l (eX (gD (eX (gD x 0) 3) (iO x 1)) 2),D.i (vI (gD (eX (gD x 0) 3) (iO x 1)) 3),D.l (eX (gD (eX (gD x 0) 3) (iO x 1)) 4)],D.l [D.i (vI z0 0),D.i (vI z0 1),D.i (vI z0 2),D.i (vI z0 3),D.i (vI z0 4),D.l (eX z0 5),D.l (eX z0 6)],D.l (D.els l),D.l (D.els m)]) 0 λg _=>
 .call XW [pQ x,.i (dB x 1)] 0 λd _=>
 .call TT [.l (D.els d),.l (D.els l)] 0 λc _=>
 .ask ((D.toB c)&&true)
 (zqO x λe=>
 .ask ((D.toB c)&&true)
 (zqV e m λf=>
 .ask (bX c f)
 (zqK x λh=>
 .ask (bX c f)
 (zqL x λj=>
 .ask (bX c f)
 (zqB h j λr=>
 .ask (zq3 c f r)
 (zqS x λv=>
 zqR c f r v g)
 (zqR c f r (.i 0) g))
 (.ask (zq3 c f (.i 0))
 (zqS x λr=>
 zqR c f (.i 0) r g)
 (zqR c f (.i 0) (.i 0) g)))
 (.ask (bX c f)
 (zqB h (.i 0) λj=>
 .ask (zq3 c f j)
 (BM x g c f j)
 (zqR c f j (.i 0) g))
 (CC x g c f)))
 (.ask (bX c f)
 (zqL x λh=>
 .ask (bX c f)
 (zqB (.i 0) h λj=>
 .ask (zq3 c f j)
 (BM x g c f j)
 (zqR c f j (.i 0) g))
 (CC x g c f))
 (.ask (bX c f)
 (zqB (.i 0) (.i 0) λh=>
 .ask (zq3 c f h)
 (zqS x λj=>
 zqR c f h j g)
 (zqR c f h (.i 0) g))
 (.ask (zq3 c f (.i 0))
 (zqS x λh=>
 zqR c f (.i 0) h g)
 (zqR c f (.i 0) (.i 0) g)))))
 (.ask (bX c (.i 0))
 (zqK x λf=>
 .ask (bX c (.i 0))
 (zqL x λh=>
 .ask (bX c (.i 0))
 (zqB f h λj=>
 .ask (zq3 c (.i 0) j)
 (zqS x λr=>
 zqR c (.i 0) j r g)
 (zqR c (.i 0) j (.i 0) g))
 (.ask (zq3 c (.i 0) (.i 0))
 (zqS x λj=>
 zqR c (.i 0) (.i 0) j g)
 (zqR c (.i 0) (.i 0) (.i 0) g)))
 (.ask (bX c (.i 0))
 (zqB f (.i 0) λh=>
 .ask (zq3 c (.i 0) h)
 (sK x g c h)
 (zqR c (.i 0) h (.i 0) g))
 (sG x g c)))
 (.ask (bX c (.i 0))
 (zqL x λf=>
 .ask (bX c (.i 0))
 (zqB (.i 0) f λh=>
 .ask (zq3 c (.i 0) h)
 (sK x g c h)
 (zqR c (.i 0) h (.i 0) g))
 (sG x g c))
 (.ask (bX c (.i 0))
 (zqB (.i 0) (.i 0) λf=>
 .ask (zq3 c (.i 0) f)
 (sL x g c f)
 (zqR c (.i 0) f (.i 0) g))
 (sH x g c)))))
 (.ask ((D.toB c)&&true)
 (zqV (.i 0) m λe=>
 .ask (bX c e)
 (zqK x λf=>
 .ask (bX c e)
 (zqL x λh=>
 .ask (bX c e)
 (zqB f h λj=>
 .ask (zq3 c e j)
 (zqS x λr=>
 zqR c e j r g)
 (zqR c e j (.i 0) g))
 (.ask (zq3 c e (.i 0))
 (zqS x λj=>
 zqR c e (.i 0) j g)
 (zqR c e (.i 0) (.i 0) g)))
 (.ask (bX c e)
 (zqB f (.i 0) λh=>
 .ask (zq3 c e h)
 (BN x g c e h)
 (zqR c e h (.i 0) g))
 (CD x g c e)))
 (.ask (bX c e)
 (zqL x λf=>
 .ask (bX c e)
 (zqB (.i 0) f λh=>
 .ask (zq3 c e h)
 (BN x g c e h)
 (zqR c e h (.i 0) g))
 (CD x g c e))
 (.ask (bX c e)
 (zqB (.i 0) (.i 0) λf=>
 .ask (zq3 c e f)
 (zqS x λh=>
 zqR c e f h g)
 (zqR c e f (.i 0) g))
 (.ask (zq3 c e (.i 0))
 (zqS x λf=>
 zqR c e (.i 0) f g)
 (zqR c e (.i 0) (.i 0) g)))))
 (.ask (bX c (.i 0))
 (zqK x λe=>
 .ask (bX c (.i 0))
 (zqL x λf=>
 .ask (bX c (.i 0))
 (zqB e f λh=>
 .ask (zq3 c (.i 0) h)
 (sK x g c h)
 (zqR c (.i 0) h (.i 0) g))
 (sG x g c))
 (.ask (bX c (.i 0))
 (zqB e (.i 0) λf=>
 .ask (zq3 c (.i 0) f)
 (sL x g c f)
 (zqR c (.i 0) f (.i 0) g))
 (sH x g c)))
 (.ask (bX c (.i 0))
 (zqL x λe=>
 .ask (bX c (.i 0))
 (zqB (.i 0) e λf=>
 .ask (zq3 c (.i 0) f)
 (sL x g c f)
 (zqR c (.i 0) f (.i 0) g))
 (sH x g c))
 (.ask (bX c (.i 0))
 (zqB (.i 0) (.i 0) λe=>
 .ask (zq3 c (.i 0) e)
 (zqS x λf=>
 zqR c (.i 0) e f g)
 (zqR c (.i 0) e (.i 0) g))
 (.ask (zq3 c (.i 0) (.i 0))
 (zqS x λe=>
 zqR c (.i 0) (.i 0) e g)
 (zqR c (.i 0) (.i 0) (.i 0) g)))))))
 bA)
 bA)
 (.call XW [pQ x,.i (dB x 1)] 0 λg _=>
 .call TT [.l (D.els g),.l (D.els l)] 0 λd _=>
 .ask ((D.toB d)&&true)
 (zqO x λc=>
 .ask ((D.toB d)&&true)
 (zqV c m λe=>
 .ask (bX d e)
 (zqK x λf=>
 .ask (bX d e)
 (zqL x λh=>
 .ask (bX d e)
 (zqB f h λj=>
 .ask (zq3 d e j)
 (zqS x λr=>
 zqN d e j r)
 (zqN d e j (.i 0)))
 (.ask (zq3 d e (.i 0))
 (zqS x λj=>
 zqN d e (.i 0) j)
 (zqN d e (.i 0) (.i 0))))
 (.ask (bX d e)
 (zqB f (.i 0) λh=>
 .ask (zq3 d e h)
 (BO x d e h)
 (zqN d e h (.i 0)))
 (CE x d e)))
 (.ask (bX d e)
 (zqL x λf=>
 .ask (bX d e)
 (zqB (.i 0) f λh=>
 .ask (zq3 d e h)
 (BO x d e h)
 (zqN d e h (.i 0)))
 (CE x d e))
 (.ask (bX d e)
 (zqB (.i 0) (.i 0) λf=>
 .ask (zq3 d e f)
 (zqS x λh=>
 zqN d e f h)
 (zqN d e f (.i 0)))
 (.ask (zq3 d e (.i 0))
 (zqS x λf=>
 zqN d e (.i 0) f)
 (zqN d e (.i 0) (.i 0))))))
 (.ask (bX d (.i 0))
 (zqK x λe=>
 .ask (bX d (.i 0))
 (zqL x λf=>
 .ask (bX d (.i 0))
 (zqB e f λh=>
 .ask (zq3 d (.i 0) h)
 (zqS x λj=>
 zqN d (.i 0) h j)
 (zqN d (.i 0) h (.i 0)))
 (.ask (zq3 d (.i 0) (.i 0))
 (zqS x λh=>
 zqN d (.i 0) (.i 0) h)
 (zqN d (.i 0) (.i 0) (.i 0))))
 (.ask (bX d (.i 0))
 (zqB e (.i 0) λf=>
 .ask (zq3 d (.i 0) f)
 (qZ x d f)
 (zqN d (.i 0) f (.i 0)))
 (sI x d)))
 (.ask (bX d (.i 0))
 (zqL x λe=>
 .ask (bX d (.i 0))
 (zqB (.i 0) e λf=>
 .ask (zq3 d (.i 0) f)
 (qZ x d f)
 (zqN d (.i 0) f (.i 0)))
 (sI x d))
 (.ask (bX d (.i 0))
 (zqB (.i 0) (.i 0) λe=>
 .ask (zq3 d (.i 0) e)
 (rA x d e)
 (zqN d (.i 0) e (.i 0)))
 (sJ x d)))))
 (.ask ((D.toB d)&&true)
 (zqV (.i 0) m λc=>
 .ask (bX d c)
 (zqK x λe=>
 .ask (bX d c)
 (zqL x λf=>
 .ask (bX d c)
 (zqB e f λh=>
 .ask (zq3 d c h)
 (zqS x λj=>
 zqN d c h j)
 (zqN d c h (.i 0)))
 (.ask (zq3 d c (.i 0))
 (zqS x λh=>
 zqN d c (.i 0) h)
 (zqN d c (.i 0) (.i 0))))
 (.ask (bX d c)
 (zqB e (.i 0) λf=>
 .ask (zq3 d c f)
 (BP x d c f)
 (zqN d c f (.i 0)))
 (CF x d c)))
 (.ask (bX d c)
 (zqL x λe=>
 .ask (bX d c)
 (zqB (.i 0) e λf=>
 .ask (zq3 d c f)
 (BP x d c f)
 (zqN d c f (.i 0)))
 (CF x d c))
 (.ask (bX d c)
 (zqB (.i 0) (.i 0) λe=>
 .ask (zq3 d c e)
 (zqS x λf=>
 zqN d c e f)
 (zqN d c e (.i 0)))
 (.ask (zq3 d c (.i 0))
 (zqS x λe=>
 zqN d c (.i 0) e)
 (zqN d c (.i 0) (.i 0))))))
 (.ask (bX d (.i 0))
 (zqK x λc=>
 .ask (bX d (.i 0))
 (zqL x λe=>
 .ask (bX d (.i 0))
 (zqB c e λf=>
 .ask (zq3 d (.i 0) f)
 (qZ x d f)
 (zqN d (.i 0) f (.i 0)))
 (sI x d))
 (.ask (bX d (.i 0))
 (zqB c (.i 0) λe=>
 .ask (zq3 d (.i 0) e)
 (rA x d e)
 (zqN d (.i 0) e (.i 0)))
 (sJ x d)))
 (.ask (bX d (.i 0))
 (zqL x λc=>
 .ask (bX d (.i 0))
 (zqB (.i 0) c λe=>
 .ask (zq3 d (.i 0) e)
 (rA x d e)
 (zqN d (.i 0) e (.i 0)))
 (sJ x d))
 (.ask (bX d (.i 0))
 (zqB (.i 0) (.i 0) λc=>
 .ask (zq3 d (.i 0) c)
 (zqS x λe=>
 zqN d (.i 0) c e)
 (zqN d (.i 0) c (.i 0)))
 (.ask (zq3 d (.i 0) (.i 0))
 (zqS x λc=>
 zqN d (.i 0) (.i 0) c)
 (zqN d (.i 0) (.i 0) (.i 0)))))))))
 bA)
 bA)))
end
end Go.Eng.Q
