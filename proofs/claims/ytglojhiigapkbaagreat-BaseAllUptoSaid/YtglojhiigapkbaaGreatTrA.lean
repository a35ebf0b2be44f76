/- Part 5 of the proof: the functions' trees. -/
import Derived.Test.YtglojhiigapkbaaGreatEnv
set_option linter.unusedVariables false
namespace Go.Eng.Q
open Go.Eng
noncomputable section
abbrev iX(x:D)(n:Nat):Int:=Int.ofNat (List.length (D.els (D.fld x n)))
abbrev iE(x:D):Int:=Int.ofNat (List.length (D.els x))
abbrev nX(x:D)(n:Nat):Nat:=List.length (D.els (D.fld x n))
abbrev nE(x:D):Nat:=List.length (D.els x)
abbrev eX(x:D)(n:Nat):List D:=D.els (D.fld x n)
abbrev vI(x:D)(n:Nat):Int:=D.toI (D.fld x n)
abbrev vB(x:D)(n:Nat):Bool:=D.toB (D.fld x n)
abbrev gE(x:D)(n:Nat):D:=gD (D.els x) n
abbrev iL{α:Type}(l:List α):Int:=Int.ofNat (List.length l)
abbrev aI(p:List D)(n:Nat):D:=.i (gI p n)
abbrev aL(p:List D)(n:Nat):D:=.l (gL p n)
abbrev aS(p:List D)(n:Nat):D:=.s (gS p n)
abbrev aB(p:List D)(n:Nat):D:=.b (gB p n)
abbrev aN(p:List D)(n:Nat):D:=.i (Int.ofNat (gN p n))
abbrev tI(p:List D)(n:Nat):Nat:=Int.toNat (gI p n)
abbrev nI(p:List D)(n:Nat):A:=.int .i64 (gI p n)
abbrev nB(p:List D)(n:Nat):A:=.bool (gB p n)
abbrev fL(t:TypeId)(l:List LT)(p:List D)(n:Nat):A:=.fz [] t l (gL p n)
abbrev Z:Tr:=.nil
abbrev bX(n:Nat)(l:List A):Nat×Bx:=(n,⟨0,l,none⟩)
abbrev aR(n:Nat)(t:TypeId)(l:List LT)(d:List D):Nat×xA:=(n,⟨t,l,d,[],0,[0,0,0,0],0⟩)
abbrev PZ:Nat:=3
abbrev tK:Nat:=4
abbrev Hw:Nat:=5
abbrev YM:Nat:=6
abbrev Hx:Nat:=7
abbrev BJ:Nat:=8
abbrev Hy:Nat:=9
abbrev Xc:Nat:=10
abbrev yY:Nat:=11
abbrev T9:Nat:=12
abbrev II:Nat:=13
abbrev Hz:Nat:=14
abbrev OF:Nat:=15
abbrev CQ:Nat:=16
abbrev LS:Nat:=17
abbrev Sc:Nat:=18
abbrev CR:Nat:=19
abbrev xT:Nat:=20
abbrev VQ:Nat:=21
abbrev bH:Nat:=22
abbrev RN:Nat:=23
abbrev Ed:Nat:=24
abbrev YN:Nat:=25
abbrev Ia:Nat:=26
abbrev Ib:Nat:=27
abbrev Sd:Nat:=28
abbrev Ic:Nat:=29
abbrev Se:Nat:=30
abbrev Id:Nat:=31
abbrev LU:Nat:=32
abbrev YO:Nat:=33
abbrev Ie:Nat:=34
abbrev If:Nat:=35
abbrev Sf:Nat:=36
abbrev AV:Nat:=38
abbrev VR:Nat:=39
abbrev Sg:Nat:=40
abbrev OG:Nat:=41
abbrev Ig:Nat:=42
abbrev Si:Nat:=43
abbrev Ee:Nat:=44
abbrev Ih:Nat:=45
abbrev YP:Nat:=46
abbrev Ii:Nat:=47
abbrev Ij:Nat:=48
abbrev VS:Nat:=49
abbrev Sj:Nat:=50
abbrev Ik:Nat:=51
abbrev VT:Nat:=52
abbrev xU:Nat:=53
abbrev AF:Nat:=54
abbrev OH:Nat:=55
abbrev IJ:Nat:=56
abbrev Ef:Nat:=57
abbrev Eg:Nat:=58
abbrev Sk:Nat:=59
abbrev BK:Nat:=60
abbrev YQ:Nat:=61
abbrev Sl:Nat:=62
abbrev EP:Nat:=63
abbrev kY:Nat:=64
abbrev IK:Nat:=65
abbrev YR:Nat:=66
abbrev lL:Nat:=67
abbrev Il:Nat:=68
abbrev Im:Nat:=69
abbrev IL:Nat:=70
abbrev iB:Nat:=71
abbrev bB:Nat:=72
abbrev bV:Nat:=74
abbrev uK:Nat:=75
abbrev Sm:Nat:=76
abbrev aBI:Nat:=77
abbrev OI:Nat:=78
abbrev mY:Nat:=79
abbrev LV:Nat:=80
abbrev GE:Nat:=81
abbrev LW:Nat:=82
abbrev In:Nat:=83
abbrev YS:Nat:=84
abbrev uL:Nat:=85
abbrev CS:Nat:=89
abbrev jP:Nat:=90
abbrev mH:Nat:=91
abbrev LX:Nat:=92
abbrev pE:Nat:=103
abbrev KM(d:FD):Prop:=∀x:List D,Nl E d.h sites (itN E sites (tOf d.T) Ll) (tOf d.T) d.f d.c d.s (Hk x 0 d.F.np)=(d.F.main x).up d.S d.T 0
abbrev KL(d:FD)(b:Nat)(g:List D->Sh):Prop:=∀p:List D,YK E (kA d sites b).h sites (itN E sites (tOf d.T) Ll) (kA d sites b).lb (tOf d.T) (kA d sites b).b (sK (kA d sites b).b (kA d sites b).c) (Rx d.S b p)=(g p).up d.S d.T b
def Xd:List LT:=[.str,.sl false 3 [.int .i64],.int .i64]
def JT:List LT:=[.str,.bool,.sl false 3 [.int .i64],.int .i64,.sl false 40 [.sl false 42 [.int .i64,.int .i64,.int .i64,.int .i64,.int .i64,.sl false 3 [.int .i64],.sl false 3 [.int .i64]]]]
def CT:List LT:=[.sl false 42 [.int .i64,.int .i64,.int .i64,.int .i64,.int .i64,.sl false 3 [.int .i64],.sl false 3 [.int .i64]]]
def lt3:List LT:=[.sl true 3 [.int .i64],.sl true 50 [.sl true 52 [.int .i64,.int .i64]],.sl true 49 [.int .i64,.int .i64],.sl true 42 [.int .i64,.int .i64,.int .i64,.int .i64,.int .i64,.sl false 3 [.int .i64],.sl false 3 [.int .i64]]]
def OJ:List LT:=[.int .i64,.int .i64,.int .i64,.int .i64,.int .i64,.sl false 3 [.int .i64],.sl false 3 [.int .i64]]
def AG(x:List D):Sh:=
 .call tK [] 0 λd _=>
 .ask (!(D.toB d))
 (.ret (.b false) [])
 (.call Hw [.l [.l (eX (gD x 0) 0),.l (eX (gD x 0) 1),.l (eX (gD x 0) 2),.l (eX (gD x 0) 3)]] 0 λe _=>
 .ask (!(D.toB e))
 (.call tK [] 0 λf _=>
 .ret (.b (D.toB f)) [])
 (.loop 0 [.i 0,.l (eX (gD x 0) 0),.l (eX (gD x 0) 1),.l (eX (gD x 0) 2),.l (eX (gD x 0) 3)] (.cons (λc=>
 .ret (aB c 0) [])
 (.cons (λc=>
 .ret (.b true) [])
 .nil))))
def lT(p:List D):Sh:=
 .ask (aT (gI p 0) (iL (gL p 4)))
 (.ask (aA (gI p 0) (List.length (gL p 4)))
 (.call YM [.l [.s (D.toS (D.fld (gD (gL p 4) (tI p 0)) 0)),.b (vB (gD (gL p 4) (tI p 0)) 1),.l (eX (gD (gL p 4) (tI p 0)) 2),.i (vI (gD (gL p 4) (tI p 0)) 3),.l (eX (gD (gL p 4) (tI p 0)) 4)]] 0 λd _=>
 .call Hx [.l [.s (D.toS (D.fld (gD (gL p 4) (tI p 0)) 0)),.b (vB (gD (gL p 4) (tI p 0)) 1),.l (eX (gD (gL p 4) (tI p 0)) 2),.i (vI (gD (gL p 4) (tI p 0)) 3),.l (eX (gD (gL p 4) (tI p 0)) 4)]] 0 λe _=>
 .loop 2 [aI p 0,.i 0,aL p 1,aL p 2,aL p 3,aL p 4,.s (D.toS (D.fld (gD (gL p 4) (tI p 0)) 0)),.b (vB (gD (gL p 4) (tI p 0)) 1),.l (eX (gD (gL p 4) (tI p 0)) 2),.i (vI (gD (gL p 4) (tI p 0)) 3),.l (eX (gD (gL p 4) (tI p 0)) 4),.l (D.els d),.l (D.els e)] (.cons (λc=>
 .out (0,[aB c 1]))
 (.cons (λc=>
 .again [.i (aG .i64 (gI c 0) 1),aL c 1,aL c 2,aL c 3,aL c 4])
 .nil)))
 (.bad))
 (.out (1,[]))
def lU(p:List D):Sh:=
 .ask (aT (gI p 1) (iL (gL p 10)))
 (.loop 4 [aI p 0,aI p 1,.i 0,aL p 2,aL p 3,aL p 4,aL p 5,aS p 6,aB p 7,aL p 8,aI p 9,aL p 10,aL p 11,aL p 12] (.cons (λc=>
 .out (0,[aI c 0,aB c 2,aL c 3,aL c 4,aL c 5,aL c 6]))
 (.cons (λc=>
 .again [aI c 0,.i (aG .i64 (gI c 1) 1),aL c 2,aL c 3,aL c 4,aL c 5,aS c 6,aB c 7,aL c 8,aI c 9,aL c 10,aL c 11,aL c 12])
 .nil)))
 (.out (1,[aI p 0,aL p 2,aL p 3,aL p 4,aL p 5]))
def lV(p:List D):Sh:=
 .ask (aA (gI p 1) (List.length (gL p 11)))
 (.ask (aT (gI p 2) (iE (gD (gL p 11) (tI p 1))))
 (.ask (aA (gI p 1) (List.length (gL p 11)))
 (.ask (aA (gI p 2) (nE (gD (gL p 11) (tI p 1))))
 (.ask (((aD (vI (gE (gD (gL p 11) (tI p 1)) (tI p 2)) 0) 20)||(aD (vI (gE (gD (gL p 11) (tI p 1)) (tI p 2)) 0) 21))||(aD (vI (gE (gD (gL p 11) (tI p 1)) (tI p 2)) 0) 18))
 (.ask (aA (gI p 1) (List.length (gL p 11)))
 (.ask (aA (gI p 2) (nE (gD (gL p 11) (tI p 1))))
 (.call BJ [.l [aL p 3,aL p 4,aL p 5,aL p 6],aI p 0,aI p 1,aI p 2] 0 λd _=>
 .call Hy [.l [aL p 3,aL p 4,aL p 5,aL p 6],.l [aS p 7,aB p 8,aL p 9,aI p 10,aL p 11],.l [.i (vI (gE (gD (gL p 11) (tI p 1)) (tI p 2)) 0),.i (vI (gE (gD (gL p 11) (tI p 1)) (tI p 2)) 1),.i (vI (gE (gD (gL p 11) (tI p 1)) (tI p 2)) 2),.i (vI (gE (gD (gL p 11) (tI p 1)) (tI p 2)) 3),.i (vI (gE (gD (gL p 11) (tI p 1)) (tI p 2)) 4),.l (eX (gE (gD (gL p 11) (tI p 1)) (tI p 2)) 5),.l (eX (gE (gD (gL p 11) (tI p 1)) (tI p 2)) 6)],aL p 12,aL p 13] 0 λc _=>
 .ask (!(bif D.toB d then D.toB c else !(D.toB c)))
 (.out (0,[aI p 0,aI p 1,.b false,aL p 3,aL p 4,aL p 5,aL p 6,aS p 7,aB p 8,aL p 9,aI p 10,aL p 11,aL p 12,aL p 13]))
 (.again [aI p 0,aI p 1,.i (aG .i64 (gI p 2) 1),aL p 3,aL p 4,aL p 5,aL p 6,aS p 7,aB p 8,aL p 9,aI p 10,aL p 11,aL p 12,aL p 13]))
 (.bad))
 (.bad))
 (.again [aI p 0,aI p 1,.i (aG .i64 (gI p 2) 1),aL p 3,aL p 4,aL p 5,aL p 6,aS p 7,aB p 8,aL p 9,aI p 10,aL p 11,aL p 12,aL p 13]))
 (.bad))
 (.bad))
 (.out (1,[aI p 0,aI p 1,aL p 3,aL p 4,aL p 5,aL p 6,aS p 7,aB p 8,aL p 9,aI p 10,aL p 11,aL p 12,aL p 13])))
 (.bad)
def RO(x:List D):Sh:=
 .call LS [.l [.s (D.toS (D.fld (gD x 0) 0)),.b (vB (gD x 0) 1),.l (eX (gD x 0) 2),.i (vI (gD x 0) 3),.l (eX (gD x 0) 4)]] 0 λc _=>
 .ask ((cP 0 (iE c))&&((aD (iE c) (iE c))&&(iP (Int.toNat (iE c)) 16)))
 (.loop 0 [.i 1,.s (D.toS (D.fld (gD x 0) 0)),.b (vB (gD x 0) 1),.l (eX (gD x 0) 2),.i (vI (gD x 0) 3),.l (eX (gD x 0) 4),.l (List.replicate (nE c) (D.l [.i 0,.i 0])),.l (D.els c)] (.cons (λd=>
 .ret (aL d 0) [])
 .nil))
 (.bad)
def uM(p:List D):Sh:=
 .ask (aT (gI p 0) (iL (gL p 7)))
 (.ask (aA (gI p 0) (List.length (gL p 7)))
 (.ask (aD (D.toI (gD (gL p 7) (tI p 0))) 3)
 (.call Sc [.l [aS p 1,aB p 2,aL p 3,aI p 4,aL p 5],aI p 0] 0 λc _=>
 .ask (aA (gI p 0) (List.length (gL p 6)))
 (.again (let z0:=List.set (gL p 6) (tI p 0) (D.l (cK (D.els (gD (gL p 6) (tI p 0))) 0 (D.i (vI c 0))));[.i (aG .i64 (gI p 0) 1),aS p 1,aB p 2,aL p 3,aI p 4,aL p 5,.l (List.set z0 (tI p 0) (D.l (cK (D.els (gD z0 (tI p 0))) 1 (D.i (vI c 1))))),aL p 7]))
 (.bad))
 (.again [.i (aG .i64 (gI p 0) 1),aS p 1,aB p 2,aL p 3,aI p 4,aL p 5,aL p 6,aL p 7]))
 (.bad))
 (.out (0,[aL p 6]))
def Lm(x:List D):Sh:=
 .ret (.l [.l [],.l [],.l [],.l [.l [.s [102],.b false,.l [],.i 0,.l [.l [.l [.i 18,.i 3,.i 1,.i 0,.i 2,.l [],.l []],.l [.i 1,.i 1,.i 2,.i 0,.i (D.toI (gD x 0)),.l [],.l []],.l [.i 19,.i 3,.i 3,.i 0,.i 0,.l [.i 1,.i 2],.l []],.l [.i 20,.i 1,.i 4,.i 0,.i 0,.l [.i 3],.l []],.l [.i 29,.i 0,.i 0,.i 0,.i 0,.l [],.l []]]]]]]) []
def LY(x:List D):Sh:=
 .call LS [.l [.s (D.toS (D.fld (gD x 0) 0)),.b (vB (gD x 0) 1),.l (eX (gD x 0) 2),.i (vI (gD x 0) 3),.l (eX (gD x 0) 4)]] 0 λc _=>
 .ret (.i (bC .i64 ((iE c)-1))) []
def IM(x:List D):Sh:=
 .call Ie [.l [.l (eX (gD x 0) 0),.l (eX (gD x 0) 1),.l (eX (gD x 0) 2),.l (eX (gD x 0) 3)]] 0 λd _=>
 .ask (((!(aD (D.toI d) 0))||(aT (D.toI (gD x 1)) 0))||(cP (iX (gD x 0) 3) (D.toI (gD x 1))))
 (.ret (.l []) [])
 (.call If [.l [.l (eX (gD x 0) 0),.l (eX (gD x 0) 1),.l (eX (gD x 0) 2),.l (eX (gD x 0) 3)]] 0 λc _=>
 .ask (Hj (D.els c))
 (.bad)
 (.ret (.l [.l [.l (eX (YG (D.els c)) 0),.l (eX (YG (D.els c)) 1),.l (eX (YG (D.els c)) 2),.l (eX (YG (D.els c)) 3),.l (eX (YG (D.els c)) 4),.l (eX (YG (D.els c)) 5)]]) []))
def nS(x:List D):Sh:=
 .ask (((aT 40 (iL (D.toS (D.fld (gD x 0) 0))))||(aT 8 (iX (gD x 0) 2)))||(aT 16 (iX (gD x 0) 4)))
 (.ret (.b false) [])
 (.loop 0 [.i 0,.i 0,.s (D.toS (D.fld (gD x 0) 0)),.b (vB (gD x 0) 1),.l (eX (gD x 0) 2),.i (vI (gD x 0) 3),.l (eX (gD x 0) 4)] (.cons (λc=>
 .ret (aB c 0) [])
 (.cons (λc=>
 .ret (.b true) [])
 .nil)))
def iC(p:List D):Sh:=
 .ask (aT (gI p 1) (iL (gL p 6)))
 (.ask (aA (gI p 1) (List.length (gL p 6)))
 (.ask (aT 90 (aG .i64 (gI p 0) (iE (gD (gL p 6) (tI p 1)))))
 (.out (0,[.b false]))
 (.loop 2 [.i (aG .i64 (gI p 0) (iE (gD (gL p 6) (tI p 1)))),.i 0,aI p 1,aS p 2,aB p 3,aL p 4,aI p 5,aL p 6] (.cons (λc=>
 .out (0,[aB c 1]))
 (.cons (λc=>
 .again [aI c 0,.i (aG .i64 (gI c 1) 1),aS c 2,aB c 3,aL c 4,aI c 5,aL c 6])
 .nil))))
 (.bad))
 (.out (1,[]))
def kZ(p:List D):Sh:=
 .ask (aA (gI p 2) (List.length (gL p 7)))
 (.ask (aT (gI p 1) (iE (gD (gL p 7) (tI p 2))))
 (.ask (aA (gI p 2) (List.length (gL p 7)))
 (.ask (aA (gI p 1) (nE (gD (gL p 7) (tI p 2))))
 (.ask ((!(!(aT 20 (iX (gE (gD (gL p 7) (tI p 2)) (tI p 1)) 5))))||(aA (gI p 2) (List.length (gL p 7))))
 (.ask ((!(!(aT 20 (iX (gE (gD (gL p 7) (tI p 2)) (tI p 1)) 5))))||(aA (gI p 1) (nE (gD (gL p 7) (tI p 2)))))
 (.ask ((aT 20 (iX (gE (gD (gL p 7) (tI p 2)) (tI p 1)) 5))||(aT 20 (iX (gE (gD (gL p 7) (tI p 2)) (tI p 1)) 6)))
 (.out (0,[aI p 0,.b false,aI p 2,aS p 3,aB p 4,aL p 5,aI p 6,aL p 7]))
 (.again [aI p 0,.i (aG .i64 (gI p 1) 1),aI p 2,aS p 3,aB p 4,aL p 5,aI p 6,aL p 7]))
 (.bad))
 (.bad))
 (.bad))
 (.bad))
 (.out (1,[aI p 0,aI p 2,aS p 3,aB p 4,aL p 5,aI p 6,aL p 7])))
 (.bad)
def RP(x:List D):Sh:=
 .loop 0 [.i 0,.i 0,.l (eX (gD x 0) 0),.l (eX (gD x 0) 1),.l (eX (gD x 0) 2),.l (eX (gD x 0) 3),.l []] (.cons (λc=>
 .loop 2 [aI c 0,.i 0,aL c 1,aL c 2,aL c 3,aL c 4,aL c 5] (.cons (λd=>
 .loop 4 [.i 0,aI d 0,aL d 1,aL d 2,aL d 3,aL d 4,aL d 5] (.cons (λe=>
 .loop 6 [aI e 0,.i 0,aL e 1,aL e 2,aL e 3,aL e 4,aL e 5] (.cons (λf=>
 .ret (.b (aD (gI f 0) 0)) [])
 .nil))
 .nil))
 .nil))
 .nil)
def uN(p:List D):Sh:=
 .ask (aT (gI p 0) (iL (gL p 2)))
 (.ask (aA (gI p 0) (List.length (gL p 2)))
 (.call IJ [.s (D.toS (D.fld (gD (gL p 2) (tI p 0)) 0))] 0 λc _=>
 .ask ((!(D.toB c))||(aT 1 (D.toI (xG (.int .i64) (gH .str (.s (D.toS (D.fld (gD (gL p 2) (tI p 0)) 0))) 0 (BS (.s (D.toS (D.fld (gD (gL p 2) (tI p 0)) 0))) (.i (aG .i64 (D.toI (xG (.int .i64) (gH .str (.s (D.toS (D.fld (gD (gL p 2) (tI p 0)) 0))) 0 (gL p 6)))) 1)) (gL p 6) (gH .str (.s (D.toS (D.fld (gD (gL p 2) (tI p 0)) 0))) 0 (gL p 6))))))))
 (.again (let z0:=gH .str (D.s (D.toS (D.fld (gD (gL p 2) (tI p 0)) 0))) 0 (gL p 6);[.i (aG .i64 (gI p 0) 1),.i (aG .i64 (gI p 1) 1),aL p 2,aL p 3,aL p 4,aL p 5,.l (BS (D.s (D.toS (D.fld (gD (gL p 2) (tI p 0)) 0))) (D.i (aG .i64 (D.toI (xG (.int .i64) z0)) 1)) (gL p 6) z0)]))
 (.again (let z0:=gH .str (D.s (D.toS (D.fld (gD (gL p 2) (tI p 0)) 0))) 0 (gL p 6);[.i (aG .i64 (gI p 0) 1),.i (aG .i64 (gI p 1) 0),aL p 2,aL p 3,aL p 4,aL p 5,.l (BS (D.s (D.toS (D.fld (gD (gL p 2) (tI p 0)) 0))) (D.i (aG .i64 (D.toI (xG (.int .i64) z0)) 1)) (gL p 6) z0)])))
 (.bad))
 (.out (0,[aI p 1,aL p 2,aL p 3,aL p 4,aL p 5,aL p 6]))
def uO(p:List D):Sh:=
 .ask (aT (gI p 1) (iL (gL p 3)))
 (.ask (aA (gI p 1) (List.length (gL p 3)))
 (.call IJ [.s (D.toS (D.fld (gD (gL p 3) (tI p 1)) 0))] 0 λc _=>
 .ask ((!(D.toB c))||(aT 1 (D.toI (xG (.int .i64) (gH .str (.s (D.toS (D.fld (gD (gL p 3) (tI p 1)) 0))) 0 (BS (.s (D.toS (D.fld (gD (gL p 3) (tI p 1)) 0))) (.i (aG .i64 (D.toI (xG (.int .i64) (gH .str (.s (D.toS (D.fld (gD (gL p 3) (tI p 1)) 0))) 0 (gL p 6)))) 1)) (gL p 6) (gH .str (.s (D.toS (D.fld (gD (gL p 3) (tI p 1)) 0))) 0 (gL p 6))))))))
 (.again (let z0:=gH .str (D.s (D.toS (D.fld (gD (gL p 3) (tI p 1)) 0))) 0 (gL p 6);[.i (aG .i64 (gI p 0) 1),.i (aG .i64 (gI p 1) 1),aL p 2,aL p 3,aL p 4,aL p 5,.l (BS (D.s (D.toS (D.fld (gD (gL p 3) (tI p 1)) 0))) (D.i (aG .i64 (D.toI (xG (.int .i64) z0)) 1)) (gL p 6) z0)]))
 (.again (let z0:=gH .str (D.s (D.toS (D.fld (gD (gL p 3) (tI p 1)) 0))) 0 (gL p 6);[.i (aG .i64 (gI p 0) 0),.i (aG .i64 (gI p 1) 1),aL p 2,aL p 3,aL p 4,aL p 5,.l (BS (D.s (D.toS (D.fld (gD (gL p 3) (tI p 1)) 0))) (D.i (aG .i64 (D.toI (xG (.int .i64) z0)) 1)) (gL p 6) z0)])))
 (.bad))
 (.out (0,[aI p 0,aL p 2,aL p 3,aL p 4,aL p 5,aL p 6]))
def uP(p:List D):Sh:=
 .ask (aT (gI p 0) (iL (gL p 4)))
 (.ask (aA (gI p 0) (List.length (gL p 4)))
 (.call IJ [.s (D.toS (D.fld (gD (gL p 4) (tI p 0)) 0))] 0 λc _=>
 .ask ((!(D.toB c))||(aT 1 (D.toI (xG (.int .i64) (gH .str (.s (D.toS (D.fld (gD (gL p 4) (tI p 0)) 0))) 0 (BS (.s (D.toS (D.fld (gD (gL p 4) (tI p 0)) 0))) (.i (aG .i64 (D.toI (xG (.int .i64) (gH .str (.s (D.toS (D.fld (gD (gL p 4) (tI p 0)) 0))) 0 (gL p 6)))) 1)) (gL p 6) (gH .str (.s (D.toS (D.fld (gD (gL p 4) (tI p 0)) 0))) 0 (gL p 6))))))))
 (.again (let z0:=gH .str (D.s (D.toS (D.fld (gD (gL p 4) (tI p 0)) 0))) 0 (gL p 6);[.i (aG .i64 (gI p 0) 1),.i (aG .i64 (gI p 1) 1),aL p 2,aL p 3,aL p 4,aL p 5,.l (BS (D.s (D.toS (D.fld (gD (gL p 4) (tI p 0)) 0))) (D.i (aG .i64 (D.toI (xG (.int .i64) z0)) 1)) (gL p 6) z0)]))
 (.again (let z0:=gH .str (D.s (D.toS (D.fld (gD (gL p 4) (tI p 0)) 0))) 0 (gL p 6);[.i (aG .i64 (gI p 0) 1),.i (aG .i64 (gI p 1) 0),aL p 2,aL p 3,aL p 4,aL p 5,.l (BS (D.s (D.toS (D.fld (gD (gL p 4) (tI p 0)) 0))) (D.i (aG .i64 (D.toI (xG (.int .i64) z0)) 1)) (gL p 6) z0)])))
 (.bad))
 (.out (0,[aI p 1,aL p 2,aL p 3,aL p 4,aL p 5,aL p 6]))
def uQ(p:List D):Sh:=
 .ask (aT (gI p 1) (iL (gL p 5)))
 (.ask (aA (gI p 1) (List.length (gL p 5)))
 (.call IJ [.s (D.toS (D.fld (gD (gL p 5) (tI p 1)) 0))] 0 λc _=>
 .ask ((!(D.toB c))||(aT 1 (D.toI (xG (.int .i64) (gH .str (.s (D.toS (D.fld (gD (gL p 5) (tI p 1)) 0))) 0 (BS (.s (D.toS (D.fld (gD (gL p 5) (tI p 1)) 0))) (.i (aG .i64 (D.toI (xG (.int .i64) (gH .str (.s (D.toS (D.fld (gD (gL p 5) (tI p 1)) 0))) 0 (gL p 6)))) 1)) (gL p 6) (gH .str (.s (D.toS (D.fld (gD (gL p 5) (tI p 1)) 0))) 0 (gL p 6))))))))
 (.again (let z0:=gH .str (D.s (D.toS (D.fld (gD (gL p 5) (tI p 1)) 0))) 0 (gL p 6);[.i (aG .i64 (gI p 0) 1),.i (aG .i64 (gI p 1) 1),aL p 2,aL p 3,aL p 4,aL p 5,.l (BS (D.s (D.toS (D.fld (gD (gL p 5) (tI p 1)) 0))) (D.i (aG .i64 (D.toI (xG (.int .i64) z0)) 1)) (gL p 6) z0)]))
 (.again (let z0:=gH .str (D.s (D.toS (D.fld (gD (gL p 5) (tI p 1)) 0))) 0 (gL p 6);[.i (aG .i64 (gI p 0) 0),.i (aG .i64 (gI p 1) 1),aL p 2,aL p 3,aL p 4,aL p 5,.l (BS (D.s (D.toS (D.fld (gD (gL p 5) (tI p 1)) 0))) (D.i (aG .i64 (D.toI (xG (.int .i64) z0)) 1)) (gL p 6) z0)])))
 (.bad))
 (.out (0,[aI p 0]))
def RQ(x:List D):Sh:=
 .call LS [.l [.s (D.toS (D.fld (gD x 1) 0)),.b (vB (gD x 1) 1),.l (eX (gD x 1) 2),.i (vI (gD x 1) 3),.l (eX (gD x 1) 4)]] 0 λd _=>
 .loop 0 [.i 0,.l (eX (gD x 0) 0),.l (eX (gD x 0) 1),.l (eX (gD x 0) 2),.l (eX (gD x 0) 3),.s (D.toS (D.fld (gD x 1) 0)),.b (vB (gD x 1) 1),.l (eX (gD x 1) 2),.i (vI (gD x 1) 3),.l (eX (gD x 1) 4),.l (D.els d)] (.cons (λc=>
 .ret (aB c 0) [])
 (.cons (λc=>
 .ret (.b true) [])
 .nil))
def uR(p:List D):Sh:=
 .ask (aT (gI p 0) (iL (gL p 9)))
 (.loop 2 [.i 0,aI p 0,aL p 1,aL p 2,aL p 3,aL p 4,aS p 5,aB p 6,aL p 7,aI p 8,aL p 9,aL p 10] (.cons (λc=>
 .out (0,[aB c 0]))
 (.cons (λc=>
 .again [.i (aG .i64 (gI c 0) 1),aL c 1,aL c 2,aL c 3,aL c 4,aS c 5,aB c 6,aL c 7,aI c 8,aL c 9,aL c 10])
 .nil)))
 (.out (1,[]))
def uS(p:List D):Sh:=
 .ask (aA (gI p 1) (List.length (gL p 10)))
 (.ask (aT (gI p 0) (iE (gD (gL p 10) (tI p 1))))
 (.ask (aA (gI p 1) (List.length (gL p 10)))
 (.ask (aA (gI p 0) (nE (gD (gL p 10) (tI p 1))))
 (.loop 4 [aI p 0,aI p 1,.i 0,aL p 2,aL p 3,aL p 4,aL p 5,aS p 6,aB p 7,aL p 8,aI p 9,aL p 10,.i (vI (gE (gD (gL p 10) (tI p 1)) (tI p 0)) 0),.i (vI (gE (gD (gL p 10) (tI p 1)) (tI p 0)) 1),.i (vI (gE (gD (gL p 10) (tI p 1)) (tI p 0)) 2),.i (vI (gE (gD (gL p 10) (tI p 1)) (tI p 0)) 3),.i (vI (gE (gD (gL p 10) (tI p 1)) (tI p 0)) 4),.l (eX (gE (gD (gL p 10) (tI p 1)) (tI p 0)) 5),.l (eX (gE (gD (gL p 10) (tI p 1)) (tI p 0)) 6),.l [],aL p 11] (.cons (λc=>
 .call Ee [.l [aL c 2,aL c 3,aL c 4,aL c 5],.l [aS c 6,aB c 7,aL c 8,aI c 9,aL c 10],.l [aI c 11,aI c 12,aI c 13,aI c 14,aI c 15,aL c 16,aL c 17],aL c 18] 0 λd _=>
 .ask (!(D.toB d))
 (.out (0,[.b false,aI c 1,aL c 2,aL c 3,aL c 4,aL c 5,aS c 6,aB c 7,aL c 8,aI c 9,aL c 10,aL c 19]))
 (.again [.i (aG .i64 (gI c 0) 1),aI c 1,aL c 2,aL c 3,aL c 4,aL c 5,aS c 6,aB c 7,aL c 8,aI c 9,aL c 10,aL c 19]))
 .nil))
 (.bad))
 (.bad))
 (.out (1,[aI p 1,aL p 2,aL p 3,aL p 4,aL p 5,aS p 6,aB p 7,aL p 8,aI p 9,aL p 10,aL p 11])))
 (.bad)
def uT(p:List D):Sh:=
 .ask (aT (gI p 2) (iL (gL p 17)))
 (.ask (aA (gI p 2) (List.length (gL p 17)))
 (.ask (aA (D.toI (gD (gL p 17) (tI p 2))) (List.length (gL p 20)))
 (.ask (iP ((List.length (gL p 19))+1) 8)
 (.again [aI p 0,aI p 1,.i (aG .i64 (gI p 2) 1),aL p 3,aL p 4,aL p 5,aL p 6,aS p 7,aB p 8,aL p 9,aI p 10,aL p 11,aI p 12,aI p 13,aI p 14,aI p 15,aI p 16,aL p 17,aL p 18,.l ((gL p 19)++[.i (D.toI (gD (gL p 20) (Int.toNat (D.toI (gD (gL p 17) (tI p 2))))))]),aL p 20])
 (.bad))
 (.bad))
 (.bad))
 (.out (0,[aI p 0,aI p 1,aL p 3,aL p 4,aL p 5,aL p 6,aS p 7,aB p 8,aL p 9,aI p 10,aL p 11,aI p 12,aI p 13,aI p 14,aI p 15,aI p 16,aL p 17,aL p 18,aL p 19,aL p 20]))
def RR(x:List D):Sh:=
 .ask ((cP 0 (iX (gD x 0) 3))&&((aD (iX (gD x 0) 3) (iX (gD x 0) 3))&&(iP (Int.toNat (iX (gD x 0) 3)) 1)))
 (.loop 0 [.l (eX (gD x 0) 2),.i 0,.i (iX (gD x 0) 2),.l (eX (gD x 0) 0),.l (eX (gD x 0) 1),.l (eX (gD x 0) 2),.l (eX (gD x 0) 3),.l (eX (gD x 0) 0),.l (eX (gD x 0) 1),.l (eX (gD x 0) 2),.l (eX (gD x 0) 3),.l (List.replicate (nX (gD x 0) 3) (D.b false))] (.cons (λc=>
 .loop 4 [aL c 3,.i 0,.i (iL (gL c 3)),aL c 4,aL c 5,aL c 6,aL c 7,aL c 8,.l []] (.cons (λd=>
 .ret (.l [.l [aL d 0,aL d 1,aL d 2,aL d 3,aL d 4,aL d 5]]) [])
 .nil))
 .nil))
 (.bad)
def uU(p:List D):Sh:=
 .ask (aT (gI p 1) (gI p 2))
 (.ask (aA (gI p 1) (List.length (gL p 0)))
 (.loop 2 [.i (iX (gD (gL p 0) (tI p 1)) 1),aL p 0,aI p 1,.i 0,aI p 2,.l (eX (gD (gL p 0) (tI p 1)) 1),aL p 3,aL p 4,aL p 5,aL p 6,aL p 7,aL p 8,aL p 9,aL p 10,aL p 11] (.cons (λc=>
 .again [aL c 0,.i (aG .i64 (gI c 1) 1),aI c 2,aL c 3,aL c 4,aL c 5,aL c 6,aL c 7,aL c 8,aL c 9,aL c 10,aL c 11])
 .nil))
 (.bad))
 (.out (0,[aL p 3,aL p 4,aL p 5,aL p 6,aL p 7,aL p 8,aL p 9,aL p 10,aL p 11]))
def nT(p:List D):Sh:=
 .ask (aT (gI p 3) (gI p 0))
 (.ask (aA (gI p 3) (List.length (gL p 5)))
 (.ask (cP 0 (D.toI (gD (gL p 5) (tI p 3))))
 (.ask (aA (D.toI (gD (gL p 5) (tI p 3))) (List.length (gL p 14)))
 (.again [aI p 0,aL p 1,aI p 2,.i (aG .i64 (gI p 3) 1),aI p 4,aL p 5,aL p 6,aL p 7,aL p 8,aL p 9,aL p 10,aL p 11,aL p 12,aL p 13,.l (List.set (gL p 14) (Int.toNat (D.toI (gD (gL p 5) (tI p 3)))) (D.b true))])
 (.bad))
 (.again [aI p 0,aL p 1,aI p 2,.i (aG .i64 (gI p 3) 1),aI p 4,aL p 5,aL p 6,aL p 7,aL p 8,aL p 9,aL p 10,aL p 11,aL p 12,aL p 13,aL p 14]))
 (.bad))
 (.out (0,[aL p 1,aI p 2,aI p 4,aL p 6,aL p 7,aL p 8,aL p 9,aL p 10,aL p 11,aL p 12,aL p 13,aL p 14]))
def uV(p:List D):Sh:=
 .ask (aT (gI p 1) (gI p 2))
 (.ask (aA (gI p 1) (List.length (gL p 0)))
 (.call VT [.l [.s (D.toS (D.fld (gD (gL p 0) (tI p 1)) 0)),.b (vB (gD (gL p 0) (tI p 1)) 1),.l (eX (gD (gL p 0) (tI p 1)) 2),.i (vI (gD (gL p 0) (tI p 1)) 3),.l (eX (gD (gL p 0) (tI p 1)) 4)]] 0 λd _=>
 .ask ((cP 0 (iE d))&&((aD (iE d) (iE d))&&(iP (Int.toNat (iE d)) 88)))
 (.loop 6 [.i (iX (gD (gL p 0) (tI p 1)) 4),aL p 0,aI p 1,.i 0,aI p 2,.l (eX (gD (gL p 0) (tI p 1)) 4),.s (D.toS (D.fld (gD (gL p 0) (tI p 1)) 0)),.b (vB (gD (gL p 0) (tI p 1)) 1),.l (eX (gD (gL p 0) (tI p 1)) 2),.i (vI (gD (gL p 0) (tI p 1)) 3),.l (eX (gD (gL p 0) (tI p 1)) 4),aL p 3,aL p 4,aL p 5,aL p 6,aL p 7,.l (List.replicate (nE d) (D.l [.i 0,.i 0,.i 0,.i 0,.i 0,.l [],.l []])),aL p 8,.l (D.els d)] (.cons (λc=>
 .call xU [.l [aL c 15,.l [],.l [],aL c 13],.l [aS c 3,aB c 4,aL c 5,aI c 6,aL c 7]] 1 λg e=>
 .call AF [.l [.l (eX (gD e 0) 0),.l (eX (gD e 0) 1),.l (eX (gD e 0) 2),.l (eX (gD e 0) 3)]] 1 λh f=>
 .ask (iP ((List.length (gL c 14))+1) 96)
 (.again [aL c 0,.i (aG .i64 (gI c 1) 1),aI c 2,aL c 8,aL c 9,aL c 10,aL c 11,aL c 12,.l ((gL c 14)++[.l [.l (eX (gD f 0) 0),.l (eX (gD f 0) 1),.l (eX (gD f 0) 2),.l (eX (gD f 0) 3)]])])
 (.bad))
 .nil))
 (.bad))
 (.bad))
 (.out (0,[aL p 3,aL p 4,aL p 5,aL p 6,aL p 7,aL p 8]))
def uW(p:List D):Sh:=
 .ask (aT (gI p 3) (gI p 0))
 (.ask (aA (gI p 3) (List.length (gL p 5)))
 (.loop 8 [aI p 0,aL p 1,.i 0,aI p 2,.l (D.els (gD (gL p 5) (tI p 3))),aI p 3,aI p 4,.i (iE (gD (gL p 5) (tI p 3))),aL p 5,aS p 6,aB p 7,aL p 8,aI p 9,aL p 10,aL p 11,aL p 12,aL p 13,aL p 14,aL p 15,aL p 16,aL p 17,aL p 18] (.cons (λc=>
 .again [aI c 0,aL c 1,aI c 2,.i (aG .i64 (gI c 3) 1),aI c 4,aL c 5,aS c 6,aB c 7,aL c 8,aI c 9,aL c 10,aL c 11,aL c 12,aL c 13,aL c 14,aL c 15,aL c 16,aL c 17,aL c 18])
 .nil))
 (.bad))
 (.out (0,[aL p 1,aI p 2,aI p 4,aS p 6,aB p 7,aL p 8,aI p 9,aL p 10,aL p 11,aL p 12,aL p 13,aL p 14,aL p 15,aL p 16,aL p 17,aL p 18]))
def nU(p:List D):Sh:=
 .ask (aT (gI p 2) (gI p 7))
 (.ask (aA (gI p 2) (List.length (gL p 4)))
 (.ask (aD (vI (gD (gL p 4) (tI p 2)) 0) 2)
 (.ask (aA (vI (gD (gL p 4) (tI p 2)) 3) (List.length (gL p 18)))
 (.ask (!(aD (vI (gD (gL p 4) (tI p 2)) 1) 0))
 (.ask (aA (vI (gD (gL p 4) (tI p 2)) 2) (List.length (gL p 19)))
 (.again (let z0:=List.set (gL p 19) (Int.toNat (vI (gD (gL p 4) (tI p 2)) 2)) (D.l (cK (D.els (gD (gL p 19) (Int.toNat (vI (gD (gL p 4) (tI p 2)) 2)))) 0 (D.i (vI (gD (gL p 4) (tI p 2)) 0))));let c:=List.set z0 (Int.toNat (vI (gD (gL p 4) (tI p 2)) 2)) (D.l (cK (D.els (gD z0 (Int.toNat (vI (gD (gL p 4) (tI p 2)) 2)))) 1 (D.i (vI (gD (gL p 4) (tI p 2)) 1))));let z2:=List.set c (Int.toNat (vI (gD (gL p 4) (tI p 2)) 2)) (D.l (cK (D.els (gD c (Int.toNat (vI (gD (gL p 4) (tI p 2)) 2)))) 2 (D.i (vI (gD (gL p 4) (tI p 2)) 2))));let z3:=List.set z2 (Int.toNat (vI (gD (gL p 4) (tI p 2)) 2)) (D.l (cK (D.els (gD z2 (Int.toNat (vI (gD (gL p 4) (tI p 2)) 2)))) 3 (D.i (vI (gD (gL p 4) (tI p 2)) 3))));let z4:=List.set z3 (Int.toNat (vI (gD (gL p 4) (tI p 2)) 2)) (D.l (cK (D.els (gD z3 (Int.toNat (vI (gD (gL p 4) (tI p 2)) 2)))) 4 (D.i (vI (gD (gL p 4) (tI p 2)) 4))));let z5:=List.set z4 (Int.toNat (vI (gD (gL p 4) (tI p 2)) 2)) (D.l (cK (D.els (gD z4 (Int.toNat (vI (gD (gL p 4) (tI p 2)) 2)))) 5 (D.l (eX (gD (gL p 4) (tI p 2)) 5))));[aI p 0,aL p 1,.i (aG .i64 (gI p 2) 1),aI p 3,aL p 4,aI p 5,aI p 6,aI p 7,aL p 8,aS p 9,aB p 10,aL p 11,aI p 12,aL p 13,aL p 14,aL p 15,aL p 16,aL p 17,.l (List.set (gL p 18) (Int.toNat (vI (gD (gL p 4) (tI p 2)) 3)) (D.b true)),.l (List.set z5 (Int.toNat (vI (gD (gL p 4) (tI p 2)) 2)) (D.l (cK (D.els (gD z5 (Int.toNat (vI (gD (gL p 4) (tI p 2)) 2)))) 6 (D.l (eX (gD (gL p 4) (tI p 2)) 6))))),aL p 20,aL p 21]))
 (.bad))
 (.again [aI p 0,aL p 1,.i (aG .i64 (gI p 2) 1),aI p 3,aL p 4,aI p 5,aI p 6,aI p 7,aL p 8,aS p 9,aB p 10,aL p 11,aI p 12,aL p 13,aL p 14,aL p 15,aL p 16,aL p 17,.l (List.set (gL p 18) (Int.toNat (vI (gD (gL p 4) (tI p 2)) 3)) (D.b true)),aL p 19,aL p 20,aL p 21]))
 (.bad))
 (.ask (!(aD (vI (gD (gL p 4) (tI p 2)) 1) 0))
 (.ask (aA (vI (gD (gL p 4) (tI p 2)) 2) (List.length (gL p 19)))
 (.again (let z0:=List.set (gL p 19) (Int.toNat (vI (gD (gL p 4) (tI p 2)) 2)) (D.l (cK (D.els (gD (gL p 19) (Int.toNat (vI (gD (gL p 4) (tI p 2)) 2)))) 0 (D.i (vI (gD (gL p 4) (tI p 2)) 0))));let c:=List.set z0 (Int.toNat (vI (gD (gL p 4) (tI p 2)) 2)) (D.l (cK (D.els (gD z0 (Int.toNat (vI (gD (gL p 4) (tI p 2)) 2)))) 1 (D.i (vI (gD (gL p 4) (tI p 2)) 1))));let z2:=List.set c (Int.toNat (vI (gD (gL p 4) (tI p 2)) 2)) (D.l (cK (D.els (gD c (Int.toNat (vI (gD (gL p 4) (tI p 2)) 2)))) 2 (D.i (vI (gD (gL p 4) (tI p 2)) 2))));let z3:=List.set z2 (Int.toNat (vI (gD (gL p 4) (tI p 2)) 2)) (D.l (cK (D.els (gD z2 (Int.toNat (vI (gD (gL p 4) (tI p 2)) 2)))) 3 (D.i (vI (gD (gL p 4) (tI p 2)) 3))));let z4:=List.set z3 (Int.toNat (vI (gD (gL p 4) (tI p 2)) 2)) (D.l (cK (D.els (gD z3 (Int.toNat (vI (gD (gL p 4) (tI p 2)) 2)))) 4 (D.i (vI (gD (gL p 4) (tI p 2)) 4))));let z5:=List.set z4 (Int.toNat (vI (gD (gL p 4) (tI p 2)) 2)) (D.l (cK (D.els (gD z4 (Int.toNat (vI (gD (gL p 4) (tI p 2)) 2)))) 5 (D.l (eX (gD (gL p 4) (tI p 2)) 5))));[aI p 0,aL p 1,.i (aG .i64 (gI p 2) 1),aI p 3,aL p 4,aI p 5,aI p 6,aI p 7,aL p 8,aS p 9,aB p 10,aL p 11,aI p 12,aL p 13,aL p 14,aL p 15,aL p 16,aL p 17,aL p 18,.l (List.set z5 (Int.toNat (vI (gD (gL p 4) (tI p 2)) 2)) (D.l (cK (D.els (gD z5 (Int.toNat (vI (gD (gL p 4) (tI p 2)) 2)))) 6 (D.l (eX (gD (gL p 4) (tI p 2)) 6))))),aL p 20,aL p 21]))
 (.bad))
 (.again [aI p 0,aL p 1,.i (aG .i64 (gI p 2) 1),aI p 3,aL p 4,aI p 5,aI p 6,aI p 7,aL p 8,aS p 9,aB p 10,aL p 11,aI p 12,aL p 13,aL p 14,aL p 15,aL p 16,aL p 17,aL p 18,aL p 19,aL p 20,aL p 21])))
 (.bad))
 (.out (0,[aI p 0,aL p 1,aI p 3,aI p 5,aI p 6,aL p 8,aS p 9,aB p 10,aL p 11,aI p 12,aL p 13,aL p 14,aL p 15,aL p 16,aL p 17,aL p 18,aL p 19,aL p 20,aL p 21]))
def YT(x:List D):Sh:=
 .ask ((cP 0 (iX (gD x 0) 4))&&((aD (iX (gD x 0) 4) (iX (gD x 0) 4))&&(iP (Int.toNat (iX (gD x 0) 4)) 24)))
 (.loop 0 [.i 0,.s (D.toS (D.fld (gD x 0) 0)),.b (vB (gD x 0) 1),.l (eX (gD x 0) 2),.i (vI (gD x 0) 3),.l (eX (gD x 0) 4),.l (List.replicate (nX (gD x 0) 4) (D.l []))] (.cons (λc=>
 .ret (aL c 0) [])
 .nil))
 (.bad)
def yZ(p:List D):Sh:=
 .ask (aT (gI p 0) (iL (gL p 5)))
 (.call Eg [.l [aS p 1,aB p 2,aL p 3,aI p 4,aL p 5],aI p 0] 0 λd _=>
 .loop 2 [aI p 0,.i 0,aS p 1,aB p 2,aL p 3,aI p 4,aL p 5,aL p 6,.l (D.els d)] (.cons (λc=>
 .again [.i (aG .i64 (gI c 0) 1),aS c 1,aB c 2,aL c 3,aI c 4,aL c 5,aL c 6])
 .nil))
 (.out (0,[aL p 6]))
def zA(p:List D):Sh:=
 .ask (aT (gI p 1) (iL (gL p 8)))
 (.ask (aA (gI p 1) (List.length (gL p 8)))
 (.ask (aA (gI p 1) (List.length (gL p 8)))
 (.ask (aA (D.toI (gD (gL p 8) (tI p 1))) (List.length (gL p 7)))
 (.ask (iP ((nE (gD (gL p 7) (Int.toNat (D.toI (gD (gL p 8) (tI p 1))))))+1) 8)
 (.ask ((aD (D.toI (gD (gL p 8) (tI p 1))) (D.toI (gD (gL p 8) (tI p 1))))&&true)
 (.ask (aA (D.toI (gD (gL p 8) (tI p 1))) (List.length (gL p 7)))
 (.ask ((Nat.beq (Int.toNat (D.toI (gD (gL p 8) (tI p 1)))) (Int.toNat (D.toI (gD (gL p 8) (tI p 1)))))&&true)
 (.again [aI p 0,.i (aG .i64 (gI p 1) 1),aS p 2,aB p 3,aL p 4,aI p 5,aL p 6,.l (List.set (gL p 7) (Int.toNat (D.toI (gD (gL p 8) (tI p 1)))) (D.l ((D.els (gD (gL p 7) (Int.toNat (D.toI (gD (gL p 8) (tI p 1))))))++[aI p 0]))),aL p 8])
 (.bad))
 (.bad))
 (.bad))
 (.bad))
 (.bad))
 (.bad))
 (.bad))
 (.out (0,[aI p 0,aS p 2,aB p 3,aL p 4,aI p 5,aL p 6,aL p 7]))
def Bw(x:List D):Sh:=
 .ask (aD (vI (gD x 2) 0) 16)
 (.ask ((!((aD (vI (gD x 2) 1) 2)&&true))||(aA 0 (nE (gD x 3))))
 (.ret (.b ((aD (vI (gD x 2) 1) 2)&&(aD (D.toI (gE (gD x 3) 0)) 2))) [])
 (.bad))
 (.ask (aD (vI (gD x 2) 0) 17)
 (.ask (aA 0 (nE (gD x 3)))
 (.ask ((!((aD (D.toI (gE (gD x 3) 0)) 2)&&true))||(aA 1 (nE (gD x 3))))
 (.ask ((!(((aD (D.toI (gE (gD x 3) 0)) 2)&&(aD (D.toI (gE (gD x 3) 1)) (vI (gD x 2) 1)))&&true))||(aA 2 (nE (gD x 3))))
 (.ret (.b (((aD (D.toI (gE (gD x 3) 0)) 2)&&(aD (D.toI (gE (gD x 3) 1)) (vI (gD x 2) 1)))&&(aD (D.toI (gE (gD x 3) 2)) (vI (gD x 2) 1)))) [])
 (.bad))
 (.bad))
 (.bad))
 (.ask (aD (vI (gD x 2) 0) 19)
 (.ask ((!((aD (vI (gD x 2) 1) 3)&&true))||(aA 0 (nE (gD x 3))))
 (.ask ((!(((aD (vI (gD x 2) 1) 3)&&(aD (D.toI (gE (gD x 3) 0)) 3))&&true))||(aA 1 (nE (gD x 3))))
 (.ret (.b (((aD (vI (gD x 2) 1) 3)&&(aD (D.toI (gE (gD x 3) 0)) 3))&&(aD (D.toI (gE (gD x 3) 1)) 1))) [])
 (.bad))
 (.bad))
 (.ask (aD (vI (gD x 2) 0) 20)
 (.ask ((!((aD (vI (gD x 2) 1) 1)&&true))||(aA 0 (nE (gD x 3))))
 (.ret (.b ((aD (vI (gD x 2) 1) 1)&&(aD (D.toI (gE (gD x 3) 0)) 3))) [])
 (.bad))
 (.ask (aD (vI (gD x 2) 0) 21)
 (.ask (aA 0 (nE (gD x 3)))
 (.ask ((!((aD (D.toI (gE (gD x 3) 0)) 3)&&true))||(aA 1 (nE (gD x 3))))
 (.ret (.b ((aD (D.toI (gE (gD x 3) 0)) 3)&&(aD (D.toI (gE (gD x 3) 1)) 1))) [])
 (.bad))
 (.bad))
 (.ask (aD (vI (gD x 2) 0) 22)
 (.ask (aA (vI (gD x 2) 3) (nX (gD x 0) 3))
 (.call OG [.l (D.els (gD x 3)),.l (eX (gD (eX (gD x 0) 3) (Int.toNat (vI (gD x 2) 3))) 2)] 0 λc _=>
 .ask ((!((D.toB c)&&true))||(aA (vI (gD x 2) 3) (nX (gD x 0) 3)))
 (.ret (.b ((D.toB c)&&(aD (vI (gD x 2) 1) (vI (gD (eX (gD x 0) 3) (Int.toNat (vI (gD x 2) 3))) 3)))) [])
 (.bad))
 (.bad))
 (.ask (aD (vI (gD x 2) 0) 23)
 (.ask (aA (vI (gD x 2) 3) (nX (gD x 0) 0))
 (.call OG [.l (D.els (gD x 3)),.l (eX (gD (eX (gD x 0) 0) (Int.toNat (vI (gD x 2) 3))) 1)] 0 λc _=>
 .ask ((!((D.toB c)&&true))||(aA (vI (gD x 2) 3) (nX (gD x 0) 0)))
 (.ret (.b ((D.toB c)&&(aD (vI (gD x 2) 1) (vI (gD (eX (gD x 0) 0) (Int.toNat (vI (gD x 2) 3))) 2)))) [])
 (.bad))
 (.bad))
 (.ask (aD (vI (gD x 2) 0) 24)
 (.ask ((!((aD (vI (gD x 2) 1) 4)&&true))||(aA 0 (nE (gD x 3))))
 (.ret (.b ((aD (vI (gD x 2) 1) 4)&&(aD (D.toI (gE (gD x 3) 0)) 1))) [])
 (.bad))
 (.ask (aD (vI (gD x 2) 0) 25)
 (.ask (aA 0 (nE (gD x 3)))
 (.ret (.b ((aD (D.toI (gE (gD x 3) 0)) 4)&&(!(aD (vI (gD x 2) 1) 3)))) [])
 (.bad))
 (.ask (aD (vI (gD x 2) 0) 26)
 (.loop 1 [.l (D.els (gD x 3)),.i 0,.i (vI (gD x 2) 0),.i (vI (gD x 2) 1),.i (vI (gD x 2) 2),.i (vI (gD x 2) 3),.i (vI (gD x 2) 4),.l (eX (gD x 2) 5),.l (eX (gD x 2) 6)] (.cons (λd=>
 .ret (aB d 0) [])
 (.cons (λd=>
 .ret (.b true) [])
 .nil)))
 (.ask (aD (vI (gD x 2) 0) 28)
 (.ask (aA 0 (nE (gD x 3)))
 (.ret (.b (aD (D.toI (gE (gD x 3) 0)) 2)) [])
 (.bad))
 (.ask (aD (vI (gD x 2) 0) 29)
 (.ask (aD (vI (gD x 1) 3) 0)
 (.ret (.b (aD (iE (gD x 3)) 0)) [])
 (.ask ((!((aD (iE (gD x 3)) 1)&&true))||(aA 0 (nE (gD x 3))))
 (.ret (.b ((aD (iE (gD x 3)) 1)&&(aD (D.toI (gE (gD x 3) 0)) (vI (gD x 1) 3)))) [])
 (.bad)))
 (.ret (.b true) []))))))))))))
def By(x:List D):Sh:=
 .ask ((!((aD (vI (gD x 2) 1) 2)&&true))||(aA 0 (nE (gD x 3))))
 (.ask ((!(((aD (vI (gD x 2) 1) 2)&&(aD (D.toI (gE (gD x 3) 0)) 1))&&true))||(aA 1 (nE (gD x 3))))
 (.ret (.b (((aD (vI (gD x 2) 1) 2)&&(aD (D.toI (gE (gD x 3) 0)) 1))&&(aD (D.toI (gE (gD x 3) 1)) 1))) [])
 (.bad))
 (.bad)
def kO(x:List D):Sh:=
 .ask (aD (vI (gD x 2) 0) 14)
 (.ask (aD (vI (gD x 2) 0) 14)
 (By x)
 (Bw x))
 (.ask (aD (vI (gD x 2) 0) 15)
 (By x)
 (Bw x))
def kP(x:List D):Sh:=
 .ask ((!((aD (vI (gD x 2) 1) 1)&&true))||(aA 0 (nE (gD x 3))))
 (.ask ((!(((aD (vI (gD x 2) 1) 1)&&(aD (D.toI (gE (gD x 3) 0)) 1))&&true))||(aA 1 (nE (gD x 3))))
 (.ret (.b (((aD (vI (gD x 2) 1) 1)&&(aD (D.toI (gE (gD x 3) 0)) 1))&&(aD (D.toI (gE (gD x 3) 1)) 1))) [])
 (.bad))
 (.bad)
def Bz(x:List D):Sh:=
 .ask (aD (vI (gD x 2) 0) 4)
 (.ask (aD (vI (gD x 2) 0) 4)
 (kP x)
 (kO x))
 (.ask (aD (vI (gD x 2) 0) 5)
 (.ask (aD (vI (gD x 2) 0) 5)
 (kP x)
 (kO x))
 (.ask (aD (vI (gD x 2) 0) 6)
 (.ask (aD (vI (gD x 2) 0) 6)
 (kP x)
 (kO x))
 (.ask (aD (vI (gD x 2) 0) 7)
 (.ask (aD (vI (gD x 2) 0) 7)
 (kP x)
 (kO x))
 (.ask (aD (vI (gD x 2) 0) 8)
 (.ask (aD (vI (gD x 2) 0) 8)
 (kP x)
 (kO x))
 (.ask (aD (vI (gD x 2) 0) 9)
 (.ask (aD (vI (gD x 2) 0) 9)
 (kP x)
 (kO x))
 (.ask (aD (vI (gD x 2) 0) 10)
 (.ask (aD (vI (gD x 2) 0) 10)
 (kP x)
 (kO x))
 (.ask (aD (vI (gD x 2) 0) 11)
 (.ask (aD (vI (gD x 2) 0) 11)
 (kP x)
 (kO x))
 (.ask (aD (vI (gD x 2) 0) 12)
 (.ask (aD (vI (gD x 2) 0) 12)
 (kP x)
 (kO x))
 (.ask (aD (vI (gD x 2) 0) 13)
 (kP x)
 (kO x))))))))))
def Np(x:List D):Sh:=
 .ask (aD (vI (gD x 2) 0) 1)
 (.ret (.b ((aD (vI (gD x 2) 1) 1)||((aD (vI (gD x 2) 1) 2)&&((aD (vI (gD x 2) 4) 0)||(aD (vI (gD x 2) 4) 1))))) [])
 (.ask (aD (vI (gD x 2) 0) 2)
 (.ret (.b (aD (vI (gD x 2) 1) 4)) [])
 (.ask (aD (vI (gD x 2) 0) 3)
 (.ask (aD (vI (gD x 2) 0) 3)
 (.ret (.b (aD (vI (gD x 2) 1) 3)) [])
 (Bz x))
 (.ask (aD (vI (gD x 2) 0) 18)
 (.ret (.b (aD (vI (gD x 2) 1) 3)) [])
 (Bz x))))
def zB(p:List D):Sh:=
 .ask (aT (gI p 1) (iL (gL p 0)))
 (.ask (aA (gI p 1) (List.length (gL p 0)))
 (.ask (!(aD (D.toI (gD (gL p 0) (tI p 1))) (gI p 3)))
 (.out (0,[.b false]))
 (.again [aL p 0,.i (aG .i64 (gI p 1) 1),aI p 2,aI p 3,aI p 4,aI p 5,aI p 6,aL p 7,aL p 8]))
 (.bad))
 (.out (1,[]))
def RT(x:List D):Sh:=
 .loop 0 [.l (eX (gD x 0) 2),.i 0,.i (iX (gD x 0) 2),.l (eX (gD x 0) 0),.l (eX (gD x 0) 1),.l (eX (gD x 0) 2),.l (eX (gD x 0) 3)] (.cons (λc=>
 .ret (aB c 0) [])
 (.cons (λc=>
 .loop 4 [.i (iL (gL c 3)),aL c 3,.i 0,aL c 0,aL c 1,aL c 2,aL c 3] (.cons (λd=>
 .ret (aB d 0) [])
 (.cons (λd=>
 .ret (.b true) [])
 .nil)))
 .nil))
def uX(p:List D):Sh:=
 .ask (aT (gI p 1) (gI p 2))
 (.ask (aA (gI p 1) (List.length (gL p 0)))
 (.loop 2 [aL p 0,.i (iX (gD (gL p 0) (tI p 1)) 1),aI p 1,aI p 2,.i 0,.l (eX (gD (gL p 0) (tI p 1)) 1),aL p 3,aL p 4,aL p 5,aL p 6] (.cons (λc=>
 .out (0,[aB c 2,aL c 4,aL c 5,aL c 6,aL c 7]))
 (.cons (λc=>
 .again [aL c 0,.i (aG .i64 (gI c 1) 1),aI c 2,aL c 3,aL c 4,aL c 5,aL c 6])
 .nil)))
 (.bad))
 (.out (1,[aL p 3,aL p 4,aL p 5,aL p 6]))
def uY(p:List D):Sh:=
 .ask (aT (gI p 4) (gI p 1))
 (.ask (aA (gI p 4) (List.length (gL p 5)))
 (.ask ((aT (D.toI (gD (gL p 5) (tI p 4))) (-1))||(cP (iL (gL p 9)) (D.toI (gD (gL p 5) (tI p 4)))))
 (.out (0,[aL p 0,aI p 2,.b false,aI p 3,aL p 6,aL p 7,aL p 8,aL p 9]))
 (.again [aL p 0,aI p 1,aI p 2,aI p 3,.i (aG .i64 (gI p 4) 1),aL p 5,aL p 6,aL p 7,aL p 8,aL p 9]))
 (.bad))
 (.out (1,[aL p 0,aI p 2,aI p 3,aL p 6,aL p 7,aL p 8,aL p 9]))
def uZ(p:List D):Sh:=
 .ask (aT (gI p 2) (gI p 0))
 (.ask (aA (gI p 2) (List.length (gL p 1)))
 (.loop 6 [.l (eX (gD (gL p 1) (tI p 2)) 4),.i 0,aI p 0,.i (iX (gD (gL p 1) (tI p 2)) 4),aL p 1,aI p 2,aL p 3,aL p 4,aL p 5,aL p 6] (.cons (λc=>
 .out (0,[aB c 1]))
 (.cons (λc=>
 .again [aI c 0,aL c 1,.i (aG .i64 (gI c 2) 1),aL c 3,aL c 4,aL c 5,aL c 6])
 .nil)))
 (.bad))
 (.out (1,[]))
def vA(p:List D):Sh:=
 .ask (aT (gI p 1) (gI p 3))
 (.ask (aA (gI p 1) (List.length (gL p 0)))
 (.loop 8 [aL p 0,.i (iE (gD (gL p 0) (tI p 1))),aI p 1,aI p 2,aI p 3,aL p 4,.i 0,aI p 5,.l (D.els (gD (gL p 0) (tI p 1))),aL p 6,aL p 7,aL p 8,aL p 9] (.cons (λc=>
 .out (0,[aI c 2,aB c 3,aL c 5,aI c 6,aL c 7,aL c 8,aL c 9,aL c 10]))
 (.cons (λc=>
 .again [aL c 0,.i (aG .i64 (gI c 1) 1),aI c 2,aI c 3,aL c 4,aI c 5,aL c 6,aL c 7,aL c 8,aL c 9])
 .nil)))
 (.bad))
 (.out (1,[aI p 2,aL p 4,aI p 5,aL p 6,aL p 7,aL p 8,aL p 9]))
def AW(p:List D):Sh:=
 .ask (aD (vI (gD (gL p 8) (tI p 6)) 0) 3)
 (.ask ((aT (vI (gD (gL p 8) (tI p 6)) 3) 0)||(cP (iL (gL p 10)) (vI (gD (gL p 8) (tI p 6)) 3)))
 (.out (0,[aL p 0,aI p 2,aI p 3,.b false,aI p 4,aL p 5,aI p 7,aL p 9,aL p 10,aL p 11,aL p 12]))
 (.again [aL p 0,aI p 1,aI p 2,aI p 3,aI p 4,aL p 5,.i (aG .i64 (gI p 6) 1),aI p 7,aL p 8,aL p 9,aL p 10,aL p 11,aL p 12]))
 (.ask (aD (vI (gD (gL p 8) (tI p 6)) 0) 23)
 (.ask ((aT (vI (gD (gL p 8) (tI p 6)) 3) 0)||(cP (iL (gL p 9)) (vI (gD (gL p 8) (tI p 6)) 3)))
 (.out (0,[aL p 0,aI p 2,aI p 3,.b false,aI p 4,aL p 5,aI p 7,aL p 9,aL p 10,aL p 11,aL p 12]))
 (.again [aL p 0,aI p 1,aI p 2,aI p 3,aI p 4,aL p 5,.i (aG .i64 (gI p 6) 1),aI p 7,aL p 8,aL p 9,aL p 10,aL p 11,aL p 12]))
 (.ask (aD (vI (gD (gL p 8) (tI p 6)) 0) 24)
 (.ask ((aT (vI (gD (gL p 8) (tI p 6)) 3) 0)||(cP (iL (gL p 11)) (vI (gD (gL p 8) (tI p 6)) 3)))
 (.out (0,[aL p 0,aI p 2,aI p 3,.b false,aI p 4,aL p 5,aI p 7,aL p 9,aL p 10,aL p 11,aL p 12]))
 (.again [aL p 0,aI p 1,aI p 2,aI p 3,aI p 4,aL p 5,.i (aG .i64 (gI p 6) 1),aI p 7,aL p 8,aL p 9,aL p 10,aL p 11,aL p 12]))
 (.ask ((aT (vI (gD (gL p 8) (tI p 6)) 3) 0)||(cP (aG .i64 (vI (gD (gL p 8) (tI p 6)) 3) 1) (vI (gD (gL p 8) (tI p 6)) 3)))
 (.out (0,[aL p 0,aI p 2,aI p 3,.b false,aI p 4,aL p 5,aI p 7,aL p 9,aL p 10,aL p 11,aL p 12]))
 (.again [aL p 0,aI p 1,aI p 2,aI p 3,aI p 4,aL p 5,.i (aG .i64 (gI p 6) 1),aI p 7,aL p 8,aL p 9,aL p 10,aL p 11,aL p 12]))))
def AX(p:List D):Sh:=
 .ask ((aT (vI (gD (gL p 8) (tI p 6)) 3) 0)||(cP (iL (gL p 12)) (vI (gD (gL p 8) (tI p 6)) 3)))
 (.out (0,[aL p 0,aI p 2,aI p 3,.b false,aI p 4,aL p 5,aI p 7,aL p 9,aL p 10,aL p 11,aL p 12]))
 (.again [aL p 0,aI p 1,aI p 2,aI p 3,aI p 4,aL p 5,.i (aG .i64 (gI p 6) 1),aI p 7,aL p 8,aL p 9,aL p 10,aL p 11,aL p 12])
def vC(p:List D):Sh:=
 .ask (aT (gI p 6) (gI p 1))
 (.ask (aA (gI p 6) (List.length (gL p 8)))
 (.ask (aD (vI (gD (gL p 8) (tI p 6)) 0) 2)
 (.ask (aD (vI (gD (gL p 8) (tI p 6)) 0) 2)
 (AX p)
 (AW p))
 (.ask (aD (vI (gD (gL p 8) (tI p 6)) 0) 22)
 (AX p)
 (AW p)))
 (.bad))
 (.out (1,[aL p 0,aI p 2,aI p 3,aI p 4,aL p 5,aI p 7,aL p 9,aL p 10,aL p 11,aL p 12]))
def RU(x:List D):Sh:=
 .ask (iP (1+(nX (gD x 0) 2)) 8)
 (.loop 0 [.i 0,.l (eX (gD x 0) 4),.i (iX (gD x 0) 4),.l ([.i 0]++(eX (gD x 0) 2))] (.cons (λc=>
 .ret (aL c 0) [])
 .nil))
 (.bad)
def vD(p:List D):Sh:=
 .ask (aT (gI p 0) (gI p 2))
 (.ask (aA (gI p 0) (List.length (gL p 1)))
 (.loop 2 [aI p 0,aL p 1,.i (iE (gD (gL p 1) (tI p 0))),.l (D.els (gD (gL p 1) (tI p 0))),aI p 2,.i 0,aL p 3] (.cons (λc=>
 .again [.i (aG .i64 (gI c 0) 1),aL c 1,aI c 2,aL c 3])
 .nil))
 (.bad))
 (.out (0,[aL p 3]))
def vE(p:List D):Sh:=
 .ask (aT (gI p 5) (gI p 2))
 (.ask (aA (gI p 5) (List.length (gL p 3)))
 (.ask (!(aD (vI (gD (gL p 3) (tI p 5)) 1) 0))
 (.ask (iP ((List.length (gL p 6))+1) 8)
 (.again [aI p 0,aL p 1,aI p 2,aL p 3,aI p 4,.i (aG .i64 (gI p 5) 1),.l ((gL p 6)++[.i (vI (gD (gL p 3) (tI p 5)) 1)])])
 (.bad))
 (.again [aI p 0,aL p 1,aI p 2,aL p 3,aI p 4,.i (aG .i64 (gI p 5) 1),aL p 6]))
 (.bad))
 (.out (0,[aI p 0,aL p 1,aI p 4,aL p 6]))
def YU(x:List D):Sh:=
 .ask ((!(!((aT (iL (D.toS (gD x 0))) 1)||(aT 12 (iL (D.toS (gD x 0)))))))||(aA 0 (List.length (D.toS (gD x 0)))))
 (.ask ((!(!(((aT (iL (D.toS (gD x 0))) 1)||(aT 12 (iL (D.toS (gD x 0)))))||(aT (iA (D.toS (gD x 0)) 0) 97))))||(aA 0 (List.length (D.toS (gD x 0)))))
 (.ask ((((aT (iL (D.toS (gD x 0))) 1)||(aT 12 (iL (D.toS (gD x 0)))))||(aT (iA (D.toS (gD x 0)) 0) 97))||(aT 122 (iA (D.toS (gD x 0)) 0)))
 (.ret (.b false) [])
 (.loop 0 [.s (D.toS (gD x 0)),.i 0] (.cons (λc=>
 .ret (aB c 0) [])
 (.cons (λc=>
 .ret (.b true) [])
 .nil))))
 (.bad))
 (.bad)
def zC(p:List D):Sh:=
 .ask (aT (gI p 1) (iL (gS p 0)))
 (.ask (aA (gI p 1) (List.length (gS p 0)))
 (.ask ((((aT (iA (gS p 0) (gI p 1)) 97)||(aT 122 (iA (gS p 0) (gI p 1))))&&((aT (iA (gS p 0) (gI p 1)) 48)||(aT 57 (iA (gS p 0) (gI p 1)))))&&(!(aD (iA (gS p 0) (gI p 1)) 95)))
 (.out (0,[.b false]))
 (.again [aS p 0,.i (aG .i64 (gI p 1) 1)]))
 (.bad))
 (.out (1,[]))
def Xe(x:List D):Sh:=
 .ret (.b ((aD (D.toI (gD x 0)) 1)||(aD (D.toI (gD x 0)) 2))) []
def jU(x:List D):Sh:=
 .call mY [.l (D.els (gD x 0)),.b (D.toB (gD x 1))] 0 λc _=>
 .ret (.b (cP 0 (D.toI c))) []
def RV(x:List D):Sh:=
 .call In [.l [.s (D.toS (D.fld (gD x 0) 0)),.b (vB (gD x 0) 1),.l (eX (gD x 0) 2),.i (vI (gD x 0) 3),.l (eX (gD x 0) 4)]] 0 λc _=>
 .call LW [.l (D.els c)] 0 λd _=>
 .ret (.l (D.els d)) []
def fX(x:List D):Sh:=
 .ask (aT (iE (gD x 0)) 2)
 (.ret (.l (D.els (gD x 0))) [])
 (.loop 0 [.i 1,.l (D.els (gD x 0))] (.cons (λc=>
 .ret (aL c 0) [])
 (.cons (λc=>
 .ret (aL c 0) [])
 .nil)))
def cE(p:List D):Sh:=
 .ask (aT (gI p 0) (iL (gL p 1)))
 (.ask (aA (gI p 0) (List.length (gL p 1)))
 (.ask (aA (bC .i64 ((gI p 0)-1)) (List.length (gL p 1)))
 (.ask ((aD (vI (gD (gL p 1) (tI p 0)) 0) (vI (gD (gL p 1) (Int.toNat (bC .i64 ((gI p 0)-1)))) 0))&&((aD (vI (gD (gL p 1) (tI p 0)) 1) (vI (gD (gL p 1) (Int.toNat (bC .i64 ((gI p 0)-1)))) 1))&&true))
 (.ask ((cP 0 (gI p 0))&&(cP (gI p 0) (iL (gL p 1))))
 (.loop 2 [aI p 0,.i 1,.i (Int.ofNat ((List.length (gL p 1))-(tI p 0))),.i (Int.ofNat (tI p 0)),aL p 1] (.cons (λc=>
 .ask ((cP 0 (gI c 0))&&(cP (gI c 0) (iL (gL c 1))))
 (.ask (jT 0 (gI c 0) (iL ((List.take (tI c 0) (gL c 1))++(List.replicate ((List.length (gL c 1))-(tI c 0)) (D.l [.i 0,.i 0])))))
 (.out (0,[.l (List.drop 0 (List.take (tI c 0) ((List.take (tI c 0) (gL c 1))++(List.replicate ((List.length (gL c 1))-(tI c 0)) (D.l [.i 0,.i 0])))))]))
 (.bad))
 (.bad))
 .nil))
 (.bad))
 (.again [.i (aG .i64 (gI p 0) 1),aL p 1]))
 (.bad))
 (.bad))
 (.out (1,[aL p 1]))
def dI(p:List D):Sh:=
 .ask (aT (gI p 1) (Int.ofNat (gN p 2)))
 (.ask (aA (gI p 1) (gN p 2))
 (.ask (aA (bC .i64 ((gI p 1)-1)) (gN p 2))
 (.ask (!((aD (vI (gD (gL p 4) ((gN p 3)+(tI p 1))) 0) (vI (gD (gL p 4) ((gN p 3)+(Int.toNat (bC .i64 ((gI p 1)-1))))) 0))&&((aD (vI (gD (gL p 4) ((gN p 3)+(tI p 1))) 1) (vI (gD (gL p 4) ((gN p 3)+(Int.toNat (bC .i64 ((gI p 1)-1))))) 1))&&true)))
 (.ask (aA (gI p 1) (gN p 2))
 (.ask (aA (gI p 0) (List.length (gL p 4)))
 (.again (let z0:=List.set (gL p 4) (tI p 0) (D.l (cK (D.els (gD (gL p 4) (tI p 0))) 0 (D.i (vI (gD (gL p 4) ((gN p 3)+(tI p 1))) 0))));[.i (aG .i64 (gI p 0) 1),.i (aG .i64 (gI p 1) 1),aN p 2,aN p 3,.l (List.set z0 (tI p 0) (D.l (cK (D.els (gD z0 (tI p 0))) 1 (D.i (vI (gD (gL p 4) ((gN p 3)+(tI p 1))) 1)))))]))
 (.bad))
 (.bad))
 (.again [aI p 0,.i (aG .i64 (gI p 1) 1),aN p 2,aN p 3,aL p 4]))
 (.bad))
 (.bad))
 (.out (0,[aI p 0,aL p 4]))
def LZ(x:List D):Sh:=
 .ask (aD (D.toI (gD x 0)) 26)
 (.ret (.l [.i (-1),.i (-1),.b false,.b false]) [])
 (.ask (aD (D.toI (gD x 0)) 27)
 (.ret (.l [.i 0,.i 1,.b false,.b false]) [])
 (.ask (aD (D.toI (gD x 0)) 28)
 (.ret (.l [.i 1,.i 2,.b false,.b false]) [])
 (.ret (.l [.i 0,.i 0,.b false,.b false]) [])))
def MA(x:List D):Sh:=
 .ask (aD (D.toI (gD x 0)) 24)
 (.ret (.l [.i 1,.i 0,.b true,.b false]) [])
 (.ask (aD (D.toI (gD x 0)) 25)
 (.ask (aD (D.toI (gD x 0)) 25)
 (.ret (.l [.i (-1),.i 0,.b false,.b false]) [])
 (LZ x))
 (.ask (aD (D.toI (gD x 0)) 29)
 (.ret (.l [.i (-1),.i 0,.b false,.b false]) [])
 (LZ x)))
def MB(x:List D):Sh:=
 .ask (aD (D.toI (gD x 0)) 17)
 (.ret (.l [.i 3,.i 0,.b false,.b false]) [])
 (.ask (aD (D.toI (gD x 0)) 22)
 (.ask (aD (D.toI (gD x 0)) 22)
 (.ret (.l [.i (-1),.i 0,.b true,.b false]) [])
 (MA x))
 (.ask (aD (D.toI (gD x 0)) 23)
 (.ret (.l [.i (-1),.i 0,.b true,.b false]) [])
 (MA x)))
def fH(x:List D):Sh:=
 .ask (aD (D.toI (gD x 0)) 16)
 (.ask (aD (D.toI (gD x 0)) 16)
 (.ret (.l [.i 1,.i 0,.b false,.b false]) [])
 (MB x))
 (.ask (aD (D.toI (gD x 0)) 20)
 (.ret (.l [.i 1,.i 0,.b false,.b false]) [])
 (MB x))
def MC(x:List D):Sh:=
 .ask (aD (D.toI (gD x 0)) 4)
 (.ask (aD (D.toI (gD x 0)) 4)
 (.ret (.l [.i 2,.i 0,.b false,.b false]) [])
 (fH x))
 (.ask (aD (D.toI (gD x 0)) 5)
 (.ask (aD (D.toI (gD x 0)) 5)
 (.ret (.l [.i 2,.i 0,.b false,.b false]) [])
 (fH x))
 (.ask (aD (D.toI (gD x 0)) 6)
 (.ask (aD (D.toI (gD x 0)) 6)
 (.ret (.l [.i 2,.i 0,.b false,.b false]) [])
 (fH x))
 (.ask (aD (D.toI (gD x 0)) 7)
 (.ask (aD (D.toI (gD x 0)) 7)
 (.ret (.l [.i 2,.i 0,.b false,.b false]) [])
 (fH x))
 (.ask (aD (D.toI (gD x 0)) 8)
 (.ask (aD (D.toI (gD x 0)) 8)
 (.ret (.l [.i 2,.i 0,.b false,.b false]) [])
 (fH x))
 (.ask (aD (D.toI (gD x 0)) 9)
 (.ask (aD (D.toI (gD x 0)) 9)
 (.ret (.l [.i 2,.i 0,.b false,.b false]) [])
 (fH x))
 (.ask (aD (D.toI (gD x 0)) 10)
 (.ask (aD (D.toI (gD x 0)) 10)
 (.ret (.l [.i 2,.i 0,.b false,.b false]) [])
 (fH x))
 (.ask (aD (D.toI (gD x 0)) 11)
 (.ask (aD (D.toI (gD x 0)) 11)
 (.ret (.l [.i 2,.i 0,.b false,.b false]) [])
 (fH x))
 (.ask (aD (D.toI (gD x 0)) 12)
 (.ask (aD (D.toI (gD x 0)) 12)
 (.ret (.l [.i 2,.i 0,.b false,.b false]) [])
 (fH x))
 (.ask (aD (D.toI (gD x 0)) 13)
 (.ask (aD (D.toI (gD x 0)) 13)
 (.ret (.l [.i 2,.i 0,.b false,.b false]) [])
 (fH x))
 (.ask (aD (D.toI (gD x 0)) 14)
 (.ask (aD (D.toI (gD x 0)) 14)
 (.ret (.l [.i 2,.i 0,.b false,.b false]) [])
 (fH x))
 (.ask (aD (D.toI (gD x 0)) 15)
 (.ask (aD (D.toI (gD x 0)) 15)
 (.ret (.l [.i 2,.i 0,.b false,.b false]) [])
 (fH x))
 (.ask (aD (D.toI (gD x 0)) 19)
 (.ask (aD (D.toI (gD x 0)) 19)
 (.ret (.l [.i 2,.i 0,.b false,.b false]) [])
 (fH x))
 (.ask (aD (D.toI (gD x 0)) 21)
 (.ret (.l [.i 2,.i 0,.b false,.b false]) [])
 (fH x))))))))))))))
def MD(x:List D):Sh:=
 .ask (aD (D.toI (gD x 0)) 2)
 (.ask (aD (D.toI (gD x 0)) 2)
 (.ret (.l [.i 0,.i 0,.b true,.b false]) [])
 (MC x))
 (.ask (aD (D.toI (gD x 0)) 3)
 (.ret (.l [.i 0,.i 0,.b true,.b false]) [])
 (MC x))
def OK(x:List D):Sh:=
 .ask (aD (D.toI (gD x 0)) 1)
 (.ask (aD (D.toI (gD x 0)) 1)
 (.ret (.l [.i 0,.i 0,.b false,.b true]) [])
 (MD x))
 (.ask (aD (D.toI (gD x 0)) 18)
 (.ret (.l [.i 0,.i 0,.b false,.b true]) [])
 (MD x))
def FL(x:List D):Sh:=
 .ask ((cP 0 (iE (gD x 0)))&&((aD (iE (gD x 0)) (iE (gD x 0)))&&(iP (Int.toNat (iE (gD x 0))) 8)))
 (.loop 0 [.l (D.els (gD x 0)),.i 0,.i (iL (List.replicate (nE (gD x 0)) (D.i 0))),.l (List.replicate (nE (gD x 0)) (D.i 0))] (.cons (λc=>
 .ret (aL c 0) [])
 .nil))
 (.bad)
def oQ(p:List D):Sh:=
 .ask (aT (gI p 1) (gI p 2))
 (.ask (aA (gI p 1) (List.length (gL p 3)))
 (.loop 2 [aL p 0,aI p 1,.i 0,aI p 1,aI p 2,.i (iL (gL p 0)),.l (List.set (gL p 3) (tI p 1) (D.i (-1)))] (.cons (λc=>
 .again [aL c 0,.i (aG .i64 (gI c 1) 1),aI c 2,aL c 3])
 .nil))
 (.bad))
 (.out (0,[aL p 3]))
def eW(p:List D):Sh:=
 .ask (aT (gI p 2) (gI p 5))
 (.ask ((!(!(aD (gI p 2) (gI p 3))))||(aA (gI p 2) (List.length (gL p 0))))
 (.ask ((!(!(aD (gI p 2) (gI p 3))))||(aA (gI p 3) (nE (gD (gL p 0) (tI p 2)))))
 (.ask ((aD (gI p 2) (gI p 3))||(!(D.toB (gE (gD (gL p 0) (tI p 2)) (tI p 3)))))
 (.again [aL p 0,aI p 1,.i (aG .i64 (gI p 2) 1),aI p 3,aI p 4,aI p 5,aL p 6])
 (.ask (aA (gI p 3) (List.length (gL p 6)))
 (.ask ((!(!(aT (D.toI (gD (gL p 6) (tI p 3))) 0)))||(aA (gI p 3) (List.length (gL p 6))))
 (.ask ((!(!(aT (D.toI (gD (gL p 6) (tI p 3))) 0)))||(aA (D.toI (gD (gL p 6) (tI p 3))) (List.length (gL p 0))))
 (.ask ((!(!(aT (D.toI (gD (gL p 6) (tI p 3))) 0)))||(aA (gI p 2) (nE (gD (gL p 0) (Int.toNat (D.toI (gD (gL p 6) (tI p 3))))))))
 (.ask ((aT (D.toI (gD (gL p 6) (tI p 3))) 0)||(D.toB (gE (gD (gL p 0) (Int.toNat (D.toI (gD (gL p 6) (tI p 3))))) (tI p 2))))
 (.ask (aA (gI p 3) (List.length (gL p 6)))
 (.again [aL p 0,aI p 1,.i (aG .i64 (gI p 2) 1),aI p 3,aI p 4,aI p 5,.l (List.set (gL p 6) (tI p 3) (aI p 2))])
 (.bad))
 (.again [aL p 0,aI p 1,.i (aG .i64 (gI p 2) 1),aI p 3,aI p 4,aI p 5,aL p 6]))
 (.bad))
 (.bad))
 (.bad))
 (.bad)))
 (.bad))
 (.bad))
 (.out (0,[aL p 0,aI p 1,aI p 4,aL p 6]))
def xV(x:List D):Sh:=
 .ask (aA (D.toI (gD x 1)) (nX (gD x 0) 3))
 (.ret (.l [.i (vI (gD (eX (gD x 0) 3) (Int.toNat (D.toI (gD x 1)))) 4),.b (aD (vI (gD (eX (gD x 0) 3) (Int.toNat (D.toI (gD x 1)))) 0) 1)]) [])
 (.bad)
def gQ(x:List D):Sh:=
 .loop 0 [.l (D.els (gD x 0)),.i (D.toI (gD x 1)),.i (iE (gD x 0)),.i 0] (.cons (λc=>
 .ret (aI c 0) [])
 (.cons (λc=>
 .ret (.i (-1)) [])
 .nil))
def cY(p:List D):Sh:=
 .ask (aT (gI p 3) (gI p 2))
 (.ask (aA (gI p 3) (List.length (gL p 0)))
 (.ask (aD (gI p 1) (D.toI (gD (gL p 0) (tI p 3))))
 (.out (0,[aI p 3]))
 (.again [aL p 0,aI p 1,aI p 2,.i (aG .i64 (gI p 3) 1)]))
 (.bad))
 (.out (1,[]))
def JU(c:D)(d:D)(e:D):Sh:=
 .ask ((!((((D.toB e)&&(!(D.toB (.i 0))))&&(aD (iE c) 5))&&true))||(aA 3 (nE c)))
 (.ask ((!((((((D.toB e)&&(!(D.toB (.i 0))))&&(aD (iE c) 5))&&((aD (vI (gE c 3) 0) 1)&&((aD (vI (gE c 3) 1) 1)&&true)))&&(aD (iE d) 5))&&true))||(aA 3 (nE d)))
 (.ask ((!(((((((D.toB e)&&(!(D.toB (.i 0))))&&(aD (iE c) 5))&&((aD (vI (gE c 3) 0) 1)&&((aD (vI (gE c 3) 1) 1)&&true)))&&(aD (iE d) 5))&&(aD (iE (gE d 3)) 1))&&true))||(aA 3 (nE d)))
 (.ask ((!(((((((D.toB e)&&(!(D.toB (.i 0))))&&(aD (iE c) 5))&&((aD (vI (gE c 3) 0) 1)&&((aD (vI (gE c 3) 1) 1)&&true)))&&(aD (iE d) 5))&&(aD (iE (gE d 3)) 1))&&true))||(aA 0 (nE (gE d 3))))
 (.ret (.b (((((((D.toB e)&&(!(D.toB (.i 0))))&&(aD (iE c) 5))&&((aD (vI (gE c 3) 0) 1)&&((aD (vI (gE c 3) 1) 1)&&true)))&&(aD (iE d) 5))&&(aD (iE (gE d 3)) 1))&&((aD (vI (gE (gE d 3) 0) 0) 2)&&((aD (vI (gE (gE d 3) 0) 1) 1)&&true)))) [])
 (.bad))
 (.bad))
 (.bad))
 (.bad)
def Ln(x:List D):Sh:=
 .call yY [.i 1] 0 λh _=>
 .call Xc [.l [.l (eX h 0),.l (eX h 1),.l (eX h 2),.l (eX h 3)],.i 0] 0 λc _=>
 .call yY [.i 1] 0 λj _=>
 .call T9 [.l [.l (eX j 0),.l (eX j 1),.l (eX j 2),.l (eX j 3)],.i 0] 0 λd _=>
 .call yY [.i 1] 0 λl _=>
 .call BJ [.l [.l (eX l 0),.l (eX l 1),.l (eX l 2),.l (eX l 3)],.i 0,.i 0,.i 3] 0 λe _=>
 .ask ((D.toB e)&&true)
 (.call yY [.i 2] 0 λf _=>
 .ask ((D.toB e)&&true)
 (.call BJ [.l [.l (eX f 0),.l (eX f 1),.l (eX f 2),.l (eX f 3)],.i 0,.i 0,.i 3] 0 λg _=>
 .ask ((!((((D.toB e)&&(!(D.toB g)))&&(aD (iE c) 5))&&true))||(aA 3 (nE c)))
 (.ask ((!((((((D.toB e)&&(!(D.toB g)))&&(aD (iE c) 5))&&((aD (vI (gE c 3) 0) 1)&&((aD (vI (gE c 3) 1) 1)&&true)))&&(aD (iE d) 5))&&true))||(aA 3 (nE d)))
 (.ask ((!(((((((D.toB e)&&(!(D.toB g)))&&(aD (iE c) 5))&&((aD (vI (gE c 3) 0) 1)&&((aD (vI (gE c 3) 1) 1)&&true)))&&(aD (iE d) 5))&&(aD (iE (gE d 3)) 1))&&true))||(aA 3 (nE d)))
 (.ask ((!(((((((D.toB e)&&(!(D.toB g)))&&(aD (iE c) 5))&&((aD (vI (gE c 3) 0) 1)&&((aD (vI (gE c 3) 1) 1)&&true)))&&(aD (iE d) 5))&&(aD (iE (gE d 3)) 1))&&true))||(aA 0 (nE (gE d 3))))
 (.ret (.b (((((((D.toB e)&&(!(D.toB g)))&&(aD (iE c) 5))&&((aD (vI (gE c 3) 0) 1)&&((aD (vI (gE c 3) 1) 1)&&true)))&&(aD (iE d) 5))&&(aD (iE (gE d 3)) 1))&&((aD (vI (gE (gE d 3) 0) 0) 2)&&((aD (vI (gE (gE d 3) 0) 1) 1)&&true)))) [])
 (.bad))
 (.bad))
 (.bad))
 (.bad))
 (JU c d e))
 (.ask ((D.toB e)&&true)
 (.call BJ [.l [.l (eX (.i 0) 0),.l (eX (.i 0) 1),.l (eX (.i 0) 2),.l (eX (.i 0) 3)],.i 0,.i 0,.i 3] 0 λf _=>
 .ask ((!((((D.toB e)&&(!(D.toB f)))&&(aD (iE c) 5))&&true))||(aA 3 (nE c)))
 (.ask ((!((((((D.toB e)&&(!(D.toB f)))&&(aD (iE c) 5))&&((aD (vI (gE c 3) 0) 1)&&((aD (vI (gE c 3) 1) 1)&&true)))&&(aD (iE d) 5))&&true))||(aA 3 (nE d)))
 (.ask ((!(((((((D.toB e)&&(!(D.toB f)))&&(aD (iE c) 5))&&((aD (vI (gE c 3) 0) 1)&&((aD (vI (gE c 3) 1) 1)&&true)))&&(aD (iE d) 5))&&(aD (iE (gE d 3)) 1))&&true))||(aA 3 (nE d)))
 (.ask ((!(((((((D.toB e)&&(!(D.toB f)))&&(aD (iE c) 5))&&((aD (vI (gE c 3) 0) 1)&&((aD (vI (gE c 3) 1) 1)&&true)))&&(aD (iE d) 5))&&(aD (iE (gE d 3)) 1))&&true))||(aA 0 (nE (gE d 3))))
 (.ret (.b (((((((D.toB e)&&(!(D.toB f)))&&(aD (iE c) 5))&&((aD (vI (gE c 3) 0) 1)&&((aD (vI (gE c 3) 1) 1)&&true)))&&(aD (iE d) 5))&&(aD (iE (gE d 3)) 1))&&((aD (vI (gE (gE d 3) 0) 0) 2)&&((aD (vI (gE (gE d 3) 0) 1) 1)&&true)))) [])
 (.bad))
 (.bad))
 (.bad))
 (.bad))
 (JU c d e))
def ME(x:List D):Sh:=
 .call CR [.l [.l (eX (gD x 0) 0),.l (eX (gD x 0) 1),.l (eX (gD x 0) 2),.l (eX (gD x 0) 3)],.i (D.toI (gD x 1))] 0 λc _=>
 .ask (Hj (D.els c))
 (.ask true
 (.ask true
 (.ask true
 (.ask true
 (.ret (.b false) [])
 (.ask (aA (D.toI (gD x 1)) (nX (gD x 0) 3))
 (.ask (aA (D.toI (gD x 2)) (nX (gD (eX (gD x 0) 3) (Int.toNat (D.toI (gD x 1)))) 4))
 (.ask (aA (D.toI (gD x 3)) (nE (gD (eX (gD (eX (gD x 0) 3) (Int.toNat (D.toI (gD x 1)))) 4) (Int.toNat (D.toI (gD x 2))))))
 (.bad)
 (.bad))
 (.bad))
 (.bad)))
 (.bad))
 (.bad))
 (.bad))
 (.ask ((!(!(aT (D.toI (gD x 2)) 0)))||(aA (D.toI (gD x 1)) (nX (gD x 0) 3)))
 (.ask ((!(!(((aT (D.toI (gD x 2)) 0)||(cP (iX (gD (eX (gD x 0) 3) (Int.toNat (D.toI (gD x 1)))) 4) (D.toI (gD x 2))))||(aT (D.toI (gD x 3)) 0))))||(aA (D.toI (gD x 1)) (nX (gD x 0) 3)))
 (.ask ((!(!(((aT (D.toI (gD x 2)) 0)||(cP (iX (gD (eX (gD x 0) 3) (Int.toNat (D.toI (gD x 1)))) 4) (D.toI (gD x 2))))||(aT (D.toI (gD x 3)) 0))))||(aA (D.toI (gD x 2)) (nX (gD (eX (gD x 0) 3) (Int.toNat (D.toI (gD x 1)))) 4)))
 (.ask ((((aT (D.toI (gD x 2)) 0)||(cP (iX (gD (eX (gD x 0) 3) (Int.toNat (D.toI (gD x 1)))) 4) (D.toI (gD x 2))))||(aT (D.toI (gD x 3)) 0))||(cP (iE (gD (eX (gD (eX (gD x 0) 3) (Int.toNat (D.toI (gD x 1)))) 4) (Int.toNat (D.toI (gD x 2))))) (D.toI (gD x 3))))
 (.ret (.b false) [])
 (.ask (aA (D.toI (gD x 1)) (nX (gD x 0) 3))
 (.ask (aA (D.toI (gD x 2)) (nX (gD (eX (gD x 0) 3) (Int.toNat (D.toI (gD x 1)))) 4))
 (.ask (aA (D.toI (gD x 3)) (nE (gD (eX (gD (eX (gD x 0) 3) (Int.toNat (D.toI (gD x 1)))) 4) (Int.toNat (D.toI (gD x 2))))))
 (.call xT (let z0:=gE (gD (eX (gD (eX (gD x 0) 3) (Int.toNat (D.toI (gD x 1)))) 4) (Int.toNat (D.toI (gD x 2)))) (Int.toNat (D.toI (gD x 3)));[D.l [D.l (eX (YG (D.els c)) 0),D.l (eX (YG (D.els c)) 1),D.l (eX (YG (D.els c)) 2),D.l (eX (YG (D.els c)) 3),D.l (eX (YG (D.els c)) 4),D.l (eX (YG (D.els c)) 5)],D.i (D.toI (gD x 1)),D.l [D.i (vI z0 0),D.i (vI z0 1),D.i (vI z0 2),D.i (vI z0 3),D.i (vI z0 4),D.l (eX z0 5),D.l (eX z0 6)]]) 0 λd _=>
 .ret (.b (D.toB d)) [])
 (.bad))
 (.bad))
 (.bad)))
 (.bad))
 (.bad))
 (.bad))
def j9(x:List D):Sh:=
 .call CR [.l [.l (eX (gD x 0) 0),.l (eX (gD x 0) 1),.l (eX (gD x 0) 2),.l (eX (gD x 0) 3)],.i (D.toI (gD x 1))] 0 λc _=>
 .ask (Hj (D.els c))
 (.ask true
 (.ret (.l []) [])
 (.bad))
 (.ask false
 (.ret (.l []) [])
 (.ask (aA (D.toI (gD x 1)) (nX (YG (D.els c)) 5))
 (.ask ((cP 0 (iX (gD (eX (YG (D.els c)) 5) (Int.toNat (D.toI (gD x 1)))) 1))&&((aD (iX (gD (eX (YG (D.els c)) 5) (Int.toNat (D.toI (gD x 1)))) 1) (iX (gD (eX (YG (D.els c)) 5) (Int.toNat (D.toI (gD x 1)))) 1))&&(iP (Int.toNat (iX (gD (eX (YG (D.els c)) 5) (Int.toNat (D.toI (gD x 1)))) 1)) 24)))
 (.ask (aA (D.toI (gD x 1)) (nX (YG (D.els c)) 5))
 (.loop 0 (let z0:=nX (gD (eX (YG (D.els c)) 5) (Int.toNat (D.toI (gD x 1)))) 1;[.i (Int.ofNat (Int.toNat (D.toI (gD x 1)))),.i 0,.i (Int.ofNat z0),.l (List.replicate z0 (D.l [])),.l (eX (YG (D.els c)) 5)]) (.cons (λd=>
 .ret (aL d 0) [])
 .nil))
 (.bad))
 (.bad))
 (.bad)))
def Xf(p:List D):Sh:=
 .ask (aT (gI p 1) (gI p 2))
 (.ask (aA (gI p 1) (nX (gD (gL p 4) (gN p 0)) 1))
 (.call bH [.l (D.els (gD (eX (gD (gL p 4) (gN p 0)) 1) (tI p 1)))] 0 λc _=>
 .ask (aA (gI p 1) (List.length (gL p 3)))
 (.again [aN p 0,.i (aG .i64 (gI p 1) 1),aI p 2,.l (List.set (gL p 3) (tI p 1) (D.l (D.els c))),aL p 4])
 (.bad))
 (.bad))
 (.out (0,[aL p 3]))
def RW(x:List D):Sh:=
 .ask (iP (0+(nE (gD x 0))) 16)
 (.loop 0 [.l (D.els (gD x 1)),.i 0,.l (D.els (gD x 0))] (.cons (λc=>
 .ret (aL c 0) [])
 .nil))
 (.bad)
def vF(p:List D):Sh:=
 .ask (aT (gI p 1) (iL (gL p 0)))
 (.ask (aA (gI p 1) (List.length (gL p 0)))
 (.call LU [aL p 2,.l [.i (vI (gD (gL p 0) (tI p 1)) 0),.i (vI (gD (gL p 0) (tI p 1)) 1)]] 0 λd _=>
 .ask (D.toB d)
 (.again [aL p 0,.i (aG .i64 (gI p 1) 1),aL p 2])
 (.loop 2 [aL p 0,.i 0,aI p 1,aL p 2] (.cons (λc=>
 .ask ((cP 0 (gI c 1))&&(cP (gI c 1) (iL (gL c 3))))
 (.ask (aA (gI c 2) (List.length (gL c 0)))
 (.ask (jT (gI c 1) (iL (gL c 3)) (iL (gL c 3)))
 (.ask (iP (1+(List.length (List.drop (tI c 1) (List.take (List.length (gL c 3)) (gL c 3))))) 16)
 (.ask (Nat.ble (tI c 1) (List.length (gL c 3)))
 (.ask (iP ((List.length (List.take (tI c 1) (gL c 3)))+(List.length ([.l [.i (vI (gD (gL c 0) (tI c 2)) 0),.i (vI (gD (gL c 0) (tI c 2)) 1)]]++(List.drop (tI c 1) (List.take (List.length (gL c 3)) (gL c 3)))))) 16)
 (.again [aL c 0,.i (aG .i64 (gI c 2) 1),.l ((List.take (tI c 1) (gL c 3))++([.l [.i (vI (gD (gL c 0) (tI c 2)) 0),.i (vI (gD (gL c 0) (tI c 2)) 1)]]++(List.drop (tI c 1) (List.take (List.length (gL c 3)) (gL c 3)))))])
 (.bad))
 (.bad))
 (.bad))
 (.bad))
 (.bad))
 (.bad))
 .nil)))
 (.bad))
 (.out (0,[aL p 2]))
def vG(p:List D):Sh:=
 .ask ((!((aT (gI p 1) (iL (gL p 3)))&&true))||(aA (gI p 1) (List.length (gL p 3))))
 (.ask ((!((aT (gI p 1) (iL (gL p 3)))&&true))||(aA (gI p 2) (List.length (gL p 0))))
 (.ask ((!(((aT (gI p 1) (iL (gL p 3)))&&true)&&(!(aT (vI (gD (gL p 3) (tI p 1)) 0) (vI (gD (gL p 0) (tI p 2)) 0)))))||(aA (gI p 1) (List.length (gL p 3))))
 (.ask ((!(((aT (gI p 1) (iL (gL p 3)))&&true)&&(!(aT (vI (gD (gL p 3) (tI p 1)) 0) (vI (gD (gL p 0) (tI p 2)) 0)))))||(aA (gI p 2) (List.length (gL p 0))))
 (.ask ((!((((aT (gI p 1) (iL (gL p 3)))&&true)&&(!(aT (vI (gD (gL p 3) (tI p 1)) 0) (vI (gD (gL p 0) (tI p 2)) 0))))&&((aD (vI (gD (gL p 3) (tI p 1)) 0) (vI (gD (gL p 0) (tI p 2)) 0))&&true)))||(aA (gI p 1) (List.length (gL p 3))))
 (.ask ((!((((aT (gI p 1) (iL (gL p 3)))&&true)&&(!(aT (vI (gD (gL p 3) (tI p 1)) 0) (vI (gD (gL p 0) (tI p 2)) 0))))&&((aD (vI (gD (gL p 3) (tI p 1)) 0) (vI (gD (gL p 0) (tI p 2)) 0))&&true)))||(aA (gI p 2) (List.length (gL p 0))))
 (.ask ((aT (gI p 1) (iL (gL p 3)))&&((aT (vI (gD (gL p 3) (tI p 1)) 0) (vI (gD (gL p 0) (tI p 2)) 0))||((aD (vI (gD (gL p 3) (tI p 1)) 0) (vI (gD (gL p 0) (tI p 2)) 0))&&(aT (vI (gD (gL p 3) (tI p 1)) 1) (vI (gD (gL p 0) (tI p 2)) 1)))))
 (.again [aL p 0,.i (aG .i64 (gI p 1) 1),aI p 2,aL p 3])
 (.out (0,[aL p 0,aI p 1,aI p 2,aL p 3])))
 (.bad))
 (.bad))
 (.bad))
 (.bad))
 (.bad))
 (.bad)
def sL(x:List D):Sh:=
 .ask ((!(aD (vI (gD x 2) 0) 20))&&(!(aD (vI (gD x 2) 0) 21)))
 (.ret (.b false) [])
 (.ask (aA (D.toI (gD x 1)) (nX (gD x 0) 5))
 (.ask (aA 0 (nX (gD x 2) 5))
 (.ask (aA (D.toI (gD (eX (gD x 2) 5) 0)) (nX (gD (eX (gD x 0) 5) (Int.toNat (D.toI (gD x 1)))) 2))
 (.ask (!(aD (vI (gD (eX (gD (eX (gD x 0) 5) (Int.toNat (D.toI (gD x 1)))) 2) (Int.toNat (D.toI (gD (eX (gD x 2) 5) 0)))) 0) 1))
 (.ret (.b false) [])
 (.ask (aA 0 (nX (gD x 2) 5))
 (.ask (aA (D.toI (gD (eX (gD x 2) 5) 0)) (nX (gD (eX (gD x 0) 5) (Int.toNat (D.toI (gD x 1)))) 1))
 (.ask (aA 0 (nE (gD (eX (gD (eX (gD x 0) 5) (Int.toNat (D.toI (gD x 1)))) 1) (Int.toNat (D.toI (gD (eX (gD x 2) 5) 0))))))
 (.ask (aD (vI (gE (gD (eX (gD (eX (gD x 0) 5) (Int.toNat (D.toI (gD x 1)))) 1) (Int.toNat (D.toI (gD (eX (gD x 2) 5) 0)))) 0) 0) 3)
 (.ask (aA (vI (gE (gD (eX (gD (eX (gD x 0) 5) (Int.toNat (D.toI (gD x 1)))) 1) (Int.toNat (D.toI (gD (eX (gD x 2) 5) 0)))) 0) 1) (nX (gD x 0) 1))
 (let z0:=vI (gD (eX (gD (eX (gD x 0) 5) (Int.toNat (D.toI (gD x 1)))) 2) (Int.toNat (D.toI (gD (eX (gD x 2) 5) 0)))) 1;.ret (D.b ((cP 0 z0)&&(aT z0 (iX (gD (eX (gD x 0) 1) (Int.toNat (vI (gE (gD (eX (gD (eX (gD x 0) 5) (Int.toNat (D.toI (gD x 1)))) 1) (Int.toNat (D.toI (gD (eX (gD x 2) 5) 0)))) 0) 1))) 1)))) [])
 (.bad))
 (.ask (aA (vI (gE (gD (eX (gD (eX (gD x 0) 5) (Int.toNat (D.toI (gD x 1)))) 1) (Int.toNat (D.toI (gD (eX (gD x 2) 5) 0)))) 0) 1) (nX (gD (eX (gD x 0) 5) (Int.toNat (D.toI (gD x 1)))) 3))
 (let z0:=vI (gD (eX (gD (eX (gD x 0) 5) (Int.toNat (D.toI (gD x 1)))) 2) (Int.toNat (D.toI (gD (eX (gD x 2) 5) 0)))) 1;.ret (D.b ((cP 0 z0)&&(aT z0 (vI (gD (eX (gD (eX (gD x 0) 5) (Int.toNat (D.toI (gD x 1)))) 3) (Int.toNat (vI (gE (gD (eX (gD (eX (gD x 0) 5) (Int.toNat (D.toI (gD x 1)))) 1) (Int.toNat (D.toI (gD (eX (gD x 2) 5) 0)))) 0) 1))) 4)))) [])
 (.bad)))
 (.bad))
 (.bad))
 (.bad)))
 (.bad))
 (.bad))
 (.bad))
def YV(x:List D):Sh:=
 .loop 0 [.i 0,.i 0,.s (D.toS (D.fld (gD x 0) 0)),.b (vB (gD x 0) 1),.l (eX (gD x 0) 2),.i (vI (gD x 0) 3),.l (eX (gD x 0) 4)] (.cons (λc=>
 .ret (aI c 0) [])
 .nil)
def zD(p:List D):Sh:=
 .ask (aT (gI p 1) (iL (gL p 6)))
 (.ask (aA (gI p 1) (List.length (gL p 6)))
 (.again [.i (aG .i64 (gI p 0) (iE (gD (gL p 6) (tI p 1)))),.i (aG .i64 (gI p 1) 1),aS p 2,aB p 3,aL p 4,aI p 5,aL p 6])
 (.bad))
 (.out (0,[aI p 0]))
def YW(x:List D):Sh:=
 .loop 0 [.i 0,.l (eX (gD x 0) 0),.l (eX (gD x 0) 1),.l (eX (gD x 0) 2),.l (eX (gD x 0) 3)] (.cons (λc=>
 .ret (aB c 0) [])
 (.cons (λc=>
 .loop 4 [.i 0,aL c 0,aL c 1,aL c 2,aL c 3] (.cons (λd=>
 .ret (aB d 0) [])
 (.cons (λd=>
 .ret (.b true) [])
 .nil)))
 .nil))
def zE(p:List D):Sh:=
 .ask (aT (gI p 0) (iL (gL p 3)))
 (.loop 2 [aI p 0,.i 0,aL p 1,aL p 2,aL p 3,aL p 4] (.cons (λc=>
 .out (0,[aB c 1,aL c 2,aL c 3,aL c 4,aL c 5]))
 (.cons (λc=>
 .again [.i (aG .i64 (gI c 0) 1),aL c 1,aL c 2,aL c 3,aL c 4])
 .nil)))
 (.out (1,[aL p 1,aL p 2,aL p 3,aL p 4]))
def zF(p:List D):Sh:=
 .ask (aA (gI p 0) (List.length (gL p 4)))
 (.ask (aT (gI p 1) (iX (gD (gL p 4) (tI p 0)) 1))
 (.ask (aA (gI p 0) (List.length (gL p 4)))
 (.ask (aA (gI p 1) (nX (gD (gL p 4) (tI p 0)) 1))
 (.ask ((aT (D.toI (gD (eX (gD (gL p 4) (tI p 0)) 1) (tI p 1))) (-1))||(cP (iL (gL p 5)) (D.toI (gD (eX (gD (gL p 4) (tI p 0)) 1) (tI p 1)))))
 (.out (0,[aI p 0,.b false,aL p 2,aL p 3,aL p 4,aL p 5]))
 (.again [aI p 0,.i (aG .i64 (gI p 1) 1),aL p 2,aL p 3,aL p 4,aL p 5]))
 (.bad))
 (.bad))
 (.out (1,[aI p 0,aL p 2,aL p 3,aL p 4,aL p 5])))
 (.bad)
def zG(p:List D):Sh:=
 .ask (aT (gI p 0) (iL (gL p 4)))
 (.loop 6 [.i 0,aI p 0,aL p 1,aL p 2,aL p 3,aL p 4] (.cons (λc=>
 .out (0,[aB c 0]))
 (.cons (λc=>
 .again [.i (aG .i64 (gI c 0) 1),aL c 1,aL c 2,aL c 3,aL c 4])
 .nil)))
 (.out (1,[]))
def zH(p:List D):Sh:=
 .ask (aA (gI p 1) (List.length (gL p 5)))
 (.ask (aT (gI p 0) (iX (gD (gL p 5) (tI p 1)) 4))
 (.loop 8 [aI p 0,.i 0,aI p 1,aL p 2,aL p 3,aL p 4,aL p 5] (.cons (λc=>
 .out (0,[aB c 1,aI c 2,aL c 3,aL c 4,aL c 5,aL c 6]))
 (.cons (λc=>
 .again [.i (aG .i64 (gI c 0) 1),aI c 1,aL c 2,aL c 3,aL c 4,aL c 5])
 .nil)))
 (.out (1,[aI p 1,aL p 2,aL p 3,aL p 4,aL p 5])))
 (.bad)
def EQ(p:List D):Sh:=
 .ask (aD (vI (gE (gD (eX (gD (gL p 6) (tI p 2)) 4) (tI p 0)) (tI p 1)) 0) 3)
 (.ask ((aT (vI (gE (gD (eX (gD (gL p 6) (tI p 2)) 4) (tI p 0)) (tI p 1)) 3) 0)||(cP (iL (gL p 4)) (vI (gE (gD (eX (gD (gL p 6) (tI p 2)) 4) (tI p 0)) (tI p 1)) 3)))
 (.out (0,[aI p 0,.b false,aI p 2,aL p 3,aL p 4,aL p 5,aL p 6]))
 (.again [aI p 0,.i (aG .i64 (gI p 1) 1),aI p 2,aL p 3,aL p 4,aL p 5,aL p 6]))
 (.ask (aD (vI (gE (gD (eX (gD (gL p 6) (tI p 2)) 4) (tI p 0)) (tI p 1)) 0) 23)
 (.ask ((aT (vI (gE (gD (eX (gD (gL p 6) (tI p 2)) 4) (tI p 0)) (tI p 1)) 3) 0)||(cP (iL (gL p 3)) (vI (gE (gD (eX (gD (gL p 6) (tI p 2)) 4) (tI p 0)) (tI p 1)) 3)))
 (.out (0,[aI p 0,.b false,aI p 2,aL p 3,aL p 4,aL p 5,aL p 6]))
 (.again [aI p 0,.i (aG .i64 (gI p 1) 1),aI p 2,aL p 3,aL p 4,aL p 5,aL p 6]))
 (.ask (aD (vI (gE (gD (eX (gD (gL p 6) (tI p 2)) 4) (tI p 0)) (tI p 1)) 0) 24)
 (.ask ((aT (vI (gE (gD (eX (gD (gL p 6) (tI p 2)) 4) (tI p 0)) (tI p 1)) 3) 0)||(cP (iL (gL p 5)) (vI (gE (gD (eX (gD (gL p 6) (tI p 2)) 4) (tI p 0)) (tI p 1)) 3)))
 (.out (0,[aI p 0,.b false,aI p 2,aL p 3,aL p 4,aL p 5,aL p 6]))
 (.again [aI p 0,.i (aG .i64 (gI p 1) 1),aI p 2,aL p 3,aL p 4,aL p 5,aL p 6]))
 (.ask ((aT (vI (gE (gD (eX (gD (gL p 6) (tI p 2)) 4) (tI p 0)) (tI p 1)) 3) 0)||(cP 1 (vI (gE (gD (eX (gD (gL p 6) (tI p 2)) 4) (tI p 0)) (tI p 1)) 3)))
 (.out (0,[aI p 0,.b false,aI p 2,aL p 3,aL p 4,aL p 5,aL p 6]))
 (.again [aI p 0,.i (aG .i64 (gI p 1) 1),aI p 2,aL p 3,aL p 4,aL p 5,aL p 6]))))
def ER(p:List D):Sh:=
 .ask ((aT (vI (gE (gD (eX (gD (gL p 6) (tI p 2)) 4) (tI p 0)) (tI p 1)) 3) 0)||(cP (iL (gL p 6)) (vI (gE (gD (eX (gD (gL p 6) (tI p 2)) 4) (tI p 0)) (tI p 1)) 3)))
 (.out (0,[aI p 0,.b false,aI p 2,aL p 3,aL p 4,aL p 5,aL p 6]))
 (.again [aI p 0,.i (aG .i64 (gI p 1) 1),aI p 2,aL p 3,aL p 4,aL p 5,aL p 6])
def zI(p:List D):Sh:=
 .ask (aA (gI p 2) (List.length (gL p 6)))
 (.ask (aA (gI p 0) (nX (gD (gL p 6) (tI p 2)) 4))
 (.ask (aT (gI p 1) (iE (gD (eX (gD (gL p 6) (tI p 2)) 4) (tI p 0))))
 (.ask (aA (gI p 2) (List.length (gL p 6)))
 (.ask (aA (gI p 0) (nX (gD (gL p 6) (tI p 2)) 4))
 (.ask (aA (gI p 1) (nE (gD (eX (gD (gL p 6) (tI p 2)) 4) (tI p 0))))
 (.ask (aD (vI (gE (gD (eX (gD (gL p 6) (tI p 2)) 4) (tI p 0)) (tI p 1)) 0) 2)
 (.ask (aD (vI (gE (gD (eX (gD (gL p 6) (tI p 2)) 4) (tI p 0)) (tI p 1)) 0) 2)
 (ER p)
 (EQ p))
 (.ask (aD (vI (gE (gD (eX (gD (gL p 6) (tI p 2)) 4) (tI p 0)) (tI p 1)) 0) 22)
 (ER p)
 (EQ p)))
 (.bad))
 (.bad))
 (.bad))
 (.out (1,[aI p 0,aI p 2,aL p 3,aL p 4,aL p 5,aL p 6])))
 (.bad))
 (.bad)
def FM(x:List D):Sh:=
 .loop 0 [.l (D.els (gD x 0)),.i 0,.i (vI (gD x 1) 0),.i (vI (gD x 1) 1)] (.cons (λc=>
 .ret (aB c 0) [])
 (.cons (λc=>
 .ret (.b false) [])
 .nil))
def jV(p:List D):Sh:=
 .ask (aT (gI p 1) (iL (gL p 0)))
 (.ask (aA (gI p 1) (List.length (gL p 0)))
 (.ask ((aD (vI (gD (gL p 0) (tI p 1)) 0) (gI p 2))&&((aD (vI (gD (gL p 0) (tI p 1)) 1) (gI p 3))&&true))
 (.out (0,[.b true]))
 (.again [aL p 0,.i (aG .i64 (gI p 1) 1),aI p 2,aI p 3]))
 (.bad))
 (.out (1,[]))
def bW(x:List D):Sh:=
 .ask (!(aD (vI (gD x 0) 0) 21))
 (.call AV [.i (vI (gD x 0) 0)] 0 λc _=>
 .ask (!(bif (aD (vI (gD x 0) 0) 21)||(D.toB c)then aD (vI (gD x 0) 1) 0 else !(aD (vI (gD x 0) 1) 0)))
 (.ret (.b false) [])
 (.ret (.b (((aD (vI (gD x 0) 1) 0)&&(aD (vI (gD x 0) 2) 0))||((!(aD (vI (gD x 0) 1) 0))&&(cP 1 (vI (gD x 0) 2))))) []))
 (.ask (!(bif (aD (vI (gD x 0) 0) 21)||(D.toB (.i 0))then aD (vI (gD x 0) 1) 0 else !(aD (vI (gD x 0) 1) 0)))
 (.ret (.b false) [])
 (.ret (.b (((aD (vI (gD x 0) 1) 0)&&(aD (vI (gD x 0) 2) 0))||((!(aD (vI (gD x 0) 1) 0))&&(cP 1 (vI (gD x 0) 2))))) []))
def bY(x:List D):Sh:=
 .ask (aD (vI (gD x 0) 0) 18)
 (.ask ((aT (vI (gD x 0) 4) 1)||(aT 16 (vI (gD x 0) 4)))
 (.ret (.b false) [])
 (bW x))
 (bW x)
def bZ(x:List D):Sh:=
 .ask (!(aD (vI (gD x 0) 0) 21))
 (.call AV [.i (vI (gD x 0) 0)] 0 λc _=>
 .ask (!(bif (aD (vI (gD x 0) 0) 21)||(D.toB c)then aD (vI (gD x 0) 1) 0 else !(aD (vI (gD x 0) 1) 0)))
 (.ret (.b false) [])
 (.ret (.b (((aD (vI (gD x 0) 1) 0)&&(aD (vI (gD x 0) 2) 0))||((!(aD (vI (gD x 0) 1) 0))&&(cP 1 (vI (gD x 0) 2))))) []))
 (.ask (!(bif (aD (vI (gD x 0) 0) 21)||(D.toB (.i 0))then aD (vI (gD x 0) 1) 0 else !(aD (vI (gD x 0) 1) 0)))
 (.ret (.b false) [])
 (.ret (.b (((aD (vI (gD x 0) 1) 0)&&(aD (vI (gD x 0) 2) 0))||((!(aD (vI (gD x 0) 1) 0))&&(cP 1 (vI (gD x 0) 2))))) []))
def cA(x:List D):Sh:=
 .ask (aT 5 (iX (gD x 0) 5))
 (.ret (.b false) [])
 (.ask (!(aD (vI (gD x 0) 0) 21))
 (.call AV [.i (vI (gD x 0) 0)] 0 λc _=>
 .ask false
 (.ret (.b false) [])
 (.ret (.b (((aD (vI (gD x 0) 1) 0)&&(aD (vI (gD x 0) 2) 0))||((!(aD (vI (gD x 0) 1) 0))&&(cP 1 (vI (gD x 0) 2))))) []))
 (.ask false
 (.ret (.b false) [])
 (.ret (.b (((aD (vI (gD x 0) 1) 0)&&(aD (vI (gD x 0) 2) 0))||((!(aD (vI (gD x 0) 1) 0))&&(cP 1 (vI (gD x 0) 2))))) [])))
def cM(x:List D):Sh:=
 .ask ((((aT (vI (gD x 0) 0) 1)||(aT 30 (vI (gD x 0) 0)))||(aT (vI (gD x 0) 1) 0))||(aT 4 (vI (gD x 0) 1)))
 (.ret (.b false) [])
 (.call OH [.i (vI (gD x 0) 0)] 0 λc _=>
 .ask (((((cP 0 (vI c 0))&&(!(aD (iX (gD x 0) 5) (vI c 0))))||((cP 0 (vI c 1))&&(!(aD (iX (gD x 0) 6) (vI c 1)))))||((!(vB c 2))&&(!(aD (vI (gD x 0) 3) 0))))||((!(vB c 3))&&(!(aD (vI (gD x 0) 4) 0))))
 (.ret (.b false) [])
 (.ask (aD (vI (gD x 0) 0) 26)
 (.ask ((aT (iX (gD x 0) 5) 1)||(!(aD (iX (gD x 0) 6) (iX (gD x 0) 5))))
 (.ret (.b false) [])
 (bZ x))
 (.ask (aD (vI (gD x 0) 0) 29)
 (.ask (aT 1 (iX (gD x 0) 5))
 (.ret (.b false) [])
 (bZ x))
 (.ask (aD (vI (gD x 0) 0) 25)
 (.ask ((aT (iX (gD x 0) 5) 1)||(aT 6 (iX (gD x 0) 5)))
 (.ret (.b false) [])
 (.ask (!(aD (vI (gD x 0) 0) 21))
 (.call AV [.i (vI (gD x 0) 0)] 0 λd _=>
 .ask false
 (.ret (.b false) [])
 (.ret (.b (((aD (vI (gD x 0) 1) 0)&&(aD (vI (gD x 0) 2) 0))||((!(aD (vI (gD x 0) 1) 0))&&(cP 1 (vI (gD x 0) 2))))) []))
 (.ask false
 (.ret (.b false) [])
 (.ret (.b (((aD (vI (gD x 0) 1) 0)&&(aD (vI (gD x 0) 2) 0))||((!(aD (vI (gD x 0) 1) 0))&&(cP 1 (vI (gD x 0) 2))))) []))))
 (.ask (aD (vI (gD x 0) 0) 22)
 (.ask (aD (vI (gD x 0) 0) 22)
 (cA x)
 (bY x))
 (.ask (aD (vI (gD x 0) 0) 23)
 (cA x)
 (bY x)))))))
def YX(x:List D):Sh:=
 .ask (!(aD (iE (gD x 0)) (iE (gD x 1))))
 (.ret (.b false) [])
 (.loop 0 [.l (D.els (gD x 0)),.l (D.els (gD x 1)),.i 0] (.cons (λc=>
 .ret (aB c 0) [])
 (.cons (λc=>
 .ret (.b true) [])
 .nil)))
def zJ(p:List D):Sh:=
 .ask (aT (gI p 2) (iL (gL p 0)))
 (.ask (aA (gI p 2) (List.length (gL p 0)))
 (.ask (aA (gI p 2) (List.length (gL p 1)))
 (.ask (!(aD (D.toI (gD (gL p 0) (tI p 2))) (D.toI (gD (gL p 1) (tI p 2)))))
 (.out (0,[.b false]))
 (.again [aL p 0,aL p 1,.i (aG .i64 (gI p 2) 1)]))
 (.bad))
 (.bad))
 (.out (1,[]))
def RX(x:List D):Sh:=
 .ask ((((aT 24 (iX (gD x 0) 3))||(aT 12 (iX (gD x 0) 0)))||(aT 12 (iX (gD x 0) 1)))||(aT 6 (iX (gD x 0) 2)))
 (.ret (.b false) [])
 (.loop 0 [.i (iX (gD x 0) 0),.i 0,.l (eX (gD x 0) 0),.l (eX (gD x 0) 0),.l (eX (gD x 0) 1),.l (eX (gD x 0) 2),.l (eX (gD x 0) 3)] (.cons (λc=>
 .ret (aB c 0) [])
 (.cons (λc=>
 .loop 2 [.i (iL (gL c 1)),.i 0,aL c 1,aL c 0,aL c 1,aL c 2,aL c 3] (.cons (λd=>
 .ret (aB d 0) [])
 (.cons (λd=>
 .loop 4 [.i (iL (gL d 2)),aL d 2,.i 0,aL d 0,aL d 1,aL d 2,aL d 3] (.cons (λe=>
 .ret (aB e 0) [])
 (.cons (λe=>
 .loop 6 [.i (iL (gL e 3)),.i 0,aL e 3] (.cons (λf=>
 .ret (aB f 0) [])
 (.cons (λf=>
 .ret (.b true) [])
 .nil)))
 .nil)))
 .nil)))
 .nil)))
def nV(p:List D):Sh:=
 .ask (aT (gI p 1) (gI p 0))
 (.ask (aA (gI p 1) (List.length (gL p 2)))
 (.ask (aT 5 (iX (gD (gL p 2) (tI p 1)) 1))
 (.out (0,[.b false,aL p 3,aL p 4,aL p 5,aL p 6]))
 (.again [aI p 0,.i (aG .i64 (gI p 1) 1),aL p 2,aL p 3,aL p 4,aL p 5,aL p 6]))
 (.bad))
 (.out (1,[aL p 3,aL p 4,aL p 5,aL p 6]))
def nW(p:List D):Sh:=
 .ask (aT (gI p 1) (gI p 0))
 (.ask (aA (gI p 1) (List.length (gL p 2)))
 (.ask ((aT (iX (gD (gL p 2) (tI p 1)) 1) 1)||(aT 16 (iX (gD (gL p 2) (tI p 1)) 1)))
 (.out (0,[.b false,aL p 3,aL p 4,aL p 5,aL p 6]))
 (.again [aI p 0,.i (aG .i64 (gI p 1) 1),aL p 2,aL p 3,aL p 4,aL p 5,aL p 6]))
 (.bad))
 (.out (1,[aL p 3,aL p 4,aL p 5,aL p 6]))
def nY(p:List D):Sh:=
 .ask (aT (gI p 2) (gI p 0))
 (.ask (aA (gI p 2) (List.length (gL p 1)))
 (.ask ((aT (iX (gD (gL p 1) (tI p 2)) 1) 1)||(aT 12 (iX (gD (gL p 1) (tI p 2)) 1)))
 (.out (0,[.b false,aL p 3,aL p 4,aL p 5,aL p 6]))
 (.again [aI p 0,aL p 1,.i (aG .i64 (gI p 2) 1),aL p 3,aL p 4,aL p 5,aL p 6]))
 (.bad))
 (.out (1,[aL p 3,aL p 4,aL p 5,aL p 6]))
def nZ(p:List D):Sh:=
 .ask (aT (gI p 1) (gI p 0))
 (.ask (aA (gI p 1) (List.length (gL p 2)))
 (.ask (!(((aT 5 (iX (gD (gL p 2) (tI p 1)) 2))||(aT (iX (gD (gL p 2) (tI p 1)) 4) 1))||(aT 40 (iX (gD (gL p 2) (tI p 1)) 4))))
 (.call Sk [.l [.s (D.toS (D.fld (gD (gL p 2) (tI p 1)) 0)),.b (vB (gD (gL p 2) (tI p 1)) 1),.l (eX (gD (gL p 2) (tI p 1)) 2),.i (vI (gD (gL p 2) (tI p 1)) 3),.l (eX (gD (gL p 2) (tI p 1)) 4)]] 0 λc _=>
 .ask ((((aT 5 (iX (gD (gL p 2) (tI p 1)) 2))||(aT (iX (gD (gL p 2) (tI p 1)) 4) 1))||(aT 40 (iX (gD (gL p 2) (tI p 1)) 4)))||(aT 300 (D.toI c)))
 (.out (0,[.b false]))
 (.again [aI p 0,.i (aG .i64 (gI p 1) 1),aL p 2]))
 (.ask ((((aT 5 (iX (gD (gL p 2) (tI p 1)) 2))||(aT (iX (gD (gL p 2) (tI p 1)) 4) 1))||(aT 40 (iX (gD (gL p 2) (tI p 1)) 4)))||(aT 300 0))
 (.out (0,[.b false]))
 (.again [aI p 0,.i (aG .i64 (gI p 1) 1),aL p 2])))
 (.bad))
 (.out (1,[]))
def RY(x:List D):Sh:=
 .loop 0 [.i 0,.l (eX (gD x 0) 4),.i (iX (gD x 0) 4),.s (D.toS (D.fld (gD x 0) 0)),.b (vB (gD x 0) 1),.l (eX (gD x 0) 2),.i (vI (gD x 0) 3),.l (eX (gD x 0) 4)] (.cons (λc=>
 .ret (aB c 0) [])
 (.cons (λc=>
 .call IK [.l [aS c 0,aB c 1,aL c 2,aI c 3,aL c 4]] 0 λe _=>
 .call kY [.l (D.els e),.b false] 0 λf _=>
 .ask (D.toB f)
 (.ret (.b false) [])
 (.call YR [.l [aS c 0,aB c 1,aL c 2,aI c 3,aL c 4]] 0 λg _=>
 .loop 6 [.i 0,aL c 4,.i (iL (gL c 4)),.l (D.els g)] (.cons (λd=>
 .ret (aB d 0) [])
 (.cons (λd=>
 .ret (.b true) [])
 .nil))))
 .nil))
def vH(p:List D):Sh:=
 .ask (aT (gI p 0) (gI p 2))
 (.ask (aA (gI p 0) (List.length (gL p 1)))
 (.ask (aD (iE (gD (gL p 1) (tI p 0))) 0)
 (.out (0,[.b false,aS p 3,aB p 4,aL p 5,aI p 6,aL p 7]))
 (.loop 2 [aI p 0,.i 0,aI p 0,.b false,aL p 1,.l (D.els (gD (gL p 1) (tI p 0))),aI p 2,.i (iE (gD (gL p 1) (tI p 0))),aS p 3,aB p 4,aL p 5,aI p 6,aL p 7,.l (D.els (gD (gL p 1) (tI p 0)))] (.cons (λd=>
 .out (0,[aB d 2,aS d 4,aB d 5,aL d 6,aI d 7,aL d 8]))
 (.cons (λd=>
 .ask (aA (bC .i64 ((iL (gL d 8))-1)) (List.length (gL d 8)))
 (.loop 4 (let z0:=eX (gD (gL d 8) (Int.toNat (bC .i64 ((iL (gL d 8))-1)))) 6;[aI d 0,.i (iL z0),aL d 1,.l z0,.i 0,aI d 2,.l z0,aS d 3,aB d 4,aL d 5,aI d 6,aL d 7]) (.cons (λc=>
 .out (0,[aB c 2,aS c 5,aB c 6,aL c 7,aI c 8,aL c 9]))
 (.cons (λc=>
 .ask ((!((aD (iL (gL c 2)) 2)&&true))||(aA 0 (List.length (gL c 2))))
 (.ask ((!((aD (iL (gL c 2)) 2)&&true))||(aA 1 (List.length (gL c 2))))
 (.ask ((aD (iL (gL c 2)) 2)&&(aD (D.toI (gD (gL c 2) 0)) (D.toI (gD (gL c 2) 1))))
 (.out (0,[.b false,aS c 4,aB c 5,aL c 6,aI c 7,aL c 8]))
 (.again [.i (aG .i64 (gI c 0) 1),aL c 1,aI c 3,aS c 4,aB c 5,aL c 6,aI c 7,aL c 8]))
 (.bad))
 (.bad))
 .nil)))
 (.bad))
 .nil))))
 (.bad))
 (.out (1,[aS p 3,aB p 4,aL p 5,aI p 6,aL p 7]))
def vJ(p:List D):Sh:=
 .ask (aT (gI p 1) (gI p 7))
 (.ask (aA (gI p 1) (List.length (gL p 5)))
 (.call EP [.i (vI (gD (gL p 5) (tI p 1)) 0)] 0 λc _=>
 .ask ((!(bif D.toB c then aD (gI p 1) (bC .i64 ((iL (gL p 13))-1))else !(aD (gI p 1) (bC .i64 ((iL (gL p 13))-1)))))||((aD (vI (gD (gL p 5) (tI p 1)) 0) 26)&&((gB p 3)||(aD (gI p 0) 0))))
 (.out (0,[aI p 2,aL p 4,.b false,aI p 6,aS p 8,aB p 9,aL p 10,aI p 11,aL p 12,aL p 13]))
 (.again [aI p 0,.i (aG .i64 (gI p 1) 1),aI p 2,.b ((gB p 3)||(!(aD (vI (gD (gL p 5) (tI p 1)) 0) 26))),aL p 4,aL p 5,aI p 6,aI p 7,aS p 8,aB p 9,aL p 10,aI p 11,aL p 12,aL p 13]))
 (.bad))
 (.out (1,[aI p 2,aL p 4,aI p 6,aS p 8,aB p 9,aL p 10,aI p 11,aL p 12,aL p 13]))
def vK(p:List D):Sh:=
 .ask (aT (gI p 4) (gI p 1))
 (.ask (aA (gI p 4) (List.length (gL p 6)))
 (.ask ((aT (D.toI (gD (gL p 6) (tI p 4))) 1)||(cP (iL (gL p 11)) (D.toI (gD (gL p 6) (tI p 4)))))
 (.out (0,[aI p 0,aL p 2,.b false,aL p 3,aI p 5,aS p 7,aB p 8,aL p 9,aI p 10,aL p 11]))
 (.again [aI p 0,aI p 1,aL p 2,aL p 3,.i (aG .i64 (gI p 4) 1),aI p 5,aL p 6,aS p 7,aB p 8,aL p 9,aI p 10,aL p 11]))
 (.bad))
 (.out (1,[aI p 0,aL p 2,aL p 3,aI p 5,aS p 7,aB p 8,aL p 9,aI p 10,aL p 11]))
def vL(p:List D):Sh:=
 .ask (aT (gI p 0) (gI p 2))
 (.ask (aA (gI p 0) (List.length (gL p 1)))
 (.loop 8 [aI p 0,.i 0,.l (D.els (gD (gL p 1) (tI p 0))),aL p 1,aI p 0,.i (iE (gD (gL p 1) (tI p 0))),aI p 2,aL p 3] (.cons (λc=>
 .out (0,[aB c 2]))
 (.cons (λc=>
 .again [.i (aG .i64 (gI c 0) 1),aL c 1,aI c 2,aL c 3])
 .nil)))
 (.bad))
 (.out (1,[]))
def vM(p:List D):Sh:=
 .ask (aT (gI p 1) (gI p 5))
 (.ask (aA (gI p 1) (List.length (gL p 2)))
 (.ask ((!((aD (vI (gD (gL p 2) (tI p 1)) 0) 26)&&true))||(aA (gI p 4) (List.length (gL p 7))))
 (.ask ((aD (vI (gD (gL p 2) (tI p 1)) 0) 26)&&true)
 (.call lL [.l (eX (gD (gL p 2) (tI p 1)) 6),.l (D.els (gD (gL p 7) (tI p 4)))] 0 λc _=>
 .ask ((aD (vI (gD (gL p 2) (tI p 1)) 0) 26)&&(!(D.toB c)))
 (.out (0,[aI p 0,aL p 3,.b false,aI p 6,aL p 7]))
 (.again [aI p 0,.i (aG .i64 (gI p 1) 1),aL p 2,aL p 3,aI p 4,aI p 5,aI p 6,aL p 7]))
 (.ask ((aD (vI (gD (gL p 2) (tI p 1)) 0) 26)&&(!(D.toB (.i 0))))
 (.out (0,[aI p 0,aL p 3,.b false,aI p 6,aL p 7]))
 (.again [aI p 0,.i (aG .i64 (gI p 1) 1),aL p 2,aL p 3,aI p 4,aI p 5,aI p 6,aL p 7])))
 (.bad))
 (.bad))
 (.out (1,[aI p 0,aL p 3,aI p 6,aL p 7]))
def sM(x:List D):Sh:=
 .ask ((cP 0 (iX (gD x 0) 0))&&((aD (iX (gD x 0) 0) (iX (gD x 0) 0))&&(iP (Int.toNat (iX (gD x 0) 0)) 24)))
 (.loop 0 [.i (iX (gD x 1) 2),.i 0,.l (eX (gD x 1) 2),.l (List.replicate (nX (gD x 0) 0) (D.l [])),.l (eX (gD x 0) 0),.l (eX (gD x 0) 2),.l (eX (gD x 0) 3)] (.cons (λc=>
 .loop 2 [.b true,aL c 0,aL c 1,aL c 2,aL c 3] (.cons (λd=>
 .ret (.l []) [.l [aL d 1,aL d 0,aL d 2,aL d 3]])
 .nil))
 .nil))
 (.bad)
def jE(p:List D):Sh:=
 .ask (aT (gI p 1) (gI p 0))
 (.ask (aA (gI p 1) (List.length (gL p 2)))
 (.ask (aD (D.toI (gD (gL p 2) (tI p 1))) 3)
 (.ask (aA (aG .i64 (gI p 1) 1) (List.length (gL p 3)))
 (.again [aI p 0,.i (aG .i64 (gI p 1) 1),aL p 2,.l (List.set (gL p 3) (Int.toNat (aG .i64 (gI p 1) 1)) (D.l [.l [.i 1,.i (aG .i64 (gI p 1) 1)]])),aL p 4,aL p 5,aL p 6])
 (.bad))
 (.again [aI p 0,.i (aG .i64 (gI p 1) 1),aL p 2,aL p 3,aL p 4,aL p 5,aL p 6]))
 (.bad))
 (.out (0,[aL p 3,aL p 4,aL p 5,aL p 6]))
def jF(p:List D):Sh:=
 .ask (gB p 0)
 (.loop 4 [.i 0,.i (iL (gL p 4)),.b false,aL p 1,aL p 2,aL p 3,aL p 4] (.cons (λc=>
 .again [aB c 0,aL c 1,aL c 2,aL c 3,aL c 4])
 .nil))
 (.out (0,[aL p 1,aL p 2,aL p 3,aL p 4]))
def lW(p:List D)(c:D):Sh:=
 .ask (!(aD (iE c) (iE (gD (gL p 3) (tI p 0)))))
 (.ask (aA (gI p 0) (List.length (gL p 3)))
 (.again [.i (aG .i64 (gI p 0) 1),aI p 1,.b true,.l (List.set (gL p 3) (tI p 0) (D.l (D.els c))),aL p 4,aL p 5,aL p 6])
 (.bad))
 (.again [.i (aG .i64 (gI p 0) 1),aI p 1,aB p 2,aL p 3,aL p 4,aL p 5,aL p 6])
def fJ(p:List D):Sh:=
 .ask (aT (gI p 0) (gI p 1))
 (.ask (aA (gI p 0) (List.length (gL p 6)))
 (.ask (!(aD (vI (gD (gL p 6) (tI p 0)) 1) 3))
 (.again [.i (aG .i64 (gI p 0) 1),aI p 1,aB p 2,aL p 3,aL p 4,aL p 5,aL p 6])
 (.ask (aD (vI (gD (gL p 6) (tI p 0)) 0) 18)
 (.call bH [.l [.l [.i 2,aI p 0]]] 0 λd _=>
 .call bB [.l (D.els d),.l []] 1 λg f=>
 .call bV [.l (D.els (gD f 0))] 0 λe _=>
 .ask (aA (gI p 0) (List.length (gL p 3)))
 (lW p e)
 (.bad))
 (.ask (aD (vI (gD (gL p 6) (tI p 0)) 0) 3)
 (.call bH [.l [.l [.i 3,.i (vI (gD (gL p 6) (tI p 0)) 3)]]] 0 λd _=>
 .call bB [.l (D.els d),.l []] 1 λg f=>
 .call bV [.l (D.els (gD f 0))] 0 λe _=>
 .ask (aA (gI p 0) (List.length (gL p 3)))
 (lW p e)
 (.bad))
 (.ask (aD (vI (gD (gL p 6) (tI p 0)) 0) 19)
 (.ask (aA 0 (nX (gD (gL p 6) (tI p 0)) 5))
 (.ask (aA (D.toI (gD (eX (gD (gL p 6) (tI p 0)) 5) 0)) (List.length (gL p 3)))
 (.call bH [.l (D.els (gD (gL p 3) (Int.toNat (D.toI (gD (eX (gD (gL p 6) (tI p 0)) 5) 0)))))] 0 λd _=>
 .call bB [.l (D.els d),.l []] 1 λg f=>
 .call bV [.l (D.els (gD f 0))] 0 λe _=>
 .ask (aA (gI p 0) (List.length (gL p 3)))
 (lW p e)
 (.bad))
 (.bad))
 (.bad))
 (.ask (aD (vI (gD (gL p 6) (tI p 0)) 0) 17)
 (.ask (aA 1 (nX (gD (gL p 6) (tI p 0)) 5))
 (.ask (aA (D.toI (gD (eX (gD (gL p 6) (tI p 0)) 5) 1)) (List.length (gL p 3)))
 (.ask (aA 2 (nX (gD (gL p 6) (tI p 0)) 5))
 (.ask (aA (D.toI (gD (eX (gD (gL p 6) (tI p 0)) 5) 2)) (List.length (gL p 3)))
 (.call iB [.l [.l (D.els (gD (gL p 3) (Int.toNat (D.toI (gD (eX (gD (gL p 6) (tI p 0)) 5) 1))))),.l (D.els (gD (gL p 3) (Int.toNat (D.toI (gD (eX (gD (gL p 6) (tI p 0)) 5) 2)))))]] 0 λd _=>
 .call bH [.l (D.els d)] 0 λg _=>
 .call bB [.l (D.els g),.l []] 1 λe j=>
 .call bV [.l (D.els (gD j 0))] 0 λh _=>
 .ask (aA (gI p 0) (List.length (gL p 3)))
 (.ask (!(aD (iE h) (iE (gD (gL p 3) (tI p 0)))))
 (.ask (aA (gI p 0) (List.length (gL p 3)))
 (.again [.i (aG .i64 (gI p 0) 1),aI p 1,.b true,.l (List.set (gL p 3) (tI p 0) (D.l (D.els h))),aL p 4,aL p 5,aL p 6])
 (.bad))
 (.again [.i (aG .i64 (gI p 0) 1),aI p 1,aB p 2,aL p 3,aL p 4,aL p 5,aL p 6]))
 (.bad))
 (.bad))
 (.bad))
 (.bad))
 (.bad))
 (.ask (aD (vI (gD (gL p 6) (tI p 0)) 0) 26)
 (.loop 7 [aI p 0,.i 0,aI p 0,.l (eX (gD (gL p 6) (tI p 0)) 5),aI p 1,aB p 2,.i (iX (gD (gL p 6) (tI p 0)) 5),aL p 3,.l [],aL p 4,aL p 5,aL p 6] (.cons (λc=>
 .call bH [aL c 5] 0 λg _=>
 .call bB [.l (D.els g),.l []] 1 λe j=>
 .call bV [.l (D.els (gD j 0))] 0 λh _=>
 .ask (aA (gI c 0) (List.length (gL c 4)))
 (.ask (!(aD (iE h) (iE (gD (gL c 4) (tI c 0)))))
 (.ask (aA (gI c 0) (List.length (gL c 4)))
 (.again [.i (aG .i64 (gI c 1) 1),aI c 2,.b true,.l (List.set (gL c 4) (tI c 0) (D.l (D.els h))),aL c 6,aL c 7,aL c 8])
 (.bad))
 (.again [.i (aG .i64 (gI c 1) 1),aI c 2,aB c 3,aL c 4,aL c 6,aL c 7,aL c 8]))
 (.bad))
 .nil))
 (.call bH [.l []] 0 λd _=>
 .call bB [.l (D.els d),.l []] 1 λg f=>
 .call bV [.l (D.els (gD f 0))] 0 λe _=>
 .ask (aA (gI p 0) (List.length (gL p 3)))
 (lW p e)
 (.bad))))))))
 (.bad))
 (.out (0,[aB p 2,aL p 3,aL p 4,aL p 5,aL p 6]))
def jG(p:List D):Sh:=
 .ask (aT (gI p 1) (gI p 6))
 (.ask (aA (gI p 1) (List.length (gL p 3)))
 (.ask (aA (D.toI (gD (gL p 3) (tI p 1))) (List.length (gL p 7)))
 (.ask (iP ((List.length (gL p 8))+(nE (gD (gL p 7) (Int.toNat (D.toI (gD (gL p 3) (tI p 1))))))) 16)
 (.again [aI p 0,.i (aG .i64 (gI p 1) 1),aI p 2,aL p 3,aI p 4,aB p 5,aI p 6,aL p 7,.l ((gL p 8)++(D.els (gD (gL p 7) (Int.toNat (D.toI (gD (gL p 3) (tI p 1))))))),aL p 9,aL p 10,aL p 11])
 (.bad))
 (.bad))
 (.bad))
 (.out (0,[aI p 0,aI p 2,aI p 4,aB p 5,aL p 7,aL p 8,aL p 9,aL p 10,aL p 11]))
def YY(x:List D):Sh:=
 .ask ((cP 0 (iX (gD x 0) 4))&&((aD (iX (gD x 0) 4) (iX (gD x 0) 4))&&(iP (Int.toNat (iX (gD x 0) 4)) 1)))
 (.ask (((aT (D.toI (gD x 1)) 0)||(cP (iL (List.replicate (nX (gD x 0) 4) (D.b false))) (D.toI (gD x 1))))||(aD (D.toI (gD x 1)) (D.toI (gD x 2))))
 (.ret (.l (List.replicate (nX (gD x 0) 4) (D.b false))) [])
 (.ask (aA (D.toI (gD x 1)) (List.length (List.replicate (nX (gD x 0) 4) (D.b false))))
 (.loop 0 [.i (D.toI (gD x 2)),.b true,.s (D.toS (D.fld (gD x 0) 0)),.b (vB (gD x 0) 1),.l (eX (gD x 0) 2),.i (vI (gD x 0) 3),.l (eX (gD x 0) 4),.l (List.set (List.replicate (nX (gD x 0) 4) (D.b false)) (Int.toNat (D.toI (gD x 1))) (D.b true))] (.cons (λc=>
 .ret (aL c 0) [])
 .nil))
 (.bad)))
 (.bad)
def zK(p:List D):Sh:=
 .ask (gB p 1)
 (.loop 2 [.i 0,aI p 0,.b false,aS p 2,aB p 3,aL p 4,aI p 5,aL p 6,aL p 7] (.cons (λc=>
 .again [aI c 0,aB c 1,aS c 2,aB c 3,aL c 4,aI c 5,aL c 6,aL c 7])
 .nil))
 (.out (0,[aL p 7]))
def pT(p:List D):Sh:=
 .ask (aT (gI p 0) (iL (gL p 8)))
 (.ask (aA (gI p 0) (List.length (gL p 8)))
 (.ask (!(D.toB (gD (gL p 8) (tI p 0))))
 (.again [.i (aG .i64 (gI p 0) 1),aI p 1,aB p 2,aS p 3,aB p 4,aL p 5,aI p 6,aL p 7,aL p 8])
 (.call Eg [.l [aS p 3,aB p 4,aL p 5,aI p 6,aL p 7],aI p 0] 0 λd _=>
 .loop 4 [.i 0,aI p 0,aI p 1,aB p 2,aS p 3,aB p 4,aL p 5,aI p 6,aL p 7,aL p 8,.l (D.els d)] (.cons (λc=>
 .again [.i (aG .i64 (gI c 0) 1),aI c 1,aB c 2,aS c 3,aB c 4,aL c 5,aI c 6,aL c 7,aL c 8])
 .nil)))
 (.bad))
 (.out (0,[aI p 1,aB p 2,aS p 3,aB p 4,aL p 5,aI p 6,aL p 7,aL p 8]))
def lX(p:List D):Sh:=
 .ask (aT (gI p 0) (iL (gL p 10)))
 (.ask (aA (gI p 0) (List.length (gL p 10)))
 (.ask ((!((!(aD (D.toI (gD (gL p 10) (tI p 0))) (gI p 2)))&&true))||(aA (gI p 0) (List.length (gL p 10))))
 (.ask ((!((!(aD (D.toI (gD (gL p 10) (tI p 0))) (gI p 2)))&&true))||(aA (D.toI (gD (gL p 10) (tI p 0))) (List.length (gL p 9))))
 (.ask ((!(aD (D.toI (gD (gL p 10) (tI p 0))) (gI p 2)))&&(!(D.toB (gD (gL p 9) (Int.toNat (D.toI (gD (gL p 10) (tI p 0))))))))
 (.ask (aA (gI p 0) (List.length (gL p 10)))
 (.ask (aA (D.toI (gD (gL p 10) (tI p 0))) (List.length (gL p 9)))
 (.again [.i (aG .i64 (gI p 0) 1),aI p 1,aI p 2,.b true,aS p 4,aB p 5,aL p 6,aI p 7,aL p 8,.l (List.set (gL p 9) (Int.toNat (D.toI (gD (gL p 10) (tI p 0)))) (D.b true)),aL p 10])
 (.bad))
 (.bad))
 (.again [.i (aG .i64 (gI p 0) 1),aI p 1,aI p 2,aB p 3,aS p 4,aB p 5,aL p 6,aI p 7,aL p 8,aL p 9,aL p 10]))
 (.bad))
 (.bad))
 (.bad))
 (.out (0,[aI p 1,aI p 2,aB p 3,aS p 4,aB p 5,aL p 6,aI p 7,aL p 8,aL p 9]))
def bL(x:List D):Sh:=
 .ask (!(aD (vI (gD x 0) 0) 21))
 (.call EP [.i (vI (gD x 0) 0)] 0 λc _=>
 .ask ((!(((aD (vI (gD x 0) 0) 22)||(aD (vI (gD x 0) 0) 23))||(aD (vI (gD x 0) 0) 25)))&&(!(bif (aD (vI (gD x 0) 0) 21)||(D.toB c)then aD (vI (gD x 0) 1) 0 else !(aD (vI (gD x 0) 1) 0))))
 (.ret (.b false) [])
 (.ask (aD (vI (gD x 0) 1) 0)
 (.ret (.b (aD (vI (gD x 0) 2) 0)) [])
 (.ret (.b (cP 1 (vI (gD x 0) 2))) [])))
 (.ask ((!(((aD (vI (gD x 0) 0) 22)||(aD (vI (gD x 0) 0) 23))||(aD (vI (gD x 0) 0) 25)))&&(!(bif (aD (vI (gD x 0) 0) 21)||(D.toB (.i 0))then aD (vI (gD x 0) 1) 0 else !(aD (vI (gD x 0) 1) 0))))
 (.ret (.b false) [])
 (.ask (aD (vI (gD x 0) 1) 0)
 (.ret (.b (aD (vI (gD x 0) 2) 0)) [])
 (.ret (.b (cP 1 (vI (gD x 0) 2))) [])))
def bO(x:List D)(c:D):Sh:=
 .ask (aD (vI (gD x 0) 0) 18)
 (.ask (((((!(((((aT (vI c 0) 0)||(aD (iX (gD x 0) 5) (vI c 0)))&&((aT (vI c 1) 0)||(aD (iX (gD x 0) 6) (vI c 1))))&&(cP 1 (vI (gD x 0) 4)))&&(cP (vI (gD x 0) 4) 16)))||((!(vB c 2))&&(!(aD (vI (gD x 0) 3) 0))))||((!(vB c 3))&&(!(aD (vI (gD x 0) 4) 0))))||(aT (vI (gD x 0) 1) 0))||(aT 4 (vI (gD x 0) 1)))
 (.ret (.b false) [])
 (bL x))
 (.ask (((((!(((aT (vI c 0) 0)||(aD (iX (gD x 0) 5) (vI c 0)))&&((aT (vI c 1) 0)||(aD (iX (gD x 0) 6) (vI c 1)))))||((!(vB c 2))&&(!(aD (vI (gD x 0) 3) 0))))||((!(vB c 3))&&(!(aD (vI (gD x 0) 4) 0))))||(aT (vI (gD x 0) 1) 0))||(aT 4 (vI (gD x 0) 1)))
 (.ret (.b false) [])
 (bL x))
def bP(x:List D)(c:D):Sh:=
 .ask (((((!((((aT (vI c 0) 0)||(aD (iX (gD x 0) 5) (vI c 0)))&&((aT (vI c 1) 0)||(aD (iX (gD x 0) 6) (vI c 1))))&&(cP (iX (gD x 0) 5) 5)))||((!(vB c 2))&&(!(aD (vI (gD x 0) 3) 0))))||((!(vB c 3))&&(!(aD (vI (gD x 0) 4) 0))))||(aT (vI (gD x 0) 1) 0))||(aT 4 (vI (gD x 0) 1)))
 (.ret (.b false) [])
 (.ask (!(aD (vI (gD x 0) 0) 21))
 (.call EP [.i (vI (gD x 0) 0)] 0 λd _=>
 .ask ((!(((aD (vI (gD x 0) 0) 22)||(aD (vI (gD x 0) 0) 23))||(aD (vI (gD x 0) 0) 25)))&&(!(bif (aD (vI (gD x 0) 0) 21)||(D.toB d)then aD (vI (gD x 0) 1) 0 else !(aD (vI (gD x 0) 1) 0))))
 (.ret (.b false) [])
 (.ask (aD (vI (gD x 0) 1) 0)
 (.ret (.b (aD (vI (gD x 0) 2) 0)) [])
 (.ret (.b (cP 1 (vI (gD x 0) 2))) [])))
 (.ask ((!(((aD (vI (gD x 0) 0) 22)||(aD (vI (gD x 0) 0) 23))||(aD (vI (gD x 0) 0) 25)))&&(!(bif (aD (vI (gD x 0) 0) 21)||(D.toB (.i 0))then aD (vI (gD x 0) 1) 0 else !(aD (vI (gD x 0) 1) 0))))
 (.ret (.b false) [])
 (.ask (aD (vI (gD x 0) 1) 0)
 (.ret (.b (aD (vI (gD x 0) 2) 0)) [])
 (.ret (.b (cP 1 (vI (gD x 0) 2))) []))))
def bI(x:List D):Sh:=
 .ask (!(aD (vI (gD x 0) 0) 21))
 (.call EP [.i (vI (gD x 0) 0)] 0 λc _=>
 .ask ((!(((aD (vI (gD x 0) 0) 22)||(aD (vI (gD x 0) 0) 23))||(aD (vI (gD x 0) 0) 25)))&&(!(bif (aD (vI (gD x 0) 0) 21)||(D.toB c)then aD (vI (gD x 0) 1) 0 else !(aD (vI (gD x 0) 1) 0))))
 (.ret (.b false) [])
 (.ask (aD (vI (gD x 0) 1) 0)
 (.ret (.b (aD (vI (gD x 0) 2) 0)) [])
 (.ret (.b (cP 1 (vI (gD x 0) 2))) [])))
 (.ask ((!(((aD (vI (gD x 0) 0) 22)||(aD (vI (gD x 0) 0) 23))||(aD (vI (gD x 0) 0) 25)))&&(!(bif (aD (vI (gD x 0) 0) 21)||(D.toB (.i 0))then aD (vI (gD x 0) 1) 0 else !(aD (vI (gD x 0) 1) 0))))
 (.ret (.b false) [])
 (.ask (aD (vI (gD x 0) 1) 0)
 (.ret (.b (aD (vI (gD x 0) 2) 0)) [])
 (.ret (.b (cP 1 (vI (gD x 0) 2))) [])))
def bU(x:List D):Sh:=
 .ask ((aT (vI (gD x 0) 0) 1)||(aT 30 (vI (gD x 0) 0)))
 (.ret (.b false) [])
 (.call OI [.i (vI (gD x 0) 0)] 0 λc _=>
 .ask (aD (vI (gD x 0) 0) 26)
 (.ask (((((!((aD (iX (gD x 0) 5) (iX (gD x 0) 6))&&(cP 1 (iX (gD x 0) 5))))||((!(vB c 2))&&(!(aD (vI (gD x 0) 3) 0))))||((!(vB c 3))&&(!(aD (vI (gD x 0) 4) 0))))||(aT (vI (gD x 0) 1) 0))||(aT 4 (vI (gD x 0) 1)))
 (.ret (.b false) [])
 (bI x))
 (.ask (aD (vI (gD x 0) 0) 29)
 (.ask (((((!((((aT (vI c 0) 0)||(aD (iX (gD x 0) 5) (vI c 0)))&&((aT (vI c 1) 0)||(aD (iX (gD x 0) 6) (vI c 1))))&&(cP (iX (gD x 0) 5) 1)))||((!(vB c 2))&&(!(aD (vI (gD x 0) 3) 0))))||((!(vB c 3))&&(!(aD (vI (gD x 0) 4) 0))))||(aT (vI (gD x 0) 1) 0))||(aT 4 (vI (gD x 0) 1)))
 (.ret (.b false) [])
 (bI x))
 (.ask (aD (vI (gD x 0) 0) 25)
 (.ask (((((!(((((aT (vI c 0) 0)||(aD (iX (gD x 0) 5) (vI c 0)))&&((aT (vI c 1) 0)||(aD (iX (gD x 0) 6) (vI c 1))))&&(cP 1 (iX (gD x 0) 5)))&&(cP (iX (gD x 0) 5) 6)))||((!(vB c 2))&&(!(aD (vI (gD x 0) 3) 0))))||((!(vB c 3))&&(!(aD (vI (gD x 0) 4) 0))))||(aT (vI (gD x 0) 1) 0))||(aT 4 (vI (gD x 0) 1)))
 (.ret (.b false) [])
 (bI x))
 (.ask (aD (vI (gD x 0) 0) 22)
 (.ask (aD (vI (gD x 0) 0) 22)
 (bP x c)
 (bO x c))
 (.ask (aD (vI (gD x 0) 0) 23)
 (bP x c)
 (bO x c))))))
def IN(x:List D):Sh:=
 .call LV [.l [.s (D.toS (D.fld (gD x 0) 0)),.b (vB (gD x 0) 1),.l (eX (gD x 0) 2),.i (vI (gD x 0) 3),.l (eX (gD x 0) 4)]] 0 λc _=>
 .ask (Hj (D.els c))
 (.ask ((cP 0 (iX (gD x 0) 4))&&((aD (iX (gD x 0) 4) (iX (gD x 0) 4))&&(iP (Int.toNat (iX (gD x 0) 4)) 1)))
 (.bad)
 (.bad))
 (.ask ((cP 0 (iX (gD x 0) 4))&&((aD (iX (gD x 0) 4) (iX (gD x 0) 4))&&(iP (Int.toNat (iX (gD x 0) 4)) 1)))
 (.loop 0 [.i (iX (YG (D.els c)) 5),.i 0,.l (List.replicate (nX (gD x 0) 4) (D.b false)),.l (eX (YG (D.els c)) 5)] (.cons (λd=>
 .ret (aL d 0) [])
 .nil))
 (.bad))
def pU(p:List D):Sh:=
 .ask (aT (gI p 1) (gI p 0))
 (.ask (aA (gI p 1) (List.length (gL p 3)))
 (.ask (aA (gI p 1) (List.length (gL p 2)))
 (.again [aI p 0,.i (aG .i64 (gI p 1) 1),.l (List.set (gL p 2) (tI p 1) (D.b (!(aD (D.toI (gD (gL p 3) (tI p 1))) 0)))),aL p 3])
 (.bad))
 (.bad))
 (.out (0,[aL p 2]))
def RZ(x:List D):Sh:=
 .ask (jT 0 (D.toI (gD x 1)) (iX (gD x 0) 4))
 (.loop 0 [.i (iX (gD x 0) 2),.i (iL (List.drop 0 (List.take (Int.toNat (D.toI (gD x 1))) (eX (gD x 0) 4)))),.l (List.drop 0 (List.take (Int.toNat (D.toI (gD x 1))) (eX (gD x 0) 4))),.i 0] (.cons (λc=>
 .ret (aI c 0) [])
 .nil))
 (.bad)
def vN(p:List D):Sh:=
 .ask (aT (gI p 3) (gI p 1))
 (.ask (aA (gI p 3) (List.length (gL p 2)))
 (.loop 2 [.l (D.els (gD (gL p 2) (tI p 3))),aI p 0,aI p 1,.i 0,aL p 2,.i (iE (gD (gL p 2) (tI p 3))),aI p 3] (.cons (λc=>
 .again [aI c 0,aI c 1,aL c 2,.i (aG .i64 (gI c 3) 1)])
 .nil))
 (.bad))
 (.out (0,[aI p 0]))
def vO(p:List D):Sh:=
 .ask (aT (gI p 3) (gI p 5))
 (.ask (aA (gI p 3) (List.length (gL p 0)))
 (.ask (!(aD (vI (gD (gL p 0) (tI p 3)) 1) 0))
 (.again [aL p 0,.i (aG .i64 (gI p 1) 1),aI p 2,.i (aG .i64 (gI p 3) 1),aL p 4,aI p 5,aI p 6])
 (.again [aL p 0,aI p 1,aI p 2,.i (aG .i64 (gI p 3) 1),aL p 4,aI p 5,aI p 6]))
 (.bad))
 (.out (0,[aI p 1,aI p 2,aL p 4,aI p 6]))
def oA(x:List D):Sh:=
 .ask (aD (vI (gD (eX (gD x 0) 3) (Int.toNat (D.toI (gD x 1)))) 0) 19)
 (.ask (aA 0 (nX (gD (eX (gD x 0) 3) (Int.toNat (D.toI (gD x 1)))) 5))
 (.call uK [.l [.l (eX (gD x 0) 0),.l (eX (gD x 0) 1),.l (eX (gD x 0) 2),.l (eX (gD x 0) 3)],.i (D.toI (gD (eX (gD (eX (gD x 0) 3) (Int.toNat (D.toI (gD x 1)))) 5) 0))] 1 λd c=>
 .ask (aA 1 (nX (gD (eX (gD x 0) 3) (Int.toNat (D.toI (gD x 1)))) 5))
 (.call CS [.l [.l (eX (gD c 0) 0),.l (eX (gD c 0) 1),.l (eX (gD c 0) 2),.l (eX (gD c 0) 3)],.i (D.toI (gD (eX (gD (eX (gD x 0) 3) (Int.toNat (D.toI (gD x 1)))) 5) 1))] 0 λe _=>
 .ask ((aD (vI d 0) 1)&&(vB e 1))
 (.ask (aA (D.toI (gD x 1)) (nX (gD c 0) 2))
 (let z0:=List.set (eX (gD c 0) 2) (Int.toNat (D.toI (gD x 1))) (D.l (cK (D.els (gD (eX (gD c 0) 2) (Int.toNat (D.toI (gD x 1))))) 0 (D.i 1)));.ret (D.l [D.i 1,D.i (aG .i64 (vI d 1) (vI e 0))]) [D.l [D.l (eX (gD c 0) 0),D.l (eX (gD c 0) 1),D.l (List.set z0 (Int.toNat (D.toI (gD x 1))) (D.l (cK (D.els (gD z0 (Int.toNat (D.toI (gD x 1))))) 1 (D.i (aG .i64 (vI d 1) (vI e 0)))))),D.l (eX (gD c 0) 3)]])
 (.bad))
 (.ask (aA (D.toI (gD x 1)) (nX (gD c 0) 2))
 (let z0:=List.set (eX (gD c 0) 2) (Int.toNat (D.toI (gD x 1))) (D.l (cK (D.els (gD (eX (gD c 0) 2) (Int.toNat (D.toI (gD x 1))))) 0 (D.i 2)));.ret (D.l [D.i 2,D.i 0]) [D.l [D.l (eX (gD c 0) 0),D.l (eX (gD c 0) 1),D.l (List.set z0 (Int.toNat (D.toI (gD x 1))) (D.l (cK (D.els (gD z0 (Int.toNat (D.toI (gD x 1))))) 1 (D.i 0)))),D.l (eX (gD c 0) 3)]])
 (.bad)))
 (.bad))
 (.bad))
 (.ask (aA (D.toI (gD x 1)) (nX (gD x 0) 2))
 (let z0:=List.set (eX (gD x 0) 2) (Int.toNat (D.toI (gD x 1))) (D.l (cK (D.els (gD (eX (gD x 0) 2) (Int.toNat (D.toI (gD x 1))))) 0 (D.i 2)));.ret (D.l [D.i 2,D.i 0]) [D.l [D.l (eX (gD x 0) 0),D.l (eX (gD x 0) 1),D.l (List.set z0 (Int.toNat (D.toI (gD x 1))) (D.l (cK (D.els (gD z0 (Int.toNat (D.toI (gD x 1))))) 1 (D.i 0)))),D.l (eX (gD x 0) 3)]])
 (.bad))
def CU(x:List D):Sh:=
 .ask (aA (D.toI (gD x 1)) (nX (gD x 0) 2))
 (let z0:=List.set (eX (gD x 0) 2) (Int.toNat (D.toI (gD x 1))) (D.l (cK (D.els (gD (eX (gD x 0) 2) (Int.toNat (D.toI (gD x 1))))) 0 (D.i 1)));.ret (D.l [D.i 1,D.i 0]) [D.l [D.l (eX (gD x 0) 0),D.l (eX (gD x 0) 1),D.l (List.set z0 (Int.toNat (D.toI (gD x 1))) (D.l (cK (D.els (gD z0 (Int.toNat (D.toI (gD x 1))))) 1 (D.i 0)))),D.l (eX (gD x 0) 3)]])
 (.bad)
def eK(x:List D):Sh:=
 .ask (aA (D.toI (gD x 1)) (nX (gD x 0) 0))
 (.ask ((!(!(!(aD (D.toI (gD (eX (gD x 0) 0) (Int.toNat (D.toI (gD x 1))))) 3))))||(aA (D.toI (gD x 1)) (nX (gD x 0) 2)))
 (.ask ((!(aD (D.toI (gD (eX (gD x 0) 0) (Int.toNat (D.toI (gD x 1))))) 3))||(!(aD (vI (gD (eX (gD x 0) 2) (Int.toNat (D.toI (gD x 1)))) 0) 0)))
 (.ask (aA (D.toI (gD x 1)) (nX (gD x 0) 2))
 (.ret (.l [.i (vI (gD (eX (gD x 0) 2) (Int.toNat (D.toI (gD x 1)))) 0),.i (vI (gD (eX (gD x 0) 2) (Int.toNat (D.toI (gD x 1)))) 1)]) [.l [.l (eX (gD x 0) 0),.l (eX (gD x 0) 1),.l (eX (gD x 0) 2),.l (eX (gD x 0) 3)]])
 (.bad))
 (.ask (aA (D.toI (gD x 1)) (nX (gD x 0) 3))
 (.ask (aD (vI (gD (eX (gD x 0) 3) (Int.toNat (D.toI (gD x 1)))) 0) 18)
 (.ask (aD (vI (gD (eX (gD x 0) 3) (Int.toNat (D.toI (gD x 1)))) 0) 18)
 (CU x)
 (oA x))
 (.ask (aD (vI (gD (eX (gD x 0) 3) (Int.toNat (D.toI (gD x 1)))) 0) 3)
 (CU x)
 (oA x)))
 (.bad)))
 (.bad))
 (.bad)
def fP(x:List D):Sh:=
 .loop 0 [.l (D.els (gD x 0)),.b (D.toB (gD x 1)),.i (iE (gD x 0)),.i 0] (.cons (λc=>
 .ret (aI c 0) [])
 (.cons (λc=>
 .ret (.i (-1)) [])
 .nil))
def cN(p:List D):Sh:=
 .ask (aT (gI p 3) (gI p 2))
 (.ask (aA (gI p 3) (List.length (gL p 0)))
 (.ask (bif (gB p 1)then D.toB (gD (gL p 0) (tI p 3))else !(D.toB (gD (gL p 0) (tI p 3))))
 (.out (0,[aI p 3]))
 (.again [aL p 0,aB p 1,aI p 2,.i (aG .i64 (gI p 3) 1)]))
 (.bad))
 (.out (1,[]))
def SA(x:List D):Sh:=
 .ask ((cP 0 (iX (gD x 0) 4))&&((aD (iX (gD x 0) 4) (iX (gD x 0) 4))&&(iP (Int.toNat (iX (gD x 0) 4)) 24)))
 (.loop 0 [.i (iX (gD x 0) 4),.i 0,.i (iX (gD x 0) 4),.s (D.toS (D.fld (gD x 0) 0)),.b (vB (gD x 0) 1),.l (eX (gD x 0) 2),.i (vI (gD x 0) 3),.l (eX (gD x 0) 4),.l (List.replicate (nX (gD x 0) 4) (D.l []))] (.cons (λc=>
 .call IK [.l [aS c 1,aB c 2,aL c 3,aI c 4,aL c 5]] 0 λe _=>
 .ask ((cP 0 (gI c 0))&&((aD (gI c 0) (gI c 0))&&(iP (tI c 0) 24)))
 (.loop 2 [aI c 0,aI c 0,.i 0,aL c 6,.l (List.replicate (tI c 0) (D.l [])),.l (D.els e)] (.cons (λd=>
 .ret (aL d 0) [])
 .nil))
 (.bad))
 .nil))
 (.bad)
def vP(p:List D):Sh:=
 .ask (aT (gI p 1) (gI p 2))
 (.call GE [.l [aS p 3,aB p 4,aL p 5,aI p 6,aL p 7],aI p 1] 0 λc _=>
 .ask (aA (gI p 1) (List.length (gL p 8)))
 (.again [aI p 0,.i (aG .i64 (gI p 1) 1),aI p 2,aS p 3,aB p 4,aL p 5,aI p 6,aL p 7,.l (List.set (gL p 8) (tI p 1) (D.l (D.els c)))])
 (.bad))
 (.out (0,[aI p 0,aS p 3,aB p 4,aL p 5,aI p 6,aL p 7,aL p 8]))
def vQ(p:List D):Sh:=
 .ask (aT (gI p 2) (gI p 1))
 (.ask ((cP 0 (gI p 0))&&((aD (gI p 0) (gI p 0))&&(iP (tI p 0) 1)))
 (.ask (aA (gI p 2) (List.length (gL p 4)))
 (.ask (aA (gI p 2) (List.length (gL p 5)))
 (.ask (!(D.toB (gD (gL p 5) (tI p 2))))
 (.again [aI p 0,aI p 1,.i (aG .i64 (gI p 2) 1),aL p 3,.l (List.set (gL p 4) (tI p 2) (D.l (List.replicate (tI p 0) (D.b false)))),aL p 5])
 (.call LX [aL p 3,aI p 2] 0 λd _=>
 .loop 4 [aI p 0,aI p 1,.i 0,aI p 2,aI p 2,aI p 0,aL p 3,.l (List.set (gL p 4) (tI p 2) (D.l (List.replicate (tI p 0) (D.b false)))),aL p 5,.l (D.els d)] (.cons (λc=>
 .again [aI c 0,aI c 1,.i (aG .i64 (gI c 2) 1),aL c 3,aL c 4,aL c 5])
 .nil)))
 (.bad))
 (.bad))
 (.bad))
 (.out (0,[aL p 4]))
def vR(p:List D):Sh:=
 .ask (aT (gI p 2) (gI p 5))
 (.ask (aA (gI p 3) (List.length (gL p 7)))
 (.ask (aA (gI p 2) (List.length (gL p 8)))
 (.ask ((!((D.toB (gD (gL p 8) (tI p 2)))&&true))||(aA (gI p 2) (List.length (gL p 9))))
 (.ask (aA (gI p 2) (nE (gD (gL p 7) (tI p 3))))
 (.again [aI p 0,aI p 1,.i (aG .i64 (gI p 2) 1),aI p 3,aI p 4,aI p 5,aL p 6,.l (List.set (gL p 7) (tI p 3) (D.l (List.set (D.els (gD (gL p 7) (tI p 3))) (tI p 2) (D.b ((D.toB (gD (gL p 8) (tI p 2)))&&(!(D.toB (gD (gL p 9) (tI p 2))))))))),aL p 8,aL p 9])
 (.bad))
 (.bad))
 (.bad))
 (.bad))
 (.out (0,[aI p 0,aI p 1,aI p 4,aL p 6,aL p 7,aL p 8]))
def rA(x:List D):Sh:=
 .ask (aA (D.toI (gD x 1)) (nX (gD x 0) 5))
 (.call GE [.l [.s (D.toS (D.fld (gD x 0) 0)),.b (vB (gD x 0) 1),.l (eX (gD x 0) 2),.i (vI (gD x 0) 3),.l (eX (gD x 0) 4)],.i (D.toI (gD x 1))] 0 λd _=>
 .loop 0 [.i (D.toI (gD x 1)),.i 0,.i (iE d),.s (D.toS (D.fld (gD x 0) 0)),.b (vB (gD x 0) 1),.l (eX (gD x 0) 2),.i (vI (gD x 0) 3),.l (eX (gD x 0) 4),.b (vB (gD x 0) 7),.l (List.set (eX (gD x 0) 5) (Int.toNat (D.toI (gD x 1))) (D.i 1)),.l (eX (gD x 0) 6),.l (D.els d)] (.cons (λc=>
 .ask (aA (gI c 0) (List.length (gL c 7)))
 (.ask (iP ((List.length (gL c 8))+1) 8)
 (.ret (.l []) [.l [aS c 1,aB c 2,aL c 3,aI c 4,aL c 5,.l (List.set (gL c 7) (tI c 0) (D.i 2)),.l ((gL c 8)++[aI c 0]),aB c 6]])
 (.bad))
 (.bad))
 .nil))
 (.bad)
def dT(p:List D):Sh:=
 .ask (aT (gI p 1) (gI p 2))
 (.ask (aA (gI p 1) (List.length (gL p 11)))
 (.ask (aA (D.toI (gD (gL p 11) (tI p 1))) (List.length (gL p 9)))
 (.ask (aD (D.toI (gD (gL p 9) (Int.toNat (D.toI (gD (gL p 11) (tI p 1)))))) 0)
 (.call jP [.l [aS p 3,aB p 4,aL p 5,aI p 6,aL p 7,aL p 9,aL p 10,aB p 8],.i (D.toI (gD (gL p 11) (tI p 1)))] 1 λd c=>
 .again [aI p 0,.i (aG .i64 (gI p 1) 1),aI p 2,.s (D.toS (D.fld (gD c 0) 0)),.b (vB (gD c 0) 1),.l (eX (gD c 0) 2),.i (vI (gD c 0) 3),.l (eX (gD c 0) 4),.b (vB (gD c 0) 7),.l (eX (gD c 0) 5),.l (eX (gD c 0) 6),aL p 11])
 (.ask (aD (D.toI (gD (gL p 9) (Int.toNat (D.toI (gD (gL p 11) (tI p 1)))))) 1)
 (.again [aI p 0,.i (aG .i64 (gI p 1) 1),aI p 2,aS p 3,aB p 4,aL p 5,aI p 6,aL p 7,.b true,aL p 9,aL p 10,aL p 11])
 (.again [aI p 0,.i (aG .i64 (gI p 1) 1),aI p 2,aS p 3,aB p 4,aL p 5,aI p 6,aL p 7,aB p 8,aL p 9,aL p 10,aL p 11])))
 (.bad))
 (.bad))
 (.out (0,[aI p 0,aS p 3,aB p 4,aL p 5,aI p 6,aL p 7,aB p 8,aL p 9,aL p 10]))
def CV(x:List D):Sh:=
 .call II [.l [.l (eX (gD x 0) 0),.l (eX (gD x 0) 1),.l (eX (gD x 0) 2),.l (eX (gD x 0) 3)]] 0 λc _=>
 .ask ((D.toB c)&&true)
 (.call Hz [.l [.l (eX (gD x 0) 0),.l (eX (gD x 0) 1),.l (eX (gD x 0) 2),.l (eX (gD x 0) 3)]] 0 λd _=>
 .ret (.b ((D.toB c)&&(aD (D.toI d) 0))) [])
 (.ret (.b ((D.toB c)&&(aD 0 0))) [])
def SB(x:List D):Sh:=
 .ask ((!(aD (vI (gD x 2) 0) 20))&&(!(aD (vI (gD x 2) 0) 21)))
 (.ret (.b false) [])
 (.ask (aA 0 (nX (gD x 2) 5))
 (.ask (aA (D.toI (gD (eX (gD x 2) 5) 0)) (nE (gD x 4)))
 (.ask ((!(!(!(aD (vI (gE (gD x 4) (Int.toNat (D.toI (gD (eX (gD x 2) 5) 0)))) 0) 1))))||(aA (D.toI (gD (eX (gD x 2) 5) 0)) (nE (gD x 3))))
 (.ask ((!(aD (vI (gE (gD x 4) (Int.toNat (D.toI (gD (eX (gD x 2) 5) 0)))) 0) 1))||(!(aD (iE (gE (gD x 3) (Int.toNat (D.toI (gD (eX (gD x 2) 5) 0))))) 1)))
 (.ret (.b false) [])
 (.ask (aA (D.toI (gD (eX (gD x 2) 5) 0)) (nE (gD x 3)))
 (.ask (aA 0 (nE (gE (gD x 3) (Int.toNat (D.toI (gD (eX (gD x 2) 5) 0))))))
 (.ask (aD (vI (gE (gE (gD x 3) (Int.toNat (D.toI (gD (eX (gD x 2) 5) 0)))) 0) 0) 2)
 (.ask (aA (D.toI (gD (eX (gD x 2) 5) 0)) (nE (gD x 3)))
 (.ask (aA 0 (nE (gE (gD x 3) (Int.toNat (D.toI (gD (eX (gD x 2) 5) 0))))))
 (.call VQ [.l [.s (D.toS (D.fld (gD x 1) 0)),.b (vB (gD x 1) 1),.l (eX (gD x 1) 2),.i (vI (gD x 1) 3),.l (eX (gD x 1) 4)],.i (vI (gE (gE (gD x 3) (Int.toNat (D.toI (gD (eX (gD x 2) 5) 0)))) 0) 1)] 0 λc _=>
 .ask (aA (vI c 0) (nX (gD x 1) 4))
 (.ask (aA (vI c 1) (nE (gD (eX (gD x 1) 4) (Int.toNat (vI c 0)))))
 (.ask (aA (D.toI (gD (eX (gD x 2) 5) 0)) (nE (gD x 4)))
 (.ask ((!((cP 0 (vI (gE (gD x 4) (Int.toNat (D.toI (gD (eX (gD x 2) 5) 0)))) 1))&&true))||(aA (D.toI (gD (eX (gD x 2) 5) 0)) (nE (gD x 4))))
 (let z0:=vI (gE (gD x 4) (Int.toNat (D.toI (gD (eX (gD x 2) 5) 0)))) 1;.ret (D.b ((cP 0 z0)&&(aT z0 (vI (gE (gD (eX (gD x 1) 4) (Int.toNat (vI c 0))) (Int.toNat (vI c 1))) 4)))) [])
 (.bad))
 (.bad))
 (.bad))
 (.bad))
 (.bad))
 (.bad))
 (.ask (aD (vI (gE (gE (gD x 3) (Int.toNat (D.toI (gD (eX (gD x 2) 5) 0)))) 0) 0) 3)
 (.ask (aA (D.toI (gD (eX (gD x 2) 5) 0)) (nE (gD x 3)))
 (.ask (aA 0 (nE (gE (gD x 3) (Int.toNat (D.toI (gD (eX (gD x 2) 5) 0))))))
 (.ask (aA (vI (gE (gE (gD x 3) (Int.toNat (D.toI (gD (eX (gD x 2) 5) 0)))) 0) 1) (nX (gD x 0) 1))
 (.ask (aA (D.toI (gD (eX (gD x 2) 5) 0)) (nE (gD x 4)))
 (.ask ((!((cP 0 (vI (gE (gD x 4) (Int.toNat (D.toI (gD (eX (gD x 2) 5) 0)))) 1))&&true))||(aA (D.toI (gD (eX (gD x 2) 5) 0)) (nE (gD x 4))))
 (let z0:=vI (gE (gD x 4) (Int.toNat (D.toI (gD (eX (gD x 2) 5) 0)))) 1;.ret (D.b ((cP 0 z0)&&(aT z0 (iX (gD (eX (gD x 0) 1) (Int.toNat (vI (gE (gE (gD x 3) (Int.toNat (D.toI (gD (eX (gD x 2) 5) 0)))) 0) 1))) 1)))) [])
 (.bad))
 (.bad))
 (.bad))
 (.bad))
 (.bad))
 (.ask (aA (D.toI (gD (eX (gD x 2) 5) 0)) (nE (gD x 4)))
 (.ask ((!((cP 0 (vI (gE (gD x 4) (Int.toNat (D.toI (gD (eX (gD x 2) 5) 0)))) 1))&&true))||(aA (D.toI (gD (eX (gD x 2) 5) 0)) (nE (gD x 4))))
 (let z0:=vI (gE (gD x 4) (Int.toNat (D.toI (gD (eX (gD x 2) 5) 0)))) 1;.ret (D.b ((cP 0 z0)&&(aT z0 0))) [])
 (.bad))
 (.bad))))
 (.bad))
 (.bad)))
 (.bad))
 (.bad))
 (.bad))
def kI(x:List D):Sh:=
 .ask ((((aT 14 (iX (gD x 0) 0))||(aT 14 (iX (gD x 0) 1)))||(aT 8 (iX (gD x 0) 2)))||(aT 26 (iX (gD x 0) 3)))
 (.ret (.b false) [])
 (.loop 0 [.i 0,.l (eX (gD x 0) 0),.l (eX (gD x 0) 1),.l (eX (gD x 0) 2),.l (eX (gD x 0) 3)] (.cons (λc=>
 .ret (aB c 0) [])
 (.cons (λc=>
 .loop 2 [.i 0,aL c 0,aL c 1,aL c 2,aL c 3] (.cons (λd=>
 .ret (aB d 0) [])
 (.cons (λd=>
 .loop 4 [.i 0,aL d 0,aL d 1,aL d 2,aL d 3] (.cons (λe=>
 .ret (aB e 0) [])
 (.cons (λe=>
 .loop 6 [.i 0,.i 0,aL e 0,aL e 1,aL e 2,aL e 3] (.cons (λf=>
 .ret (aB f 0) [])
 (.cons (λf=>
 .ret (.b (cP (gI f 0) 160)) [])
 .nil)))
 .nil)))
 .nil)))
 .nil)))
def lA(p:List D):Sh:=
 .ask (aT (gI p 0) (iL (gL p 1)))
 (.ask (aA (gI p 0) (List.length (gL p 1)))
 (.ask ((!(!(aT 40 (iL (D.toS (D.fld (gD (gL p 1) (tI p 0)) 0))))))||(aA (gI p 0) (List.length (gL p 1))))
 (.ask ((aT 40 (iL (D.toS (D.fld (gD (gL p 1) (tI p 0)) 0))))||(aT 10 (iX (gD (gL p 1) (tI p 0)) 1)))
 (.out (0,[.b false,aL p 1,aL p 2,aL p 3,aL p 4]))
 (.again [.i (aG .i64 (gI p 0) 1),aL p 1,aL p 2,aL p 3,aL p 4]))
 (.bad))
 (.bad))
 (.out (1,[aL p 1,aL p 2,aL p 3,aL p 4]))
def lB(p:List D):Sh:=
 .ask (aT (gI p 0) (iL (gL p 2)))
 (.ask (aA (gI p 0) (List.length (gL p 2)))
 (.ask ((!(!(aT 40 (iL (D.toS (D.fld (gD (gL p 2) (tI p 0)) 0))))))||(aA (gI p 0) (List.length (gL p 2))))
 (.ask ((aT 40 (iL (D.toS (D.fld (gD (gL p 2) (tI p 0)) 0))))||(aT 20 (iX (gD (gL p 2) (tI p 0)) 1)))
 (.out (0,[.b false,aL p 1,aL p 2,aL p 3,aL p 4]))
 (.again [.i (aG .i64 (gI p 0) 1),aL p 1,aL p 2,aL p 3,aL p 4]))
 (.bad))
 (.bad))
 (.out (1,[aL p 1,aL p 2,aL p 3,aL p 4]))
def lC(p:List D):Sh:=
 .ask (aT (gI p 0) (iL (gL p 3)))
 (.ask (aA (gI p 0) (List.length (gL p 3)))
 (.ask ((!(!(aT 40 (iL (D.toS (D.fld (gD (gL p 3) (tI p 0)) 0))))))||(aA (gI p 0) (List.length (gL p 3))))
 (.ask ((aT 40 (iL (D.toS (D.fld (gD (gL p 3) (tI p 0)) 0))))||(aT 16 (iX (gD (gL p 3) (tI p 0)) 1)))
 (.out (0,[.b false,aL p 1,aL p 2,aL p 3,aL p 4]))
 (.again [.i (aG .i64 (gI p 0) 1),aL p 1,aL p 2,aL p 3,aL p 4]))
 (.bad))
 (.bad))
 (.out (1,[aL p 1,aL p 2,aL p 3,aL p 4]))
def lD(p:List D):Sh:=
 .ask (aT (gI p 0) (iL (gL p 5)))
 (.ask (aA (gI p 0) (List.length (gL p 5)))
 (.call RN [.l [.s (D.toS (D.fld (gD (gL p 5) (tI p 0)) 0)),.b (vB (gD (gL p 5) (tI p 0)) 1),.l (eX (gD (gL p 5) (tI p 0)) 2),.i (vI (gD (gL p 5) (tI p 0)) 3),.l (eX (gD (gL p 5) (tI p 0)) 4)]] 0 λc _=>
 .ask (!(D.toB c))
 (.out (0,[.b false,aI p 1]))
 (.ask (aA (gI p 0) (List.length (gL p 5)))
 (.call Ed [.l [.s (D.toS (D.fld (gD (gL p 5) (tI p 0)) 0)),.b (vB (gD (gL p 5) (tI p 0)) 1),.l (eX (gD (gL p 5) (tI p 0)) 2),.i (vI (gD (gL p 5) (tI p 0)) 3),.l (eX (gD (gL p 5) (tI p 0)) 4)]] 0 λd _=>
 .again [.i (aG .i64 (gI p 0) 1),.i (aG .i64 (gI p 1) (D.toI d)),aL p 2,aL p 3,aL p 4,aL p 5])
 (.bad)))
 (.bad))
 (.out (1,[aI p 1]))
def SC(x:List D):Sh:=
 .ask (iP (1+(nX (gD x 0) 2)) 8)
 (.loop 0 [.i 0,.s (D.toS (D.fld (gD x 0) 0)),.b (vB (gD x 0) 1),.l (eX (gD x 0) 2),.i (vI (gD x 0) 3),.l (eX (gD x 0) 4),.l ([.i 0]++(eX (gD x 0) 2))] (.cons (λc=>
 .ret (aL c 0) [])
 .nil))
 (.bad)
def vS(p:List D):Sh:=
 .ask (aT (gI p 0) (iL (gL p 5)))
 (.loop 2 [.i 0,aI p 0,aS p 1,aB p 2,aL p 3,aI p 4,aL p 5,aL p 6] (.cons (λc=>
 .again [.i (aG .i64 (gI c 0) 1),aS c 1,aB c 2,aL c 3,aI c 4,aL c 5,aL c 6])
 .nil))
 (.out (0,[aL p 6]))
def vT(p:List D):Sh:=
 .ask (aA (gI p 1) (List.length (gL p 6)))
 (.ask (aT (gI p 0) (iE (gD (gL p 6) (tI p 1))))
 (.ask (aA (gI p 1) (List.length (gL p 6)))
 (.ask (aA (gI p 0) (nE (gD (gL p 6) (tI p 1))))
 (.ask (!(aD (vI (gE (gD (gL p 6) (tI p 1)) (tI p 0)) 1) 0))
 (.ask (iP ((List.length (gL p 7))+1) 8)
 (.again [.i (aG .i64 (gI p 0) 1),aI p 1,aS p 2,aB p 3,aL p 4,aI p 5,aL p 6,.l ((gL p 7)++[.i (vI (gE (gD (gL p 6) (tI p 1)) (tI p 0)) 1)])])
 (.bad))
 (.again [.i (aG .i64 (gI p 0) 1),aI p 1,aS p 2,aB p 3,aL p 4,aI p 5,aL p 6,aL p 7]))
 (.bad))
 (.bad))
 (.out (0,[aI p 1,aS p 2,aB p 3,aL p 4,aI p 5,aL p 6,aL p 7])))
 (.bad)
def YZ(x:List D):Sh:=
 .loop 0 [.i (D.toI (gD x 1)),.i 0,.s (D.toS (D.fld (gD x 0) 0)),.b (vB (gD x 0) 1),.l (eX (gD x 0) 2),.i (vI (gD x 0) 3),.l (eX (gD x 0) 4)] (.cons (λc=>
 .ret (.l [aI c 1,aI c 0]) [])
 (.cons (λc=>
 .ret (.l [.i (-1),.i (-1)]) [])
 .nil))
def pV(p:List D):Sh:=
 .ask (aT (gI p 1) (iL (gL p 6)))
 (.loop 2 [aI p 0,.i 0,aI p 1,aS p 2,aB p 3,aL p 4,aI p 5,aL p 6] (.cons (λc=>
 .out (0,[aI c 1,aI c 2]))
 (.cons (λc=>
 .again [aI c 0,.i (aG .i64 (gI c 1) 1),aS c 2,aB c 3,aL c 4,aI c 5,aL c 6])
 .nil)))
 (.out (1,[]))
def pW(p:List D):Sh:=
 .ask (aA (gI p 2) (List.length (gL p 7)))
 (.ask (aT (gI p 1) (iE (gD (gL p 7) (tI p 2))))
 (.ask (aA (gI p 2) (List.length (gL p 7)))
 (.ask (aA (gI p 1) (nE (gD (gL p 7) (tI p 2))))
 (.ask ((!(aD (vI (gE (gD (gL p 7) (tI p 2)) (tI p 1)) 1) 0))&&(aD (vI (gE (gD (gL p 7) (tI p 2)) (tI p 1)) 2) (gI p 0)))
 (.out (0,[aI p 0,aI p 1,aI p 2,aI p 2,aS p 3,aB p 4,aL p 5,aI p 6,aL p 7]))
 (.again [aI p 0,.i (aG .i64 (gI p 1) 1),aI p 2,aS p 3,aB p 4,aL p 5,aI p 6,aL p 7]))
 (.bad))
 (.bad))
 (.out (1,[aI p 0,aI p 2,aS p 3,aB p 4,aL p 5,aI p 6,aL p 7])))
 (.bad)
def MF(x:List D):Sh:=
 .ask ((((aT 24 (iX (gD x 0) 3))||(aT 12 (iX (gD x 0) 0)))||(aT 12 (iX (gD x 0) 1)))||(aT 6 (iX (gD x 0) 2)))
 (.ret (.b false) [])
 (.loop 0 [.i 0,.l (eX (gD x 0) 0),.l (eX (gD x 0) 1),.l (eX (gD x 0) 2),.l (eX (gD x 0) 3)] (.cons (λc=>
 .ret (aB c 0) [])
 (.cons (λc=>
 .loop 2 [.i 0,aL c 0,aL c 1,aL c 2,aL c 3] (.cons (λd=>
 .ret (aB d 0) [])
 (.cons (λd=>
 .loop 4 [.i 0,aL d 0,aL d 1,aL d 2,aL d 3] (.cons (λe=>
 .ret (aB e 0) [])
 (.cons (λe=>
 .loop 6 [.i 0,aL e 0,aL e 1,aL e 2,aL e 3] (.cons (λf=>
 .ret (aB f 0) [])
 (.cons (λf=>
 .ret (.b true) [])
 .nil)))
 .nil)))
 .nil)))
 .nil)))
def mI(p:List D):Sh:=
 .ask (aT (gI p 0) (iL (gL p 1)))
 (.ask (aA (gI p 0) (List.length (gL p 1)))
 (.ask (aT 5 (iX (gD (gL p 1) (tI p 0)) 1))
 (.out (0,[.b false,aL p 1,aL p 2,aL p 3,aL p 4]))
 (.again [.i (aG .i64 (gI p 0) 1),aL p 1,aL p 2,aL p 3,aL p 4]))
 (.bad))
 (.out (1,[aL p 1,aL p 2,aL p 3,aL p 4]))
def mJ(p:List D):Sh:=
 .ask (aT (gI p 0) (iL (gL p 2)))
 (.ask (aA (gI p 0) (List.length (gL p 2)))
 (.ask ((aT (iX (gD (gL p 2) (tI p 0)) 1) 1)||(aT 16 (iX (gD (gL p 2) (tI p 0)) 1)))
 (.out (0,[.b false,aL p 1,aL p 2,aL p 3,aL p 4]))
 (.again [.i (aG .i64 (gI p 0) 1),aL p 1,aL p 2,aL p 3,aL p 4]))
 (.bad))
 (.out (1,[aL p 1,aL p 2,aL p 3,aL p 4]))
def mK(p:List D):Sh:=
 .ask (aT (gI p 0) (iL (gL p 3)))
 (.ask (aA (gI p 0) (List.length (gL p 3)))
 (.ask ((aT (iX (gD (gL p 3) (tI p 0)) 1) 1)||(aT 12 (iX (gD (gL p 3) (tI p 0)) 1)))
 (.out (0,[.b false,aL p 1,aL p 2,aL p 3,aL p 4]))
 (.again [.i (aG .i64 (gI p 0) 1),aL p 1,aL p 2,aL p 3,aL p 4]))
 (.bad))
 (.out (1,[aL p 1,aL p 2,aL p 3,aL p 4]))
def mL(p:List D):Sh:=
 .ask (aT (gI p 0) (iL (gL p 4)))
 (.ask (aA (gI p 0) (List.length (gL p 4)))
 (.ask (!(((aT 5 (iX (gD (gL p 4) (tI p 0)) 2))||(aT (iX (gD (gL p 4) (tI p 0)) 4) 1))||(aT 40 (iX (gD (gL p 4) (tI p 0)) 4))))
 (.call Ed [.l [.s (D.toS (D.fld (gD (gL p 4) (tI p 0)) 0)),.b (vB (gD (gL p 4) (tI p 0)) 1),.l (eX (gD (gL p 4) (tI p 0)) 2),.i (vI (gD (gL p 4) (tI p 0)) 3),.l (eX (gD (gL p 4) (tI p 0)) 4)]] 0 λc _=>
 .ask ((((aT 5 (iX (gD (gL p 4) (tI p 0)) 2))||(aT (iX (gD (gL p 4) (tI p 0)) 4) 1))||(aT 40 (iX (gD (gL p 4) (tI p 0)) 4)))||(aT 300 (D.toI c)))
 (.out (0,[.b false]))
 (.again [.i (aG .i64 (gI p 0) 1),aL p 1,aL p 2,aL p 3,aL p 4]))
 (.ask ((((aT 5 (iX (gD (gL p 4) (tI p 0)) 2))||(aT (iX (gD (gL p 4) (tI p 0)) 4) 1))||(aT 40 (iX (gD (gL p 4) (tI p 0)) 4)))||(aT 300 0))
 (.out (0,[.b false]))
 (.again [.i (aG .i64 (gI p 0) 1),aL p 1,aL p 2,aL p 3,aL p 4])))
 (.bad))
 (.out (1,[]))
def SD(x:List D):Sh:=
 .loop 0 [.i 0,.s (D.toS (D.fld (gD x 0) 0)),.b (vB (gD x 0) 1),.l (eX (gD x 0) 2),.i (vI (gD x 0) 3),.l (eX (gD x 0) 4)] (.cons (λc=>
 .ret (aB c 0) [])
 (.cons (λc=>
 .call VR [.l [aS c 0,aB c 1,aL c 2,aI c 3,aL c 4]] 0 λe _=>
 .call Sg [.l [aS c 0,aB c 1,aL c 2,aI c 3,aL c 4]] 0 λf _=>
 .loop 6 [.i 0,aS c 0,aB c 1,aL c 2,aI c 3,aL c 4,.l (D.els e),.l (D.els f)] (.cons (λd=>
 .ret (aB d 0) [])
 (.cons (λd=>
 .ret (.b true) [])
 .nil)))
 .nil))
def vU(p:List D):Sh:=
 .ask (aT (gI p 0) (iL (gL p 5)))
 (.ask (aA (gI p 0) (List.length (gL p 5)))
 (.ask (aD (iE (gD (gL p 5) (tI p 0))) 0)
 (.out (0,[.b false,aS p 1,aB p 2,aL p 3,aI p 4,aL p 5]))
 (.loop 2 [aI p 0,.i 0,.l (D.els (gD (gL p 5) (tI p 0))),aS p 1,aB p 2,aL p 3,aI p 4,aL p 5] (.cons (λc=>
 .out (0,[aB c 1,aS c 3,aB c 4,aL c 5,aI c 6,aL c 7]))
 (.cons (λc=>
 .ask (aA (bC .i64 ((iL (gL c 1))-1)) (List.length (gL c 1)))
 (.loop 4 [aI c 0,.i 0,aS c 2,aB c 3,aL c 4,aI c 5,aL c 6,.i (vI (gD (gL c 1) (Int.toNat (bC .i64 ((iL (gL c 1))-1)))) 0),.i (vI (gD (gL c 1) (Int.toNat (bC .i64 ((iL (gL c 1))-1)))) 1),.i (vI (gD (gL c 1) (Int.toNat (bC .i64 ((iL (gL c 1))-1)))) 2),.i (vI (gD (gL c 1) (Int.toNat (bC .i64 ((iL (gL c 1))-1)))) 3),.i (vI (gD (gL c 1) (Int.toNat (bC .i64 ((iL (gL c 1))-1)))) 4),.l (eX (gD (gL c 1) (Int.toNat (bC .i64 ((iL (gL c 1))-1)))) 5),.l (eX (gD (gL c 1) (Int.toNat (bC .i64 ((iL (gL c 1))-1)))) 6)] (.cons (λd=>
 .out (0,[aB d 1,aS d 2,aB d 3,aL d 4,aI d 5,aL d 6]))
 (.cons (λd=>
 .ask ((!((aD (gI d 6) 28)&&true))||(aA 0 (List.length (gL d 12))))
 (.ask ((!((aD (gI d 6) 28)&&true))||(aA 1 (List.length (gL d 12))))
 (.ask ((aD (gI d 6) 28)&&(aD (D.toI (gD (gL d 12) 0)) (D.toI (gD (gL d 12) 1))))
 (.out (0,[.b false,aS d 1,aB d 2,aL d 3,aI d 4,aL d 5]))
 (.again [.i (aG .i64 (gI d 0) 1),aS d 1,aB d 2,aL d 3,aI d 4,aL d 5]))
 (.bad))
 (.bad))
 .nil)))
 (.bad))
 .nil))))
 (.bad))
 (.out (1,[aS p 1,aB p 2,aL p 3,aI p 4,aL p 5]))
def vV(p:List D):Sh:=
 .ask (aT (gI p 1) (iL (gL p 2)))
 (.ask (aA (gI p 1) (List.length (gL p 2)))
 (.call AV [.i (vI (gD (gL p 2) (tI p 1)) 0)] 0 λc _=>
 .ask ((!((!(!(bif D.toB c then aD (gI p 1) (bC .i64 ((iL (gL p 2))-1))else !(aD (gI p 1) (bC .i64 ((iL (gL p 2))-1))))))&&((aT 0 (gI p 1))&&true)))||(aA (gI p 1) (List.length (gL p 2))))
 (.ask ((!((!(!(bif D.toB c then aD (gI p 1) (bC .i64 ((iL (gL p 2))-1))else !(aD (gI p 1) (bC .i64 ((iL (gL p 2))-1))))))&&(((aT 0 (gI p 1))&&(aD (vI (gD (gL p 2) (tI p 1)) 0) 26))&&true)))||(aA (bC .i64 ((gI p 1)-1)) (List.length (gL p 2))))
 (.ask ((!(bif D.toB c then aD (gI p 1) (bC .i64 ((iL (gL p 2))-1))else !(aD (gI p 1) (bC .i64 ((iL (gL p 2))-1)))))||(((aT 0 (gI p 1))&&(aD (vI (gD (gL p 2) (tI p 1)) 0) 26))&&(!(aD (vI (gD (gL p 2) (Int.toNat (bC .i64 ((gI p 1)-1)))) 0) 26))))
 (.out (0,[aI p 0,.b false,aL p 2,aS p 3,aB p 4,aL p 5,aI p 6,aL p 7]))
 (.again [aI p 0,.i (aG .i64 (gI p 1) 1),aL p 2,aS p 3,aB p 4,aL p 5,aI p 6,aL p 7]))
 (.bad))
 (.bad))
 (.bad))
 (.out (1,[aI p 0,aL p 2,aS p 3,aB p 4,aL p 5,aI p 6,aL p 7]))
def vX(p:List D):Sh:=
 .ask (aT (gI p 1) (iL (gL p 13)))
 (.ask (aA (gI p 1) (List.length (gL p 13)))
 (.ask ((!(!(aT (D.toI (gD (gL p 13) (tI p 1))) 1)))||(aA (gI p 1) (List.length (gL p 13))))
 (.ask ((aT (D.toI (gD (gL p 13) (tI p 1))) 1)||(cP (iL (gL p 6)) (D.toI (gD (gL p 13) (tI p 1)))))
 (.out (0,[aI p 0,.b false,aS p 2,aB p 3,aL p 4,aI p 5,aL p 6,aI p 7,aI p 8,aI p 9,aI p 10,aI p 11,aL p 12,aL p 13]))
 (.again [aI p 0,.i (aG .i64 (gI p 1) 1),aS p 2,aB p 3,aL p 4,aI p 5,aL p 6,aI p 7,aI p 8,aI p 9,aI p 10,aI p 11,aL p 12,aL p 13]))
 (.bad))
 (.bad))
 (.out (1,[aI p 0,aS p 2,aB p 3,aL p 4,aI p 5,aL p 6,aI p 7,aI p 8,aI p 9,aI p 10,aI p 11,aL p 12,aL p 13]))
def vY(p:List D):Sh:=
 .ask (aT (gI p 0) (iL (gL p 5)))
 (.ask (aA (gI p 0) (List.length (gL p 6)))
 (.ask (!(D.toB (gD (gL p 6) (tI p 0))))
 (.out (0,[.b false]))
 (.ask (aA (gI p 0) (List.length (gL p 5)))
 (.loop 8 [.l (D.els (gD (gL p 5) (tI p 0))),.i 0,aI p 0,aS p 1,aB p 2,aL p 3,aI p 4,aL p 5,aL p 6,aL p 7] (.cons (λc=>
 .out (0,[aB c 0]))
 (.cons (λc=>
 .again [.i (aG .i64 (gI c 0) 1),aS c 1,aB c 2,aL c 3,aI c 4,aL c 5,aL c 6,aL c 7])
 .nil)))
 (.bad)))
 (.bad))
 (.out (1,[]))
def vZ(p:List D):Sh:=
 .ask (aT (gI p 1) (iL (gL p 0)))
 (.ask (aA (gI p 1) (List.length (gL p 0)))
 (.ask ((!(((aD (vI (gD (gL p 0) (tI p 1)) 0) 26)&&true)&&(!(aD (gI p 2) 0))))||(aA (gI p 1) (List.length (gL p 0))))
 (.ask ((!(((aD (vI (gD (gL p 0) (tI p 1)) 0) 26)&&true)&&(!(aD (gI p 2) 0))))||(aA (gI p 2) (List.length (gL p 9))))
 (.ask (((aD (vI (gD (gL p 0) (tI p 1)) 0) 26)&&true)&&(!(aD (gI p 2) 0)))
 (.call OG [.l (eX (gD (gL p 0) (tI p 1)) 6),.l (D.els (gD (gL p 9) (tI p 2)))] 0 λc _=>
 .ask ((aD (vI (gD (gL p 0) (tI p 1)) 0) 26)&&((aD (gI p 2) 0)||(!(D.toB c))))
 (.out (0,[.b false,aI p 2,aS p 3,aB p 4,aL p 5,aI p 6,aL p 7,aL p 8,aL p 9]))
 (.again [aL p 0,.i (aG .i64 (gI p 1) 1),aI p 2,aS p 3,aB p 4,aL p 5,aI p 6,aL p 7,aL p 8,aL p 9]))
 (.ask ((aD (vI (gD (gL p 0) (tI p 1)) 0) 26)&&((aD (gI p 2) 0)||(!(D.toB (.i 0)))))
 (.out (0,[.b false,aI p 2,aS p 3,aB p 4,aL p 5,aI p 6,aL p 7,aL p 8,aL p 9]))
 (.again [aL p 0,.i (aG .i64 (gI p 1) 1),aI p 2,aS p 3,aB p 4,aL p 5,aI p 6,aL p 7,aL p 8,aL p 9])))
 (.bad))
 (.bad))
 (.bad))
 (.out (1,[aI p 2,aS p 3,aB p 4,aL p 5,aI p 6,aL p 7,aL p 8,aL p 9]))
def MG(x:List D):Sh:=
 .call VQ [.l [.s (D.toS (D.fld (gD x 0) 0)),.b (vB (gD x 0) 1),.l (eX (gD x 0) 2),.i (vI (gD x 0) 3),.l (eX (gD x 0) 4)],.i (D.toI (gD x 1))] 0 λc _=>
 .ask ((!(!(aT (vI c 0) 0)))||(aA (vI c 0) (nX (gD x 0) 4)))
 (.ask ((!(!(aT (vI c 0) 0)))||(aA (vI c 1) (nE (gD (eX (gD x 0) 4) (Int.toNat (vI c 0))))))
 (.ask ((aT (vI c 0) 0)||(!(aD (vI (gE (gD (eX (gD x 0) 4) (Int.toNat (vI c 0))) (Int.toNat (vI c 1))) 0) 1)))
 (.ret (.l [.i 0,.b false]) [])
 (.ask (aA (vI c 0) (nX (gD x 0) 4))
 (.ask (aA (vI c 1) (nE (gD (eX (gD x 0) 4) (Int.toNat (vI c 0)))))
 (.ret (.l [.i (vI (gE (gD (eX (gD x 0) 4) (Int.toNat (vI c 0))) (Int.toNat (vI c 1))) 4),.b true]) [])
 (.bad))
 (.bad)))
 (.bad))
 (.bad)
def k9(x:List D):Sh:=
 .ret (.b ((cP 27 (D.toI (gD x 0)))&&(cP (D.toI (gD x 0)) 30))) []
def SE(x:List D):Sh:=
 .call OF [.l [.s (D.toS (D.fld (gD x 0) 0)),.b (vB (gD x 0) 1),.l (eX (gD x 0) 2),.i (vI (gD x 0) 3),.l (eX (gD x 0) 4)]] 0 λd _=>
 .ask ((cP 0 (aG .i64 (D.toI d) 1))&&((aD (aG .i64 (D.toI d) 1) (aG .i64 (D.toI d) 1))&&(iP (Int.toNat (aG .i64 (D.toI d) 1)) 16)))
 (.loop 0 [.i 0,.s (D.toS (D.fld (gD x 0) 0)),.b (vB (gD x 0) 1),.l (eX (gD x 0) 2),.i (vI (gD x 0) 3),.l (eX (gD x 0) 4),.l (List.replicate (Int.toNat (aG .i64 (D.toI d) 1)) (D.l [.i 0,.i 0]))] (.cons (λc=>
 .loop 2 [.i (iL (gL c 2)),.i 0,aS c 0,aB c 1,aL c 2,aI c 3,aL c 4,aL c 5] (.cons (λe=>
 .ret (aL e 0) [])
 .nil))
 .nil))
 (.bad)
def wA(p:List D):Sh:=
 .ask (cP (gI p 0) (iL (gL p 3)))
 (.ask (aA (gI p 0) (List.length (gL p 6)))
 (.again (let z0:=List.set (gL p 6) (tI p 0) (D.l (cK (D.els (gD (gL p 6) (tI p 0))) 0 (D.i (-1))));[.i (aG .i64 (gI p 0) 1),aS p 1,aB p 2,aL p 3,aI p 4,aL p 5,.l (List.set z0 (tI p 0) (D.l (cK (D.els (gD z0 (tI p 0))) 1 (D.i (-1)))))]))
 (.bad))
 (.out (0,[aS p 1,aB p 2,aL p 3,aI p 4,aL p 5,aL p 6]))
def wC(p:List D):Sh:=
 .ask (aT (gI p 1) (iL (gL p 6)))
 (.loop 4 [.i 0,aI p 0,aI p 1,aS p 2,aB p 3,aL p 4,aI p 5,aL p 6,aL p 7] (.cons (λc=>
 .again [aI c 0,.i (aG .i64 (gI c 1) 1),aS c 2,aB c 3,aL c 4,aI c 5,aL c 6,aL c 7])
 .nil))
 (.out (0,[aL p 7]))
def wD(p:List D):Sh:=
 .ask (aA (gI p 2) (List.length (gL p 7)))
 (.ask (aT (gI p 0) (iE (gD (gL p 7) (tI p 2))))
 (.ask (aA (gI p 2) (List.length (gL p 7)))
 (.ask (aA (gI p 0) (nE (gD (gL p 7) (tI p 2))))
 (.ask (!(aD (vI (gE (gD (gL p 7) (tI p 2)) (tI p 0)) 1) 0))
 (.ask (aA (aG .i64 (gI p 1) 1) (List.length (gL p 8)))
 (.again (let z0:=List.set (gL p 8) (Int.toNat (aG .i64 (gI p 1) 1)) (D.l (cK (D.els (gD (gL p 8) (Int.toNat (aG .i64 (gI p 1) 1)))) 0 (aI p 2)));[.i (aG .i64 (gI p 0) 1),.i (aG .i64 (gI p 1) 1),aI p 2,aS p 3,aB p 4,aL p 5,aI p 6,aL p 7,.l (List.set z0 (Int.toNat (aG .i64 (gI p 1) 1)) (D.l (cK (D.els (gD z0 (Int.toNat (aG .i64 (gI p 1) 1)))) 1 (aI p 0))))]))
 (.bad))
 (.again [.i (aG .i64 (gI p 0) 1),aI p 1,aI p 2,aS p 3,aB p 4,aL p 5,aI p 6,aL p 7,aL p 8]))
 (.bad))
 (.bad))
 (.out (0,[aI p 1,aI p 2,aS p 3,aB p 4,aL p 5,aI p 6,aL p 7,aL p 8])))
 (.bad)
def MH(x:List D):Sh:=
 .loop 0 [.i (iX (gD x 0) 0),.l (eX (gD x 0) 0),.i 0,.l (eX (gD x 0) 0),.l (eX (gD x 0) 1),.l (eX (gD x 0) 2),.l (eX (gD x 0) 3)] (.cons (λc=>
 .ret (aB c 0) [])
 (.cons (λc=>
 .loop 4 [.i (iL (gL c 3)),aL c 3,.i 0] (.cons (λd=>
 .ret (aB d 0) [])
 (.cons (λd=>
 .ret (.b true) [])
 .nil)))
 .nil))
def fY(p:List D):Sh:=
 .ask (aT (gI p 2) (gI p 0))
 (.ask (aA (gI p 2) (List.length (gL p 1)))
 (.loop 2 [.l (eX (gD (gL p 1) (tI p 2)) 1),aI p 0,.i 0,aL p 1,.i (iX (gD (gL p 1) (tI p 2)) 1),aI p 2,aL p 3,aL p 4,aL p 5,aL p 6,.s (D.toS (D.fld (gD (gL p 1) (tI p 2)) 0)),.l (eX (gD (gL p 1) (tI p 2)) 1),.i (vI (gD (gL p 1) (tI p 2)) 2)] (.cons (λc=>
 .out (0,[aB c 1,aL c 4,aL c 5,aL c 6,aL c 7]))
 (.cons (λc=>
 .ask ((!(aD (gI c 9) 0))&&true)
 (.call BK [aI c 9] 0 λd _=>
 .ask ((!(aD (gI c 9) 0))&&(!(D.toB d)))
 (.out (0,[.b false,aL c 3,aL c 4,aL c 5,aL c 6]))
 (.again [aI c 0,aL c 1,.i (aG .i64 (gI c 2) 1),aL c 3,aL c 4,aL c 5,aL c 6]))
 (.ask ((!(aD (gI c 9) 0))&&(!(D.toB (.i 0))))
 (.out (0,[.b false,aL c 3,aL c 4,aL c 5,aL c 6]))
 (.again [aI c 0,aL c 1,.i (aG .i64 (gI c 2) 1),aL c 3,aL c 4,aL c 5,aL c 6])))
 .nil)))
 (.bad))
 (.out (1,[aL p 3,aL p 4,aL p 5,aL p 6]))
def mM(p:List D):Sh:=
 .ask (aT (gI p 2) (gI p 4))
 (.ask (aA (gI p 2) (List.length (gL p 0)))
 (.call BK [.i (D.toI (gD (gL p 0) (tI p 2)))] 0 λc _=>
 .ask (!(D.toB c))
 (.out (0,[aI p 1,.b false,aL p 3,aI p 5,aL p 6,aL p 7,aL p 8,aL p 9,aS p 10,aL p 11,aI p 12]))
 (.again [aL p 0,aI p 1,.i (aG .i64 (gI p 2) 1),aL p 3,aI p 4,aI p 5,aL p 6,aL p 7,aL p 8,aL p 9,aS p 10,aL p 11,aI p 12]))
 (.bad))
 (.out (1,[aI p 1,aL p 3,aI p 5,aL p 6,aL p 7,aL p 8,aL p 9,aS p 10,aL p 11,aI p 12]))
def dM(p:List D):Sh:=
 .ask (aT (gI p 2) (gI p 0))
 (.ask (aA (gI p 2) (List.length (gL p 1)))
 (.ask ((!(aD (vI (gD (gL p 1) (tI p 2)) 3) 0))&&true)
 (.call BK [.i (vI (gD (gL p 1) (tI p 2)) 3)] 0 λf _=>
 .ask (((!(aD (vI (gD (gL p 1) (tI p 2)) 3) 0))&&(!(D.toB f)))&&((!(aD (vI (gD (gL p 1) (tI p 2)) 3) 4))||(vB (gD (gL p 1) (tI p 2)) 1)))
 (.out (0,[.b false]))
 (.loop 6 [.i 0,.l (eX (gD (gL p 1) (tI p 2)) 2),aI p 0,aL p 1,.i (iX (gD (gL p 1) (tI p 2)) 2),aI p 2,.s (D.toS (D.fld (gD (gL p 1) (tI p 2)) 0)),.b (vB (gD (gL p 1) (tI p 2)) 1),.l (eX (gD (gL p 1) (tI p 2)) 2),.i (vI (gD (gL p 1) (tI p 2)) 3),.l (eX (gD (gL p 1) (tI p 2)) 4)] (.cons (λc=>
 .out (0,[aB c 1]))
 (.cons (λc=>
 .loop 8 [aI c 0,.i (iL (gL c 7)),aL c 1,aL c 7,aI c 2,.i 0] (.cons (λe=>
 .out (0,[aB e 1]))
 (.cons (λe=>
 .again [aI e 0,aL e 1,.i (aG .i64 (gI e 2) 1)])
 .nil)))
 .nil))))
 (.ask (((!(aD (vI (gD (gL p 1) (tI p 2)) 3) 0))&&(!(D.toB (.i 0))))&&((!(aD (vI (gD (gL p 1) (tI p 2)) 3) 4))||(vB (gD (gL p 1) (tI p 2)) 1)))
 (.out (0,[.b false]))
 (.loop 6 [.i 0,.l (eX (gD (gL p 1) (tI p 2)) 2),aI p 0,aL p 1,.i (iX (gD (gL p 1) (tI p 2)) 2),aI p 2,.s (D.toS (D.fld (gD (gL p 1) (tI p 2)) 0)),.b (vB (gD (gL p 1) (tI p 2)) 1),.l (eX (gD (gL p 1) (tI p 2)) 2),.i (vI (gD (gL p 1) (tI p 2)) 3),.l (eX (gD (gL p 1) (tI p 2)) 4)] (.cons (λd=>
 .out (0,[aB d 1]))
 (.cons (λd=>
 .loop 8 [aI d 0,.i (iL (gL d 7)),aL d 1,aL d 7,aI d 2,.i 0] (.cons (λc=>
 .out (0,[aB c 1]))
 (.cons (λc=>
 .again [aI c 0,aL c 1,.i (aG .i64 (gI c 2) 1)])
 .nil)))
 .nil)))))
 (.bad))
 (.out (1,[]))
def fZ(p:List D):Sh:=
 .ask (aT (gI p 0) (gI p 4))
 (.ask (aA (gI p 0) (List.length (gL p 1)))
 (.ask ((!((aT (D.toI (gD (gL p 1) (tI p 0))) 1)||(aT 4 (D.toI (gD (gL p 1) (tI p 0))))))&&((gB p 7)&&true))
 (.call BK [.i (D.toI (gD (gL p 1) (tI p 0)))] 0 λc _=>
 .ask (((aT (D.toI (gD (gL p 1) (tI p 0))) 1)||(aT 4 (D.toI (gD (gL p 1) (tI p 0)))))||((gB p 7)&&(!(D.toB c))))
 (.out (0,[aI p 2,.b false,aL p 3,aI p 5,aS p 6,aB p 7,aL p 8,aI p 9,aL p 10]))
 (.again [.i (aG .i64 (gI p 0) 1),aL p 1,aI p 2,aL p 3,aI p 4,aI p 5,aS p 6,aB p 7,aL p 8,aI p 9,aL p 10]))
 (.ask (((aT (D.toI (gD (gL p 1) (tI p 0))) 1)||(aT 4 (D.toI (gD (gL p 1) (tI p 0)))))||((gB p 7)&&(!(D.toB (.i 0)))))
 (.out (0,[aI p 2,.b false,aL p 3,aI p 5,aS p 6,aB p 7,aL p 8,aI p 9,aL p 10]))
 (.again [.i (aG .i64 (gI p 0) 1),aL p 1,aI p 2,aL p 3,aI p 4,aI p 5,aS p 6,aB p 7,aL p 8,aI p 9,aL p 10])))
 (.bad))
 (.out (1,[aI p 2,aL p 3,aI p 5,aS p 6,aB p 7,aL p 8,aI p 9,aL p 10]))
def mN(p:List D):Sh:=
 .ask (aT (gI p 5) (gI p 1))
 (.ask (aA (gI p 5) (List.length (gL p 3)))
 (.loop 10 [.l (D.els (gD (gL p 3) (tI p 5))),.i 0,aI p 0,aI p 1,.i (iE (gD (gL p 3) (tI p 5))),aL p 2,aL p 3,aI p 4,aI p 5] (.cons (λc=>
 .out (0,[aI c 0,aB c 2,aL c 3,aI c 5]))
 (.cons (λc=>
 .again [aI c 0,aI c 1,aL c 2,aL c 3,aI c 4,.i (aG .i64 (gI c 5) 1)])
 .nil)))
 (.bad))
 (.out (1,[aI p 0,aL p 2,aI p 4]))
def lE(p:List D):Sh:=
 .ask (aT (gI p 1) (gI p 4))
 (.ask (aA (gI p 1) (List.length (gL p 0)))
 (.call YQ [.l [.i (vI (gD (gL p 0) (tI p 1)) 0),.i (vI (gD (gL p 0) (tI p 1)) 1),.i (vI (gD (gL p 0) (tI p 1)) 2),.i (vI (gD (gL p 0) (tI p 1)) 3),.i (vI (gD (gL p 0) (tI p 1)) 4),.l (eX (gD (gL p 0) (tI p 1)) 5),.l (eX (gD (gL p 0) (tI p 1)) 6)]] 0 λc _=>
 .ask (!(D.toB c))
 (.out (0,[aI p 2,aI p 3,.b false,aL p 5,aL p 6,aI p 7,aI p 8]))
 (.again [aL p 0,.i (aG .i64 (gI p 1) 1),aI p 2,aI p 3,aI p 4,aL p 5,aL p 6,aI p 7,aI p 8]))
 (.bad))
 (.out (1,[aI p 2,aI p 3,aL p 5,aL p 6,aI p 7,aI p 8]))
def ZA(x:List D):Sh:=
 .ask ((cP 0 (aG .i64 (iX (gD x 0) 2) 1))&&((aD (aG .i64 (iX (gD x 0) 2) 1) (aG .i64 (iX (gD x 0) 2) 1))&&(iP (Int.toNat (aG .i64 (iX (gD x 0) 2) 1)) 8)))
 (.loop 0 [.i (iX (gD x 0) 2),.i (iX (gD x 0) 4),.l (eX (gD x 0) 4),.i 0,.s (D.toS (D.fld (gD x 0) 0)),.b (vB (gD x 0) 1),.l (eX (gD x 0) 2),.i (vI (gD x 0) 3),.l (eX (gD x 0) 4),.l (List.replicate (Int.toNat (aG .i64 (iX (gD x 0) 2) 1)) (D.i 0))] (.cons (λc=>
 .ret (aB c 1) [])
 (.cons (λc=>
 .ask ((cP 0 (iL (gL c 5)))&&((aD (iL (gL c 5)) (iL (gL c 5)))&&(iP (Int.toNat (iL (gL c 5))) 24)))
 (.call Il [.l [aS c 1,aB c 2,aL c 3,aI c 4,aL c 5]] 0 λf _=>
 .loop 4 [aI c 0,.i 0,.i (iL (List.replicate (List.length (gL c 5)) (D.l []))),aS c 1,aB c 2,aL c 3,aI c 4,aL c 5,.l (List.replicate (List.length (gL c 5)) (D.l [])),aL c 6,.l (D.els f)] (.cons (λd=>
 .loop 8 [aI d 0,.i (iL (gL d 5)),.i 0,aL d 5,aS d 1,aB d 2,aL d 3,aI d 4,aL d 5,aL d 6,aL d 7] (.cons (λe=>
 .ret (aB e 0) [])
 (.cons (λe=>
 .ret (.b true) [])
 .nil)))
 .nil))
 (.bad))
 .nil)))
 (.bad)
def zL(p:List D):Sh:=
 .ask (aT (gI p 3) (gI p 1))
 (.ask (aA (gI p 3) (List.length (gL p 2)))
 (.loop 2 [aI p 0,aI p 3,.i (iE (gD (gL p 2) (tI p 3))),aI p 1,.l (D.els (gD (gL p 2) (tI p 3))),aL p 2,.i 0,aI p 3,aS p 4,aB p 5,aL p 6,aI p 7,aL p 8,aL p 9] (.cons (λc=>
 .out (0,[aI c 0,aB c 2,aS c 5,aB c 6,aL c 7,aI c 8,aL c 9,aL c 10]))
 (.cons (λc=>
 .again [aI c 0,aI c 1,aL c 2,.i (aG .i64 (gI c 3) 1),aS c 4,aB c 5,aL c 6,aI c 7,aL c 8,aL c 9])
 .nil)))
 (.bad))
 (.out (1,[aI p 0,aS p 4,aB p 5,aL p 6,aI p 7,aL p 8,aL p 9]))
def zM(p:List D):Sh:=
 .ask (aT (gI p 6) (gI p 2))
 (.ask (aA (gI p 6) (List.length (gL p 4)))
 (.ask (aD (vI (gD (gL p 4) (tI p 6)) 1) 0)
 (.again [aI p 0,aI p 1,aI p 2,aI p 3,aL p 4,aL p 5,.i (aG .i64 (gI p 6) 1),aI p 7,aS p 8,aB p 9,aL p 10,aI p 11,aL p 12,aL p 13])
 (.ask (!(aD (vI (gD (gL p 4) (tI p 6)) 2) (aG .i64 (gI p 0) 1)))
 (.out (0,[.i (aG .i64 (gI p 0) 1),aI p 3,.b false,aL p 5,aI p 7,aS p 8,aB p 9,aL p 10,aI p 11,aL p 12,aL p 13]))
 (.ask (iP ((List.length (gL p 13))+1) 8)
 (.again [.i (aG .i64 (gI p 0) 1),aI p 1,aI p 2,aI p 3,aL p 4,aL p 5,.i (aG .i64 (gI p 6) 1),aI p 7,aS p 8,aB p 9,aL p 10,aI p 11,aL p 12,.l ((gL p 13)++[aI p 1])])
 (.bad))))
 (.bad))
 (.out (1,[aI p 0,aI p 3,aL p 5,aI p 7,aS p 8,aB p 9,aL p 10,aI p 11,aL p 12,aL p 13]))
def zN(p:List D):Sh:=
 .ask (aT (gI p 1) (gI p 2))
 (.ask ((cP 0 (iL (gL p 7)))&&((aD (iL (gL p 7)) (iL (gL p 7)))&&(iP (Int.toNat (iL (gL p 7))) 1)))
 (.ask (aA (gI p 1) (List.length (gL p 8)))
 (.loop 6 [aI p 0,aI p 1,aI p 1,aI p 2,aI p 1,aS p 3,aB p 4,aL p 5,aI p 6,aL p 7,.l (List.set (gL p 8) (tI p 1) (D.l (List.replicate (List.length (gL p 7)) (D.b false)))),aL p 9,aL p 10] (.cons (λc=>
 .again [aI c 0,.i (aG .i64 (gI c 1) 1),aI c 2,aS c 3,aB c 4,aL c 5,aI c 6,aL c 7,aL c 8,aL c 9,aL c 10])
 .nil))
 (.bad))
 (.bad))
 (.out (0,[aI p 0,aS p 3,aB p 4,aL p 5,aI p 6,aL p 7,aL p 8,aL p 9]))
def zO(p:List D):Sh:=
 .ask (cP 0 (gI p 4))
 (.ask (aA (gI p 1) (List.length (gL p 10)))
 (.ask (aA (gI p 4) (nE (gD (gL p 10) (tI p 1))))
 (.ask (aA (gI p 4) (List.length (gL p 12)))
 (.again [aI p 0,aI p 1,aI p 2,aI p 3,.i (D.toI (gD (gL p 12) (tI p 4))),aS p 5,aB p 6,aL p 7,aI p 8,aL p 9,.l (List.set (gL p 10) (tI p 1) (D.l (List.set (D.els (gD (gL p 10) (tI p 1))) (tI p 4) (D.b true)))),aL p 11,aL p 12])
 (.bad))
 (.bad))
 (.bad))
 (.out (0,[aI p 0,aI p 2,aI p 3,aS p 5,aB p 6,aL p 7,aI p 8,aL p 9,aL p 10,aL p 11,aL p 12]))
def zP(p:List D):Sh:=
 .ask (aT (gI p 2) (gI p 1))
 (.ask (aA (gI p 2) (List.length (gL p 3)))
 (.ask (aT 0 (iE (gD (gL p 3) (tI p 2))))
 (.call Im [.l [aS p 4,aB p 5,aL p 6,aI p 7,aL p 8],aI p 2] 0 λe _=>
 .loop 10 [aI p 0,.i (D.toI e),aI p 1,aI p 2,.i (iE (gD (gL p 3) (tI p 2))),.l (D.els (gD (gL p 3) (tI p 2))),aI p 2,aL p 3,.i 0,aS p 4,aB p 5,aL p 6,aI p 7,aL p 8,aL p 9,aL p 10] (.cons (λd=>
 .out (0,[aB d 2]))
 (.cons (λd=>
 .again [aI d 0,aI d 1,.i (aG .i64 (gI d 2) 1),aL d 3,aS d 4,aB d 5,aL d 6,aI d 7,aL d 8,aL d 9,aL d 10])
 .nil)))
 (.loop 10 [aI p 0,.i (iL (gL p 6)),aI p 1,aI p 2,.i (iE (gD (gL p 3) (tI p 2))),.l (D.els (gD (gL p 3) (tI p 2))),aI p 2,aL p 3,.i 0,aS p 4,aB p 5,aL p 6,aI p 7,aL p 8,aL p 9,aL p 10] (.cons (λc=>
 .out (0,[aB c 2]))
 (.cons (λc=>
 .again [aI c 0,aI c 1,.i (aG .i64 (gI c 2) 1),aL c 3,aS c 4,aB c 5,aL c 6,aI c 7,aL c 8,aL c 9,aL c 10])
 .nil))))
 (.bad))
 (.out (1,[]))
def wE(p:List D):Sh:=
 .ask (aT (gI p 8) (gI p 4))
 (.ask (aA (gI p 8) (List.length (gL p 5)))
 (.loop 12 [aI p 0,aI p 1,.l (eX (gD (gL p 5) (tI p 8)) 5),aI p 2,aI p 3,.i 0,aI p 4,.i (iX (gD (gL p 5) (tI p 8)) 5),aL p 5,aI p 6,aL p 7,aI p 8,aS p 9,aB p 10,aL p 11,aI p 12,aL p 13,.i (vI (gD (gL p 5) (tI p 8)) 0),.i (vI (gD (gL p 5) (tI p 8)) 1),.i (vI (gD (gL p 5) (tI p 8)) 2),.i (vI (gD (gL p 5) (tI p 8)) 3),.i (vI (gD (gL p 5) (tI p 8)) 4),.l (eX (gD (gL p 5) (tI p 8)) 5),.l (eX (gD (gL p 5) (tI p 8)) 6),aL p 14,aL p 15] (.cons (λc=>
 .out (0,[aI c 0,aI c 2,aB c 5,aI c 7,aL c 8,aS c 10,aB c 11,aL c 12,aI c 13,aL c 14,aL c 22,aL c 23]))
 (.cons (λc=>
 .ask (!(aD (gI c 15) 0))
 (.again [aI c 0,aI c 16,aI c 2,aI c 3,aI c 4,aL c 5,aI c 6,aL c 7,.i (aG .i64 (gI c 8) 1),aS c 9,aB c 10,aL c 11,aI c 12,aL c 13,aL c 21,aL c 22])
 (.again [aI c 0,aI c 1,aI c 2,aI c 3,aI c 4,aL c 5,aI c 6,aL c 7,.i (aG .i64 (gI c 8) 1),aS c 9,aB c 10,aL c 11,aI c 12,aL c 13,aL c 21,aL c 22]))
 .nil)))
 (.bad))
 (.out (1,[aI p 0,aI p 2,aI p 6,aL p 7,aS p 9,aB p 10,aL p 11,aI p 12,aL p 13,aL p 14,aL p 15]))
def wF(p:List D):Sh:=
 .ask (aT (gI p 5) (gI p 7))
 (.ask (aA (gI p 5) (List.length (gL p 2)))
 (.ask ((aT (D.toI (gD (gL p 2) (tI p 5))) 1)||(aT (gI p 0) (D.toI (gD (gL p 2) (tI p 5)))))
 (.out (0,[aI p 0,aI p 1,aI p 3,aI p 4,aI p 6,.b false,aL p 8,aI p 9,aL p 10,aI p 11,aS p 12,aB p 13,aL p 14,aI p 15,aL p 16,aI p 17,aI p 18,aI p 19,aI p 20,aI p 21,aL p 22,aL p 23,aL p 24,aL p 25]))
 (.ask (cP (D.toI (gD (gL p 2) (tI p 5))) (iL (gL p 14)))
 (.again [aI p 0,aI p 1,aL p 2,aI p 3,aI p 4,.i (aG .i64 (gI p 5) 1),aI p 6,aI p 7,aL p 8,aI p 9,aL p 10,aI p 11,aS p 12,aB p 13,aL p 14,aI p 15,aL p 16,aI p 17,aI p 18,aI p 19,aI p 20,aI p 21,aL p 22,aL p 23,aL p 24,aL p 25])
 (.ask (aA (D.toI (gD (gL p 2) (tI p 5))) (List.length (gL p 25)))
 (.ask ((!((!(aD (D.toI (gD (gL p 25) (Int.toNat (D.toI (gD (gL p 2) (tI p 5)))))) (gI p 4)))&&true))||(aA (gI p 4) (List.length (gL p 24))))
 (.ask ((!((!(aD (D.toI (gD (gL p 25) (Int.toNat (D.toI (gD (gL p 2) (tI p 5)))))) (gI p 4)))&&true))||(aA (D.toI (gD (gL p 2) (tI p 5))) (List.length (gL p 25))))
 (.ask ((!((!(aD (D.toI (gD (gL p 25) (Int.toNat (D.toI (gD (gL p 2) (tI p 5)))))) (gI p 4)))&&true))||(aA (D.toI (gD (gL p 25) (Int.toNat (D.toI (gD (gL p 2) (tI p 5)))))) (nE (gD (gL p 24) (tI p 4)))))
 (.ask ((!(!((!(aD (D.toI (gD (gL p 25) (Int.toNat (D.toI (gD (gL p 2) (tI p 5)))))) (gI p 4)))&&(D.toB (gE (gD (gL p 24) (tI p 4)) (Int.toNat (D.toI (gD (gL p 25) (Int.toNat (D.toI (gD (gL p 2) (tI p 5))))))))))))||(aA (D.toI (gD (gL p 2) (tI p 5))) (List.length (gL p 25))))
 (.ask (aD (gI p 17) 26)
 (.ask (aA (gI p 5) (List.length (gL p 23)))
 (.ask (aA (D.toI (gD (gL p 23) (tI p 5))) (List.length (gL p 24)))
 (.ask (aA (D.toI (gD (gL p 2) (tI p 5))) (List.length (gL p 25)))
 (.ask (aA (D.toI (gD (gL p 25) (Int.toNat (D.toI (gD (gL p 2) (tI p 5)))))) (nE (gD (gL p 24) (Int.toNat (D.toI (gD (gL p 23) (tI p 5)))))))
 (.ask (!(D.toB (gE (gD (gL p 24) (Int.toNat (D.toI (gD (gL p 23) (tI p 5))))) (Int.toNat (D.toI (gD (gL p 25) (Int.toNat (D.toI (gD (gL p 2) (tI p 5))))))))))
 (.out (0,[aI p 0,aI p 1,aI p 3,aI p 4,aI p 6,.b false,aL p 8,aI p 9,aL p 10,aI p 11,aS p 12,aB p 13,aL p 14,aI p 15,aL p 16,aI p 17,aI p 18,aI p 19,aI p 20,aI p 21,aL p 22,aL p 23,aL p 24,aL p 25]))
 (.again [aI p 0,aI p 1,aL p 2,aI p 3,aI p 4,.i (aG .i64 (gI p 5) 1),aI p 6,aI p 7,aL p 8,aI p 9,aL p 10,aI p 11,aS p 12,aB p 13,aL p 14,aI p 15,aL p 16,aI p 17,aI p 18,aI p 19,aI p 20,aI p 21,aL p 22,aL p 23,aL p 24,aL p 25]))
 (.bad))
 (.bad))
 (.bad))
 (.bad))
 (.ask (!(((!(aD (D.toI (gD (gL p 25) (Int.toNat (D.toI (gD (gL p 2) (tI p 5)))))) (gI p 4)))&&(D.toB (gE (gD (gL p 24) (tI p 4)) (Int.toNat (D.toI (gD (gL p 25) (Int.toNat (D.toI (gD (gL p 2) (tI p 5))))))))))||((aD (D.toI (gD (gL p 25) (Int.toNat (D.toI (gD (gL p 2) (tI p 5)))))) (gI p 4))&&(cP (D.toI (gD (gL p 2) (tI p 5))) (gI p 1)))))
 (.out (0,[aI p 0,aI p 1,aI p 3,aI p 4,aI p 6,.b false,aL p 8,aI p 9,aL p 10,aI p 11,aS p 12,aB p 13,aL p 14,aI p 15,aL p 16,aI p 17,aI p 18,aI p 19,aI p 20,aI p 21,aL p 22,aL p 23,aL p 24,aL p 25]))
 (.again [aI p 0,aI p 1,aL p 2,aI p 3,aI p 4,.i (aG .i64 (gI p 5) 1),aI p 6,aI p 7,aL p 8,aI p 9,aL p 10,aI p 11,aS p 12,aB p 13,aL p 14,aI p 15,aL p 16,aI p 17,aI p 18,aI p 19,aI p 20,aI p 21,aL p 22,aL p 23,aL p 24,aL p 25])))
 (.bad))
 (.bad))
 (.bad))
 (.bad))
 (.bad))))
 (.bad))
 (.out (1,[aI p 0,aI p 1,aI p 3,aI p 4,aI p 6,aL p 8,aI p 9,aL p 10,aI p 11,aS p 12,aB p 13,aL p 14,aI p 15,aL p 16,aI p 17,aI p 18,aI p 19,aI p 20,aI p 21,aL p 22,aL p 23,aL p 24,aL p 25]))
def wG(x:List D):Sh:=
 .ask ((cP 0 (iX (gD x 0) 0))&&((aD (iX (gD x 0) 0) (iX (gD x 0) 0))&&(iP (Int.toNat (iX (gD x 0) 0)) 16)))
 (.loop 0 [.i 0,.i (iX (gD x 0) 0),.l (eX (gD x 0) 0),.l (eX (gD x 0) 1),.l (List.replicate (nX (gD x 0) 0) (D.l [.i 0,.i 0])),.l (eX (gD x 0) 3)] (.cons (λc=>
 .ret (.l []) [.l [aL c 0,aL c 1,aL c 2,aL c 3]])
 .nil))
 (.bad)
def kC(p:List D):Sh:=
 .ask (aT (gI p 0) (gI p 1))
 (.call uK [.l [aL p 2,aL p 3,aL p 4,aL p 5],aI p 0] 1 λd c=>
 .again [.i (aG .i64 (gI p 0) 1),aI p 1,.l (eX (gD c 0) 0),.l (eX (gD c 0) 1),.l (eX (gD c 0) 2),.l (eX (gD c 0) 3)])
 (.out (0,[aL p 2,aL p 3,aL p 4,aL p 5]))
def ZB(x:List D):Sh:=
 .call Sm [.l [.s (D.toS (D.fld (gD x 0) 0)),.b (vB (gD x 0) 1),.l (eX (gD x 0) 2),.i (vI (gD x 0) 3),.l (eX (gD x 0) 4)],.i (D.toI (gD x 1))] 0 λc _=>
 .ask ((!(vB c 1))||((!(aD (vI (D.fld c 0) 0) 27))&&(!(aD (vI (D.fld c 0) 0) 28))))
 (.ret (.l []) [])
 (.loop 0 [.i 0,.s (D.toS (D.fld (gD x 0) 0)),.b (vB (gD x 0) 1),.l (eX (gD x 0) 2),.i (vI (gD x 0) 3),.l (eX (gD x 0) 4),.i (vI (D.fld c 0) 0),.i (vI (D.fld c 0) 1),.i (vI (D.fld c 0) 2),.i (vI (D.fld c 0) 3),.i (vI (D.fld c 0) 4),.l (eX (D.fld c 0) 5),.l (eX (D.fld c 0) 6),.l []] (.cons (λd=>
 .ret (aL d 0) [])
 .nil))
def MJ(p:List D):Sh:=
 .ask (iP ((List.length (gL p 13))+1) 8)
 (.again [.i (aG .i64 (gI p 0) 1),aS p 1,aB p 2,aL p 3,aI p 4,aL p 5,aI p 6,aI p 7,aI p 8,aI p 9,aI p 10,aL p 11,aL p 12,.l ((gL p 13)++[.i (D.toI (gD (gL p 12) (tI p 0)))])])
 (.bad)
def zQ(p:List D):Sh:=
 .ask (aT (gI p 0) (iL (gL p 12)))
 (.ask (aA (gI p 0) (List.length (gL p 12)))
 (.ask (((cP 0 (D.toI (gD (gL p 12) (tI p 0))))&&(aT (D.toI (gD (gL p 12) (tI p 0))) (iL (gL p 5))))&&true)
 (.call aBI [aL p 13,.i (D.toI (gD (gL p 12) (tI p 0)))] 0 λc _=>
 .ask (((cP 0 (D.toI (gD (gL p 12) (tI p 0))))&&(aT (D.toI (gD (gL p 12) (tI p 0))) (iL (gL p 5))))&&(!(D.toB c)))
 (MJ p)
 (.again [.i (aG .i64 (gI p 0) 1),aS p 1,aB p 2,aL p 3,aI p 4,aL p 5,aI p 6,aI p 7,aI p 8,aI p 9,aI p 10,aL p 11,aL p 12,aL p 13]))
 (.ask (((cP 0 (D.toI (gD (gL p 12) (tI p 0))))&&(aT (D.toI (gD (gL p 12) (tI p 0))) (iL (gL p 5))))&&(!(D.toB (.i 0))))
 (MJ p)
 (.again [.i (aG .i64 (gI p 0) 1),aS p 1,aB p 2,aL p 3,aI p 4,aL p 5,aI p 6,aI p 7,aI p 8,aI p 9,aI p 10,aL p 11,aL p 12,aL p 13])))
 (.bad))
 (.out (0,[aL p 13]))
def ZC(x:List D):Sh:=
 .ask ((aT (iL (D.toS (gD x 0))) 1)||(aT 12 (iL (D.toS (gD x 0)))))
 (.ret (.b false) [])
 (.loop 0 [.s (D.toS (gD x 0)),.i (iL (D.toS (gD x 0))),.i 0] (.cons (λc=>
 .ret (aB c 0) [])
 (.cons (λc=>
 .ret (.b true) [])
 .nil)))
def zR(p:List D):Sh:=
 .ask (aT (gI p 2) (gI p 1))
 (.ask (aA (gI p 2) (List.length (gS p 0)))
 (.ask ((!((cP 97 (iA (gS p 0) (gI p 2)))&&(cP (iA (gS p 0) (gI p 2)) 122)))&&((aD (gI p 2) 0)||((!(aD (iA (gS p 0) (gI p 2)) 95))&&((aT (iA (gS p 0) (gI p 2)) 48)||(aT 57 (iA (gS p 0) (gI p 2)))))))
 (.out (0,[.b false]))
 (.again [aS p 0,aI p 1,.i (aG .i64 (gI p 2) 1)]))
 (.bad))
 (.out (1,[]))
def MK(x:List D):Sh:=
 .ask ((cP 0 (iX (gD x 0) 4))&&((aD (iX (gD x 0) 4) (iX (gD x 0) 4))&&(iP (Int.toNat (iX (gD x 0) 4)) 24)))
 (.loop 0 [.i (iX (gD x 0) 4),.i 0,.s (D.toS (D.fld (gD x 0) 0)),.b (vB (gD x 0) 1),.l (eX (gD x 0) 2),.i (vI (gD x 0) 3),.l (eX (gD x 0) 4),.l (List.replicate (nX (gD x 0) 4) (D.l []))] (.cons (λc=>
 .ret (aL c 0) [])
 .nil))
 (.bad)
def rM(p:List D):Sh:=
 .ask (aT (gI p 1) (gI p 0))
 (.call GE [.l [aS p 2,aB p 3,aL p 4,aI p 5,aL p 6],aI p 1] 0 λd _=>
 .loop 2 [aI p 0,.i 0,aI p 1,.i (iE d),aI p 1,aS p 2,aB p 3,aL p 4,aI p 5,aL p 6,aL p 7,.l (D.els d)] (.cons (λc=>
 .again [aI c 0,.i (aG .i64 (gI c 1) 1),aS c 2,aB c 3,aL c 4,aI c 5,aL c 6,aL c 7])
 .nil))
 (.out (0,[aL p 7]))
def rN(p:List D):Sh:=
 .ask (aT (gI p 1) (gI p 3))
 (.ask (aA (gI p 1) (List.length (gL p 11)))
 (.ask (aA (D.toI (gD (gL p 11) (tI p 1))) (List.length (gL p 10)))
 (.ask (iP ((nE (gD (gL p 10) (Int.toNat (D.toI (gD (gL p 11) (tI p 1))))))+1) 8)
 (.ask (aA (D.toI (gD (gL p 11) (tI p 1))) (List.length (gL p 10)))
 (.ask ((Nat.beq (Int.toNat (D.toI (gD (gL p 11) (tI p 1)))) (Int.toNat (D.toI (gD (gL p 11) (tI p 1)))))&&true)
 (.again [aI p 0,.i (aG .i64 (gI p 1) 1),aI p 2,aI p 3,aI p 4,aS p 5,aB p 6,aL p 7,aI p 8,aL p 9,.l (List.set (gL p 10) (Int.toNat (D.toI (gD (gL p 11) (tI p 1)))) (D.l ((D.els (gD (gL p 10) (Int.toNat (D.toI (gD (gL p 11) (tI p 1))))))++[aI p 2]))),aL p 11])
 (.bad))
 (.bad))
 (.bad))
 (.bad))
 (.bad))
 (.out (0,[aI p 0,aI p 4,aS p 5,aB p 6,aL p 7,aI p 8,aL p 9,aL p 10]))
def ML(x:List D):Sh:=
 .ask (aD (vI (gD x 3) 0) 16)
 (.ask ((aD (vI (gD x 3) 1) 2)&&true)
 (.call YS [.l (D.els (gD x 2)),.l (eX (gD x 3) 5),.i 2] 0 λc _=>
 .ret (.b ((aD (vI (gD x 3) 1) 2)&&(D.toB c))) [])
 (.ret (.b ((aD (vI (gD x 3) 1) 2)&&(D.toB (.i 0)))) []))
 (.ask (aD (vI (gD x 3) 0) 17)
 (.call uL [.l (D.els (gD x 2)),.l (eX (gD x 3) 5),.l [.i 2,.i (vI (gD x 3) 1),.i (vI (gD x 3) 1)]] 0 λc _=>
 .ret (.b (D.toB c)) [])
 (.ask (aD (vI (gD x 3) 0) 19)
 (.ask ((aD (vI (gD x 3) 1) 3)&&true)
 (.call uL [.l (D.els (gD x 2)),.l (eX (gD x 3) 5),.l [.i 3,.i 1]] 0 λc _=>
 .ret (.b ((aD (vI (gD x 3) 1) 3)&&(D.toB c))) [])
 (.ret (.b ((aD (vI (gD x 3) 1) 3)&&(D.toB (.i 0)))) []))
 (.ask (aD (vI (gD x 3) 0) 20)
 (.ask ((aD (vI (gD x 3) 1) 1)&&true)
 (.call uL [.l (D.els (gD x 2)),.l (eX (gD x 3) 5),.l [.i 3]] 0 λc _=>
 .ret (.b ((aD (vI (gD x 3) 1) 1)&&(D.toB c))) [])
 (.ret (.b ((aD (vI (gD x 3) 1) 1)&&(D.toB (.i 0)))) []))
 (.ask (aD (vI (gD x 3) 0) 21)
 (.call uL [.l (D.els (gD x 2)),.l (eX (gD x 3) 5),.l [.i 3,.i 1]] 0 λc _=>
 .ret (.b (D.toB c)) [])
 (.ask (aD (vI (gD x 3) 0) 24)
 (.ask ((aD (vI (gD x 3) 1) 4)&&true)
 (.call uL [.l (D.els (gD x 2)),.l (eX (gD x 3) 5),.l [.i 1]] 0 λc _=>
 .ret (.b ((aD (vI (gD x 3) 1) 4)&&(D.toB c))) [])
 (.ret (.b ((aD (vI (gD x 3) 1) 4)&&(D.toB (.i 0)))) []))
 (.ask (aD (vI (gD x 3) 0) 25)
 (.ask (aA 0 (nX (gD x 3) 5))
 (.ask (aA (D.toI (gD (eX (gD x 3) 5) 0)) (nE (gD x 2)))
 (.ret (.b ((aD (D.toI (gE (gD x 2) (Int.toNat (D.toI (gD (eX (gD x 3) 5) 0))))) 4)&&(!(aD (vI (gD x 3) 1) 3)))) [])
 (.bad))
 (.bad))
 (.ask (aD (vI (gD x 3) 0) 22)
 (.ask (aA (vI (gD x 3) 3) (nX (gD x 0) 3))
 (.ask ((aD (vI (gD x 3) 1) (vI (gD (eX (gD x 0) 3) (Int.toNat (vI (gD x 3) 3))) 3))&&true)
 (.call uL [.l (D.els (gD x 2)),.l (eX (gD x 3) 5),.l (eX (gD (eX (gD x 0) 3) (Int.toNat (vI (gD x 3) 3))) 2)] 0 λc _=>
 .ret (.b ((aD (vI (gD x 3) 1) (vI (gD (eX (gD x 0) 3) (Int.toNat (vI (gD x 3) 3))) 3))&&(D.toB c))) [])
 (.ret (.b ((aD (vI (gD x 3) 1) (vI (gD (eX (gD x 0) 3) (Int.toNat (vI (gD x 3) 3))) 3))&&(D.toB (.i 0)))) []))
 (.bad))
 (.ask (aD (vI (gD x 3) 0) 23)
 (.ask (aA (vI (gD x 3) 3) (nX (gD x 0) 0))
 (.ask ((aD (vI (gD x 3) 1) (vI (gD (eX (gD x 0) 0) (Int.toNat (vI (gD x 3) 3))) 2))&&true)
 (.call uL [.l (D.els (gD x 2)),.l (eX (gD x 3) 5),.l (eX (gD (eX (gD x 0) 0) (Int.toNat (vI (gD x 3) 3))) 1)] 0 λc _=>
 .ret (.b ((aD (vI (gD x 3) 1) (vI (gD (eX (gD x 0) 0) (Int.toNat (vI (gD x 3) 3))) 2))&&(D.toB c))) [])
 (.ret (.b ((aD (vI (gD x 3) 1) (vI (gD (eX (gD x 0) 0) (Int.toNat (vI (gD x 3) 3))) 2))&&(D.toB (.i 0)))) []))
 (.bad))
 (.ask (aD (vI (gD x 3) 0) 26)
 (.call YS [.l (D.els (gD x 2)),.l (eX (gD x 3) 5),.i (vI (gD x 3) 1)] 0 λc _=>
 .ret (.b (D.toB c)) [])
 (.ask (aD (vI (gD x 3) 0) 28)
 (.call uL [.l (D.els (gD x 2)),.l (eX (gD x 3) 5),.l [.i 2]] 0 λc _=>
 .ret (.b (D.toB c)) [])
 (.ask (aD (vI (gD x 3) 0) 29)
 (.ask (aD (vI (gD x 1) 3) 0)
 (.ret (.b (aD (iX (gD x 3) 5) 0)) [])
 (.call uL [.l (D.els (gD x 2)),.l (eX (gD x 3) 5),.l [.i (vI (gD x 1) 3)]] 0 λc _=>
 .ret (.b (D.toB c)) []))
 (.ret (.b true) []))))))))))))
def MM(x:List D):Sh:=
 .ask ((aD (vI (gD x 3) 1) 2)&&true)
 (.call YS [.l (D.els (gD x 2)),.l (eX (gD x 3) 5),.i 1] 0 λc _=>
 .ret (.b ((aD (vI (gD x 3) 1) 2)&&(D.toB c))) [])
 (.ret (.b ((aD (vI (gD x 3) 1) 2)&&(D.toB (.i 0)))) [])
def gA(x:List D):Sh:=
 .ask (aD (vI (gD x 3) 0) 14)
 (.ask (aD (vI (gD x 3) 0) 14)
 (MM x)
 (ML x))
 (.ask (aD (vI (gD x 3) 0) 15)
 (MM x)
 (ML x))
def gC(x:List D):Sh:=
 .ask ((aD (vI (gD x 3) 1) 1)&&true)
 (.call YS [.l (D.els (gD x 2)),.l (eX (gD x 3) 5),.i 1] 0 λc _=>
 .ret (.b ((aD (vI (gD x 3) 1) 1)&&(D.toB c))) [])
 (.ret (.b ((aD (vI (gD x 3) 1) 1)&&(D.toB (.i 0)))) [])
def MN(x:List D):Sh:=
 .ask (aD (vI (gD x 3) 0) 4)
 (.ask (aD (vI (gD x 3) 0) 4)
 (gC x)
 (gA x))
 (.ask (aD (vI (gD x 3) 0) 5)
 (.ask (aD (vI (gD x 3) 0) 5)
 (gC x)
 (gA x))
 (.ask (aD (vI (gD x 3) 0) 6)
 (.ask (aD (vI (gD x 3) 0) 6)
 (gC x)
 (gA x))
 (.ask (aD (vI (gD x 3) 0) 7)
 (.ask (aD (vI (gD x 3) 0) 7)
 (gC x)
 (gA x))
 (.ask (aD (vI (gD x 3) 0) 8)
 (.ask (aD (vI (gD x 3) 0) 8)
 (gC x)
 (gA x))
 (.ask (aD (vI (gD x 3) 0) 9)
 (.ask (aD (vI (gD x 3) 0) 9)
 (gC x)
 (gA x))
 (.ask (aD (vI (gD x 3) 0) 10)
 (.ask (aD (vI (gD x 3) 0) 10)
 (gC x)
 (gA x))
 (.ask (aD (vI (gD x 3) 0) 11)
 (.ask (aD (vI (gD x 3) 0) 11)
 (gC x)
 (gA x))
 (.ask (aD (vI (gD x 3) 0) 12)
 (.ask (aD (vI (gD x 3) 0) 12)
 (gC x)
 (gA x))
 (.ask (aD (vI (gD x 3) 0) 13)
 (gC x)
 (gA x))))))))))
def VU(x:List D):Sh:=
 .ask (aD (vI (gD x 3) 0) 1)
 (.ret (.b ((aD (vI (gD x 3) 1) 1)||((aD (vI (gD x 3) 1) 2)&&((aD (vI (gD x 3) 4) 0)||(aD (vI (gD x 3) 4) 1))))) [])
 (.ask (aD (vI (gD x 3) 0) 2)
 (.ret (.b (aD (vI (gD x 3) 1) 4)) [])
 (.ask (aD (vI (gD x 3) 0) 3)
 (.ask (aD (vI (gD x 3) 0) 3)
 (.ret (.b (aD (vI (gD x 3) 1) 3)) [])
 (MN x))
 (.ask (aD (vI (gD x 3) 0) 18)
 (.ret (.b (aD (vI (gD x 3) 1) 3)) [])
 (MN x))))
def ZD(x:List D):Sh:=
 .ask ((!(!((aT (D.toI (gD x 1)) 0)||(cP (iX (gD x 0) 4) (D.toI (gD x 1))))))||(aA (D.toI (gD x 1)) (nX (gD x 0) 4)))
 (.ask (((aT (D.toI (gD x 1)) 0)||(cP (iX (gD x 0) 4) (D.toI (gD x 1))))||(aD (iE (gD (eX (gD x 0) 4) (Int.toNat (D.toI (gD x 1))))) 0))
 (.ret (.l [.l [.i 0,.i 0,.i 0,.i 0,.i 0,.l [],.l []],.b false]) [])
 (.ask (aA (D.toI (gD x 1)) (nX (gD x 0) 4))
 (.ask (aA (bC .i64 ((iE (gD (eX (gD x 0) 4) (Int.toNat (D.toI (gD x 1)))))-1)) (nE (gD (eX (gD x 0) 4) (Int.toNat (D.toI (gD x 1))))))
 (let z0:=gE (gD (eX (gD x 0) 4) (Int.toNat (D.toI (gD x 1)))) (Int.toNat (bC .i64 ((iE (gD (eX (gD x 0) 4) (Int.toNat (D.toI (gD x 1)))))-1)));.ret (D.l [D.l [D.i (vI z0 0),D.i (vI z0 1),D.i (vI z0 2),D.i (vI z0 3),D.i (vI z0 4),D.l (eX z0 5),D.l (eX z0 6)],D.b true]) [])
 (.bad))
 (.bad)))
 (.bad)
def FN(x:List D):Sh:=
 .ask ((cP 0 (iX (gD x 0) 4))&&((aD (iX (gD x 0) 4) (iX (gD x 0) 4))&&(iP (Int.toNat (iX (gD x 0) 4)) 8)))
 (.ask (aT 0 (iX (gD x 0) 4))
 (.call jP [.l [.s (D.toS (D.fld (gD x 0) 0)),.b (vB (gD x 0) 1),.l (eX (gD x 0) 2),.i (vI (gD x 0) 3),.l (eX (gD x 0) 4),.l (List.replicate (nX (gD x 0) 4) (D.i 0)),.l [],.b false],.i 0] 1 λd c=>
 .ret (.l [.l [.s (D.toS (D.fld (gD c 0) 0)),.b (vB (gD c 0) 1),.l (eX (gD c 0) 2),.i (vI (gD c 0) 3),.l (eX (gD c 0) 4),.l (eX (gD c 0) 5),.l (eX (gD c 0) 6),.b (vB (gD c 0) 7)]]) [])
 (.ret (.l [.l [.s (D.toS (D.fld (gD x 0) 0)),.b (vB (gD x 0) 1),.l (eX (gD x 0) 2),.i (vI (gD x 0) 3),.l (eX (gD x 0) 4),.l (List.replicate (nX (gD x 0) 4) (D.i 0)),.l [],.b false]]) []))
 (.bad)
def Io(x:List D):Sh:=
 .loop 0 [.l (D.els (gD x 0)),.i 0,.l (D.els (gD x 1)),.i (D.toI (gD x 2)),.i (iE (gD x 1))] (.cons (λc=>
 .ret (aB c 0) [])
 (.cons (λc=>
 .ret (.b true) [])
 .nil))
def CW(p:List D):Sh:=
 .ask (aT (gI p 1) (gI p 4))
 (.ask (aA (gI p 1) (List.length (gL p 2)))
 (.ask (aA (D.toI (gD (gL p 2) (tI p 1))) (List.length (gL p 0)))
 (.ask (!(aD (D.toI (gD (gL p 0) (Int.toNat (D.toI (gD (gL p 2) (tI p 1)))))) (gI p 3)))
 (.out (0,[.b false]))
 (.again [aL p 0,.i (aG .i64 (gI p 1) 1),aL p 2,aI p 3,aI p 4]))
 (.bad))
 (.bad))
 (.out (1,[]))
def lF(x:List D):Sh:=
 .call pE [.l (D.els (gD x 0)),.i (D.toI (gD x 1))] 0 λc _=>
 .ret (.b (cP 0 (D.toI c))) []
def MO(x:List D):Sh:=
 .call OF [.l [.s (D.toS (D.fld (gD x 0) 0)),.b (vB (gD x 0) 1),.l (eX (gD x 0) 2),.i (vI (gD x 0) 3),.l (eX (gD x 0) 4)]] 0 λd _=>
 .ask ((cP 0 (aG .i64 (D.toI d) 1))&&((aD (aG .i64 (D.toI d) 1) (aG .i64 (D.toI d) 1))&&(iP (Int.toNat (aG .i64 (D.toI d) 1)) 24)))
 (.loop 0 [.i 1,.s (D.toS (D.fld (gD x 0) 0)),.b (vB (gD x 0) 1),.l (eX (gD x 0) 2),.i (vI (gD x 0) 3),.l (eX (gD x 0) 4),.l (List.replicate (Int.toNat (aG .i64 (D.toI d) 1)) (D.l []))] (.cons (λc=>
 .loop 2 [.b true,aS c 0,aB c 1,aL c 2,aI c 3,aL c 4,aL c 5] (.cons (λe=>
 .ret (aL e 0) [])
 .nil))
 .nil))
 (.bad)
def rO(p:List D):Sh:=
 .ask (cP (gI p 0) (iL (gL p 3)))
 (.ask (aA (bC .i64 ((gI p 0)-1)) (List.length (gL p 3)))
 (.ask (aD (D.toI (gD (gL p 3) (Int.toNat (bC .i64 ((gI p 0)-1))))) 3)
 (.ask (aA (gI p 0) (List.length (gL p 6)))
 (.again [.i (aG .i64 (gI p 0) 1),aS p 1,aB p 2,aL p 3,aI p 4,aL p 5,.l (List.set (gL p 6) (tI p 0) (D.l [.l [.i 1,aI p 0]]))])
 (.bad))
 (.again [.i (aG .i64 (gI p 0) 1),aS p 1,aB p 2,aL p 3,aI p 4,aL p 5,aL p 6]))
 (.bad))
 (.out (0,[aS p 1,aB p 2,aL p 3,aI p 4,aL p 5,aL p 6]))
def rP(p:List D):Sh:=
 .ask (gB p 0)
 (.loop 4 [.b false,.i 0,aS p 1,aB p 2,aL p 3,aI p 4,aL p 5,aL p 6] (.cons (λc=>
 .again [aB c 0,aS c 1,aB c 2,aL c 3,aI c 4,aL c 5,aL c 6])
 .nil))
 (.out (0,[aL p 6]))
def rQ(p:List D):Sh:=
 .ask (aT (gI p 1) (iL (gL p 6)))
 (.loop 6 [.i 0,aB p 0,aI p 1,aS p 2,aB p 3,aL p 4,aI p 5,aL p 6,aL p 7] (.cons (λc=>
 .again [aB c 0,.i (aG .i64 (gI c 1) 1),aS c 2,aB c 3,aL c 4,aI c 5,aL c 6,aL c 7])
 .nil))
 (.out (0,[aB p 0,aS p 2,aB p 3,aL p 4,aI p 5,aL p 6,aL p 7]))
def iY(p:List D):Sh:=
 .ask (aA (gI p 2) (List.length (gL p 7)))
 (.ask (aT (gI p 0) (iE (gD (gL p 7) (tI p 2))))
 (.ask (aA (gI p 2) (List.length (gL p 7)))
 (.ask (aA (gI p 0) (nE (gD (gL p 7) (tI p 2))))
 (.ask (!(aD (vI (gE (gD (gL p 7) (tI p 2)) (tI p 0)) 1) 3))
 (.again [.i (aG .i64 (gI p 0) 1),aB p 1,aI p 2,aS p 3,aB p 4,aL p 5,aI p 6,aL p 7,aL p 8])
 (.ask (aA (vI (gE (gD (gL p 7) (tI p 2)) (tI p 0)) 2) (List.length (gL p 8)))
 (.ask (aD (vI (gE (gD (gL p 7) (tI p 2)) (tI p 0)) 0) 18)
 (.ask (aA (vI (gE (gD (gL p 7) (tI p 2)) (tI p 0)) 2) (List.length (gL p 8)))
 (.ask ((!(!(gB p 1)))||(aA (vI (gE (gD (gL p 7) (tI p 2)) (tI p 0)) 2) (List.length (List.set (gL p 8) (Int.toNat (vI (gE (gD (gL p 7) (tI p 2)) (tI p 0)) 2)) (D.l [.l [.i 2,.i (vI (gE (gD (gL p 7) (tI p 2)) (tI p 0)) 2)]])))))
 (.again (let z0:=Int.toNat (vI (gE (gD (gL p 7) (tI p 2)) (tI p 0)) 2);let d:=List.set (gL p 8) z0 (D.l [D.l [D.i 2,D.i (vI (gE (gD (gL p 7) (tI p 2)) (tI p 0)) 2)]]);[.i (aG .i64 (gI p 0) 1),.b ((gB p 1)||(!(aD (iE (gD d z0)) (iE (gD (gL p 8) z0))))),aI p 2,aS p 3,aB p 4,aL p 5,aI p 6,aL p 7,.l d]))
 (.bad))
 (.bad))
 (.ask (aD (vI (gE (gD (gL p 7) (tI p 2)) (tI p 0)) 0) 3)
 (.ask (aA (vI (gE (gD (gL p 7) (tI p 2)) (tI p 0)) 2) (List.length (gL p 8)))
 (.ask ((!(!(gB p 1)))||(aA (vI (gE (gD (gL p 7) (tI p 2)) (tI p 0)) 2) (List.length (List.set (gL p 8) (Int.toNat (vI (gE (gD (gL p 7) (tI p 2)) (tI p 0)) 2)) (D.l [.l [.i 3,.i (vI (gE (gD (gL p 7) (tI p 2)) (tI p 0)) 3)]])))))
 (.again (let z0:=Int.toNat (vI (gE (gD (gL p 7) (tI p 2)) (tI p 0)) 2);let d:=List.set (gL p 8) z0 (D.l [D.l [D.i 3,D.i (vI (gE (gD (gL p 7) (tI p 2)) (tI p 0)) 3)]]);[.i (aG .i64 (gI p 0) 1),.b ((gB p 1)||(!(aD (iE (gD d z0)) (iE (gD (gL p 8) z0))))),aI p 2,aS p 3,aB p 4,aL p 5,aI p 6,aL p 7,.l d]))
 (.bad))
 (.bad))
 (.ask (aD (vI (gE (gD (gL p 7) (tI p 2)) (tI p 0)) 0) 19)
 (.ask (aA (vI (gE (gD (gL p 7) (tI p 2)) (tI p 0)) 2) (List.length (gL p 8)))
 (.ask (aA 0 (nX (gE (gD (gL p 7) (tI p 2)) (tI p 0)) 5))
 (.ask (aA (D.toI (gD (eX (gE (gD (gL p 7) (tI p 2)) (tI p 0)) 5) 0)) (List.length (gL p 8)))
 (.call CQ [.l (D.els (gD (gL p 8) (Int.toNat (vI (gE (gD (gL p 7) (tI p 2)) (tI p 0)) 2)))),.l (D.els (gD (gL p 8) (Int.toNat (D.toI (gD (eX (gE (gD (gL p 7) (tI p 2)) (tI p 0)) 5) 0)))))] 0 λe _=>
 .ask (aA (vI (gE (gD (gL p 7) (tI p 2)) (tI p 0)) 2) (List.length (gL p 8)))
 (.ask ((!(!(gB p 1)))||(aA (vI (gE (gD (gL p 7) (tI p 2)) (tI p 0)) 2) (List.length (List.set (gL p 8) (Int.toNat (vI (gE (gD (gL p 7) (tI p 2)) (tI p 0)) 2)) (D.l (D.els e))))))
 (.again (let z0:=Int.toNat (vI (gE (gD (gL p 7) (tI p 2)) (tI p 0)) 2);let d:=List.set (gL p 8) z0 (D.l (D.els e));[.i (aG .i64 (gI p 0) 1),.b ((gB p 1)||(!(aD (iE (gD d z0)) (iE (gD (gL p 8) z0))))),aI p 2,aS p 3,aB p 4,aL p 5,aI p 6,aL p 7,.l d]))
 (.bad))
 (.bad))
 (.bad))
 (.bad))
 (.bad))
 (.ask (aD (vI (gE (gD (gL p 7) (tI p 2)) (tI p 0)) 0) 17)
 (.ask (aA (vI (gE (gD (gL p 7) (tI p 2)) (tI p 0)) 2) (List.length (gL p 8)))
 (.ask (aA 1 (nX (gE (gD (gL p 7) (tI p 2)) (tI p 0)) 5))
 (.ask (aA (D.toI (gD (eX (gE (gD (gL p 7) (tI p 2)) (tI p 0)) 5) 1)) (List.length (gL p 8)))
 (.ask (aA 2 (nX (gE (gD (gL p 7) (tI p 2)) (tI p 0)) 5))
 (.ask (aA (D.toI (gD (eX (gE (gD (gL p 7) (tI p 2)) (tI p 0)) 5) 2)) (List.length (gL p 8)))
 (.call CQ [.l (D.els (gD (gL p 8) (Int.toNat (vI (gE (gD (gL p 7) (tI p 2)) (tI p 0)) 2)))),.l (D.els (gD (gL p 8) (Int.toNat (D.toI (gD (eX (gE (gD (gL p 7) (tI p 2)) (tI p 0)) 5) 1)))))] 0 λe _=>
 .call CQ [.l (D.els e),.l (D.els (gD (gL p 8) (Int.toNat (D.toI (gD (eX (gE (gD (gL p 7) (tI p 2)) (tI p 0)) 5) 2)))))] 0 λf _=>
 .ask (aA (vI (gE (gD (gL p 7) (tI p 2)) (tI p 0)) 2) (List.length (gL p 8)))
 (.ask ((!(!(gB p 1)))||(aA (vI (gE (gD (gL p 7) (tI p 2)) (tI p 0)) 2) (List.length (List.set (gL p 8) (Int.toNat (vI (gE (gD (gL p 7) (tI p 2)) (tI p 0)) 2)) (D.l (D.els f))))))
 (.again (let z0:=Int.toNat (vI (gE (gD (gL p 7) (tI p 2)) (tI p 0)) 2);let d:=List.set (gL p 8) z0 (D.l (D.els f));[.i (aG .i64 (gI p 0) 1),.b ((gB p 1)||(!(aD (iE (gD d z0)) (iE (gD (gL p 8) z0))))),aI p 2,aS p 3,aB p 4,aL p 5,aI p 6,aL p 7,.l d]))
 (.bad))
 (.bad))
 (.bad))
 (.bad))
 (.bad))
 (.bad))
 (.bad))
 (.ask (aD (vI (gE (gD (gL p 7) (tI p 2)) (tI p 0)) 0) 26)
 (.loop 9 [aI p 0,aB p 1,.i (iE (gD (gL p 8) (Int.toNat (vI (gE (gD (gL p 7) (tI p 2)) (tI p 0)) 2)))),aI p 2,.i 0,aS p 3,aB p 4,aL p 5,aI p 6,aL p 7,.i (vI (gE (gD (gL p 7) (tI p 2)) (tI p 0)) 0),.i (vI (gE (gD (gL p 7) (tI p 2)) (tI p 0)) 1),.i (vI (gE (gD (gL p 7) (tI p 2)) (tI p 0)) 2),.i (vI (gE (gD (gL p 7) (tI p 2)) (tI p 0)) 3),.i (vI (gE (gD (gL p 7) (tI p 2)) (tI p 0)) 4),.l (eX (gE (gD (gL p 7) (tI p 2)) (tI p 0)) 5),.l (eX (gE (gD (gL p 7) (tI p 2)) (tI p 0)) 6),aL p 8] (.cons (λc=>
 .ask ((!(!(gB c 1)))||(aA (gI c 11) (List.length (gL c 16))))
 (.again [.i (aG .i64 (gI c 0) 1),.b ((gB c 1)||(!(aD (iE (gD (gL c 16) (tI c 11))) (gI c 2)))),aI c 3,aS c 4,aB c 5,aL c 6,aI c 7,aL c 8,aL c 16])
 (.bad))
 .nil))
 (.ask ((!(!(gB p 1)))||(aA (vI (gE (gD (gL p 7) (tI p 2)) (tI p 0)) 2) (List.length (gL p 8))))
 (.again [.i (aG .i64 (gI p 0) 1),.b ((gB p 1)||(!(aD (iE (gD (gL p 8) (Int.toNat (vI (gE (gD (gL p 7) (tI p 2)) (tI p 0)) 2)))) (iE (gD (gL p 8) (Int.toNat (vI (gE (gD (gL p 7) (tI p 2)) (tI p 0)) 2))))))),aI p 2,aS p 3,aB p 4,aL p 5,aI p 6,aL p 7,aL p 8])
 (.bad)))))))
 (.bad)))
 (.bad))
 (.bad))
 (.out (0,[aB p 1,aI p 2,aS p 3,aB p 4,aL p 5,aI p 6,aL p 7,aL p 8])))
 (.bad)
def rR(p:List D):Sh:=
 .ask (aT (gI p 4) (iL (gL p 15)))
 (.ask (aA (gI p 12) (List.length (gL p 17)))
 (.ask (aA (gI p 4) (List.length (gL p 15)))
 (.ask (aA (D.toI (gD (gL p 15) (tI p 4))) (List.length (gL p 17)))
 (.call CQ [.l (D.els (gD (gL p 17) (tI p 12))),.l (D.els (gD (gL p 17) (Int.toNat (D.toI (gD (gL p 15) (tI p 4))))))] 0 λc _=>
 .ask (aA (gI p 12) (List.length (gL p 17)))
 (.again [aI p 0,aB p 1,aI p 2,aI p 3,.i (aG .i64 (gI p 4) 1),aS p 5,aB p 6,aL p 7,aI p 8,aL p 9,aI p 10,aI p 11,aI p 12,aI p 13,aI p 14,aL p 15,aL p 16,.l (List.set (gL p 17) (tI p 12) (D.l (D.els c)))])
 (.bad))
 (.bad))
 (.bad))
 (.bad))
 (.out (0,[aI p 0,aB p 1,aI p 2,aI p 3,aS p 5,aB p 6,aL p 7,aI p 8,aL p 9,aI p 10,aI p 11,aI p 12,aI p 13,aI p 14,aL p 15,aL p 16,aL p 17]))
def H4(x:List D):Sh:=
 .call CR [.l [.l (eX (gD x 0) 0),.l (eX (gD x 0) 1),.l (eX (gD x 0) 2),.l (eX (gD x 0) 3)],.i (D.toI (gD x 1))] 0 λc _=>
 .ask (Hj (D.els c))
 (.ask true
 (.ret (.l []) [])
 (.bad))
 (.ask false
 (.ret (.l []) [])
 (.ask (aA (D.toI (gD x 1)) (nX (YG (D.els c)) 5))
 (.ret (.l (eX (gD (eX (YG (D.els c)) 5) (Int.toNat (D.toI (gD x 1)))) 2)) [])
 (.bad)))
def SF(x:List D):Sh:=
 .call YN [.l [.l (eX (gD x 0) 0),.l (eX (gD x 0) 1),.l (eX (gD x 0) 2),.l (eX (gD x 0) 3)]] 0 λf _=>
 .ask (!(D.toB f))
 (.ret (.i 2) [])
 (.call Ia [.l [.l (eX (gD x 0) 0),.l (eX (gD x 0) 1),.l (eX (gD x 0) 2),.l (eX (gD x 0) 3)]] 0 λg _=>
 .ask (!(D.toB g))
 (.ret (.i 1) [])
 (.call Ib [.l [.l (eX (gD x 0) 0),.l (eX (gD x 0) 1),.l (eX (gD x 0) 2),.l (eX (gD x 0) 3)]] 0 λh _=>
 .ask (!(D.toB h))
 (.ret (.i 3) [])
 (.call Sd [.l [.l (eX (gD x 0) 0),.l (eX (gD x 0) 1),.l (eX (gD x 0) 2),.l (eX (gD x 0) 3)]] 0 λj _=>
 .ask (!(D.toB j))
 (.ret (.i 4) [])
 (.loop 0 [.i 0,.l (eX (gD x 0) 0),.l (eX (gD x 0) 1),.l (eX (gD x 0) 2),.l (eX (gD x 0) 3)] (.cons (λc=>
 .ret (aI c 0) [])
 (.cons (λc=>
 .loop 2 [.i 0,aL c 0,aL c 1,aL c 2,aL c 3] (.cons (λd=>
 .ret (aI d 0) [])
 (.cons (λd=>
 .loop 4 [.i 0,aL d 0,aL d 1,aL d 2,aL d 3] (.cons (λe=>
 .ret (aI e 0) [])
 (.cons (λe=>
 .ret (.i 0) [])
 .nil)))
 .nil)))
 .nil))))))
def wH(p:List D):Sh:=
 .ask (aT (gI p 0) (iL (gL p 4)))
 (.ask (aA (gI p 0) (List.length (gL p 4)))
 (.call Ic [.l [.s (D.toS (D.fld (gD (gL p 4) (tI p 0)) 0)),.b (vB (gD (gL p 4) (tI p 0)) 1),.l (eX (gD (gL p 4) (tI p 0)) 2),.i (vI (gD (gL p 4) (tI p 0)) 3),.l (eX (gD (gL p 4) (tI p 0)) 4)]] 0 λc _=>
 .ask (!(D.toB c))
 (.out (0,[.i 5,aL p 1,aL p 2,aL p 3,aL p 4]))
 (.again [.i (aG .i64 (gI p 0) 1),aL p 1,aL p 2,aL p 3,aL p 4]))
 (.bad))
 (.out (1,[aL p 1,aL p 2,aL p 3,aL p 4]))
def wI(p:List D):Sh:=
 .ask (aT (gI p 0) (iL (gL p 4)))
 (.ask (aA (gI p 0) (List.length (gL p 4)))
 (.call Se [.l [.s (D.toS (D.fld (gD (gL p 4) (tI p 0)) 0)),.b (vB (gD (gL p 4) (tI p 0)) 1),.l (eX (gD (gL p 4) (tI p 0)) 2),.i (vI (gD (gL p 4) (tI p 0)) 3),.l (eX (gD (gL p 4) (tI p 0)) 4)]] 0 λc _=>
 .ask (!(D.toB c))
 (.out (0,[.i 6,aL p 1,aL p 2,aL p 3,aL p 4]))
 (.again [.i (aG .i64 (gI p 0) 1),aL p 1,aL p 2,aL p 3,aL p 4]))
 (.bad))
 (.out (1,[aL p 1,aL p 2,aL p 3,aL p 4]))
def wJ(p:List D):Sh:=
 .ask (aT (gI p 0) (iL (gL p 4)))
 (.ask (aA (gI p 0) (List.length (gL p 4)))
 (.call Id [.l [aL p 1,aL p 2,aL p 3,aL p 4],.l [.s (D.toS (D.fld (gD (gL p 4) (tI p 0)) 0)),.b (vB (gD (gL p 4) (tI p 0)) 1),.l (eX (gD (gL p 4) (tI p 0)) 2),.i (vI (gD (gL p 4) (tI p 0)) 3),.l (eX (gD (gL p 4) (tI p 0)) 4)]] 0 λc _=>
 .ask (!(D.toB c))
 (.out (0,[.i 7]))
 (.again [.i (aG .i64 (gI p 0) 1),aL p 1,aL p 2,aL p 3,aL p 4]))
 (.bad))
 (.out (1,[]))
def ZE(x:List D):Sh:=
 .loop 0 [.i (D.toI (gD x 1)),.i 0,.s (D.toS (D.fld (gD x 0) 0)),.b (vB (gD x 0) 1),.l (eX (gD x 0) 2),.i (vI (gD x 0) 3),.l (eX (gD x 0) 4),.i 0,.i 0] (.cons (λc=>
 .ret (.l [aI c 0,aI c 1]) [])
 .nil)
def zS(p:List D)(c:D):Sh:=
 .ask (aD (vI (gE (gD (gL p 6) (Int.toNat (vI c 0))) (Int.toNat (vI c 1))) 0) 19)
 (.ask (aA 1 (nX (gE (gD (gL p 6) (Int.toNat (vI c 0))) (Int.toNat (vI c 1))) 5))
 (.call YO [.l [aS p 2,aB p 3,aL p 4,aI p 5,aL p 6],.i (D.toI (gD (eX (gE (gD (gL p 6) (Int.toNat (vI c 0))) (Int.toNat (vI c 1))) 5) 1))] 0 λd _=>
 .ask (!(vB d 1))
 (.out (0,[.i 2,.i 0]))
 (.ask (aA 0 (nX (gE (gD (gL p 6) (Int.toNat (vI c 0))) (Int.toNat (vI c 1))) 5))
 (.again [.i (D.toI (gD (eX (gE (gD (gL p 6) (Int.toNat (vI c 0))) (Int.toNat (vI c 1))) 5) 0)),.i (aG .i64 (gI p 1) (vI d 0)),aS p 2,aB p 3,aL p 4,aI p 5,aL p 6,aI p 7,aI p 8])
 (.bad)))
 (.bad))
 (.out (0,[.i 2,.i 0]))
def jH(p:List D):Sh:=
 .call VQ [.l [aS p 2,aB p 3,aL p 4,aI p 5,aL p 6],aI p 0] 0 λc _=>
 .ask (aT (vI c 0) 0)
 (.out (0,[.i 2,.i 0]))
 (.ask (aA (vI c 0) (List.length (gL p 6)))
 (.ask (aA (vI c 1) (nE (gD (gL p 6) (Int.toNat (vI c 0)))))
 (.ask (aD (vI (gE (gD (gL p 6) (Int.toNat (vI c 0))) (Int.toNat (vI c 1))) 0) 18)
 (.ask (aD (vI (gE (gD (gL p 6) (Int.toNat (vI c 0))) (Int.toNat (vI c 1))) 0) 18)
 (.out (0,[.i 1,aI p 1]))
 (zS p c))
 (.ask (aD (vI (gE (gD (gL p 6) (Int.toNat (vI c 0))) (Int.toNat (vI c 1))) 0) 3)
 (.out (0,[.i 1,aI p 1]))
 (zS p c)))
 (.bad))
 (.bad))
def gV(x:List D):Sh:=
 .ask (Hj (D.els (gD x 0)))
 (.bad)
 (.ask false
 (.ret (.l []) [])
 (.ask (iP (0+(nE (gD x 0))) 16)
 (.ret (.l (D.els (gD x 0))) [])
 (.bad)))
def SG(x:List D):Sh:=
 .loop 0 [.i 0,.l (eX (gD x 0) 0),.l (eX (gD x 0) 1),.l (eX (gD x 0) 2),.l (eX (gD x 0) 3)] (.cons (λc=>
 .ret (aB c 0) [])
 (.cons (λc=>
 .loop 4 [.i 0,aL c 0,aL c 1,aL c 2,aL c 3] (.cons (λd=>
 .ret (aB d 0) [])
 (.cons (λd=>
 .ret (.b true) [])
 .nil)))
 .nil))
def kJ(p:List D):Sh:=
 .ask (aT (gI p 0) (iL (gL p 1)))
 (.ask (aA (gI p 0) (List.length (gL p 1)))
 (.ask ((aT (vI (gD (gL p 1) (tI p 0)) 2) 0)||(aT 2 (vI (gD (gL p 1) (tI p 0)) 2)))
 (.out (0,[.b false,aL p 1,aL p 2,aL p 3,aL p 4]))
 (.loop 2 [aI p 0,.i 0,aL p 1,aL p 2,aL p 3,aL p 4,.s (D.toS (D.fld (gD (gL p 1) (tI p 0)) 0)),.l (eX (gD (gL p 1) (tI p 0)) 1),.i (vI (gD (gL p 1) (tI p 0)) 2)] (.cons (λc=>
 .out (0,[aB c 1,aL c 2,aL c 3,aL c 4,aL c 5]))
 (.cons (λc=>
 .again [.i (aG .i64 (gI c 0) 1),aL c 1,aL c 2,aL c 3,aL c 4])
 .nil))))
 (.bad))
 (.out (1,[aL p 1,aL p 2,aL p 3,aL p 4]))
def oB(p:List D):Sh:=
 .ask (aT (gI p 1) (iL (gL p 7)))
 (.ask (aA (gI p 1) (List.length (gL p 7)))
 (.ask ((!((!(aD (D.toI (gD (gL p 7) (tI p 1))) 1))&&true))||(aA (gI p 1) (List.length (gL p 7))))
 (.ask ((!(aD (D.toI (gD (gL p 7) (tI p 1))) 1))&&(!(aD (D.toI (gD (gL p 7) (tI p 1))) 2)))
 (.out (0,[aI p 0,.b false,aL p 2,aL p 3,aL p 4,aL p 5]))
 (.again [aI p 0,.i (aG .i64 (gI p 1) 1),aL p 2,aL p 3,aL p 4,aL p 5,aS p 6,aL p 7,aI p 8]))
 (.bad))
 (.bad))
 (.out (1,[aI p 0,aL p 2,aL p 3,aL p 4,aL p 5]))
def iF(p:List D):Sh:=
 .ask (aT (gI p 0) (iL (gL p 4)))
 (.ask (aA (gI p 0) (List.length (gL p 4)))
 (.ask ((((aT (vI (gD (gL p 4) (tI p 0)) 3) 0)||(aT 4 (vI (gD (gL p 4) (tI p 0)) 3)))||(aD (vI (gD (gL p 4) (tI p 0)) 3) 3))||((vB (gD (gL p 4) (tI p 0)) 1)&&(aT 2 (vI (gD (gL p 4) (tI p 0)) 3))))
 (.out (0,[.b false]))
 (.loop 6 [.i 0,aI p 0,aL p 1,aL p 2,aL p 3,aL p 4,.s (D.toS (D.fld (gD (gL p 4) (tI p 0)) 0)),.b (vB (gD (gL p 4) (tI p 0)) 1),.l (eX (gD (gL p 4) (tI p 0)) 2),.i (vI (gD (gL p 4) (tI p 0)) 3),.l (eX (gD (gL p 4) (tI p 0)) 4)] (.cons (λc=>
 .out (0,[aB c 0]))
 (.cons (λc=>
 .loop 8 [.i 0,aI c 0,aL c 1,aL c 2,aL c 3,aL c 4,aS c 5,aB c 6,aL c 7,aI c 8,aL c 9] (.cons (λd=>
 .out (0,[aB d 0]))
 (.cons (λd=>
 .again [.i (aG .i64 (gI d 0) 1),aL d 1,aL d 2,aL d 3,aL d 4])
 .nil)))
 .nil))))
 (.bad))
 (.out (1,[]))
def oD(p:List D):Sh:=
 .ask (aT (gI p 0) (iL (gL p 8)))
 (.ask (aA (gI p 0) (List.length (gL p 8)))
 (.ask ((!(!(aT (D.toI (gD (gL p 8) (tI p 0))) 1)))||(aA (gI p 0) (List.length (gL p 8))))
 (.ask ((!((!((aT (D.toI (gD (gL p 8) (tI p 0))) 1)||(aT 4 (D.toI (gD (gL p 8) (tI p 0))))))&&((gB p 7)&&true)))||(aA (gI p 0) (List.length (gL p 8))))
 (.ask (((aT (D.toI (gD (gL p 8) (tI p 0))) 1)||(aT 4 (D.toI (gD (gL p 8) (tI p 0)))))||((gB p 7)&&(aT 2 (D.toI (gD (gL p 8) (tI p 0))))))
 (.out (0,[.b false,aI p 1,aL p 2,aL p 3,aL p 4,aL p 5,aS p 6,aB p 7,aL p 8,aI p 9,aL p 10]))
 (.again [.i (aG .i64 (gI p 0) 1),aI p 1,aL p 2,aL p 3,aL p 4,aL p 5,aS p 6,aB p 7,aL p 8,aI p 9,aL p 10]))
 (.bad))
 (.bad))
 (.bad))
 (.out (1,[aI p 1,aL p 2,aL p 3,aL p 4,aL p 5,aS p 6,aB p 7,aL p 8,aI p 9,aL p 10]))
def oG(p:List D):Sh:=
 .ask (aT (gI p 0) (iL (gL p 10)))
 (.loop 10 [aI p 0,aI p 1,.i 0,aL p 2,aL p 3,aL p 4,aL p 5,aS p 6,aB p 7,aL p 8,aI p 9,aL p 10] (.cons (λc=>
 .out (0,[aB c 1,aI c 2,aL c 3,aL c 4,aL c 5,aL c 6]))
 (.cons (λc=>
 .again [.i (aG .i64 (gI c 0) 1),aI c 1,aL c 2,aL c 3,aL c 4,aL c 5,aS c 6,aB c 7,aL c 8,aI c 9,aL c 10])
 .nil)))
 (.out (1,[aI p 1,aL p 2,aL p 3,aL p 4,aL p 5]))
def mO(p:List D):Sh:=
 .ask (aA (gI p 0) (List.length (gL p 11)))
 (.ask (aT (gI p 2) (iE (gD (gL p 11) (tI p 0))))
 (.ask (aA (gI p 0) (List.length (gL p 11)))
 (.ask (aA (gI p 2) (nE (gD (gL p 11) (tI p 0))))
 (.call Sf [.l [.i (vI (gE (gD (gL p 11) (tI p 0)) (tI p 2)) 0),.i (vI (gE (gD (gL p 11) (tI p 0)) (tI p 2)) 1),.i (vI (gE (gD (gL p 11) (tI p 0)) (tI p 2)) 2),.i (vI (gE (gD (gL p 11) (tI p 0)) (tI p 2)) 3),.i (vI (gE (gD (gL p 11) (tI p 0)) (tI p 2)) 4),.l (eX (gE (gD (gL p 11) (tI p 0)) (tI p 2)) 5),.l (eX (gE (gD (gL p 11) (tI p 0)) (tI p 2)) 6)]] 0 λc _=>
 .ask (!(D.toB c))
 (.out (0,[aI p 0,.b false,aI p 1,aL p 3,aL p 4,aL p 5,aL p 6,aS p 7,aB p 8,aL p 9,aI p 10,aL p 11]))
 (.again [aI p 0,aI p 1,.i (aG .i64 (gI p 2) 1),aL p 3,aL p 4,aL p 5,aL p 6,aS p 7,aB p 8,aL p 9,aI p 10,aL p 11]))
 (.bad))
 (.bad))
 (.out (1,[aI p 0,aI p 1,aL p 3,aL p 4,aL p 5,aL p 6,aS p 7,aB p 8,aL p 9,aI p 10,aL p 11])))
 (.bad)
def ZF(x:List D):Sh:=
 .loop 0 [.i (iX (gD x 0) 2),.i 0,.s (D.toS (D.fld (gD x 0) 0)),.b (vB (gD x 0) 1),.l (eX (gD x 0) 2),.i (vI (gD x 0) 3),.l (eX (gD x 0) 4)] (.cons (λc=>
 .ret (aB c 1) [])
 (.cons (λc=>
 .call Ig [.l [aS c 1,aB c 2,aL c 3,aI c 4,aL c 5]] 0 λe _=>
 .call Si [.l [aS c 1,aB c 2,aL c 3,aI c 4,aL c 5]] 0 λf _=>
 .loop 4 [aI c 0,.i 0,aS c 1,aB c 2,aL c 3,aI c 4,aL c 5,.l (D.els e),.l (D.els f)] (.cons (λd=>
 .ret (aB d 0) [])
 (.cons (λd=>
 .ret (.b true) [])
 .nil)))
 .nil))
def tL(p:List D):Sh:=
 .ask (aT (gI p 1) (iL (gL p 6)))
 (.loop 2 [aI p 0,.i 0,aI p 1,aS p 2,aB p 3,aL p 4,aI p 5,aL p 6] (.cons (λc=>
 .out (0,[aI c 0,aB c 1,aS c 3,aB c 4,aL c 5,aI c 6,aL c 7]))
 (.cons (λc=>
 .again [aI c 0,.i (aG .i64 (gI c 1) 1),aS c 2,aB c 3,aL c 4,aI c 5,aL c 6])
 .nil)))
 (.out (1,[aI p 0,aS p 2,aB p 3,aL p 4,aI p 5,aL p 6]))
def tM(p:List D):Sh:=
 .ask (aA (gI p 2) (List.length (gL p 7)))
 (.ask (aT (gI p 1) (iE (gD (gL p 7) (tI p 2))))
 (.ask (aA (gI p 2) (List.length (gL p 7)))
 (.ask (aA (gI p 1) (nE (gD (gL p 7) (tI p 2))))
 (.ask (!(aD (vI (gE (gD (gL p 7) (tI p 2)) (tI p 1)) 1) 0))
 (.ask (!(aD (vI (gE (gD (gL p 7) (tI p 2)) (tI p 1)) 2) (aG .i64 (gI p 0) 1)))
 (.out (0,[.i (aG .i64 (gI p 0) 1),.b false,aI p 2,aS p 3,aB p 4,aL p 5,aI p 6,aL p 7]))
 (.again [.i (aG .i64 (gI p 0) 1),.i (aG .i64 (gI p 1) 1),aI p 2,aS p 3,aB p 4,aL p 5,aI p 6,aL p 7]))
 (.again [aI p 0,.i (aG .i64 (gI p 1) 1),aI p 2,aS p 3,aB p 4,aL p 5,aI p 6,aL p 7]))
 (.bad))
 (.bad))
 (.out (1,[aI p 0,aI p 2,aS p 3,aB p 4,aL p 5,aI p 6,aL p 7])))
 (.bad)
def zT(p:List D):Sh:=
 .ask (aT (gI p 1) (iL (gL p 6)))
 (.loop 6 [aI p 0,aI p 1,.i 0,aS p 2,aB p 3,aL p 4,aI p 5,aL p 6,aL p 7,aL p 8] (.cons (λc=>
 .out (0,[aB c 2]))
 (.cons (λc=>
 .again [aI c 0,.i (aG .i64 (gI c 1) 1),aS c 2,aB c 3,aL c 4,aI c 5,aL c 6,aL c 7,aL c 8])
 .nil)))
 (.out (1,[]))
def zU(p:List D):Sh:=
 .ask (aA (gI p 1) (List.length (gL p 7)))
 (.ask (aT (gI p 2) (iE (gD (gL p 7) (tI p 1))))
 (.ask (aA (gI p 1) (List.length (gL p 7)))
 (.ask (aA (gI p 2) (nE (gD (gL p 7) (tI p 1))))
 (.loop 8 [aI p 0,aI p 1,.i 0,aI p 2,aS p 3,aB p 4,aL p 5,aI p 6,aL p 7,.i (vI (gE (gD (gL p 7) (tI p 1)) (tI p 2)) 0),.i (vI (gE (gD (gL p 7) (tI p 1)) (tI p 2)) 1),.i (vI (gE (gD (gL p 7) (tI p 1)) (tI p 2)) 2),.i (vI (gE (gD (gL p 7) (tI p 1)) (tI p 2)) 3),.i (vI (gE (gD (gL p 7) (tI p 1)) (tI p 2)) 4),.l (eX (gE (gD (gL p 7) (tI p 1)) (tI p 2)) 5),.l (eX (gE (gD (gL p 7) (tI p 1)) (tI p 2)) 6),aL p 8,aL p 9] (.cons (λc=>
 .out (0,[aI c 0,aI c 1,aB c 2,aS c 4,aB c 5,aL c 6,aI c 7,aL c 8,aL c 9,aL c 10]))
 (.cons (λc=>
 .again [aI c 0,aI c 1,.i (aG .i64 (gI c 2) 1),aS c 3,aB c 4,aL c 5,aI c 6,aL c 7,aL c 8,aL c 9])
 .nil)))
 (.bad))
 (.bad))
 (.out (1,[aI p 0,aI p 1,aS p 3,aB p 4,aL p 5,aI p 6,aL p 7,aL p 8,aL p 9])))
 (.bad)
def zV(p:List D):Sh:=
 .ask (aT (gI p 2) (iL (gL p 14)))
 (.ask (aA (gI p 2) (List.length (gL p 14)))
 (.ask ((aT (D.toI (gD (gL p 14) (tI p 2))) 1)||(aT (gI p 0) (D.toI (gD (gL p 14) (tI p 2)))))
 (.out (0,[aI p 0,aI p 1,.b false,aI p 3,aS p 4,aB p 5,aL p 6,aI p 7,aL p 8,aL p 16,aL p 17]))
 (.ask (aA (D.toI (gD (gL p 14) (tI p 2))) (List.length (gL p 16)))
 (.ask (aA 0 2)
 (.ask (aT (vI (gD (gL p 16) (Int.toNat (D.toI (gD (gL p 14) (tI p 2))))) 0) 0)
 (.again [aI p 0,aI p 1,.i (aG .i64 (gI p 2) 1),aI p 3,aS p 4,aB p 5,aL p 6,aI p 7,aL p 8,aI p 9,aI p 10,aI p 11,aI p 12,aI p 13,aL p 14,aL p 15,aL p 16,aL p 17])
 (.ask (aD (gI p 9) 26)
 (.ask (aA 0 2)
 (.ask (aA (vI (gD (gL p 16) (Int.toNat (D.toI (gD (gL p 14) (tI p 2))))) 0) (List.length (gL p 17)))
 (.ask (aA (gI p 2) (List.length (gL p 15)))
 (.ask (aA (D.toI (gD (gL p 15) (tI p 2))) (nE (gD (gL p 17) (Int.toNat (vI (gD (gL p 16) (Int.toNat (D.toI (gD (gL p 14) (tI p 2))))) 0)))))
 (.ask (!(D.toB (gE (gD (gL p 17) (Int.toNat (vI (gD (gL p 16) (Int.toNat (D.toI (gD (gL p 14) (tI p 2))))) 0))) (Int.toNat (D.toI (gD (gL p 15) (tI p 2)))))))
 (.out (0,[aI p 0,aI p 1,.b false,aI p 3,aS p 4,aB p 5,aL p 6,aI p 7,aL p 8,aL p 16,aL p 17]))
 (.again [aI p 0,aI p 1,.i (aG .i64 (gI p 2) 1),aI p 3,aS p 4,aB p 5,aL p 6,aI p 7,aL p 8,aI p 9,aI p 10,aI p 11,aI p 12,aI p 13,aL p 14,aL p 15,aL p 16,aL p 17]))
 (.bad))
 (.bad))
 (.bad))
 (.bad))
 (.ask (aA 0 2)
 (.ask ((!((aD (vI (gD (gL p 16) (Int.toNat (D.toI (gD (gL p 14) (tI p 2))))) 0) (gI p 1))&&true))||(aA 1 2))
 (.ask ((!(!((aD (vI (gD (gL p 16) (Int.toNat (D.toI (gD (gL p 14) (tI p 2))))) 0) (gI p 1))&&(cP (gI p 3) (vI (gD (gL p 16) (Int.toNat (D.toI (gD (gL p 14) (tI p 2))))) 1)))))||(aA 0 2))
 (.ask ((!((!((aD (vI (gD (gL p 16) (Int.toNat (D.toI (gD (gL p 14) (tI p 2))))) 0) (gI p 1))&&(cP (gI p 3) (vI (gD (gL p 16) (Int.toNat (D.toI (gD (gL p 14) (tI p 2))))) 1))))&&((!(aD (vI (gD (gL p 16) (Int.toNat (D.toI (gD (gL p 14) (tI p 2))))) 0) (gI p 1)))&&true)))||(aA 0 2))
 (.ask ((!((!((aD (vI (gD (gL p 16) (Int.toNat (D.toI (gD (gL p 14) (tI p 2))))) 0) (gI p 1))&&(cP (gI p 3) (vI (gD (gL p 16) (Int.toNat (D.toI (gD (gL p 14) (tI p 2))))) 1))))&&((!(aD (vI (gD (gL p 16) (Int.toNat (D.toI (gD (gL p 14) (tI p 2))))) 0) (gI p 1)))&&true)))||(aA (vI (gD (gL p 16) (Int.toNat (D.toI (gD (gL p 14) (tI p 2))))) 0) (List.length (gL p 17))))
 (.ask ((!((!((aD (vI (gD (gL p 16) (Int.toNat (D.toI (gD (gL p 14) (tI p 2))))) 0) (gI p 1))&&(cP (gI p 3) (vI (gD (gL p 16) (Int.toNat (D.toI (gD (gL p 14) (tI p 2))))) 1))))&&((!(aD (vI (gD (gL p 16) (Int.toNat (D.toI (gD (gL p 14) (tI p 2))))) 0) (gI p 1)))&&true)))||(aA (gI p 1) (nE (gD (gL p 17) (Int.toNat (vI (gD (gL p 16) (Int.toNat (D.toI (gD (gL p 14) (tI p 2))))) 0))))))
 (.ask (((aD (vI (gD (gL p 16) (Int.toNat (D.toI (gD (gL p 14) (tI p 2))))) 0) (gI p 1))&&(cP (gI p 3) (vI (gD (gL p 16) (Int.toNat (D.toI (gD (gL p 14) (tI p 2))))) 1)))||((!(aD (vI (gD (gL p 16) (Int.toNat (D.toI (gD (gL p 14) (tI p 2))))) 0) (gI p 1)))&&(!(D.toB (gE (gD (gL p 17) (Int.toNat (vI (gD (gL p 16) (Int.toNat (D.toI (gD (gL p 14) (tI p 2))))) 0))) (tI p 1))))))
 (.out (0,[aI p 0,aI p 1,.b false,aI p 3,aS p 4,aB p 5,aL p 6,aI p 7,aL p 8,aL p 16,aL p 17]))
 (.again [aI p 0,aI p 1,.i (aG .i64 (gI p 2) 1),aI p 3,aS p 4,aB p 5,aL p 6,aI p 7,aL p 8,aI p 9,aI p 10,aI p 11,aI p 12,aI p 13,aL p 14,aL p 15,aL p 16,aL p 17]))
 (.bad))
 (.bad))
 (.bad))
 (.bad))
 (.bad))
 (.bad))))
 (.bad))
 (.bad)))
 (.bad))
 (.out (1,[aI p 0,aI p 1,aI p 3,aS p 4,aB p 5,aL p 6,aI p 7,aL p 8,aL p 16,aL p 17]))
def SH(x:List D):Sh:=
 .call Ih [.l [.l (eX (gD x 0) 0),.l (eX (gD x 0) 1),.l (eX (gD x 0) 2),.l (eX (gD x 0) 3)]] 0 λf _=>
 .ask (!(D.toB f))
 (.ret (.i 2) [])
 (.call YP [.l [.l (eX (gD x 0) 0),.l (eX (gD x 0) 1),.l (eX (gD x 0) 2),.l (eX (gD x 0) 3)]] 0 λg _=>
 .ask (!(D.toB g))
 (.ret (.i 1) [])
 (.call Ii [.l [.l (eX (gD x 0) 0),.l (eX (gD x 0) 1),.l (eX (gD x 0) 2),.l (eX (gD x 0) 3)]] 0 λh _=>
 .ask (!(D.toB h))
 (.ret (.i 3) [])
 (.call Ij [.l [.l (eX (gD x 0) 0),.l (eX (gD x 0) 1),.l (eX (gD x 0) 2),.l (eX (gD x 0) 3)]] 0 λj _=>
 .ask (!(D.toB j))
 (.ret (.i 4) [])
 (.loop 1 [.i (iX (gD x 0) 3),.i 0,.l (eX (gD x 0) 3),.l (eX (gD x 0) 0),.l (eX (gD x 0) 1),.l (eX (gD x 0) 2),.l (eX (gD x 0) 3)] (.cons (λc=>
 .ret (aI c 0) [])
 (.cons (λc=>
 .loop 3 [.i 0,aL c 3,.i (iL (gL c 3)),aL c 0,aL c 1,aL c 2,aL c 3] (.cons (λd=>
 .ret (aI d 0) [])
 (.cons (λd=>
 .loop 5 [.i (iL (gL d 3)),aL d 3,.i 0,aL d 0,aL d 1,aL d 2,aL d 3] (.cons (λe=>
 .ret (aI e 0) [])
 (.cons (λe=>
 .ret (.i 0) [])
 .nil)))
 .nil)))
 .nil))))))
def wK(p:List D):Sh:=
 .ask (aT (gI p 1) (gI p 0))
 (.ask (aA (gI p 1) (List.length (gL p 2)))
 (.call VS [.l [.s (D.toS (D.fld (gD (gL p 2) (tI p 1)) 0)),.b (vB (gD (gL p 2) (tI p 1)) 1),.l (eX (gD (gL p 2) (tI p 1)) 2),.i (vI (gD (gL p 2) (tI p 1)) 3),.l (eX (gD (gL p 2) (tI p 1)) 4)]] 0 λc _=>
 .ask (!(D.toB c))
 (.out (0,[.i 5,aL p 3,aL p 4,aL p 5,aL p 6]))
 (.again [aI p 0,.i (aG .i64 (gI p 1) 1),aL p 2,aL p 3,aL p 4,aL p 5,aL p 6]))
 (.bad))
 (.out (1,[aL p 3,aL p 4,aL p 5,aL p 6]))
def wL(p:List D):Sh:=
 .ask (aT (gI p 0) (gI p 2))
 (.ask (aA (gI p 0) (List.length (gL p 1)))
 (.call Sj [.l [.s (D.toS (D.fld (gD (gL p 1) (tI p 0)) 0)),.b (vB (gD (gL p 1) (tI p 0)) 1),.l (eX (gD (gL p 1) (tI p 0)) 2),.i (vI (gD (gL p 1) (tI p 0)) 3),.l (eX (gD (gL p 1) (tI p 0)) 4)]] 0 λc _=>
 .ask (!(D.toB c))
 (.out (0,[.i 6,aL p 3,aL p 4,aL p 5,aL p 6]))
 (.again [.i (aG .i64 (gI p 0) 1),aL p 1,aI p 2,aL p 3,aL p 4,aL p 5,aL p 6]))
 (.bad))
 (.out (1,[aL p 3,aL p 4,aL p 5,aL p 6]))
def wM(p:List D):Sh:=
 .ask (aT (gI p 2) (gI p 0))
 (.ask (aA (gI p 2) (List.length (gL p 1)))
 (.call Ik [.l [aL p 3,aL p 4,aL p 5,aL p 6],.l [.s (D.toS (D.fld (gD (gL p 1) (tI p 2)) 0)),.b (vB (gD (gL p 1) (tI p 2)) 1),.l (eX (gD (gL p 1) (tI p 2)) 2),.i (vI (gD (gL p 1) (tI p 2)) 3),.l (eX (gD (gL p 1) (tI p 2)) 4)]] 0 λc _=>
 .ask (!(D.toB c))
 (.out (0,[.i 7]))
 (.again [aI p 0,aL p 1,.i (aG .i64 (gI p 2) 1),aL p 3,aL p 4,aL p 5,aL p 6]))
 (.bad))
 (.out (1,[]))
def SI(x:List D):Sh:=
 .call Ef [.l [.s (D.toS (D.fld (gD x 0) 0)),.b (vB (gD x 0) 1),.l (eX (gD x 0) 2),.i (vI (gD x 0) 3),.l (eX (gD x 0) 4)],.i 0,.i (-1)] 0 λc _=>
 .ret (.l (D.els c)) []
def ZG(x:List D):Sh:=
 .ask ((cP 0 (iX (gD x 0) 4))&&((aD (iX (gD x 0) 4) (iX (gD x 0) 4))&&(iP (Int.toNat (iX (gD x 0) 4)) 24)))
 (.call VR [.l [.s (D.toS (D.fld (gD x 0) 0)),.b (vB (gD x 0) 1),.l (eX (gD x 0) 2),.i (vI (gD x 0) 3),.l (eX (gD x 0) 4)]] 0 λd _=>
 .loop 0 [.i 0,.s (D.toS (D.fld (gD x 0) 0)),.b (vB (gD x 0) 1),.l (eX (gD x 0) 2),.i (vI (gD x 0) 3),.l (eX (gD x 0) 4),.l (List.replicate (nX (gD x 0) 4) (D.l [])),.l (D.els d)] (.cons (λc=>
 .ret (aL c 0) [])
 .nil))
 (.bad)
def zW(p:List D):Sh:=
 .ask (aT (gI p 0) (iL (gL p 6)))
 (.ask ((cP 0 (iL (gL p 7)))&&((aD (iL (gL p 7)) (iL (gL p 7)))&&(iP (Int.toNat (iL (gL p 7))) 1)))
 (.ask (aA (gI p 0) (List.length (gL p 6)))
 (.ask (aA (gI p 0) (List.length (gL p 7)))
 (.ask (!(D.toB (gD (gL p 7) (tI p 0))))
 (.again [.i (aG .i64 (gI p 0) 1),aS p 1,aB p 2,aL p 3,aI p 4,aL p 5,.l (List.set (gL p 6) (tI p 0) (D.l (List.replicate (List.length (gL p 7)) (D.b false)))),aL p 7])
 (.call Ef [.l [aS p 1,aB p 2,aL p 3,aI p 4,aL p 5],.i 0,aI p 0] 0 λd _=>
 .loop 2 [.i 0,aI p 0,aS p 1,aB p 2,aL p 3,aI p 4,aL p 5,.l (List.set (gL p 6) (tI p 0) (D.l (List.replicate (List.length (gL p 7)) (D.b false)))),aL p 7,.l (D.els d)] (.cons (λc=>
 .again [.i (aG .i64 (gI c 0) 1),aS c 1,aB c 2,aL c 3,aI c 4,aL c 5,aL c 6,aL c 7])
 .nil)))
 (.bad))
 (.bad))
 (.bad))
 (.out (0,[aL p 6]))
def zX(p:List D):Sh:=
 .ask (aT (gI p 0) (iL (gL p 8)))
 (.ask (aA (gI p 1) (List.length (gL p 7)))
 (.ask (aA (gI p 0) (List.length (gL p 8)))
 (.ask ((!(((D.toB (gD (gL p 8) (tI p 0)))&&true)&&(!(aD (gI p 1) (gI p 0)))))||(aA (gI p 0) (List.length (gL p 9))))
 (.ask (aA (gI p 0) (nE (gD (gL p 7) (tI p 1))))
 (.again [.i (aG .i64 (gI p 0) 1),aI p 1,aS p 2,aB p 3,aL p 4,aI p 5,aL p 6,.l (List.set (gL p 7) (tI p 1) (D.l (List.set (D.els (gD (gL p 7) (tI p 1))) (tI p 0) (D.b ((D.toB (gD (gL p 8) (tI p 0)))&&((aD (gI p 1) (gI p 0))||(!(D.toB (gD (gL p 9) (tI p 0)))))))))),aL p 8,aL p 9])
 (.bad))
 (.bad))
 (.bad))
 (.bad))
 (.out (0,[aI p 1,aS p 2,aB p 3,aL p 4,aI p 5,aL p 6,aL p 7,aL p 8]))
def SJ(x:List D):Sh:=
 .loop 0 [.i (iX (gD x 0) 0),.l (eX (gD x 0) 0),.i 0,.l (eX (gD x 0) 0),.l (eX (gD x 0) 1),.l (eX (gD x 0) 2),.l (eX (gD x 0) 3),.l []] (.cons (λc=>
 .loop 2 [.i 0,aL c 1,.i (iL (gL c 1)),aL c 0,aL c 1,aL c 2,aL c 3,aL c 4] (.cons (λd=>
 .loop 4 [.i (iL (gL d 2)),.i 0,aL d 2,aL d 0,aL d 1,aL d 2,aL d 3,aL d 4] (.cons (λe=>
 .loop 6 [aL e 3,.i 0,.i (iL (gL e 3)),aL e 4] (.cons (λf=>
 .loop 8 [.i (iL (gL f 0)),.i 0,.l [],aL f 0] (.cons (λg=>
 .ret (aB g 0) [])
 (.cons (λg=>
 .ret (.b true) [])
 .nil)))
 .nil))
 .nil))
 .nil))
 .nil)
def wN(p:List D):Sh:=
 .ask (aT (gI p 2) (gI p 0))
 (.ask (aA (gI p 2) (List.length (gL p 1)))
 (.ask (iP ((List.length (gL p 7))+1) 16)
 (.again [aI p 0,aL p 1,.i (aG .i64 (gI p 2) 1),aL p 3,aL p 4,aL p 5,aL p 6,.l ((gL p 7)++[.s (D.toS (D.fld (gD (gL p 1) (tI p 2)) 0))])])
 (.bad))
 (.bad))
 (.out (0,[aL p 3,aL p 4,aL p 5,aL p 6,aL p 7]))
def wO(p:List D):Sh:=
 .ask (aT (gI p 0) (gI p 2))
 (.ask (aA (gI p 0) (List.length (gL p 1)))
 (.ask (iP ((List.length (gL p 7))+1) 16)
 (.again [.i (aG .i64 (gI p 0) 1),aL p 1,aI p 2,aL p 3,aL p 4,aL p 5,aL p 6,.l ((gL p 7)++[.s (D.toS (D.fld (gD (gL p 1) (tI p 0)) 0))])])
 (.bad))
 (.bad))
 (.out (0,[aL p 3,aL p 4,aL p 5,aL p 6,aL p 7]))
def wP(p:List D):Sh:=
 .ask (aT (gI p 1) (gI p 0))
 (.ask (aA (gI p 1) (List.length (gL p 2)))
 (.ask (iP ((List.length (gL p 7))+1) 16)
 (.again [aI p 0,.i (aG .i64 (gI p 1) 1),aL p 2,aL p 3,aL p 4,aL p 5,aL p 6,.l ((gL p 7)++[.s (D.toS (D.fld (gD (gL p 2) (tI p 1)) 0))])])
 (.bad))
 (.bad))
 (.out (0,[aL p 3,aL p 4,aL p 5,aL p 6,aL p 7]))
def wQ(p:List D):Sh:=
 .ask (aT (gI p 1) (gI p 2))
 (.ask (aA (gI p 1) (List.length (gL p 0)))
 (.ask (iP ((List.length (gL p 3))+1) 16)
 (.again [aL p 0,.i (aG .i64 (gI p 1) 1),aI p 2,.l ((gL p 3)++[.s (D.toS (D.fld (gD (gL p 0) (tI p 1)) 0))])])
 (.bad))
 (.bad))
 (.out (0,[aL p 3]))
def oH(p:List D):Sh:=
 .ask (aT (gI p 1) (gI p 0))
 (.ask (aA (gI p 1) (List.length (gL p 3)))
 (.call Sl [.s (D.toS (gD (gL p 3) (tI p 1)))] 0 λc _=>
 .ask ((!(D.toB c))||(aT 1 (D.toI (xG (.int .i64) (gH .str (.s (D.toS (gD (gL p 3) (tI p 1)))) 0 (BS (.s (D.toS (gD (gL p 3) (tI p 1)))) (.i (aG .i64 (D.toI (xG (.int .i64) (gH .str (.s (D.toS (gD (gL p 3) (tI p 1)))) 0 (gL p 2)))) 1)) (gL p 2) (gH .str (.s (D.toS (gD (gL p 3) (tI p 1)))) 0 (gL p 2))))))))
 (.out (0,[.b false]))
 (.again [aI p 0,.i (aG .i64 (gI p 1) 1),.l (BS (.s (D.toS (gD (gL p 3) (tI p 1)))) (.i (aG .i64 (D.toI (xG (.int .i64) (gH .str (.s (D.toS (gD (gL p 3) (tI p 1)))) 0 (gL p 2)))) 1)) (gL p 2) (gH .str (.s (D.toS (gD (gL p 3) (tI p 1)))) 0 (gL p 2))),aL p 3]))
 (.bad))
 (.out (1,[]))
def SK(x:List D):Sh:=
 .call VT [.l [.s (D.toS (D.fld (gD x 1) 0)),.b (vB (gD x 1) 1),.l (eX (gD x 1) 2),.i (vI (gD x 1) 3),.l (eX (gD x 1) 4)]] 0 λd _=>
 .loop 0 [.i 0,.l (eX (gD x 1) 4),.i (iX (gD x 1) 4),.l (eX (gD x 0) 0),.l (eX (gD x 0) 1),.l (eX (gD x 0) 2),.l (eX (gD x 0) 3),.s (D.toS (D.fld (gD x 1) 0)),.b (vB (gD x 1) 1),.l (eX (gD x 1) 2),.i (vI (gD x 1) 3),.l (eX (gD x 1) 4),.l (D.els d)] (.cons (λc=>
 .ret (aB c 0) [])
 (.cons (λc=>
 .ret (.b true) [])
 .nil))
def wR(p:List D):Sh:=
 .ask (aT (gI p 0) (gI p 2))
 (.ask (aA (gI p 0) (List.length (gL p 1)))
 (.loop 2 [aI p 0,aL p 1,.i (iE (gD (gL p 1) (tI p 0))),.l (D.els (gD (gL p 1) (tI p 0))),aI p 2,.i 0,aL p 3,aL p 4,aL p 5,aL p 6,aS p 7,aB p 8,aL p 9,aI p 10,aL p 11,aL p 12] (.cons (λc=>
 .out (0,[aB c 2]))
 (.cons (λc=>
 .again [.i (aG .i64 (gI c 0) 1),aL c 1,aI c 2,aL c 3,aL c 4,aL c 5,aL c 6,aS c 7,aB c 8,aL c 9,aI c 10,aL c 11,aL c 12])
 .nil)))
 (.bad))
 (.out (1,[]))
def wS(p:List D):Sh:=
 .ask (aT (gI p 5) (gI p 2))
 (.ask (aA (gI p 5) (List.length (gL p 3)))
 (.call IL [.l [aL p 6,aL p 7,aL p 8,aL p 9],.l [aS p 10,aB p 11,aL p 12,aI p 13,aL p 14],aL p 15,.l [.i (vI (gD (gL p 3) (tI p 5)) 0),.i (vI (gD (gL p 3) (tI p 5)) 1),.i (vI (gD (gL p 3) (tI p 5)) 2),.i (vI (gD (gL p 3) (tI p 5)) 3),.i (vI (gD (gL p 3) (tI p 5)) 4),.l (eX (gD (gL p 3) (tI p 5)) 5),.l (eX (gD (gL p 3) (tI p 5)) 6)]] 0 λc _=>
 .ask (!(D.toB c))
 (.out (0,[aI p 0,aL p 1,.b false,aI p 4,aL p 6,aL p 7,aL p 8,aL p 9,aS p 10,aB p 11,aL p 12,aI p 13,aL p 14,aL p 15]))
 (.again [aI p 0,aL p 1,aI p 2,aL p 3,aI p 4,.i (aG .i64 (gI p 5) 1),aL p 6,aL p 7,aL p 8,aL p 9,aS p 10,aB p 11,aL p 12,aI p 13,aL p 14,aL p 15]))
 (.bad))
 (.out (1,[aI p 0,aL p 1,aI p 4,aL p 6,aL p 7,aL p 8,aL p 9,aS p 10,aB p 11,aL p 12,aI p 13,aL p 14,aL p 15]))
def Ca(x:List D):Sh:=
 .ask (aD (D.toI (gD x 0)) 26)
 (.ret (.l [.i (-1),.i (-1),.b false,.b false]) [])
 (.ask (aD (D.toI (gD x 0)) 27)
 (.ret (.l [.i 0,.i 1,.b false,.b false]) [])
 (.ask (aD (D.toI (gD x 0)) 28)
 (.ret (.l [.i 1,.i 2,.b false,.b false]) [])
 (.ret (.l [.i 0,.i 0,.b false,.b false]) [])))
def Cb(x:List D):Sh:=
 .ask (aD (D.toI (gD x 0)) 24)
 (.ret (.l [.i 1,.i 0,.b true,.b false]) [])
 (.ask (aD (D.toI (gD x 0)) 25)
 (.ask (aD (D.toI (gD x 0)) 25)
 (.ret (.l [.i (-1),.i 0,.b false,.b false]) [])
 (Ca x))
 (.ask (aD (D.toI (gD x 0)) 29)
 (.ret (.l [.i (-1),.i 0,.b false,.b false]) [])
 (Ca x)))
def Cc(x:List D):Sh:=
 .ask (aD (D.toI (gD x 0)) 17)
 (.ret (.l [.i 3,.i 0,.b false,.b false]) [])
 (.ask (aD (D.toI (gD x 0)) 22)
 (.ask (aD (D.toI (gD x 0)) 22)
 (.ret (.l [.i (-1),.i 0,.b true,.b false]) [])
 (Cb x))
 (.ask (aD (D.toI (gD x 0)) 23)
 (.ret (.l [.i (-1),.i 0,.b true,.b false]) [])
 (Cb x)))
def fU(x:List D):Sh:=
 .ask (aD (D.toI (gD x 0)) 16)
 (.ask (aD (D.toI (gD x 0)) 16)
 (.ret (.l [.i 1,.i 0,.b false,.b false]) [])
 (Cc x))
 (.ask (aD (D.toI (gD x 0)) 20)
 (.ret (.l [.i 1,.i 0,.b false,.b false]) [])
 (Cc x))
def Cd(x:List D):Sh:=
 .ask (aD (D.toI (gD x 0)) 4)
 (.ask (aD (D.toI (gD x 0)) 4)
 (.ret (.l [.i 2,.i 0,.b false,.b false]) [])
 (fU x))
 (.ask (aD (D.toI (gD x 0)) 5)
 (.ask (aD (D.toI (gD x 0)) 5)
 (.ret (.l [.i 2,.i 0,.b false,.b false]) [])
 (fU x))
 (.ask (aD (D.toI (gD x 0)) 6)
 (.ask (aD (D.toI (gD x 0)) 6)
 (.ret (.l [.i 2,.i 0,.b false,.b false]) [])
 (fU x))
 (.ask (aD (D.toI (gD x 0)) 7)
 (.ask (aD (D.toI (gD x 0)) 7)
 (.ret (.l [.i 2,.i 0,.b false,.b false]) [])
 (fU x))
 (.ask (aD (D.toI (gD x 0)) 8)
 (.ask (aD (D.toI (gD x 0)) 8)
 (.ret (.l [.i 2,.i 0,.b false,.b false]) [])
 (fU x))
 (.ask (aD (D.toI (gD x 0)) 9)
 (.ask (aD (D.toI (gD x 0)) 9)
 (.ret (.l [.i 2,.i 0,.b false,.b false]) [])
 (fU x))
 (.ask (aD (D.toI (gD x 0)) 10)
 (.ask (aD (D.toI (gD x 0)) 10)
 (.ret (.l [.i 2,.i 0,.b false,.b false]) [])
 (fU x))
 (.ask (aD (D.toI (gD x 0)) 11)
 (.ask (aD (D.toI (gD x 0)) 11)
 (.ret (.l [.i 2,.i 0,.b false,.b false]) [])
 (fU x))
 (.ask (aD (D.toI (gD x 0)) 12)
 (.ask (aD (D.toI (gD x 0)) 12)
 (.ret (.l [.i 2,.i 0,.b false,.b false]) [])
 (fU x))
 (.ask (aD (D.toI (gD x 0)) 13)
 (.ask (aD (D.toI (gD x 0)) 13)
 (.ret (.l [.i 2,.i 0,.b false,.b false]) [])
 (fU x))
 (.ask (aD (D.toI (gD x 0)) 14)
 (.ask (aD (D.toI (gD x 0)) 14)
 (.ret (.l [.i 2,.i 0,.b false,.b false]) [])
 (fU x))
 (.ask (aD (D.toI (gD x 0)) 15)
 (.ask (aD (D.toI (gD x 0)) 15)
 (.ret (.l [.i 2,.i 0,.b false,.b false]) [])
 (fU x))
 (.ask (aD (D.toI (gD x 0)) 19)
 (.ask (aD (D.toI (gD x 0)) 19)
 (.ret (.l [.i 2,.i 0,.b false,.b false]) [])
 (fU x))
 (.ask (aD (D.toI (gD x 0)) 21)
 (.ret (.l [.i 2,.i 0,.b false,.b false]) [])
 (fU x))))))))))))))
def Ce(x:List D):Sh:=
 .ask (aD (D.toI (gD x 0)) 2)
 (.ask (aD (D.toI (gD x 0)) 2)
 (.ret (.l [.i 0,.i 0,.b true,.b false]) [])
 (Cd x))
 (.ask (aD (D.toI (gD x 0)) 3)
 (.ret (.l [.i 0,.i 0,.b true,.b false]) [])
 (Cd x))
def Nq(x:List D):Sh:=
 .ask (aD (D.toI (gD x 0)) 1)
 (.ask (aD (D.toI (gD x 0)) 1)
 (.ret (.l [.i 0,.i 0,.b false,.b true]) [])
 (Ce x))
 (.ask (aD (D.toI (gD x 0)) 18)
 (.ret (.l [.i 0,.i 0,.b false,.b true]) [])
 (Ce x))
def ZH(x:List D):Sh:=
 .loop 0 [.i 0,.l (eX (gD x 0) 4),.i 0,.i (iX (gD x 0) 4)] (.cons (λc=>
 .ret (aI c 0) [])
 .nil)
def zY(p:List D):Sh:=
 .ask (aT (gI p 2) (gI p 3))
 (.ask (aA (gI p 2) (List.length (gL p 1)))
 (.again [.i (aG .i64 (gI p 0) (iE (gD (gL p 1) (tI p 2)))),aL p 1,.i (aG .i64 (gI p 2) 1),aI p 3])
 (.bad))
 (.out (0,[aI p 0]))
def l5(x:List D):Sh:=
 .ret (.b ((((aD (D.toI (gD x 0)) 27)||(aD (D.toI (gD x 0)) 28))||(aD (D.toI (gD x 0)) 29))||(aD (D.toI (gD x 0)) 30))) []
def mZ(x:List D):Sh:=
 .ask (!(aD (iE (gD x 0)) (iE (gD x 1))))
 (.ret (.b false) [])
 (.loop 0 [.l (D.els (gD x 0)),.l (D.els (gD x 1)),.i 0,.i (iE (gD x 0))] (.cons (λc=>
 .ret (aB c 0) [])
 (.cons (λc=>
 .ret (.b true) [])
 .nil)))
def fQ(p:List D):Sh:=
 .ask (aT (gI p 2) (gI p 3))
 (.ask (aA (gI p 2) (List.length (gL p 0)))
 (.ask (aA (gI p 2) (List.length (gL p 1)))
 (.ask (!(aD (D.toI (gD (gL p 0) (tI p 2))) (D.toI (gD (gL p 1) (tI p 2)))))
 (.out (0,[.b false]))
 (.again [aL p 0,aL p 1,.i (aG .i64 (gI p 2) 1),aI p 3]))
 (.bad))
 (.bad))
 (.out (1,[]))
def gK(x:List D):Sh:=
 .loop 0 [.l (D.els (gD x 0)),.i 0,.i 0,.l (D.els (gD x 0)),.i (iE (gD x 0))] (.cons (λc=>
 .ask (aT (gI c 1) 0)
 (.bad)
 (.ask (aT 0 (bC .i64 ((gI c 1)-(bC .i64 (0-0)))))
 (.ask ((aT 0 (bC .i64 ((gI c 1)-(bC .i64 (0-0)))))&&(iP (Int.toNat (bC .i64 ((gI c 1)-(bC .i64 (0-0))))) 16))
 (.ask (jT 0 0 (iL (List.replicate (Int.toNat (bC .i64 ((gI c 1)-(bC .i64 (0-0))))) (D.l [.i 0,.i 0]))))
 (.loop 2 [.i 0,aL c 0,.i (iL (gL c 0)),.l (List.drop 0 (List.take 0 (List.replicate (Int.toNat (bC .i64 ((gI c 1)-(bC .i64 (0-0))))) (D.l [.i 0,.i 0]))))] (.cons (λd=>
 .ret (aL d 0) [])
 .nil))
 (.bad))
 (.bad))
 (.loop 2 [.i 0,aL c 0,.i (iL (gL c 0)),.l []] (.cons (λd=>
 .ret (aL d 0) [])
 .nil))))
 .nil)
def cG(p:List D):Sh:=
 .ask (aT (gI p 2) (gI p 4))
 (.ask (aA (gI p 2) (List.length (gL p 3)))
 (.ask (aT (aG .i64 (gI p 1) (iE (gD (gL p 3) (tI p 2)))) 0)
 (.bad)
 (.again [aL p 0,.i (aG .i64 (gI p 1) (iE (gD (gL p 3) (tI p 2)))),.i (aG .i64 (gI p 2) 1),aL p 3,aI p 4]))
 (.bad))
 (.out (0,[aL p 0,aI p 1]))
def cH(p:List D):Sh:=
 .ask (aT (gI p 0) (gI p 2))
 (.ask (aA (gI p 0) (List.length (gL p 1)))
 (.ask (iP ((List.length (gL p 3))+(nE (gD (gL p 1) (tI p 0)))) 16)
 (.again [.i (aG .i64 (gI p 0) 1),aL p 1,aI p 2,.l ((gL p 3)++(D.els (gD (gL p 1) (tI p 0))))])
 (.bad))
 (.bad))
 (.out (0,[aL p 3]))
def Sn(x:List D):Sh:=
 .loop 0 [.l (D.els (gD x 0)),.i (D.toI (gD x 1)),.i 0] (.cons (λc=>
 .ret (aB c 0) [])
 (.cons (λc=>
 .ret (.b false) [])
 .nil))
def GF(p:List D):Sh:=
 .ask (aT (gI p 2) (iL (gL p 0)))
 (.ask (aA (gI p 2) (List.length (gL p 0)))
 (.ask (aD (D.toI (gD (gL p 0) (tI p 2))) (gI p 1))
 (.out (0,[.b true]))
 (.again [aL p 0,aI p 1,.i (aG .i64 (gI p 2) 1)]))
 (.bad))
 (.out (1,[]))
def MP(x:List D):Sh:=
 .ask ((!(!((aT (D.toI (gD x 1)) 0)||(cP (iX (gD x 0) 4) (D.toI (gD x 1))))))||(aA (D.toI (gD x 1)) (nX (gD x 0) 4)))
 (.ask (((aT (D.toI (gD x 1)) 0)||(cP (iX (gD x 0) 4) (D.toI (gD x 1))))||(aD (iE (gD (eX (gD x 0) 4) (Int.toNat (D.toI (gD x 1))))) 0))
 (.ret (.l []) [])
 (.ask (aA (D.toI (gD x 1)) (nX (gD x 0) 4))
 (.ask (aA (D.toI (gD x 1)) (nX (gD x 0) 4))
 (.ask (aA (bC .i64 ((iE (gD (eX (gD x 0) 4) (Int.toNat (D.toI (gD x 1)))))-1)) (nE (gD (eX (gD x 0) 4) (Int.toNat (D.toI (gD x 1))))))
 (.ask ((!(aD (vI (gE (gD (eX (gD x 0) 4) (Int.toNat (D.toI (gD x 1)))) (Int.toNat (bC .i64 ((iE (gD (eX (gD x 0) 4) (Int.toNat (D.toI (gD x 1)))))-1)))) 0) 27))&&(!(aD (vI (gE (gD (eX (gD x 0) 4) (Int.toNat (D.toI (gD x 1)))) (Int.toNat (bC .i64 ((iE (gD (eX (gD x 0) 4) (Int.toNat (D.toI (gD x 1)))))-1)))) 0) 28)))
 (.ret (.l []) [])
 (.loop 0 (let z0:=eX (gE (gD (eX (gD x 0) 4) (Int.toNat (D.toI (gD x 1)))) (Int.toNat (bC .i64 ((iE (gD (eX (gD x 0) 4) (Int.toNat (D.toI (gD x 1)))))-1)))) 6;[.l z0,.i 0,.i (iL z0),.s (D.toS (D.fld (gD x 0) 0)),.b (vB (gD x 0) 1),.l (eX (gD x 0) 2),.i (vI (gD x 0) 3),.l (eX (gD x 0) 4),.l []]) (.cons (λc=>
 .ret (aL c 0) [])
 .nil)))
 (.bad))
 (.bad))
 (.bad)))
 (.bad)
def FO(p:List D):Sh:=
 .ask (iP ((List.length (gL p 8))+1) 8)
 (.again [aL p 0,.i (aG .i64 (gI p 1) 1),aI p 2,aS p 3,aB p 4,aL p 5,aI p 6,aL p 7,.l ((gL p 8)++[.i (D.toI (gD (gL p 0) (tI p 1)))])])
 (.bad)
def rS(p:List D):Sh:=
 .ask (aT (gI p 1) (gI p 2))
 (.ask (aA (gI p 1) (List.length (gL p 0)))
 (.ask (((cP 0 (D.toI (gD (gL p 0) (tI p 1))))&&(aT (D.toI (gD (gL p 0) (tI p 1))) (iL (gL p 7))))&&true)
 (.call mH [aL p 8,.i (D.toI (gD (gL p 0) (tI p 1)))] 0 λc _=>
 .ask (((cP 0 (D.toI (gD (gL p 0) (tI p 1))))&&(aT (D.toI (gD (gL p 0) (tI p 1))) (iL (gL p 7))))&&(!(D.toB c)))
 (FO p)
 (.again [aL p 0,.i (aG .i64 (gI p 1) 1),aI p 2,aS p 3,aB p 4,aL p 5,aI p 6,aL p 7,aL p 8]))
 (.ask (((cP 0 (D.toI (gD (gL p 0) (tI p 1))))&&(aT (D.toI (gD (gL p 0) (tI p 1))) (iL (gL p 7))))&&(!(D.toB (.i 0))))
 (FO p)
 (.again [aL p 0,.i (aG .i64 (gI p 1) 1),aI p 2,aS p 3,aB p 4,aL p 5,aI p 6,aL p 7,aL p 8])))
 (.bad))
 (.out (0,[aL p 8]))
def ZI(x:List D):Sh:=
 .ask (!(aD (iE (gD x 1)) (iE (gD x 2))))
 (.ret (.b false) [])
 (.loop 0 [.l (D.els (gD x 0)),.i (iE (gD x 1)),.l (D.els (gD x 2)),.i 0,.l (D.els (gD x 1))] (.cons (λc=>
 .ret (aB c 0) [])
 (.cons (λc=>
 .ret (.b true) [])
 .nil)))
def zZ(p:List D):Sh:=
 .ask (aT (gI p 3) (gI p 1))
 (.ask (aA (gI p 3) (List.length (gL p 4)))
 (.ask (aA (D.toI (gD (gL p 4) (tI p 3))) (List.length (gL p 0)))
 (.ask (aA (gI p 3) (List.length (gL p 2)))
 (.ask (!(aD (D.toI (gD (gL p 0) (Int.toNat (D.toI (gD (gL p 4) (tI p 3)))))) (D.toI (gD (gL p 2) (tI p 3)))))
 (.out (0,[.b false]))
 (.again [aL p 0,aI p 1,aL p 2,.i (aG .i64 (gI p 3) 1),aL p 4]))
 (.bad))
 (.bad))
 (.bad))
 (.out (1,[]))
def FP(x:List D):Sh:=
 .ask ((cP 0 (iE (gD x 0)))&&((aD (iE (gD x 0)) (iE (gD x 0)))&&(iP (Int.toNat (iE (gD x 0))) 1)))
 (.ask (!(aD (D.toI (gD x 1)) 0))
 (.ask (aA 0 (List.length (List.replicate (nE (gD x 0)) (D.b false))))
 (.ask (iP (0+1) 8)
 (.loop 0 [.l (D.els (gD x 0)),.i (D.toI (gD x 1)),.l (List.set (List.replicate (nE (gD x 0)) (D.b false)) 0 (D.b true)),.l [.i 0]] (.cons (λc=>
 .ret (aL c 0) [])
 .nil))
 (.bad))
 (.bad))
 (.loop 0 [.l (D.els (gD x 0)),.i (D.toI (gD x 1)),.l (List.replicate (nE (gD x 0)) (D.b false)),.l []] (.cons (λc=>
 .ret (aL c 0) [])
 .nil)))
 (.bad)
def oR(p:List D):Sh:=
 .ask (aT 0 (iL (gL p 3)))
 (.ask (aA (bC .i64 ((iL (gL p 3))-1)) (List.length (gL p 3)))
 (.ask (jT 0 (bC .i64 ((iL (gL p 3))-1)) (iL (gL p 3)))
 (.ask (aA (D.toI (gD (gL p 3) (Int.toNat (bC .i64 ((iL (gL p 3))-1))))) (List.length (gL p 0)))
 (.loop 2 (let z0:=D.els (gD (gL p 0) (Int.toNat (D.toI (gD (gL p 3) (Int.toNat (bC .i64 ((iL (gL p 3))-1)))))));[aL p 0,aI p 1,.i 0,.l z0,.i (iL z0),aL p 2,.l (List.drop 0 (List.take (Int.toNat (bC .i64 ((iL (gL p 3))-1))) (gL p 3)))]) (.cons (λc=>
 .again [aL c 0,aI c 1,aL c 2,aL c 3])
 .nil))
 (.bad))
 (.bad))
 (.bad))
 (.out (0,[aL p 2]))
def jW(p:List D):Sh:=
 .ask (aT (gI p 2) (gI p 4))
 (.ask (aA (gI p 2) (List.length (gL p 3)))
 (.ask ((!((!(aD (D.toI (gD (gL p 3) (tI p 2))) (gI p 1)))&&true))||(aA (D.toI (gD (gL p 3) (tI p 2))) (List.length (gL p 5))))
 (.ask ((!(aD (D.toI (gD (gL p 3) (tI p 2))) (gI p 1)))&&(!(D.toB (gD (gL p 5) (Int.toNat (D.toI (gD (gL p 3) (tI p 2))))))))
 (.ask (aA (D.toI (gD (gL p 3) (tI p 2))) (List.length (gL p 5)))
 (.ask (iP ((List.length (gL p 6))+1) 8)
 (.again [aL p 0,aI p 1,.i (aG .i64 (gI p 2) 1),aL p 3,aI p 4,.l (List.set (gL p 5) (Int.toNat (D.toI (gD (gL p 3) (tI p 2)))) (D.b true)),.l ((gL p 6)++[.i (D.toI (gD (gL p 3) (tI p 2)))])])
 (.bad))
 (.bad))
 (.again [aL p 0,aI p 1,.i (aG .i64 (gI p 2) 1),aL p 3,aI p 4,aL p 5,aL p 6]))
 (.bad))
 (.bad))
 (.out (0,[aL p 0,aI p 1,aL p 5,aL p 6]))
end
end Go.Eng.Q
