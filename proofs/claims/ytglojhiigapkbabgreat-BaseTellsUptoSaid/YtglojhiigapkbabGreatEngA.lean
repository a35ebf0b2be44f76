/- Part 1 of the proof: a small evaluator over the loaded code, and what relates its states to the model's worlds. -/
import GoSem.Dispatch
import GoSem.Step
import Derived.Orders
import Derived.Below
import Derived.Laws.AppendOwn
import Derived.Laws.Cells
import Derived.Laws.Rows
import Derived.Laws.StructEq
import Derived.Laws.Pointers
import Derived.Lib.SliceRun
import Derived.Laws.Slices
import Derived.Laws.Tables
import Derived.Laws.CopyRow
import Derived.Laws.MakeOwn
set_option linter.unusedVariables false
set_option linter.unusedSimpArgs false
namespace Go.Eng
abbrev M(α:Type):=Option α
def ok{α:Type}(a:α):M α:=some a
def aG{α:Type}(_:String):M α:=none
def oR{α:Type}(_:String)(x:Option α):M α:=x
def Cy{α:Type}(R c:Bool)(x:α):M α:=bif !R||c then ok x else aG "check"
def cX:Int->Int->Bool
 |.ofNat a,.ofNat b=>Nat.ble a b
 |.negSucc _,.ofNat _=>true
 |.ofNat _,.negSucc _=>false
 |.negSucc a,.negSucc b=>Nat.ble b a
def aT(a b:Int):Bool:=!cX b a
def aD:Int->Int->Bool
 |.ofNat a,.ofNat b=>Nat.beq a b
 |.negSucc a,.negSucc b=>Nat.beq a b
 |_,_=>false
def FS:Bool->Bool->Bool
 |true,b=>b
 |false,b=>!b
def nK:IntKind->IntKind->Bool
 |.i8,.i8=>true |.i16,.i16=>true |.i32,.i32=>true |.i64,.i64=>true
 |.u8,.u8=>true |.u16,.u16=>true |.u32,.u32=>true |.u64,.u64=>true
 |_,_=>false
def VH:IntKind->Int
 |.i8=>-128 |.i16=>-32768 |.i32=>-2147483648 |.i64=>-9223372036854775808 |_=>0
def VI:IntKind->Int
 |.i8=>127 |.i16=>32767 |.i32=>2147483647 |.i64=>9223372036854775807
 |.u8=>255 |.u16=>65535 |.u32=>4294967295 |.u64=>18446744073709551615
def bD(k:IntKind)(n:Int):Int:=bif cX (VH k) n&&cX n (VI k)then n else k.wrap n
def bJ(k:IntKind):Int->Int->Int
 |.ofNat 0,b=>b
 |.ofNat (n+1),b=>bD k (.ofNat (n+1)+b)
 |.negSucc n,b=>bD k (.negSucc n+b)
def HM(op:BinOp)(k:IntKind)(a b:Int):Int:=
 k.wrap (match op with
  |.and=>BitVec.ofInt k.bits a&&&BitVec.ofInt k.bits b
  |.or=>BitVec.ofInt k.bits a|||BitVec.ofInt k.bits b
  |.xor=>BitVec.ofInt k.bits a^^^BitVec.ofInt k.bits b
  |_=>BitVec.ofInt k.bits a&&&~~~BitVec.ofInt k.bits b).toNat
inductive D where
 |i (n:Int) |b (b:Bool) |s (s:List UInt8) |l (xs:List D)
 deriving Inhabited
namespace D
def toI:D->Int |.i n=>n |_=>0
def toB:D->Bool |.b x=>x |_=>false
def toS:D->List UInt8 |.s x=>x |_=>[]
def els:D->List D |.l x=>x |_=>[]
def fld(x:D)(j:Nat):D:=x.els.getD j (.i 0)
end D
inductive LT where
 |int (k:IntKind) |bool |str |sl (own:Bool) (e:TypeId) (el:List LT)
mutual
def LT.setOwn(o:Bool):LT->LT
 |.sl _ e el=>.sl o e (fC o el)
 |.int k=>.int k
 |.bool=>.bool
 |.str=>.str
def fC(o:Bool):List LT->List LT
 |[]=>[]
 |t::ts=>t.setOwn o::fC o ts
end
def LT.zero:LT->D
 |.int _=>.i 0 |.bool=>.b false |.str=>.s [] |.sl ..=>.l []
mutual
def LT.beq:LT->LT->Bool
 |.int k,.int f=>nK k f
 |.bool,.bool=>true
 |.str,.str=>true
 |.sl o e el,.sl o' c d=>FS o o'&&(Nat.beq e c&&vK el d)
 |_,_=>false
def vK:List LT->List LT->Bool
 |[],[]=>true
 |t::ts,u::us=>t.beq u&&vK ts us
 |_,_=>false
end
def sC:List LT->Bool
 |[]=>true
 |.sl ..::_=>false
 |_::ts=>sC ts
def lf(k:Nat)(x:D)(j:Nat):D:=bif Nat.beq k 1 then x else x.fld j
def cP:List D->Nat->D->List D
 |[],0,c=>[c]
 |[],j+1,c=>.i 0::cP [] j c
 |_::l,0,c=>c::l
 |x::l,j+1,c=>x::cP l j c
def rY(k:Nat)(x:D)(j:Nat)(c:D):D:=bif Nat.beq k 1 then c else .l (cP x.els j c)
def zS:List D->D
 |[x]=>x
 |xs=>.l xs
structure TI where
 agg:Bool
 lv:List LT
 fs:List (Nat×TypeId)
 e:TypeId
 bytes:Nat
 arr:Bool:=false
 sl:Bool:=false
 ek:Nat:=0
inductive A where
 |int (k:IntKind) (n:Int) |bool (b:Bool) |str (s:List UInt8)
 |nils
 |fz (dep:List (Nat×Nat)) (e:TypeId) (el:List LT) (xs:List D)
 |vw (r u:Nat) (p:List (Nat×Nat))
 |px (r u n:Nat)
 |sx (r u k n lo:Nat)
 |sb (b u k n:Nat)
 |pa (r u:Nat) (p:List (Nat×Nat)) (k i off:Nat)
 |pb (b u off:Nat)
 |mp (b u:Nat)
 |ez
 |pz (dep:List (Nat×Nat)) (el:List LT) (x:D) (off:Nat)
 |agg (xs:List A) |tup (xs:List A) |nilp |fn (f:Nat) (caps:List A) |undef
 deriving Inhabited
structure yN where
 e:TypeId
 el:List LT
 data:List D
 stale:List (List (Nat×Nat)):=[]
 uid:Nat
 hv:List Nat
 dv:Nat
structure MV where
 kk:LT
 ek:LT
 m:List D
structure Bx where
 uid:Nat
 lv:List A
 mp:Option MV:=none
inductive Tr where
 |nil |node (a:A) (l r:Tr)
def Tr.get:Tr->Nat->A
 |.nil,_=>.undef
 |.node a l r,n=>bif Nat.beq n 0 then a else bif Nat.beq (n%2) 1 then l.get (n/2)else r.get (n/2-1)
def Tr.setF:Nat->Tr->Nat->A->Tr
 |0,t,_,_=>t
 |f+1,t,n,v=>
  match t with
  |.nil=>bif Nat.beq n 0 then .node v .nil .nil else bif Nat.beq (n%2) 1 then .node .undef (Tr.setF f .nil (n/2) v) .nil else .node .undef .nil (Tr.setF f .nil (n/2-1) v)
  |.node a l r=>bif Nat.beq n 0 then .node v l r else bif Nat.beq (n%2) 1 then .node a (Tr.setF f l (n/2) v) r else .node a l (Tr.setF f r (n/2-1) v)
def Tr.set(t:Tr)(n:Nat)(v:A):Tr:=Tr.setF (n+1) t n v
structure St where
 sl:Tr
 bx:List (Nat×Bx)
 ar:List (Nat×yN)
 ctr:Nat
def look{α:Type}:List (Nat×α)->Nat->Option α
 |[],_=>none
 |(m,a)::l,n=>bif Nat.beq m n then some a else look l n
def oH{α:Type}:List (Nat×α)->Nat->List (Nat×α)
 |[],_=>[]
 |(m,a)::l,n=>bif Nat.beq m n then oH l n else(m,a)::oH l n
def qD{α:Type}(l:List (Nat×α))(n:Nat)(b:α):List (Nat×α):=(n,b)::oH l n
def aBk{α c:Type}(f:α->c):List α->List c
 |[]=>[]
 |a::l=>f a::aBk f l
def has:List Nat->Nat->Bool
 |[],_=>false
 |m::l,n=>bif Nat.beq m n then true else has l n
def DK{α:Type}(f:α->Bool):List α->Bool
 |[]=>true
 |a::l=>f a&&DK f l
def RD{α:Type}(f:α->Bool):List α->Bool
 |[]=>false
 |a::l=>f a||RD f l
def oS{α:Type}:Nat->List α->List α
 |0,l=>l
 |_+1,[]=>[]
 |n+1,_::l=>oS n l
def kL{α:Type}:Nat->List α->List α
 |0,_=>[]
 |_+1,[]=>[]
 |n+1,x::l=>x::kL n l
inductive BT(α:Type) where
 |nil |node (k:Nat) (v:α) (l r:BT α)
def BT.look{α:Type}:BT α->Nat->Option α
 |.nil,_=>none
 |.node k v l r,n=>bif Nat.beq n k then some v else bif Nat.ble n k then l.look n else r.look n
def St.put(st:St)(d:Nat)(a:A):St:={st with sl:=st.sl.set d a}
def St.gone(st:St)(r:Nat):St:={st with ar:=oH st.ar r}
def ZI(u:Nat):List Nat:=[u,u,u,u]
def yO(v:Nat):Nat->List Nat->List Nat
 |_,[]=>[]
 |0,_::l=>v::yO v 0 l
 |n+1,x::l=>x::yO v n l
def jP(a:yN):List (Nat×Nat)->Nat
 |[]=>a.uid
 |_::p=>a.hv.getD p.length 0
def St.newArr(st:St)(r:Nat)(e:TypeId)(el:List LT)(data:List D):St:=
 {st with ar:=qD st.ar r {e:=e,el:=el,data:=data,uid:=st.ctr,hv:=ZI st.ctr,dv:=st.ctr},ctr:=st.ctr+1}
def St.newBox(st:St)(b:Nat)(l:List A):St:={st with bx:=qD st.bx b {uid:=st.ctr,lv:=l},ctr:=st.ctr+1}
def jL(st:St)(r u:Nat)(p:List (Nat×Nat)):M yN:=
 match look st.ar r with
 |some a=>bif Nat.ble p.length 4&&Nat.beq (jP a p) u then ok a else aG "an elder view"
 |none=>aG "no array"
def pR(st:St)(b u:Nat):M (List A):=
 match look st.bx b with
 |some x=>bif Nat.beq x.uid u then(match x.mp with|none=>ok x.lv |some _=>aG "a map")else aG "an elder pointer"
 |none=>aG "no box"
def Cz(st:St)(b u:Nat):M MV:=
 match look st.bx b with
 |some x=>bif Nat.beq x.uid u then(match x.mp with|some m=>ok m |none=>aG "no map")else aG "an elder map"
 |none=>aG "no map"
def depOk(st:St):List (Nat×Nat)->Bool
 |[]=>true
 |(r,v)::l=>(match look st.ar r with|some a=>Nat.beq a.dv v |none=>false)&&depOk st l
def jM(st:St):A->Bool
 |.fz dep _ _ _=>depOk st dep
 |.pz dep _ _ _=>depOk st dep
 |.vw r u p=>match jL st r u p with|some _=>true |none=>false
 |.pa r u p _ _ _=>match jL st r u p with|some _=>true |none=>false
 |.px r u _=>match jL st r u []with|some _=>true |none=>false
 |.sx r u _ _ _=>match jL st r u []with|some _=>true |none=>false
 |.pb b u _=>match pR st b u with|some _=>true |none=>false
 |.sb b u _ _=>match pR st b u with|some _=>true |none=>false
 |.mp b u=>match Cz st b u with|some _=>true |none=>false
 |_=>true
def mO{α:Type}(st:St)(x:A)(f:A->M α):M α:=bif jM st x then f x else aG "an elder reference"
def mT:TypeId->List LT->List D->List (Nat×Nat)->Option (TypeId×List LT×List D)
 |e,el,data,[]=>some (e,el,data)
 |_,el,data,(i,j)::p=>
  match el[j]?with
  |some (.sl true c d)=>mT c d (lf el.length (data.getD i (.i 0)) j).els p
  |_=>none
def oY:List LT->List D->List (Nat×Nat)->(List D->List D)->List D
 |_,data,[],f=>f data
 |el,data,(i,j)::p,f=>
  match el[j]?with
  |some (.sl true _ c)=>data.set i (rY el.length (data.getD i (.i 0)) j (.l (oY c (lf el.length (data.getD i (.i 0)) j).els p f)))
  |_=>data
def DL(dep:List (Nat×Nat)):LT->D->A
 |.int k,x=>.int k x.toI
 |.bool,x=>.bool x.toB
 |.str,x=>.str x.toS
 |.sl _ e el,x=>.fz dep e (fC false el) x.els
def JA(dep:List (Nat×Nat))(k:Nat)(x:D):Nat->List LT->List A
 |_,[]=>[]
 |j,t::ts=>DL dep t (lf k x j)::JA dep k x (j+1) ts
def aGD:LT->A
 |.int k=>.int k 0 |.bool=>.bool false |.str=>.str [] |.sl ..=>.nils
def JB:List LT->List A
 |[]=>[]
 |t::ts=>aGD t::JB ts
def fW:List LT->List D
 |[]=>[]
 |t::ts=>t.zero::fW ts
def aBl:Value->A
 |.int k n=>bif cX (VH k) n&&cX n (VI k)then .int k n else .undef
 |.bool b=>.bool b
 |.string s=>bif Nat.ble s.data.toList.length 1000000 then .str s.data.toList else .undef
 |.slice none 0 0=>.nils
 |.pointer none=>.nilp
 |_=>.undef
def eR(sl:Tr):Operand->A
 |.tmp t=>bif Nat.ble 1000 t then .undef else sl.get t
 |.const v=>aBl v
 |.func f=>.fn f []
 |.global _=>.undef
def DM:List UInt8->List UInt8->Bool
 |[],[]=>true
 |a::x,b::c=>Nat.beq a.toNat b.toNat&&DM x c
 |_,_=>false
def eqP:A->A->M Bool
 |.nilp,.nilp=>ok true
 |.nilp,.pb _ _ _=>ok false
 |.pb _ _ _,.nilp=>ok false
 |.nilp,.pa _ _ _ _ _ _=>ok false
 |.pa _ _ _ _ _ _,.nilp=>ok false
 |.nilp,.pz _ _ _ _=>ok false
 |.pz _ _ _ _,.nilp=>ok false
 |_,_=>aG "eq: pointers"
def Rh:List A->List A->M Bool
 |[],[]=>ok true
 |.int k a::xs,.int c b::ys=>bif nK k c then(Rh xs ys).bind λq=>ok (aD a b&&q)else aG "eq: kinds"
 |_,_=>aG "eq: cells"
def Om(R:Bool)(op:BinOp)(k:IntKind)(a b:Int):M A:=
 match op with
 |.add=>ok (.int k (bJ k a b))
 |.sub=>ok (.int k (bD k (a-b)))
 |.mul=>ok (.int k (bD k (a*b)))
 |.quo=>Cy R (!aD b 0) (.int k (bD k (a.tdiv b)))
 |.rem=>Cy R (!aD b 0) (.int k (a.tmod b))
 |.and |.or |.xor |.andNot=>ok (.int k (HM op k a b))
 |.eql=>ok (.bool (aD a b))
 |.neq=>ok (.bool (!aD a b))
 |.lss=>ok (.bool (aT a b))
 |.leq=>ok (.bool (cX a b))
 |.gtr=>ok (.bool (aT b a))
 |.geq=>ok (.bool (cX b a))
 |_=>aG "int"
def unA(op:UnOp):A->M A
 |.bool b=>match op with|.not=>ok (.bool (!b)) |_=>aG "un"
 |.int k n=>match op with
  |.neg=>ok (.int k (bD k (0-n)))
  |.xor=>ok (.int k (HM .xor k (bif k.signed then-1 else k.max) n))
  |_=>aG "un"
 |_=>aG "un"
def aE3(c:Bool):A->A->M A
 |.int k a,.int d b=>bif nK k d then ok (.int k (bif c then a else b))else aG "pick: kinds"
 |.bool a,.bool b=>ok (.bool (bif c then a else b))
 |_,_=>aG "pick"
def LN(n:Nat):List (List (Nat×Nat))->Bool
 |[]=>true
 |q::l=>Nat.ble (n+1) q.length&&LN n l
def dQ(st:St)(r u:Nat)(p:List (Nat×Nat)):M (Nat×TypeId×List LT×List D):=
 (jL st r u p).bind λa=>match a.stale with
  |[]=>(oR "rowAt" (mT a.e a.el a.data p)).bind λq=>ok (a.dv,q)
  |_::_=>aG "rowOf: stale"
def Wg(st:St)(r u:Nat)(p:List (Nat×Nat)):M (TypeId×List LT×List D):=
 (jL st r u p).bind λa=>bif LN p.length a.stale then oR "rowAt" (mT a.e a.el a.data p)else aG "rowHd: stale"
def aFx(r u:Nat)(p:List (Nat×Nat))(i j:Nat):LT->D->A
 |.sl true _ _,_=>.vw r u (p++[(i,j)])
 |t,x=>DL [] t x
def SO(r u:Nat)(p:List (Nat×Nat))(i k:Nat)(x:D):Nat->List LT->List A
 |_,[]=>[]
 |j,t::ts=>aFx r u p i j t (lf k x j)::SO r u p i k x (j+1) ts
def FX(agg:Bool)(n:Nat)(l:List A):M A:=
 bif Nat.beq l.length n then(bif agg then ok (.agg l)else match l with|[x]=>ok x |_=>aG "aggOf")else aG "aggOf: cells"
def VJ(st:St)(t:TI):A->M A
 |.pb b u off=>(pR st b u).bind λl=>FX t.agg t.lv.length (kL t.lv.length (oS off l))
 |.pz dep el x off=>bif depOk st dep then FX t.agg t.lv.length (JA dep el.length x off (kL t.lv.length (oS off el)))else aG "load: elder"
 |.pa r u p _ i off=>(jL st r u p).bind λa=>match a.stale with
  |[]=>(oR "load: row" (mT a.e a.el a.data p)).bind λq=>FX t.agg t.lv.length (SO r (a.hv.getD p.length 0) p i q.2.1.length (q.2.2.getD i (.i 0)) off (kL t.lv.length (oS off q.2.1)))
  |_::_=>aG "load: stale"
 |_=>aG "load: no address"
def lenOf(st:St):A->M Nat
 |.nils=>ok 0
 |.fz _ _ _ xs=>ok xs.length
 |.sb _ _ _ n=>ok n
 |.vw r u p=>(Wg st r u p).bind λq=>ok q.2.2.length
 |.px _ _ n=>ok n
 |.sx _ _ _ n _=>ok n
 |.str s=>ok s.length
 |_=>aG "len"
def tV(n:Nat):A->M A
 |.pb b u off=>ok (.pb b u (off+n))
 |.pz dep el x off=>ok (.pz dep el x (off+n))
 |.pa r u p k i off=>ok (.pa r u p k i (off+n))
 |_=>aG "fieldAddr"
def aA(k:Int)(n:Nat):Bool:=cX 0 k&&aT k (n:Int)
def kT(d c n:Int):Bool:=cX 0 d&&(cX d c&&cX c n)
def Hm(ti:TI):Bool:=match ti.agg,ti.lv with|false,[.str]=>true |_,_=>false
def Hn(R:Bool)(dep:List (Nat×Nat))(e:TypeId)(el:List LT)(xs:List D)(d c:Option Int):M A:=
 Cy R (kT (d.getD 0) (c.getD (xs.length:Int)) (xs.length:Int)) (.fz dep e el ((xs.take (c.getD (xs.length:Int)).toNat).drop (d.getD 0).toNat))
def MD(R:Bool)(ti:TI)(x:A)(d c:Option Int):M A:=
 match x with
 |.fz dep e el xs=>bif ti.sl&&Nat.beq ti.ek el.length then Hn R dep e el xs d c else aG "slice: type"
 |.str s=>bif Hm ti then Cy R (kT (d.getD 0) (c.getD (s.length:Int)) (s.length:Int)) (.str ((s.take (c.getD (s.length:Int)).toNat).drop (d.getD 0).toNat))else aG "slice: type"
 |.nils=>bif ti.sl&&(aD (d.getD 0) 0&&aD (c.getD 0) 0)then ok .nils else aG "slice: nil"
 |_=>aG "slice"
def Ri(R:Bool)(st:St)(ek:Nat)(r u:Nat)(p:List (Nat×Nat))(d c:Option Int):M A:=
 match p,d,c with
 |[],none,some h=>(dQ st r u []).bind λq=>bif Nat.beq ek q.2.2.1.length then Cy R (cX 0 h&&cX h (q.2.2.2.length:Int)) (.px r u h.toNat)else aG "prefix: type"
 |[],some l,none=>(dQ st r u []).bind λq=>bif Nat.beq ek q.2.2.1.length then Cy R (cX 0 l&&cX l (q.2.2.2.length:Int)) (.sx r u ek (q.2.2.2.length-l.toNat) l.toNat)else aG "suffix: type"
 |_,_,_=>aG "prefix"
def U8(R:Bool)(st:St)(ek:Nat)(r u:Nat)(p:List (Nat×Nat))(d c:Option Int):M A:=
 (dQ st r u p).bind λq=>bif Nat.beq ek q.2.2.1.length then Hn R [(r,q.1)] q.2.1 (fC false q.2.2.1) q.2.2.2 d c else aG "snap: type"
def GX(k:Nat):Nat->List D->List D
 |0,_=>[]
 |n+1,l=>zS (kL k l)::GX k n (oS k l)
def PN:List (Nat×Nat)->List (Nat×Nat)->Bool
 |[],[]=>true
 |(i,j)::p,(c,d)::q=>Nat.beq i c&&(Nat.beq j d&&PN p q)
 |_,_=>false
def fill(p:List (Nat×Nat)):List (List (Nat×Nat))->Bool
 |[]=>true
 |[q]=>PN p q
 |_=>false
def setRow(st:St)(r:Nat)(a:yN)(p:List (Nat×Nat))(i j k:Nat)(d:D)(hdr:Bool):St:=
 {st with ar:=qD st.ar r {a with data:=oY a.el a.data p (λdata=>data.set i (rY k (data.getD i (.i 0)) j d)),stale:=bif hdr then[]else a.stale,dv:=st.ctr,hv:=bif hdr then yO st.ctr p.length a.hv else a.hv},ctr:=st.ctr+1}
def wrLeaf(st:St)(r u:Nat)(p:List (Nat×Nat))(i j:Nat)(x:A):M St:=
 (jL st r u p).bind λa=>bif !LN p.length a.stale then aG "wr: stale"else(oR "wr: no row" (mT a.e a.el a.data p)).bind λq=>
  match q.2.1[j]?,x with
  |some (.int k),.int g n=>bif nK k g then ok (setRow st r a p i j q.2.1.length (.i n) false)else aG "wr: int"
  |some .bool,.bool b=>ok (setRow st r a p i j q.2.1.length (.b b) false)
  |some .str,.str s=>ok (setRow st r a p i j q.2.1.length (.s s) false)
  |some (.sl false e el),.fz [] d f xs=>bif Nat.beq e d&&vK el f then ok (setRow st r a p i j q.2.1.length (.l xs) false)else aG "wr: fz"
  |some (.sl false _ _),.nils=>ok (setRow st r a p i j q.2.1.length (.l []) false)
  |some (.sl true _ _),.nils=>Cy true (fill (p++[(i,j)]) a.stale) (setRow st r a p i j q.2.1.length (.l []) true)
  |some (.sl true e el),.vw c h []=>
   bif Nat.beq c r then aG "wr: itself"else
   (jL st c h []).bind λb=>
    bif Nat.beq b.e e&&vK el b.el then
     match b.stale with
     |[]=>Cy true (fill (p++[(i,j)]) a.stale) (setRow (st.gone c) r a p i j q.2.1.length (.l b.data) true)
     |_::_=>aG "wr: stale"
    else aG "wr: other type"
  |_,_=>aG "wr: leaf"
def jA(st:St)(r:Nat)(p:List (Nat×Nat)):Nat:=
 match look st.ar r with
 |some a=>jP a p
 |none=>0
def wrLeaves(st:St)(r u:Nat)(p:List (Nat×Nat))(i:Nat):Nat->List A->M St
 |_,[]=>ok st
 |j,a::l=>(wrLeaf st r u p i j a).bind λst=>wrLeaves st r (jA st r p) p i (j+1) l
def fY:A->List A
 |.agg xs=>xs
 |a=>[a]
def vO(l:List A):Nat->List A->List A
 |_,[]=>l
 |j,a::as=>vO (l.set j a) (j+1) as
def AE:A->Bool
 |.undef=>false |.agg _=>false |.tup _=>false |.mp _ _=>false |.ez=>false |_=>true
def jT(st:St)(l:List A):Bool:=!RD (λa=>!(AE a&&jM st a)) l
def Rl(st:St)(b u off:Nat)(l:List A):M St:=
 (pR st b u).bind λlv=>Cy true (jT st l&&Nat.ble (off+l.length) lv.length) {st with bx:=qD st.bx b {uid:=u,lv:=vO lv off l}}
def ZJ(st:St)(p v:A):M St:=
 match p with
 |.pb b u off=>Rl st b u off (fY v)
 |.pa r u p _ i off=>wrLeaves st r u p i off (fY v)
 |_=>aG "store: no address"
def ltOf:LT->A->LT
 |t,.fz _ _ _ _=>t
 |t,_=>t.setOwn true
def aBm:List LT->List A->List LT
 |t::ts,a::as=>ltOf t a::aBm ts as
 |ts,_=>fC true ts
def appElems(d:Nat)(k:Nat):Nat->List A->St->M St
 |0,_,st=>ok st
 |n+1,l,st=>
  (oR "app" (look st.ar d)).bind λa=>
   match a.stale with
   |[]=>(wrLeaves (st.newArr d a.e a.el (a.data++[zS (fW a.el)])) d st.ctr [] a.data.length 0 (kL k l)).bind λs=>appElems d k n (oS k l) s
   |_::_=>aG "app: stale"
def jN(n bytes:Nat):Bool:=Nat.ble n 281474976710656&&Nat.ble (n*bytes) 140737488355328
inductive aDH where
 |flat (ys:List D) |cells (n:Nat) (l:List A)
def LO(st:St)(el:List LT):A->M aDH
 |.nils=>ok (.flat [])
 |.ez=>ok (.flat [])
 |.sb b u k n=>(pR st b u).bind λl=>bif Nat.beq k el.length&&(Nat.ble (k*n) l.length&&jT st (kL (k*n) l))then ok (.cells n (kL (k*n) l))else aG "app: sb"
 |.fz dep _ c ys=>bif depOk st dep&&(vK el c&&(match dep with|[]=>vK (fC false el) el |_::_=>sC el))then ok (.flat ys)else aG "app: fz"
 |.vw r u p=>bif sC el then(dQ st r u p).bind λq=>bif vK el q.2.2.1 then ok (.flat q.2.2.2)else aG "app: vw types"else aG "app: vw"
 |_=>aG "app: other"
def yP(st:St)(d:Nat)(e:TypeId)(c:TI)(el:List LT)(data:List D):aDH->M St
 |.flat ys=>bif jN (data.length+ys.length) c.bytes&&Nat.beq el.length c.lv.length then ok (st.newArr d e el (data++ys))else aG "app: limit"
 |.cells n l=>bif jN (data.length+n) c.bytes&&Nat.beq el.length c.lv.length then appElems d el.length n l (st.newArr d e el data)else aG "app: limit"
def aDI(st:St)(c:Option (List LT))(tl:List LT)(d:A):List LT:=
 match c with
 |some el=>el
 |none=>match d with
  |.sb b u k _=>match pR st b u with|some l=>aBm tl (kL k l) |none=>[]
  |.fz _ _ el _=>el
  |.vw r u p=>match dQ st r u p with|some q=>q.2.2.1 |none=>[]
  |_=>fC true tl
def LP(st:St)(d r:Nat)(p:List (Nat×Nat)):M St:=
 match p with
 |[]=>ok (st.gone r)
 |_::_=>bif Nat.beq r d then aG "into itself"else(oR "out: array" (look st.ar r)).bind λa=>ok {st with ar:=qD st.ar r {a with stale:=[p],hv:=yO st.ctr (p.length-1) a.hv,dv:=st.ctr},ctr:=st.ctr+1}
def St.view(st:St)(d:Nat):St:=st.put d (.vw d (jA st d []) [])
def JC(st:St)(d:Nat)(c:TI)(e:TypeId)(g:Option (List LT))(x f:A):M St:=
 match x with
 |.nils=>(LO st (aDI st g c.lv f) f).bind λns=>(yP st d e c (aDI st g c.lv f) [] ns).bind λs=>ok (s.view d)
 |.vw r u p=>(dQ st r u p).bind λq=>(LO st q.2.2.1 f).bind λns=>(LP st d r p).bind λs1=>(yP s1 d q.2.1 c q.2.2.1 q.2.2.2 ns).bind λs=>ok (s.view d)
 |.px r u n=>(dQ st r u []).bind λq=>bif Nat.ble n q.2.2.2.length then
   (LO st q.2.2.1 f).bind λns=>(LP st d r []).bind λs1=>(yP s1 d q.2.1 c q.2.2.1 (q.2.2.2.take n) ns).bind λs=>ok (s.view d)
   else aG "append: prefix"
 |_=>aG "append: other"
def aFy(st:St)(d:Nat)(ek:Nat)(r u:Nat)(p:List (Nat×Nat))(e c:Option Int):M St:=
 (dQ st r u p).bind λq=>
  bif kT (e.getD 0) (c.getD (q.2.2.2.length:Int)) (q.2.2.2.length:Int)&&Nat.beq ek q.2.2.1.length then
   (LP st d r p).bind λs1=>ok ((s1.newArr d q.2.1 q.2.2.1 ((q.2.2.2.take (c.getD (q.2.2.2.length:Int)).toNat).drop (e.getD 0).toNat)).view d)
  else aG "cut: bounds"
def F3(st:St)(d:Nat):A->M St
 |.vw r u p=>(dQ st r u p).bind λq=>(LP st d r p).bind λs1=>ok ((s1.newArr d q.2.1 q.2.2.1 q.2.2.2).view d)
 |_=>aG "take: no row of ours"
def ME:Option A->M (Option Int)
 |none=>ok none
 |some (.int _ n)=>ok (some n)
 |_=>aG "slice: bounds"
inductive PM where
 |ro |rp |io (el:List LT) |sio (lv:List LT) |mv |fnv (f:Nat) |sub (j leaf k:Nat)
 |clo (f:Nat) (ms:List (TypeId×Option (List LT)))
inductive RM where
 |val (agg:Bool) (lv:List LT) |ptr (el:List LT)
structure FY where
 fn:FuncId
 ps:List (TypeId×PM)
 rs:List RM
inductive Conv where
 |own (e:TypeId) (el:List LT) |fz (e:TypeId) (el:List LT) |frz (e:TypeId) (el:List LT) |fzA (e:TypeId) (el:List LT)
structure Ann where
 keep:List Nat
 conv:List (Nat×Conv)
 bconv:List (Nat×Nat×Conv)
 nb:Nat:=0
structure InH where
 site:Nat
 base:Nat
 live:List Nat
 old:List Nat
 ck:List (Nat×Nat×Nat):=[]
structure fR where
 inst:List (Nat×Nat):=[]
 el:List (Nat×List LT):=[]
 arr:List Nat:=[]
 fzl:List Nat:=[]
 pfx:List Nat:=[]
 snap:List Nat:=[]
 heads:List (Nat×Ann):=[]
 ends:List (Nat×Ann):=[]
 ord:List (Nat×List Nat):=[]
 fork:Bool:=false
 nb:Nat:=0
 inl:List (Nat×InH):=[]
 mids:List (Nat×Ann):=[]
 alts:List (Nat×(List Nat×List (List Nat))):=[]
 cks:List (Nat×List (Nat×Nat×Nat)):=[]
 take:List Nat:=[]
 nn:List Nat:=[]
structure MI where
 key:TypeId
 el:TypeId
 kk:LT
 ek:LT
abbrev tU:=Nat->List D->Option (D×List D)
structure Ifn where
 fn:FuncId
 np:Nat
 run:St->M (A×St)
structure fM where
 tt:BT TI
 pt:BT TypeId
 sg:BT FY
 eqt:List Nat
 mt:BT MI:=.nil
 srt:Nat:=0
 ic:tU->Nat->Option Ifn:=λ_ _=>none
def nm(d j:Nat):Nat:=1000000*(d+1)+j
def HN:Nat->Nat
 |0=>0
 |n+1=>n+601
def dJ(dep:List (Nat×Nat))(nb k:Nat)(x:D):Nat->List LT->St->St×List A
 |_,[],st=>(st,[])
 |j,.sl true e el::ts,st=>
  let r:=dJ dep nb k x (j+1) ts (st.newArr (nb+j) e el (lf k x j).els)
  (r.1,.vw (nb+j) st.ctr []::r.2)
 |j,t::ts,st=>
  let r:=dJ dep nb k x (j+1) ts st
  (r.1,DL dep t (lf k x j)::r.2)
structure Nm(α:Type) where
 os:List Nat
 ds:List (Nat×Nat)
 x:α
def JD(st:St):LT->A->M (Nm D)
 |.int k,.int f n=>bif nK k f then ok ⟨[],[],.i n⟩else aG "out: int"
 |.bool,.bool b=>ok ⟨[],[],.b b⟩
 |.str,.str s=>ok ⟨[],[],.s s⟩
 |.sl _ _ _,.nils=>ok ⟨[],[],.l []⟩
 |.sl true e el,.vw r u []=>(jL st r u []).bind λa=>match a.stale with
  |[]=>bif Nat.beq a.e e&&vK el a.el then ok ⟨[r],[],.l a.data⟩else aG "out: own types"
  |_::_=>aG "out: stale"
 |.sl false e el,.fz dep c d xs=>bif depOk st dep&&(Nat.beq e c&&vK el d)then ok ⟨[],dep,.l xs⟩else aG "out: fz types"
 |.sl false e el,.vw r u p=>(dQ st r u p).bind λq=>bif Nat.beq q.2.1 e&&vK el (fC false q.2.2.1)then
   ok ⟨[],[(r,q.1)],.l q.2.2.2⟩else aG "out: vw types"
 |_,_=>aG "out: leaf"
def cN(st:St):List LT->List A->M (Nm (List D))
 |[],[]=>ok ⟨[],[],[]⟩
 |t::ts,a::as=>(JD st t a).bind λp=>(cN st ts as).bind λq=>ok ⟨p.os++q.os,p.ds++q.ds,p.x::q.x⟩
 |_,_=>aG "out: number of leaves"
def F4(st:St)(lv:List LT)(l:List A):M (List (Nat×Nat)×List D):=(cN st lv l).bind λp=>ok (p.ds,p.x)
def Fu(l:List LT):Nat->List LT
 |0=>[]
 |n+1=>l++Fu l n
def rZ(b:Nat):Nat:=1000000000000+64*b
def aBo(E:fM)(st:St)(b u k n:Nat)(ti:TI):M (List (Nat×Nat)×D):=
 (oR "enc: type" (E.tt.look ti.e)).bind λc=>(pR st b u).bind λl=>
  bif ti.sl&&(Nat.beq k c.lv.length&&(!ti.agg&&(vK ti.lv [.sl false ti.e c.lv]&&Nat.ble (k*n) l.length)))then(F4 st (Fu c.lv n) (kL (k*n) l)).bind λp=>ok ((rZ b,0)::p.1,.l (GX k n p.2))else aG "enc: literal"
def Rm:A->Bool
 |.agg _=>true
 |_=>false
def aDJ(E:fM)(st:St)(ti:TI):A->M (List (Nat×Nat)×D)
 |.sb b u k n=>aBo E st b u k n ti
 |a=>bif FS (Rm a) ti.agg then(F4 st ti.lv (fY a)).bind λp=>ok (p.1,zS p.2)else aG "enc: struct"
def nodup:List Nat->Bool
 |[]=>true
 |a::l=>!has l a&&nodup l
def apart(l:List Nat):List (Nat×Nat)->Bool
 |[]=>true
 |(r,_)::m=>!has l r&&apart l m
def Da(b:Nat):Nat->Nat->List Nat
 |_,0=>[]
 |off,n+1=>(1000000000000+64*b+off)::Da b (off+1) n
structure Arg where
 os:List Nat
 gs:List Nat
 ds:List (Nat×Nat)
 x:D
def sD(E:fM)(t:TypeId):M TI:=oR "type" (E.tt.look t)
def tyE{α:Type}(E:fM)(t:TypeId)(f:TI->TI->M α):M α:=(sD E t).bind λti=>(sD E ti.e).bind λc=>f ti c
def U9(st:St)(c:TI):A->M Arg
 |.pz dep el x 0=>bif depOk st dep&&vK c.lv (fC false el)then ok ⟨[],[],dep,x⟩else aG "arg: elder"
 |.pb b u off=>(pR st b u).bind λl=>(F4 st c.lv (kL c.lv.length (oS off l))).bind λp=>ok ⟨[],[],(rZ b,0)::p.1,zS p.2⟩
 |.pa r u p _ i 0=>(dQ st r u p).bind λq=>bif vK c.lv (fC false q.2.2.1)then ok ⟨[],[],[(r,q.1)],q.2.2.2.getD i (.i 0)⟩else aG "arg: element"
 |_=>aG "arg: pointer"
def MF(E:fM)(st:St)(t:TypeId):Option (List LT)->A->M Arg
 |none,a=>(oR "arg: type" (E.pt.look t)).bind λe=>(oR "arg: type" (E.tt.look e)).bind λc=>U9 st c a
 |some el,.pb b u 0=>(pR st b u).bind λl=>(cN st el l).bind λp=>ok ⟨Da b 0 1++p.os,p.os,p.ds,zS p.x⟩
 |_,_=>aG "arg: pointer"
def V0(E:fM)(st:St):List (TypeId×Option (List LT))->List A->M (List Nat×List Nat×List (Nat×Nat)×List D)
 |[],[]=>ok ([],[],[],[])
 |(t,m)::c,a::as=>(MF E st t m a).bind λu=>(V0 E st c as).bind λv=>ok (u.os++v.1,u.gs++v.2.1,u.ds++v.2.2.1,u.x::v.2.2.2)
 |_,_=>aG "arg: captured"
def aFA(st:St)(all:List A)(j d k:Nat):A->M Arg
 |.pa r u [] c i 0=>match all[j]?with
  |some (.pb b f 0)=>(pR st b f).bind λl=>match l[d]?with
   |some (.vw r' e [])=>bif Nat.beq r r'&&(Nat.beq u e&&Nat.beq k c)then(jL st r u []).bind λ_=>ok ⟨[],[],[],.i (i:Int)⟩else aG "sub: other"
   |_=>aG "sub: leaf"
  |_=>aG "sub: arg"
 |_=>aG "sub: no such place"
def FT(E:fM)(st:St)(all:List A):TypeId×PM->A->M Arg
 |(t,.ro),a=>(oR "arg: type" (E.tt.look t)).bind λti=>(aDJ E st ti a).bind λp=>ok ⟨[],[],p.1,p.2⟩
 |(t,.rp),a=>MF E st t none a
 |(t,.io el),a=>MF E st t (some el) a
 |(_,.sio lv),a=>(cN st lv (fY a)).bind λp=>ok ⟨p.os,[],p.ds,zS p.x⟩
 |(t,.mv),.vw r u []=>(dQ st r u []).bind λq=>tyE E t λti e=>bif Nat.beq q.2.1 ti.e&&vK q.2.2.1 (fC true e.lv)then ok ⟨[r],[r],[],.l q.2.2.2⟩else aG "arg: row's type"
 |(_,.mv),.nils=>ok ⟨[],[],[],.l []⟩
 |(_,.fnv f),.fn g []=>bif Nat.beq f g then ok ⟨[],[],[],.l []⟩else aG "arg: function"
 |(_,.clo f d),.fn g caps=>bif Nat.beq f g then(V0 E st d caps).bind λp=>ok ⟨p.1,p.2.1,p.2.2.1,.l p.2.2.2⟩else aG "arg: closure"
 |(_,.sub j c k),a=>aFA st all j c k a
 |_,_=>aG "arg"
def sP(E:fM)(st:St)(all:List A):List (TypeId×PM)->List A->M (List Nat×List Nat×List (Nat×Nat)×List D)
 |[],[]=>ok ([],[],[],[])
 |p::ps,a::as=>(FT E st all p a).bind λu=>(sP E st all ps as).bind λv=>ok (u.os++v.1,u.gs++v.2.1,u.ds++v.2.2.1,u.x::v.2.2.2)
 |_,_=>aG "args: number"
def lF:List Nat->St->St
 |[],st=>st
 |r::rs,st=>lF rs (st.gone r)
def SQ(k:Nat)(x:D):Nat->List A->St->M St
 |_,[],st=>ok st
 |j,.vw r _ []::as,st=>(oR "back" (look st.ar r)).bind λa=>SQ k x (j+1) as {st with ar:=qD st.ar r {a with data:=(lf k x j).els,hv:=ZI st.ctr,dv:=st.ctr},ctr:=st.ctr+1}
 |j,_::as,st=>SQ k x (j+1) as st
def Rn(el:List LT)(x:D)(st:St):A->M St
 |.pb b u 0=>(pR st b u).bind λlv=>bif Nat.beq lv.length el.length then Rl (dJ [] (nm b 0) el.length x 0 el st).1 b u 0 (dJ [] (nm b 0) el.length x 0 el st).2 else aG "back: variable"
 |_=>aG "back: pointer"
def Ho:List (TypeId×Option (List LT))->List A->List D->St->M St
 |[],_,_,st=>ok st
 |(_,some el)::c,a::as,x::xs,st=>(Rn el x st a).bind λst=>Ho c as xs st
 |(_,none)::c,_::as,xs,st=>Ho c as xs st
 |_,_,_,_=>aG "back: captured"
def JE:Nat->List A
 |0=>[]
 |n+1=>.undef::JE n
def JF(st:St)(b:Nat):St:=
 match look st.bx b with
 |some x=>{st with bx:=qD st.bx b {uid:=x.uid,lv:=JE x.lv.length}}
 |none=>st
def kC:List (TypeId×PM)->List A->St->St
 |(_,.io _)::ps,.pb b _ _::as,st=>kC ps as (JF st b)
 |_::ps,_::as,st=>kC ps as st
 |_,_,st=>st
def kZ:List (TypeId×PM)->List A->List D->St->M St
 |[],_,[],st=>ok st
 |(_,.io el)::ps,a::as,x::xs,st=>(Rn el x st a).bind λst=>kZ ps as xs st
 |(_,.sio lv)::ps,a::as,x::xs,st=>(SQ lv.length x 0 (fY a) st).bind λst=>kZ ps as xs st
 |(_,.clo _ c)::ps,.fn _ caps::as,x::xs,st=>(Ho c caps x.els st).bind λst=>kZ ps as xs st
 |(_,.ro)::ps,_::as,xs,st=>kZ ps as xs st
 |(_,.rp)::ps,_::as,xs,st=>kZ ps as xs st
 |(_,.mv)::ps,_::as,xs,st=>kZ ps as xs st
 |(_,.fnv _)::ps,_::as,xs,st=>kZ ps as xs st
 |(_,.sub _ _ _)::ps,_::as,xs,st=>kZ ps as xs st
 |_,_,_,_=>aG "giveBack"
def DN(dep:List (Nat×Nat))(d c:Nat)(x:D):RM->St->M (St×A)
 |.val agg lv,st=>
  let r:=dJ dep (nm d (64*c)) lv.length x 0 lv st
  (FX agg lv.length r.2).bind λa=>ok (r.1,a)
 |.ptr el,st=>
  match x.els with
  |[]=>ok (st,.nilp)
  |y::_=>
   let r:=dJ [] (nm d (64*c)) el.length y 0 el st
   ok (r.1.newBox d r.2,.pb d r.1.ctr 0)
def JG(dep:List (Nat×Nat))(d:Nat)(x:D):Nat->List RM->St->M (St×List A)
 |_,[],st=>ok (st,[])
 |c,m::e,st=>(DN dep d c (x.fld c) m st).bind λr=>(JG dep d x (c+1) e r.1).bind λq=>ok (q.1,r.2::q.2)
mutual
def LT.noFz:LT->Bool
 |.sl o _ el=>o&&pS el
 |.int _=>true
 |.bool=>true
 |.str=>true
def pS:List LT->Bool
 |[]=>true
 |t::ts=>t.noFz&&pS ts
end
def AF:LT->Bool
 |.sl true _ el=>pS el
 |_=>true
def zT:List RM->Bool
 |[]=>true
 |.val _ lv::l=>DK AF lv&&zT l
 |.ptr el::l=>pS el&&zT l
def vP:List (TypeId×PM)->Bool
 |[]=>true
 |(_,.io el)::l=>pS el&&vP l
 |(_,.sio lv)::l=>pS lv&&vP l
 |(_,.mv)::l=>vP l
 |(_,.ro)::l=>vP l
 |(_,.rp)::l=>vP l
 |(_,.fnv _)::l=>vP l
 |(_,.clo _ _)::_=>false
 |(_,.sub _ _ _)::_=>false
def iY:List (TypeId×PM)->Bool
 |[]=>true
 |(_,.ro)::l=>iY l
 |(_,.rp)::l=>iY l
 |(_,.io _)::l=>iY l
 |(_,.mv)::l=>iY l
 |(_,.fnv _)::l=>iY l
 |(_,.sio _)::_=>false
 |(_,.clo _ _)::_=>false
 |(_,.sub _ _ _)::_=>false
def rK:List (Nat×Nat)->Bool
 |[]=>false
 |(r,_)::l=>Nat.ble 1000000000000 r||rK l
def vQ:List RM->Bool
 |[]=>true
 |.val _ lv::l=>pS lv&&vQ l
 |.ptr el::l=>pS el&&vQ l
def PO(s:FY):List (Nat×Nat)->Bool
 |[]=>true
 |p::l=>(bif rK (p::l)then vQ s.rs else zT s.rs)&&vP s.ps
def mP:List (TypeId×PM)->Option (TypeId×List LT×Nat)
 |[(_,.sio [.sl true e el]),(_,.fnv f)]=>some (e,el,f)
 |_=>none
def MG(st:St)(r:Nat)(a:yN)(data:List D):St:={st with ar:=qD st.ar r {a with data:=data,hv:=ZI st.ctr,dv:=st.ctr},ctr:=st.ctr+1}
def Gs(st:St)(d r:Nat)(a:yN):D×List D->M St
 |(_,[x])=>ok ((MG st r a x.els).put d (.tup []))
 |_=>aG "sort: result"
def Gt(st:St)(e:TypeId)(el:List LT)(f:Nat):List A->M (Nat×yN)
 |[.vw r u [],.fn g []]=>bif Nat.beq f g&&sC el then(jL st r u []).bind λa=>match a.stale with
   |[]=>bif Nat.beq a.e e&&vK el a.el then ok (r,a)else aG "sort: row"
   |_::_=>aG "sort: stale"
   else aG "sort: function"
 |_=>aG "sort: arguments"
def RO(E:fM)(ctx:tU)(st:St)(d:Nat)(n:Nat)(s:FY)(as:List A):M St:=
 match mP s.ps with
 |some (e,el,f)=>(Gt st e el f as).bind λq=>(oR "sort: answer" (ctx n [.l q.2.data,.l []])).bind (Gs st d q.1 q.2)
 |none=>
 (sP E st as s.ps as).bind λu=>
  bif iY s.ps&&(nodup u.1&&(apart u.1 u.2.2.1&&PO s u.2.2.1))then
   (oR "call: result" (ctx n u.2.2.2)).bind λr=>
    (kZ s.ps as r.2 (kC s.ps as (lF u.2.1 st))).bind λst=>
     match s.rs with
     |[]=>ok (st.put d (.tup []))
     |[m]=>(DN u.2.2.1 d 0 r.1 m st).bind λq=>ok (q.1.put d q.2)
     |ms=>(JG u.2.2.1 d r.1 0 ms st).bind λq=>ok (q.1.put d (.tup q.2))
  else aG "call: lent twice"
def F5(sl:Tr):List Operand->List A
 |[]=>[]
 |x::xs=>eR sl x::F5 sl xs
def Hp(place:Nat->M (Nat×Nat))(st:St):List (Nat×Operand)->List A->M (List A)
 |[],l=>ok l
 |(i,x)::ps,l=>(place i).bind λq=>bif jT st (fY (eR st.sl x))&&(Nat.beq (fY (eR st.sl x)).length q.2&&Nat.ble (q.1+q.2) l.length)then Hp place st ps (vO l q.1 (fY (eR st.sl x)))else aG "build: part"
def Ro(E:fM)(ti:TI)(f:Nat):M (Nat×Nat):=(oR "build: field" ti.fs[f]?).bind λq=>(oR "build: type" (E.tt.look q.2)).bind λc=>ok (q.1,c.lv.length)
def ZK(k i:Nat):M (Nat×Nat):=ok (i*k,k)
def F6(l:List A):Nat->List A
 |0=>[]
 |n+1=>l++F6 l n
inductive uX where
 |val (a:A) |st (s:St)
def rv(x:M A):M uX:=x.bind λa=>ok (.val a)
def rs(x:M St):M uX:=x.bind λa=>ok (.st a)
def eqT(E:fM)(t:TypeId):A->A->M Bool
 |.str a,.str b=>ok (DM a b)
 |.agg xs,.agg ys=>bif has E.eqt t then(sD E t).bind λti=>bif Nat.beq xs.length ti.lv.length then Rh xs ys else aG "eq: cells"else aG "eq: type"
 |.bool a,.bool b=>(sD E t).bind λti=>match ti.agg,ti.lv with
  |false,[.bool]=>ok (FS a b)
  |_,_=>aG "eq: bool"
 |.fz _ _ _ (_::_),.nils=>(sD E t).bind λti=>bif ti.sl then ok false else aG "eq: nil"
 |.ez,.nils=>(sD E t).bind λti=>bif ti.sl then ok false else aG "eq: nil"
 |.nils,.nils=>(sD E t).bind λti=>bif ti.sl then ok true else aG "eq: nil"
 |x,c=>(oR "eq" (E.pt.look t)).bind λ_=>eqP x c
def aGE(E:fM)(t:TypeId)(op:BinOp)(x c:A):M A:=
 match op with
 |.eql=>(eqT E t x c).bind λp=>ok (.bool p)
 |.neq=>(eqT E t x c).bind λp=>ok (.bool (!p))
 |_=>aG "bin"
def Rp(R:Bool)(op:BinOp)(k c:IntKind)(a b:Int):M A:=
 match op with
 |.shl=>Cy R (cX 0 b) (.int k (k.wrap (a*2^(min b.toNat k.bits))))
 |.shr=>Cy R (cX 0 b) (.int k (a.fdiv (2^(min b.toNat k.bits))))
 |op=>bif nK k c then Om R op k a b else aG "bin: kinds"
def F7(E:fM)(R:Bool)(t:TypeId)(op:BinOp):A->A->M A
 |.int k a,.int c b=>Rp R op k c a b
 |x,d=>aGE E t op x d
def ZL:A->M uX
 |.undef=>aG "move: undef"
 |a=>ok (.val a)
def Rq(a b:A):A->M A
 |.bool c=>aE3 c a b
 |_=>aG "pick"
def ZM(x:A)(ti:TI):M A:=
 match ti.agg,ti.lv,x with
 |false,[.int k],.int _ n=>ok (.int k (bD k n))
 |_,_,_=>aG "convert"
def MH(x:A)(f:Nat)(ti:TI):M A:=
 bif ti.agg&&!ti.arr then(match ti.fs[f]?with
 |some p=>tV p.1 x
 |none=>aG "fieldAddr: field")else aG "fieldAddr: no struct"
def Rr(E:fM)(f:Nat)(ti:TI):A->M A
 |.agg l=>bif ti.arr||!ti.agg then aG "field: no struct"else(oR "field" ti.fs[f]?).bind λp=>(sD E p.2).bind λc=>FX c.agg c.lv.length (kL c.lv.length (oS p.1 l))
 |_=>aG "field"
def DO(E:fM)(R:Bool)(k:Int)(x:A)(ti:TI):M A:=
 match ti.fs with
 |(_,c)::_=>(sD E c).bind λd=>bif ti.arr&&(!R||aA k ti.fs.length)then tV (k.toNat*d.lv.length) x else aG "indexAddr: other"
 |[]=>aG "indexAddr: other"
def vR(E:fM)(R:Bool)(st:St)(k:Int)(x:A)(ti:TI):M A:=
 match x with
 |.fz dep _ el xs=>bif ti.sl&&Nat.beq ti.ek el.length then Cy R (aA k xs.length) (.pz dep el (xs.getD k.toNat (.i 0)) 0)else aG "indexAddr: type"
 |.vw r u p=>(Wg st r u p).bind λq=>bif ti.sl&&Nat.beq ti.ek q.2.1.length then Cy R (aA k q.2.2.length) (.pa r u p q.2.1.length k.toNat 0)else aG "indexAddr: type"
 |.sx r u kk n c=>bif ti.sl&&Nat.beq ti.ek kk then Cy R (aA k n) (.pa r u [] kk (c+k.toNat) 0)else aG "indexAddr: type"
 |x=>DO E R k x ti
def AG(E:fM)(R:Bool)(st:St)(t:TypeId)(x:A):A->M A
 |.int _ k=>(sD E t).bind (vR E R st k x)
 |_=>aG "indexAddr: index"
def VK(R:Bool)(x i:A)(ti:TI):M A:=
 match x,i with
 |.str s,.int _ k=>bif Hm ti then Cy R (aA k s.length) (.int .u8 ((s.getD k.toNat 0).toNat:Int))else aG "index: type"
 |_,_=>aG "index"
def PP(i:Nat):A->M A
 |.tup l=>oR "extract" l[i]?
 |_=>aG "extract"
def yS:A->M A
 |.pb b u o=>ok (.pb b u o)
 |.pa r u p k i o=>ok (.pa r u p k i o)
 |.pz dep el x o=>ok (.pz dep el x o)
 |_=>aG "nilCheck"
def Wh(E:fM)(st:St)(parts:Array (Nat×Operand))(ti:TI):M A:=
 match ti.fs with
 |(_,c)::_=>(sD E c).bind λd=>(Hp (ZK d.lv.length) st parts.toList (JB ti.lv)).bind λl=>ok (.agg l)
 |[]=>aG "build: empty"
def Rs(E:fM)(st:St)(parts:Array (Nat×Operand))(ti:TI):M A:=
 bif ti.arr then Wh E st parts ti else bif ti.agg then(Hp (Ro E ti) st parts.toList (JB ti.lv)).bind λl=>ok (.agg l)else aG "build: no struct"
def AH(c:fR)(R gd:Bool)(st:St)(d:Nat)(ti:TI)(l h:Option Int)(x:A):M uX:=
 match x with
 |.vw r u p=>bif ti.sl then(bif has c.pfx d then rv (Ri R st ti.ek r u p l h)else bif has c.snap d then rv (U8 R st ti.ek r u p l h)else bif gd then aG "cut under a guard"else rs (aFy st d ti.ek r u p l h))else aG "slice: type"
 |a=>rv (MD R ti a l h)
def VL(E:fM)(e:fR)(R gd:Bool)(st:St)(d:Nat)(t:TypeId)(x:A)(f c:Option A):M uX:=
 mO st x λx=>(sD E t).bind λti=>(ME f).bind λl=>(ME c).bind λh=>AH e R gd st d ti l h x
def SR(st:St)(first captured:Array Operand):Fn->M A
 |.func f=>match first.toList with
  |[]=>ok (.fn f (F5 st.sl captured.toList))
  |_=>aG "makeFunc"
 |_=>aG "makeFunc"
def aBq(ti:TI):A->Bool
 |.str _=>Hm ti
 |_=>ti.sl
def Wi(E:fM)(st:St)(t:TypeId):List Operand->M A
 |[x]=>(sD E t).bind λti=>bif aBq ti (eR st.sl x)then(mO st (eR st.sl x) (lenOf st)).bind λn=>ok (.int .i64 (n:Int))else aG "len: type"
 |_=>aG "len: args"
def cellsOf(st:St)(d:Nat)(parts:Array (Nat×Operand))(c:TI):M (List A):=Hp (ZK c.lv.length) st parts.toList (F6 (JB c.lv) d)
def aE5(st:St)(c:Nat)(parts:Array (Nat×Operand))(ti d:TI):M A:=
 bif ti.sl&&(Nat.ble c 16777216&&Nat.ble (c*d.lv.length) 16777216)then
  (cellsOf st c parts d).bind λl=>(F4 st (Fu d.lv c) l).bind λp=>ok (.fz p.1 ti.e d.lv (GX d.lv.length c p.2))else aG "literal: size"
def Db(h:fR)(st:St)(d e:Nat)(ti c:TI)(l:List A):M St:=
 bif has h.arr d then
  (yP st (nm d 0) ti.e c (match look h.el d with|some el=>el |none=>aBm c.lv (kL c.lv.length l)) [] (.cells e l)).bind λs=>ok (s.put d (.vw (nm d 0) (jA s (nm d 0) []) []))
 else ok ((st.newBox d l).put d (.sb d st.ctr c.lv.length e))
def Hq(h:fR)(st:St)(d c:Nat)(parts:Array (Nat×Operand))(ti e:TI):M St:=
 bif ti.sl&&(Nat.ble c 16777216&&Nat.ble (c*e.lv.length) 16777216)then
  (cellsOf st c parts e).bind λl=>bif jT st l then Db h st d c ti e l else aG "buildSlice: cells"
 else aG "buildSlice: size"
def Rt(st:St)(d:Nat)(ti:TI):M St:=ok ((st.newBox d (JB ti.lv)).put d (.pb d st.ctr 0))
def aBr(st:St)(d:Nat)(x:A):M St:=bif jT st (fY x)then ok ((st.newBox d (fY x)).put d (.pb d st.ctr 0))else aG "box: cells"
def MJ(h:fR)(d:Nat)(c:TI):List LT:=match look h.el d with|some el=>el |none=>fC true c.lv
def Ru(h:fR)(st:St)(d:Nat)(n m:Int)(ti c:TI):M St:=
 bif ti.sl&&(cX 0 n&&(aD n m&&(jN n.toNat c.bytes&&vK (fC false (MJ h d c)) c.lv)))then
  ok ((st.newArr d ti.e (MJ h d c) (List.replicate n.toNat (zS (fW c.lv)))).view d)
 else aG "make: size"
def Rv(E:fM)(h:fR)(st:St)(d:Nat)(t:TypeId):A->A->M St
 |.int .i64 n,.int .i64 m=>tyE E t (Ru h st d n m)
 |_,_=>aG "make"
def VM(E:fM)(h:fR)(st:St)(d:Nat)(t:TypeId):List Operand->M St
 |[x,e]=>tyE E t λti c=>bif ti.sl then JC st d c ti.e (look h.el d) (eR st.sl x) (eR st.sl e)else aG "append: type"
 |_=>aG "append: args"
def VN:List LT->Bool
 |[]=>true
 |.int _::l=>VN l
 |_::_=>false
def aBs(ti:TI):Bool:=match ti.agg,ti.lv with|false,[.int .i64]=>true |_,_=>false
def Rw(st:St)(d:Nat)(n:Int)(ti c e:TI):M St:=
 bif ti.sl&&(aBs e&&(VN c.lv&&(Nat.ble 1 c.lv.length&&(aT 0 n&&jN n.toNat c.bytes))))then
  ok ((st.newArr d ti.e c.lv (List.replicate n.toNat (zS (fW c.lv)))).view d)
 else aG "append: zeros"
def Rx(st:St)(d:Nat)(ti c e:TI):A->A->M St
 |.nils,.int .i64 n=>Rw st d n ti c e
 |_,_=>aG "append: two types"
def PQ(E:fM)(st:St)(d:Nat)(t c:TypeId):List Operand->M St
 |[x,g]=>tyE E t λti e=>(sD E c).bind λf=>Rx st d ti e f (eR st.sl x) (eR st.sl g)
 |_=>aG "append: args"
def aE6(E:fM)(st:St)(t:TypeId):List Operand->M A
 |[x]=>(sD E t).bind λti=>bif ti.sl then(match eR st.sl x with
  |.nils=>ok (.int .i64 0)
  |_=>aG "cap")else aG "cap: type"
 |_=>aG "cap: args"
def aE7(x d:A):M A:=
 match x,d with
 |.int k a,.int c b=>bif nK k c then ok (.int k (bif aT b a then b else a))else aG "min: kinds"
 |_,_=>aG "min"
def aBt(st:St):List Operand->M A
 |[x,c]=>aE7 (eR st.sl x) (eR st.sl c)
 |_=>aG "min: arguments"
def F8(st:St)(lv:List LT):A->M St
 |.sx r u k n c=>(jL st r u []).bind λa=>match a.stale,a.el,lv with
   |[],t::el,d::lv=>bif VN (t::el)&&vK (t::el) (d::lv)then ok (MG st r a (a.data.take c++List.replicate n (zS (fW (t::el)))))else aG "clear: kinds"
   |_,_,_=>aG "clear: row"
 |_=>aG "clear"
def V1(E:fM)(st:St)(t:TypeId):List Operand->M St
 |[x]=>tyE E t λti c=>bif ti.sl then mO st (eR st.sl x) (F8 st c.lv)else aG "clear: type"
 |_=>aG "clear: arguments"
def jI(E:fM)(h:fR)(gd:Bool)(st:St)(d:Nat)(c:Array Operand)(e:Array TypeId):Builtin->M uX
 |.len=>match e.toList with
  |t::_=>rv (Wi E st t c.toList)
  |[]=>aG "len: types"
 |.min=>rv (aBt st c.toList)
 |.cap=>match e.toList with
  |t::_=>rv (aE6 E st t c.toList)
  |[]=>aG "cap: types"
 |.clear=>bif gd then aG "clear under a guard"else match e.toList with
  |t::_=>(V1 E st t c.toList).bind λs=>ok (.st (s.put d (.tup [])))
  |[]=>aG "clear: types"
 |.append=>bif gd then aG "append under a guard"else match e.toList with
  |[t,f]=>bif Nat.beq t f then rs (VM E h st d t c.toList)else rs (PQ E st d t f c.toList)
  |_=>aG "append: types"
 |_=>aG "builtin"
def ZN(ctx:tU)(R:Bool)(m:Nat)(agg:Bool)(lv:List LT)(ds:List (Nat×Nat))(xs:List D):M uX:=
 (oR "guarded call" (bif R then ctx m xs else some (.i 0,[]))).bind λr=>
  match r.2 with
  |[]=>rv (FX agg lv.length (JA ds lv.length r.1 0 lv))
  |_::_=>aG "guarded call: gives back"
def ZO(E:fM)(ctx:tU)(st:St)(R:Bool)(d m:Nat)(s:FY)(as:List A)(agg:Bool):List LT->M uX
 |[.bool]=>bif agg then aG "guarded call: lends"else bif R then rs (RO E ctx st d m s as)else ok (.val (.bool false))
 |_=>aG "guarded call: lends"
def HO(E:fM)(ctx:tU)(st:St)(R:Bool)(d m:Nat)(as:List A)(s:FY):M uX:=
 match s.rs with
 |[.val agg lv]=>(sP E st as s.ps as).bind λu=>
  match u.1 with
  |[]=>bif iY s.ps&&(!rK u.2.2.1||sC lv)then ZN ctx R m agg lv u.2.2.1 u.2.2.2 else aG "guarded call: what is read"
  |_::_=>ZO E ctx st R d m s as agg lv
 |_=>aG "guarded call: results"
def MK(h:fR)(d n:Nat):Nat:=match look h.inst d with|some m=>m |none=>n
def SS(E:fM)(h:fR)(ctx:tU)(R gd:Bool)(st:St)(d:Nat)(c:Array Operand):A->M uX
 |.fn n caps=>(oR "call: no signature" (E.sg.look (MK h d n))).bind λs=>bif Nat.beq s.fn n then
   (bif gd then HO E ctx st R d (MK h d n) (F5 st.sl c.toList++caps) s else rs (RO E ctx st d (MK h d n) s (F5 st.sl c.toList++caps)))
   else aG "call: another function"
 |_=>aG "call: callee"
def DP(E:fM)(h:fR)(ctx:tU)(R gd:Bool)(st:St)(d:Nat)(c:Array Operand)(e:Array TypeId):Callee->M uX
 |.value f=>SS E h ctx R gd st d c (eR st.sl f)
 |.builtin b=>jI E h gd st d c e b
 |.invoke _ _=>aG "invoke"
def Ry(E:fM)(t:TypeId):M Nat:=
 match E.tt.look t with
 |some ti=>ok ti.lv.length
 |none=>(oR "size" (E.pt.look t)).bind λ_=>ok 1
def VO(st:St)(n:Nat)(p v:A):M St:=bif jT st (fY v)&&Nat.beq (fY v).length n then mO st p λp=>ZJ st p v else aG "store: size"
def tW(gd:Bool)(x:M St):M uX:=bif gd then aG "under a guard"else rs x
def uY:LT->A->Bool
 |.str,.str _=>true
 |.int k,.int c _=>nK k c
 |.bool,.bool _=>true
 |_,_=>false
def FZ:A->A->M Bool
 |.str a,.str b=>ok (DM a b)
 |.int k a,.int c b=>bif nK k c then ok (aD a b)else aG "map: keys"
 |_,_=>aG "map: keys"
def On(k:A):Nat->List (A×A)->M (Option (Nat×A))
 |_,[]=>ok none
 |i,(c,v)::l=>(FZ k c).bind λq=>bif q then ok (some (i,v))else On k (i+1) l
def aBu:LT->A
 |.int k=>.int k 0
 |.bool=>.bool false
 |.str=>.str []
 |.sl ..=>.nils
def LQ:LT->Bool
 |.str=>true
 |.int _=>true
 |_=>false
def F9:LT->Bool
 |.sl _ _ _=>false
 |_=>true
def yL:A->D
 |.int _ n=>.i n
 |.bool b=>.b b
 |.str s=>.s s
 |_=>.i 0
def MV.dec(v:MV):List (A×A):=aBk (λx=>(DL [] v.kk (x.fld 0),DL [] v.ek (x.fld 1))) v.m
def eqD:LT->D->D->Bool
 |.str,a,b=>DM a.toS b.toS
 |.int _,a,b=>aD a.toI b.toI
 |_,_,_=>false
def iM(kk:LT)(k:D):Nat->List D->Option (Nat×D)
 |_,[]=>none
 |i,x::l=>bif eqD kk k (x.fld 0)then some (i,x.fld 1)else iM kk k (i+1) l
def yT(ek:LT):Option (Nat×D)->D
 |some q=>q.2
 |none=>ek.zero
def aBv:Option (Nat×D)->Bool
 |some _=>true
 |none=>false
def DQ(k v:D)(m:List D):Option (Nat×D)->List D
 |some q=>m.set q.1 (.l [k,v])
 |none=>m++[.l [k,v]]
def Hr(E:fM)(st:St)(t:TypeId)(c:Bool)(k:A):A->M A
 |.mp b u=>(oR "lookup: type" (E.mt.look t)).bind λd=>(Cz st b u).bind λv=>
   bif LQ d.kk&&(uY d.kk k&&(F9 d.ek&&(v.kk.beq d.kk&&v.ek.beq d.ek)))then
    ok (bif c then .tup [DL [] d.ek (yT d.ek (iM d.kk (yL k) 0 v.m)),.bool (aBv (iM d.kk (yL k) 0 v.m))]else DL [] d.ek (yT d.ek (iM d.kk (yL k) 0 v.m)))
   else aG "lookup: key"
 |_=>aG "lookup"
def Hs(E:fM)(st:St)(t:TypeId)(k v:A):A->M St
 |.mp b u=>(oR "map: type" (E.mt.look t)).bind λc=>(Cz st b u).bind λx=>
   bif LQ c.kk&&(uY c.kk k&&(uY c.ek v&&(x.kk.beq c.kk&&x.ek.beq c.ek)))then
    ok {st with bx:=qD st.bx b {uid:=u,lv:=[],mp:=some {x with m:=DQ (yL k) (yL v) x.m (iM c.kk (yL k) 0 x.m)}}}
   else aG "map: key"
 |_=>aG "map: update"
def ZP(st:St)(d:Nat)(c:MI):M St:=ok ({st with bx:=qD st.bx d {uid:=st.ctr,lv:=[],mp:=some {kk:=c.kk,ek:=c.ek,m:=[]}},ctr:=st.ctr+1}.put d (.mp d st.ctr))
def Wj(st:St):A->M A
 |.pb b u off=>(pR st b u).bind λl=>oR "load: pointer" l[off]?
 |_=>aG "load: pointer"
def Wk(E:fM)(st:St)(d:Nat)(t:TypeId):M St:=
 match E.tt.look t with
 |some ti=>Rt st d ti
 |none=>(oR "alloc: type" (E.pt.look t)).bind λ_=>ok ((st.newBox d [.nilp]).put d (.pb d st.ctr 0))
def V2(E:fM)(st:St)(t:TypeId)(x:A):M A:=
 match E.tt.look t with
 |some ti=>VJ st ti x
 |none=>(oR "load: type" (E.pt.look t)).bind λ_=>Wj st x
def rL(E:fM)(h:fR)(ctx:tU)(R gd:Bool)(st:St)(d:Nat):Op->M uX
 |.move x=>ZL (eR st.sl x)
 |.assign x=>ZL (eR st.sl x)
 |.load t x=>bif has h.take d then tW gd ((V2 E st t (eR st.sl x)).bind (F3 st d))else rv (V2 E st t (eR st.sl x))
 |.fieldAddr t x f=>rv ((sD E t).bind λti=>mO st (eR st.sl x) λx=>MH x f ti)
 |.indexAddr t x i=>rv (mO st (eR st.sl x) λx=>AG E R st t x (eR st.sl i))
 |.binOp op t x e _=>rv (mO st (eR st.sl x) λx=>mO st (eR st.sl e) λe=>F7 E R t op x e)
 |.pick c a b=>rv (Rq (eR st.sl a) (eR st.sl b) (eR st.sl c))
 |.unOp op _ x=>rv (unA op (eR st.sl x))
 |.call c=>DP E h ctx R gd st d c.args c.argTypes c.callee
 |.nilCheck x=>rv (mO st (eR st.sl x) yS)
 |.extract x i=>rv (PP i (eR st.sl x))
 |.store t p x=>tW gd (((Ry E t).bind λn=>VO st n (eR st.sl p) (eR st.sl x)).bind λs=>ok (s.put d .undef))
 |.alloc t=>tW gd (Wk E st d t)
 |.box _ x=>tW gd (aBr st d (eR st.sl x))
 |.build t parts=>rv ((sD E t).bind (Rs E st parts))
 |.buildSlice t g parts=>bif has h.fzl d then rv (tyE E t (aE5 st g parts))else tW gd (tyE E t (Hq h st d g parts))
 |.makeSlice t n m=>tW gd (Rv E h st d t (eR st.sl n) (eR st.sl m))
 |.slice t x r l none=>VL E h R gd st d t (eR st.sl x) (r.map (eR st.sl)) (l.map (eR st.sl))
 |.field t x f=>rv ((sD E t).bind λti=>Rr E f ti (eR st.sl x))
 |.index t x i=>rv ((sD E t).bind (VK R (eR st.sl x) (eR st.sl i)))
 |.convert u t x=>rv ((sD E u).bind λ_=>(sD E t).bind (ZM (eR st.sl x)))
 |.makeFunc f first j=>rv (SR st first j f)
 |.lookup t x k c=>rv (Hr E st t c (eR st.sl k) (eR st.sl x))
 |.makeMap t none=>tW gd ((oR "make: map" (E.mt.look t)).bind (ZP st d))
 |.mapUpdate t x k v=>tW gd ((Hs E st t (eR st.sl k) (eR st.sl v) (eR st.sl x)).bind λs=>ok (s.put d .undef))
 |_=>aG "kind of operation"
def gM:List (TypeId×PM)->Bool
 |[]=>true
 |(_,.ro)::l=>gM l
 |(_,.rp)::l=>gM l
 |(_,.fnv _)::l=>gM l
 |_::_=>false
def LR(h:fR)(o:Oper):Option (Nat×InH):=
 match h.inl with
 |[]=>none
 |l=>match o.dst with
  |some d=>(look l d).map λq=>(d,q)
  |none=>none
def jW(E:fM)(h:fR)(o:Oper):Bool:=
 match LR h o with
 |some _=>false
 |none=>
 match o.op with
 |.call c=>match c.callee with
  |.value (.func f)=>match E.sg.look (MK h (HN h.nb+o.dst.getD 4000) f)with
   |some s=>gM s.ps
   |none=>false
  |_=>false
 |_=>false
abbrev Wl:=List (Nat×(Bool×Bool×List (Nat×Bool)))
abbrev ZQ:=List (Nat×List (Nat×Bool))
def inG:List (Nat×Bool)->Nat×Bool->Bool
 |[],_=>false
 |(i,b)::l,p=>(Nat.beq i p.1&&FS b p.2)||inG l p
def Wm(l m:List (Nat×Bool)):Bool:=!RD (λp=>!inG m p) l
def VP(sg:ZQ):Operand->List (Nat×Bool)
 |.tmp t=>match look sg t with|some g=>g |none=>[]
 |_=>[]
def aBw(sg:ZQ):List Operand->List (Nat×Bool)
 |[]=>[]
 |x::xs=>VP sg x++aBw sg xs
def gF(l:List (Nat×Bool))(p:Nat×Bool):List (Nat×Bool):=
 match l with
 |[]=>[]
 |q::l=>bif Nat.beq q.1 p.1&&FS q.2 p.2 then gF l p else q::gF l p
structure RS where
 st:St
 ge:Wl
 sg:ZQ
 by_:List (Nat×Nat)
def Wn(s:RS)(c:Nat)(a b:Operand):List (Nat×Bool):=
 match look s.by_ c with
 |some j=>VP s.sg (.tmp c)++(gF (VP s.sg a) (j,true)++gF (VP s.sg b) (j,false))
 |none=>VP s.sg (.tmp c)++(VP s.sg a++VP s.sg b)
def aBx(s:RS):Op->List (Nat×Bool)
 |.pick (.tmp c) a b=>Wn s c a b
 |op=>aBw s.sg op.operands.toList
def Wo(s:RS)(o:Oper):List (Nat×Bool):=
 match s.sg with
 |[]=>[]
 |_::_=>aBx s o.op
def Wp(d:Nat)(sg:ZQ):List (Nat×Bool)->ZQ
 |[]=>match sg with|[]=>[] |_::_=>oH sg d
 |g::G=>qD sg d (g::G)
def Dc(i:Nat)(R:Bool)(G:List (Nat×Bool))(ge:Wl):A->Wl
 |.bool b=>(i,(R,b,G))::ge
 |_=>ge
def V3(i d:Nat)(l:List (Nat×Nat)):A->List (Nat×Nat)
 |.bool _=>(d,i)::l
 |_=>match l with|[]=>[] |_::_=>oH l d
def RS.note(s:RS)(i d:Nat)(R:Bool)(G:List (Nat×Bool))(st:St)(a:A):RS:=
 {st:=st,ge:=Dc i R G s.ge a,sg:=Wp d s.sg G,by_:=V3 i d s.by_ a}
def St.mv(st:St)(e d:Nat):St:=bif Nat.beq e d then st else(st.put d (st.sl.get e)).put e .undef
def VQ(s:RS)(i d e:Nat)(R:Bool)(G:List (Nat×Bool)):uX->M RS
 |.val a=>ok (s.note i d R G (s.st.put d a) a)
 |.st st=>ok (s.note i d R G (st.mv e d) ((st.mv e d).sl.get d))
def Rz(s:RS):uX->M RS
 |.val _=>ok s
 |.st st=>ok {s with st:={st with sl:=s.st.sl}}
def Ht:List A->Nat->Tr->Tr
 |[],_,t=>t
 |a::as,i,t=>Ht as (i+1) (t.set i a)
def Hu(sl:Tr)(b:Nat):List Nat->Tr->Tr
 |[],c=>c
 |t::ts,c=>Hu sl b ts (c.set (b+t) (sl.get t))
def Wq(sl:Tr)(b:Nat):List Nat->Tr->Tr
 |[],c=>c
 |t::ts,c=>Wq sl b ts (c.set t (sl.get (b+t)))
def Oo(sg:ZQ)(t:Nat):Bool:=
 match VP sg (.tmp t)with
 |[]=>true
 |_::_=>false
def aBy(sg:ZQ)(q:InH):Bool:=
 Nat.ble 1000 q.base&&(DK (λt=>Nat.ble (t+1) 1000&&Oo sg t) q.live&&DK (λt=>Nat.ble 1000 t&&((Nat.ble (t+1) q.base||Nat.ble (q.base+1000) t)&&Oo sg t)) q.old)
def Hv(st:St)(q:InH)(as:List A):St:={st with sl:=Hu st.sl 0 q.old (Hu st.sl q.base q.live (Ht as 0 .nil))}
def DR(st:St)(q:InH):St:={st with sl:=Hu st.sl 0 q.old (Wq st.sl q.base q.live .nil)}
def aBz(s:RS)(i d:Nat)(q:InH)(g:Ifn)(as:List A):M RS:=
 bif aBy s.sg q&&(Nat.beq as.length g.np&&Nat.ble g.np 500)then
  (g.run (Hv s.st q as)).bind λr=>ok (s.note i d true [] ((DR r.2 q).put d r.1) r.1)
 else aG "in place: slots"
def VR(E:fM)(ctx:tU)(i:Nat)(o:Oper)(s:RS)(d:Nat)(q:InH):M RS:=
 match o.op with
 |.call c=>match c.callee with
  |.value f=>match eR s.st.sl f with
   |.fn n caps=>(oR "in place: what" (E.ic ctx q.site)).bind λg=>bif Nat.beq g.fn n then aBz s i d q g (F5 s.st.sl c.args.toList++caps)else aG "in place: another"
   |_=>aG "in place: callee"
  |_=>aG "in place: callee"
 |_=>aG "in place: no call"
def DF(E:fM)(h:fR)(ctx:tU)(i:Nat)(o:Oper)(s:RS)(R gd:Bool)(G:List (Nat×Bool)):M RS:=
 match o.dst with
 |some d=>(rL E h ctx R gd s.st (HN h.nb+d) o.op).bind (VQ s i d (HN h.nb+d) R G)
 |none=>bif gd then aG "guarded, no slot"else(rL E h ctx R gd s.st (HN h.nb+4000) o.op).bind (Rz s)
def aE8(st:St):A->A->Bool
 |.vw r u p,.vw r' d p'=>Nat.beq r r'&&(Nat.beq u d&&(match p,p' with
  |[],[]=>jM st (.vw r u p)
  |_,_=>false))
 |.int k n,.int c n'=>nK k c&&aD n n'
 |.bool b,.bool b'=>FS b b'
 |_,_=>false
def Dd(E:fM)(s:RS)(c:Nat×Nat×Nat):Bool:=
 Oo s.sg c.1&&(Oo s.sg c.2.2&&match(sD E c.2.1).bind λti=>VJ s.st ti (eR s.st.sl (.tmp c.2.2))with
  |some a=>aE8 s.st a (eR s.st.sl (.tmp c.1))
  |none=>false)
def ckS(E:fM)(l:List (Nat×Nat×Nat))(s:RS):M RS:=bif DK (Dd E s) l then ok s else aG "a load that came before"
def aGH(i:Nat):Op->Nat
 |.store _ (.tmp n) _=>5000+n
 |_=>6000+i
def aGI(i:Nat)(o:Oper):Nat:=match o.dst with|some d=>d |none=>aGH i o.op
def ckP(h:fR)(i:Nat)(o:Oper):List (Nat×Nat×Nat):=
 match h.cks with
 |[]=>[]
 |l=>match look l (aGI i o)with
  |some x=>x
  |none=>[]
def CK(E:fM)(h:fR)(ctx:tU)(i:Nat)(o:Oper)(s:RS)(R gd:Bool)(G:List (Nat×Bool)):M RS:=
 match LR h o with
 |some q=>bif gd then aG "in place, under a guard"else(VR E ctx i o s q.1 q.2).bind (ckS E q.2.ck)
 |none=>match ckP h i o with
  |[]=>DF E h ctx i o s R gd G
  |c::l=>bif gd then aG "a check, under a guard"else(DF E h ctx i o s R gd G).bind (ckS E (c::l))
def Sa(E:fM)(h:fR)(ctx:tU)(i:Nat)(o:Oper)(s:RS)(j:Nat)(c:Bool)(g:Bool×Bool×List (Nat×Bool)):M RS:=
 bif Wm (Wo s o) ((j,c)::g.2.2)then CK E h ctx i o s (g.1&&FS g.2.1 c) true ((j,c)::g.2.2)else aG "guards of operands (guarded)"
def ST(E:fM)(h:fR)(ctx:tU)(i:Nat)(o:Oper)(s:RS):M RS:=
 match o.guard with
 |none=>bif Wm (Wo s o) []then CK E h ctx i o s true false []else aG "guards of operands"
 |some p=>(oR "guard: not known" (look s.ge p.1)).bind (Sa E h ctx i o s p.1 p.2)
def JH(E:fM)(h:fR)(ctx:tU):List (Nat×Oper)->RS->M RS
 |[],s=>ok s
 |p::l,s=>(ST E h ctx p.1 p.2 s).bind (JH E h ctx l)
def G4:Nat->List Oper->List (Nat×Oper)
 |_,[]=>[]
 |i,o::l=>(i,o)::G4 (i+1) l
def ML(ops:List Oper):List Nat->List (Nat×Oper)
 |[]=>[]
 |i::l=>match ops[i]?with
  |some o=>(i,o)::ML ops l
  |none=>ML ops l
def CL(h:fR)(id:Nat)(ops:Array Oper):List (Nat×Oper):=
 match look h.ord id with
 |some l=>ML ops.toList l
 |none=>G4 0 ops.toList
def tX:ZQ->St->St
 |[],st=>st
 |(_,[])::l,st=>tX l st
 |(d,_::_)::l,st=>tX l (st.put d .undef)
mutual
def A.mapR(f:A->A):A->A
 |.agg xs=>.agg (mapR f xs)
 |.tup xs=>.tup (mapR f xs)
 |.fn g xs=>.fn g (mapR f xs)
 |.int k n=>.int k n
 |.bool b=>.bool b
 |.undef=>.undef
 |a=>f a
def mapR(f:A->A):List A->List A
 |[]=>[]
 |x::xs=>x.mapR f::mapR f xs
end
mutual
def A.any(f:A->Bool):A->Bool
 |.agg xs=>VS f xs
 |.tup xs=>VS f xs
 |.fn _ xs=>VS f xs
 |.int _ _=>false
 |.bool _=>false
 |.undef=>false
 |a=>f a
def VS(f:A->Bool):List A->Bool
 |[]=>false
 |x::xs=>x.any f||VS f xs
end
def zU:List (Nat×Nat)->List (Nat×Nat)
 |[]=>[]
 |(r,_)::l=>(r,0)::zU l
def oA(st:St):A->A
 |.fz dep e el xs=>bif depOk st dep then .fz (zU dep) e el xs else .undef
 |.vw r u p=>match jL st r u p with|some _=>.vw r 0 p |none=>.undef
 |.px r u n=>match jL st r u []with|some _=>.px r 0 n |none=>.undef
 |.sx r u k n c=>match jL st r u []with|some _=>.sx r 0 k n c |none=>.undef
 |.sb b u k n=>match pR st b u with|some _=>.sb b 0 k n |none=>.undef
 |.pa r u p k i off=>match jL st r u p with|some _=>.pa r 0 p k i off |none=>.undef
 |.pb b u off=>match pR st b u with|some _=>.pb b 0 off |none=>.undef
 |.mp b u=>match Cz st b u with|some _=>.mp b 0 |none=>.undef
 |.pz dep el x off=>bif depOk st dep then .pz (zU dep) el x off else .undef
 |a=>a
def VT(st:St):List (Nat×Bx)->List (Nat×Bx)
 |[]=>[]
 |(b,x)::l=>(b,{x with uid:=0,lv:=mapR (oA st) x.lv})::VT st l
def VU:List (Nat×yN)->List (Nat×yN)
 |[]=>[]
 |(r,a)::l=>(r,{a with uid:=0,hv:=ZI 0,dv:=0})::VU l
def Oq(f:A->A)(t:Tr):List Nat->Tr->Tr
 |[],c=>c
 |k::ks,c=>Oq f t ks (c.set k ((t.get k).mapR f))
def St.keep(st:St)(ks:List Nat):St:=
 {sl:=Oq (oA st) st.sl ks .nil,bx:=VT st st.bx,ar:=VU st.ar,ctr:=1}
def VV(q r:Nat):A->A
 |.vw c u p=>bif Nat.beq c q then .vw r u p else bif Nat.beq c r then .undef else .vw c u p
 |.px c u n=>bif Nat.beq c q then .px r u n else bif Nat.beq c r then .undef else .px c u n
 |.sx c u k n d=>bif Nat.beq c q then .sx r u k n d else bif Nat.beq c r then .undef else .sx c u k n d
 |.pa c u p k i off=>bif Nat.beq c q then .pa r u p k i off else bif Nat.beq c r then .undef else .pa c u p k i off
 |.fz [] e el xs=>.fz [] e el xs
 |.fz _ _ _ _=>.undef
 |.pz [] el x off=>.pz [] el x off
 |.pz _ _ _ _=>.undef
 |a=>a
def q8(q r:Nat):List (Nat×Bx)->List (Nat×Bx)
 |[]=>[]
 |(b,x)::l=>(b,{x with lv:=mapR (VV q r) x.lv})::q8 q r l
def Wr(q r:Nat):List (Nat×yN)->List (Nat×yN)
 |[]=>[]
 |(m,a)::l=>bif Nat.beq m r then Wr q r l else(bif Nat.beq m q then r else m,a)::Wr q r l
def Ws(f:A->A)(t:Tr):List Nat->Tr->Tr
 |[],c=>c
 |k::ks,c=>Ws f t ks (c.set k ((t.get k).mapR f))
def St.rename(ks:List Nat)(st:St)(q r:Nat):St:=
 bif Nat.beq q r then st else{st with sl:=Ws (VV q r) st.sl ks .nil,bx:=q8 q r st.bx,ar:=Wr q r st.ar}
def Nn(b:Nat):A->Bool
 |.pb b' _ _=>Nat.beq b' b
 |.sb b' _ _ _=>Nat.beq b' b
 |.mp b' _=>Nat.beq b' b
 |_=>false
def Hw(r:Nat):List (Nat×Nat)->Bool
 |[]=>false
 |(m,_)::l=>bif Nat.beq m r then true else Hw r l
def DS(r:Nat):A->Bool
 |.fz dep _ _ _=>Hw r dep
 |.vw r' _ _=>Nat.beq r' r
 |.px r' _ _=>Nat.beq r' r
 |.sx r' _ _ _ _=>Nat.beq r' r
 |.pa r' _ _ _ _ _=>Nat.beq r' r
 |.pz dep _ _ _=>Hw r dep
 |_=>false
def RE(f:A->Bool)(t:Tr):List Nat->Bool
 |[]=>false
 |k::ks=>(t.get k).any f||RE f t ks
def q9(f:A->Bool)(c:Nat):List (Nat×Bx)->Bool
 |[]=>false
 |(m,x)::l=>(!(Nat.beq m c)&&VS f x.lv)||q9 f c l
def MM(f:A->Bool):List (Nat×Bx)->Bool
 |[]=>false
 |(_,x)::l=>VS f x.lv||MM f l
def gcB(ks:List Nat)(st:St):List (Nat×Bx)->List (Nat×Bx)
 |[]=>[]
 |(b,l)::r=>bif RE (Nn b) st.sl ks||q9 (Nn b) b st.bx then(b,l)::gcB ks st r else gcB ks st r
def gcR(ks:List Nat)(st:St):List (Nat×yN)->List (Nat×yN)
 |[]=>[]
 |(r,a)::l=>bif RE (DS r) st.sl ks||MM (DS r) st.bx then(r,a)::gcR ks st l else gcR ks st l
mutual
def Hx:LT->LT->Bool
 |.sl true e el,f=>
  match f with
  |.sl true c d=>Nat.beq e c&&LS el d
  |.sl false c d=>Nat.beq e c&&vK d (fC false el)
  |_=>false
 |t,f=>t.beq f
def LS:List LT->List LT->Bool
 |[],l=>match l with
  |[]=>true
  |_::_=>false
 |t::ts,l=>match l with
  |[]=>false
  |t'::c=>Hx t t'&&LS ts c
end
def Wt(ks:List Nat)(d:Nat)(c:Conv)(a:A)(st:St):M (St×A):=
 match c,a with
 |.own e el,.nils=>bif RE (DS d) st.sl ks||MM (DS d) st.bx then aG "conv: name"else
   ok ({st with ar:=qD st.ar d {e:=e,el:=el,data:=[],uid:=0,hv:=ZI 0,dv:=0}},.vw d 0 [])
 |.own _ _,.vw q 0 []=>ok (St.rename ks st q d,.vw d 0 [])
 |.fz e el,.nils=>ok (st,.fz [] e el [])
 |.fz _ _,.fz [] e el xs=>ok (st,.fz [] e el xs)
 |.frz _ _,.nils=>ok (st,.nils)
 |.frz e el,.vw q 0 []=>(oR "frz: array" (look st.ar q)).bind λa=>
   match a.stale with
   |[]=>bif Nat.beq a.uid 0&&(Nat.beq a.e e&&LS a.el el)then
     ok ({st with ar:=qD st.ar q {a with el:=el,hv:=ZI st.ctr},ctr:=st.ctr+1},.vw q 0 [])else aG "frz: types"
   |_::_=>aG "frz: stale"
 |.fzA e el,.nils=>ok (st,.fz [] e el [])
 |.fzA _ _,.fz [] e el xs=>ok (st,.fz [] e el xs)
 |.fzA e el,.vw q 0 []=>(oR "fzA: array" (look st.ar q)).bind λa=>
   match a.stale with
   |[]=>bif Nat.beq a.uid 0&&(Nat.beq a.e e&&vK el (fC false a.el))then
     ok ({st with ar:=oH st.ar q},.fz [] e el a.data)else aG "fzA: types"
   |_::_=>aG "fzA: stale"
 |_,_=>aG "conv"
def Wu(ks:List Nat)(nb:Nat):List (Nat×Conv)->St->M St
 |[],st=>ok st
 |(t,c)::l,st=>bif has ks t then(Wt ks (200000+(nb+t)) c (st.sl.get t) st).bind λq=>Wu ks nb l (q.1.put t q.2)else aG "conv: slot"
def ZR(ks:List Nat):List (Nat×Nat×Conv)->St->M St
 |[],st=>ok st
 |(b,j,c)::l,st=>match look st.bx b with
  |none=>ZR ks l st
  |some x=>(Wt ks (300000+64*b+j) c (x.lv.getD j .undef) st).bind λq=>(oR "bconv" (look q.1.bx b)).bind λx=>ZR ks l {q.1 with bx:=qD q.1.bx b {uid:=x.uid,lv:=x.lv.set j q.2}}
def St.gcb(ks:List Nat)(st:St):St:={st with bx:=gcB ks st st.bx}
def aBA{α:Type}(p:Nat×α):List (Nat×α)->List (Nat×α)
 |[]=>[p]
 |q::l=>bif Nat.ble p.1 q.1 then p::q::l else q::aBA p l
def G5{α:Type}:List (Nat×α)->List (Nat×α)
 |[]=>[]
 |p::l=>aBA p (G5 l)
def St.gc(ks:List Nat)(st:St):St:=let s:=(st.gcb ks).gcb ks;{s with bx:=G5 s.bx,ar:=G5 (gcR ks s s.ar)}
def HP(a:Option Ann)(st:St):M St:=
 match a with
 |none=>ok st
 |some a=>match a.conv,a.bconv with
  |[],[]=>ok ((st.keep a.keep).gc a.keep)
  |_,_=>(Wu a.keep a.nb a.conv ((st.keep a.keep).gc a.keep)).bind λs=>(ZR a.keep a.bconv s).bind λs=>ok (s.gc a.keep)
inductive Ex where
 |norm |ret |exit (id:Nat)
def MN(g:St->M (Ex×St))(r:Ex×St):M (Ex×St):=
 match r.1 with
 |.norm=>g r.2
 |_=>ok r
def VW(f:St->M (Ex×St))(hd:St->M St):Nat->St->M (Ex×St)
 |0,_=>aG "rounds"
 |k+1,st=>(hd st).bind λst=>(f st).bind (MN (VW f hd k))
def Wv(f:St->M (Ex×St))(r:Ex×St):M (Ex×St):=
 match r.1 with
 |.norm=>f r.2
 |_=>ok r
def Ww(id:Nat)(r:Ex×St):M (Ex×St):=
 match r.1 with
 |.exit i=>bif Nat.beq i id then ok (.norm,r.2)else ok r
 |_=>ok r
def aBB(x c:St->M (Ex×St))(st:St):A->M (Ex×St)
 |.bool t=>bif t then x st else c st
 |_=>aG "cond"
def ZS(E:fM)(h:fR)(ctx:tU)(ops:List (Nat×Oper))(st:St):M (Ex×St):=
 (JH E h ctx ops {st:=st,ge:=[],sg:=[],by_:=[]}).bind λs=>ok (.norm,tX s.sg s.st)
def G6(a:Option Ann)(r:Ex×St):M (Ex×St):=(HP a r.2).bind λs=>ok (r.1,s)
mutual
def G7:D->D->Bool
 |.i a,.i b=>aD a b
 |.b a,.b b=>FS a b
 |.s a,.s b=>DM a b
 |.l a,.l b=>VX a b
 |_,_=>false
def VX:List D->List D->Bool
 |[],[]=>true
 |x::xs,c::ys=>G7 x c&&VX xs ys
 |_,_=>false
end
def No:List (Nat×Nat)->List (Nat×Nat)->Bool
 |[],[]=>true
 |(a,b)::l,(c,d)::m=>Nat.beq a c&&(Nat.beq b d&&No l m)
 |_,_=>false
def Or:List (List (Nat×Nat))->List (List (Nat×Nat))->Bool
 |[],[]=>true
 |a::l,b::m=>No a b&&Or l m
 |_,_=>false
def G8:List Nat->List Nat->Bool
 |[],[]=>true
 |a::l,b::m=>Nat.beq a b&&G8 l m
 |_,_=>false
mutual
def aDN:A->A->Bool
 |.int k n,.int g n'=>nK k g&&aD n n'
 |.bool b,.bool b'=>FS b b'
 |.str s,.str C=>DM s C
 |.nils,.nils=>true
 |.fz d e el xs,.fz h l j G=>No d h&&(Nat.beq e l&&(vK el j&&VX xs G))
 |.vw r u p,.vw r' c p'=>Nat.beq r r'&&(Nat.beq u c&&No p p')
 |.px r u n,.px r' c n'=>Nat.beq r r'&&(Nat.beq u c&&Nat.beq n n')
 |.sx r u k n v,.sx r' c g n' y=>Nat.beq r r'&&(Nat.beq u c&&(Nat.beq k g&&(Nat.beq n n'&&Nat.beq v y)))
 |.sb b u k n,.sb b' c g n'=>Nat.beq b b'&&(Nat.beq u c&&(Nat.beq k g&&Nat.beq n n'))
 |.pa r u p k i o,.pa r' c p' g t o'=>Nat.beq r r'&&(Nat.beq u c&&(No p p'&&(Nat.beq k g&&(Nat.beq i t&&Nat.beq o o'))))
 |.pb b u o,.pb b' c o'=>Nat.beq b b'&&(Nat.beq u c&&Nat.beq o o')
 |.mp b u,.mp b' c=>Nat.beq b b'&&Nat.beq u c
 |.ez,.ez=>true
 |.pz d el x o,.pz h j F o'=>No d h&&(vK el j&&(G7 x F&&Nat.beq o o'))
 |.agg xs,.agg ys=>VY xs ys
 |.tup xs,.tup ys=>VY xs ys
 |.nilp,.nilp=>true
 |.fn f xs,.fn m ys=>Nat.beq f m&&VY xs ys
 |.undef,.undef=>true
 |_,_=>false
def VY:List A->List A->Bool
 |[],[]=>true
 |x::xs,c::ys=>aDN x c&&VY xs ys
 |_,_=>false
end
def Hy:Tr->Tr->Bool
 |.nil,.nil=>true
 |.node a l r,.node a' c r'=>aDN a a'&&(Hy l c&&Hy r r')
 |_,_=>false
def Wx:Option MV->Option MV->Bool
 |none,none=>true
 |some m,some m'=>m.kk.beq m'.kk&&(m.ek.beq m'.ek&&VX m.m m'.m)
 |_,_=>false
def Ot:List (Nat×Bx)->List (Nat×Bx)->Bool
 |[],[]=>true
 |(n,x)::l,(n',c)::m=>Nat.beq n n'&&(Nat.beq x.uid c.uid&&(VY x.lv c.lv&&(Wx x.mp c.mp&&Ot l m)))
 |_,_=>false
def Ou:List (Nat×yN)->List (Nat×yN)->Bool
 |[],[]=>true
 |(n,x)::l,(n',c)::m=>Nat.beq n n'&&(Nat.beq x.e c.e&&(vK x.el c.el&&(VX x.data c.data&&(Or x.stale c.stale&&(Nat.beq x.uid c.uid&&(G8 x.hv c.hv&&(Nat.beq x.dv c.dv&&Ou l m)))))))
 |_,_=>false
def aBC(s t:St):Bool:=Hy s.sl t.sl&&(Ot s.bx t.bx&&(Ou s.ar t.ar&&Nat.beq s.ctr t.ctr))
def V4(r q:Ex×St):Bool:=
 match r.1,q.1 with
 |.norm,.norm=>aBC r.2 q.2
 |_,_=>false
def Hz(h:fR)(id:Nat)(r:Ex×St):M (Ex×St):=
 match h.mids with
 |[]=>ok r
 |l=>G6 (look l id) r
def De(h:fR)(id:Nat):Option (List Nat×List (List Nat)):=
 match h.alts with
 |[]=>none
 |l=>look l id
def Dg(E:fM)(h:fR)(ctx:tU)(id:Nat)(ops:Array Oper)(st:St)(r:Ex×St):List (List Nat)->M (Ex×St)
 |[]=>ok r
 |o::os=>((ZS E h ctx (ML ops.toList o) st).bind (Hz h id)).bind λq=>bif V4 r q then Dg E h ctx id ops st r os else aG "orders: another state"
def V5(E:fM)(h:fR)(ctx:tU)(id:Nat)(ops:Array Oper)(st:St):M (Ex×St):=
 ((ZS E h ctx (CL h id ops) st).bind (Hz h id)).bind λr=>
  match De h id with
  |none=>ok r
  |some q=>Dg E h ctx id ops st r q.2
def MB(E:fM)(h:fR)(ctx:tU)(k:Nat):Nat->Code->St->M (Ex×St)
 |_,.skip,st=>ok (.norm,st)
 |_,.region id ops _,st=>V5 E h ctx id ops st
 |b,.seq x d,st=>(MB E h ctx k b x st).bind (Wv (MB E h ctx k b d))
 |b,.cond c x d,st=>aBB (MB E h ctx k b x) (MB E h ctx k b d) st (eR st.sl c)
 |_,.block id x,st=>(MB E h ctx k id x st).bind (Ww id)
 |b,.loop x,st=>(VW (MB E h ctx k b x) (HP (look h.heads b)) k st).bind (G6 (look h.ends b))
 |_,.exit id,st=>ok (.exit id,st)
 |_,.ret,st=>ok (.ret,st)
 |_,.label _,st=>ok (.norm,st)
 |b,.scope x,st=>MB E h ctx k b x st
 |_,_,_=>aG "code: kind"
def Gu(i j:Nat):Nat:=600+32*i+j
def ZT(E:fM)(i:Nat):Nat->List (TypeId×Option (List LT))->List D->St->M (St×List A)
 |_,[],_,st=>ok (st,[])
 |j,(t,none)::c,x::xs,st=>(oR "entry: type" (E.pt.look t)).bind λe=>(oR "entry: type" (E.tt.look e)).bind λd=>(ZT E i (j+1) c xs st).bind λq=>ok (q.1,.pz [] d.lv x 0::q.2)
 |j,(_,some el)::c,x::xs,st=>
   let r:=dJ [] (nm (Gu i j) 0) el.length x 0 el st
   (ZT E i (j+1) c xs (r.1.newBox (Gu i j) r.2)).bind λq=>ok (q.1,.pb (Gu i j) r.1.ctr 0::q.2)
 |_,_,_,_=>aG "entry: captured"
def fE(E:fM):Nat->List (TypeId×PM)->List D->St->M St
 |_,[],[],st=>ok st
 |i,(t,.ro)::ps,x::xs,st=>(oR "entry: type" (E.tt.look t)).bind λti=>(FX ti.agg ti.lv.length (JA [] ti.lv.length x 0 ti.lv)).bind λa=>fE E (i+1) ps xs (st.put i a)
 |i,(t,.rp)::ps,x::xs,st=>(oR "entry: type" (E.pt.look t)).bind λe=>(oR "entry: type" (E.tt.look e)).bind λc=>fE E (i+1) ps xs (st.put i (.pz [] c.lv x 0))
 |i,(_,.sub j d k)::ps,x::xs,st=>fE E (i+1) ps xs (st.put i (.pa (nm (500+j) d) (jA st (nm (500+j) d) []) [] k x.toI.toNat 0))
 |i,(_,.fnv f)::ps,_::xs,st=>fE E (i+1) ps xs (st.put i (.fn f []))
 |i,(_,.clo f g)::ps,x::xs,st=>(ZT E i 0 g x.els st).bind λq=>fE E (i+1) ps xs (q.1.put i (.fn f q.2))
 |i,(t,.sio lv)::ps,x::xs,st=>(oR "entry: type" (E.tt.look t)).bind λti=>
  let r:=dJ [] (nm (500+i) 0) lv.length x 0 lv st
  (FX ti.agg ti.lv.length r.2).bind λa=>fE E (i+1) ps xs (r.1.put i a)
 |i,(t,.mv)::ps,x::xs,st=>(oR "entry: type" (E.tt.look t)).bind λti=>(oR "entry: type" (E.tt.look ti.e)).bind λc=>fE E (i+1) ps xs ((st.newArr (500+i) ti.e (fC true c.lv) x.els).put i (.vw (500+i) st.ctr []))
 |i,(_,.io el)::ps,x::xs,st=>
  let r:=dJ [] (nm (500+i) 0) el.length x 0 el st
  fE E (i+1) ps xs ((r.1.newBox (500+i) r.2).put i (.pb (500+i) r.1.ctr 0))
 |_,_,_,_=>aG "entry"
def G9(st:St):RM->A->M (Nm D)
 |.val true lv,.agg l=>(cN st lv l).bind λp=>ok ⟨p.os,p.ds,zS p.x⟩
 |.val false lv,a=>(cN st lv [a]).bind λp=>ok ⟨p.os,p.ds,zS p.x⟩
 |.ptr _,.nilp=>ok ⟨[],[],.l []⟩
 |.ptr el,.pb b u 0=>(pR st b u).bind λl=>(cN st el l).bind λp=>ok ⟨Da b 0 1++p.os,p.ds,.l [zS p.x]⟩
 |_,_=>aG "result"
def nL(st:St):List RM->List A->M (Nm (List D))
 |[],[]=>ok ⟨[],[],[]⟩
 |m::c,a::as=>(G9 st m a).bind λp=>(nL st c as).bind λq=>ok ⟨p.os++q.os,p.ds++q.ds,p.x::q.x⟩
 |_,_=>aG "results: number"
def Sb(st:St)(nb:Nat):Nat->List LT->M (List Nat×List D)
 |_,[]=>ok ([],[])
 |j,.sl true e el::ts=>(oR "lent: array" (look st.ar (nb+j))).bind λa=>match a.stale with
  |[]=>bif Nat.beq a.e e&&vK el a.el then(Sb st nb (j+1) ts).bind λq=>ok ((nb+j)::q.1,.l a.data::q.2)else aG "lent: types"
  |_::_=>aG "lent: stale"
 |j,t::ts=>(Sb st nb (j+1) ts).bind λq=>ok (q.1,t.zero::q.2)
def H0(st:St)(b:Nat)(el:List LT):M (Nm D):=
 (oR "io: box" (look st.bx b)).bind λl=>match l.mp with
  |none=>(cN st el l.lv).bind λp=>ok ⟨Da b 0 1++p.os,p.ds,zS p.x⟩
  |some _=>aG "io: a map"
def Sc(st:St)(i:Nat):Nat->List (TypeId×Option (List LT))->M (Nm (List D))
 |_,[]=>ok ⟨[],[],[]⟩
 |j,(_,none)::c=>Sc st i (j+1) c
 |j,(_,some el)::c=>(H0 st (Gu i j) el).bind λp=>(Sc st i (j+1) c).bind λq=>ok ⟨p.os++q.os,p.ds++q.ds,p.x::q.x⟩
def GA(st:St):Nat->List (TypeId×PM)->M (Nm (List D))
 |_,[]=>ok ⟨[],[],[]⟩
 |i,(_,.io el)::ps=>(H0 st (500+i) el).bind λp=>(GA st (i+1) ps).bind λq=>ok ⟨p.os++q.os,p.ds++q.ds,p.x::q.x⟩
 |i,(_,.sio lv)::ps=>(Sb st (nm (500+i) 0) 0 lv).bind λp=>(GA st (i+1) ps).bind λq=>ok ⟨p.1++q.os,q.ds,zS p.2::q.x⟩
 |i,(_,.clo _ c)::ps=>(Sc st i 0 c).bind λp=>(GA st (i+1) ps).bind λq=>ok ⟨p.os++q.os,p.ds++q.ds,.l p.x::q.x⟩
 |i,_::ps=>GA st (i+1) ps
def kM(E:fM)(st:St):List ResultVar->M (List A)
 |[]=>ok []
 |.tmp t::l=>(kM E st l).bind λq=>ok (eR st.sl (.tmp t)::q)
 |.cell t ty::l=>(oR "result: type" (E.tt.look ty)).bind λti=>(VJ st ti (eR st.sl (.tmp t))).bind λa=>(kM E st l).bind λq=>ok (a::q)
def MO(E:fM)(ctx:tU)(k:Nat)(f:Func)(c:Code)(s:FY)(h:fR)(st:St):M (D×List D):=
 (MB E h ctx k 0 c st).bind λr=>match r.1 with
  |.exit _=>aG "exit out of the body"
  |_=>(kM E r.2 f.results.toList).bind λvs=>(nL r.2 s.rs vs).bind λu=>(GA r.2 0 s.ps).bind λv=>
    bif nodup (u.os++v.os)&&apart (u.os++v.os) (u.ds++v.ds)then
     ok ((match u.x with|[x]=>x |xs=>.l xs),v.x)
    else aG "result: shared"
def V6:D×List D->M (D×List D)
 |(.l [],[])=>ok (.l [],[])
 |_=>aG "fork: results"
def Sd(g:St->M (D×List D))(st:St):A->M (D×List D)
 |.fz [] _ _ []=>(g (st.put 0 .nils)).bind λr=>(V6 r).bind λ_=>(g (st.put 0 .ez)).bind V6
 |_=>g st
def Wy(E:fM)(ctx:tU)(k:Nat)(f:Func)(c:Code)(s:FY)(h:fR)(ds:List D):M (D×List D):=
 match s.ps with
 |[(_,.ro)]=>(fE E 0 s.ps ds {sl:=.nil,bx:=[],ar:=[],ctr:=1}).bind λst=>Sd (MO E ctx k f c s h) st (st.sl.get 0)
 |_=>aG "fork: parameters"
def Ov(E:fM)(ctx:tU)(k:Nat)(f:Func)(c:Code)(s:FY)(h:fR)(ds:List D):M (D×List D):=
 (fE E 0 s.ps ds {sl:=.nil,bx:=[],ar:=[],ctr:=1}).bind (MO E ctx k f c s h)
abbrev LD:=List D
abbrev SP:=Fin 1000000000×Fin 1000000000
def tY(a b:SP):Bool:=bif Nat.beq a.1.val b.1.val then decide (a.2.val<b.2.val)else decide (a.1.val<b.1.val)
def eK(a:SP):D:=.l [.i a.1.val,.i a.2.val]
def VZ(n:Int):Option (Fin 1000000000):=if h:0<=n/\n.toNat<1000000000 then some ⟨n.toNat,h.2⟩else none
def s6:D->Option SP
 |.l [.i a,.i b]=>(VZ a).bind λa=>(VZ b).bind λb=>some (a,b)
 |_=>none
def Dh:LD->Option (List SP)
 |[]=>some []
 |x::l=>(s6 x).bind λx=>(Dh l).bind λl=>some (x::l)
def aBD(l:List SP):List SP:=l.mergeSort λx c=>!tY c x
def Wz(l:LD)(s:List SP):LD:=match l with
 |[]=>[]
 |[x]=>[x]
 |_=>(aBD s).map eK
def Di:LD->Option (D×LD)
 |[.l data,.l []]=>bif Nat.ble data.length 1000000000 then(Dh data).bind λl=>some (.l [],[.l (Wz data l)])else none
 |_=>none
abbrev cQ:=List (Nat×Nat)
structure HQ(w w':World):Prop where
 size:w.heap.size<=w'.heap.size
 block:∀b,b<w.heap.size->w'.heap[b]?=w.heap[b]?
theorem HQ.refl(w:World):HQ w w:=⟨Nat.le_refl _,λ_ _=>rfl⟩
theorem HQ.trans{d e f:World}(h:HQ d e)(k:HQ e f):HQ d f:=⟨Nat.le_trans h.size k.size,λb c=>(k.block b (Nat.lt_of_lt_of_le c h.size)).trans (h.block b c)⟩
theorem HQ.cell{w w':World}(h:HQ w w'){a:Addr}{v:Value}(d:w.cell? a=some v):w'.cell? a=some v:=by
 simp only[World.cell?]at d⊢;cases c:w.heap[a.block]?with
 |none=>simp[c]at d
 |some o=>have e:=(Array.getElem?_eq_some_iff.1 c).1;rw[h.block a.block e,c];rw[c]at d;exact d
inductive Tag where
 |out |fz |box |arr (r:Nat) (p:cQ)
structure Gh where
 own:Nat->Tag
 H:Nat->cQ->Value
 B:Nat->Nat×Nat
mutual
def yQ(w:World)(okb:Nat->Prop):LT->Value->D->Prop
 |.int k,v,x=>v=.int k x.toI/\VH k<=x.toI/\x.toI<=VI k
 |.bool,v,x=>v=.bool x.toB
 |.str,v,x=>v=.string ⟨x.toS.toArray⟩/\x.toS.length<=maxLen
 |.sl _ _ el,v,x=>∃a n c,v=.slice a n c/\x.els.length=n/\n<=c/\c<=maxLen/\(a=none->c=0)/\
   ∀ad,a=some ad->0<n->ad.spot=none/\∀i,i<n->s7 w okb el ad.block (ad.off+i*el.length) el.length (x.els.getD i (.i 0)) 0
def s7(w:World)(okb:Nat->Prop):List LT->Nat->Nat->Nat->D->Nat->Prop
 |[],_,_,_,_,_=>True
 |t::ts,b,o,k,x,j=>okb b/\(∃v,w.cell? ⟨b,o+j,none⟩=some v/\yQ w okb t v (lf k x j))/\s7 w okb ts b o k x (j+1)
end
theorem vS{w w':World}{b:Nat}(h:w'.heap[b]?=w.heap[b]?)(o:Nat):w'.cell? ⟨b,o,none⟩=w.cell? ⟨b,o,none⟩:=by simp[World.cell?,h]
mutual
theorem dA{w w':World}{ok1 j:Nat->Prop}(h:∀b,ok1 b->j b/\w'.heap[b]?=w.heap[b]?):∀(t:LT)(v:Value)(x:D),yQ w ok1 t v x->yQ w' j t v x
 |.int _,_,_,d=>d
 |.bool,_,_,d=>d
 |.str,_,_,d=>d
 |.sl _ _ el,v,x,⟨a,n,c,l,m,r,s,u,e⟩=>⟨a,n,c,l,m,r,s,u,λad f g=>⟨(e ad f g).1,λi y=>sQ h el _ _ _ _ _ ((e ad f g).2 i y)⟩⟩
theorem sQ{w w':World}{ok1 d:Nat->Prop}(h:∀b,ok1 b->d b/\w'.heap[b]?=w.heap[b]?):∀(ts:List LT)(b o k:Nat)(x:D)(j:Nat),s7 w ok1 ts b o k x j->s7 w' d ts b o k x j
 |[],_,_,_,_,_,_=>trivial
 |t::ts,b,o,k,x,j,⟨c,⟨v,e,f⟩,g⟩=>⟨(h b c).1,⟨v,(vS (h b c).2 _).trans e,dA h t v _ f⟩,sQ h ts b o k x (j+1) g⟩
end
theorem kD(o:Bool):∀ts:List LT,(fC o ts).length=ts.length
 |[]=>rfl
 |_::ts=>congrArg (·+1) (kD o ts)
mutual
theorem DT{w:World}{okb:Nat->Prop}(o:Bool):∀(t:LT)(v:Value)(x:D),yQ w okb (t.setOwn o) v x<->yQ w okb t v x
 |.int _,_,_=>Iff.rfl
 |.bool,_,_=>Iff.rfl
 |.str,_,_=>Iff.rfl
 |.sl _ e el,v,x=>by
  simp only[LT.setOwn,yQ,kD];constructor
  ·rintro⟨a,n,c,h,j,l,m,r,d⟩;exact⟨a,n,c,h,j,l,m,r,λad f g=>⟨(d ad f g).1,λi s=>(yU o el _ _ _ _ _).1 ((d ad f g).2 i s)⟩⟩
  ·rintro⟨a,n,c,h,j,l,m,r,d⟩;exact⟨a,n,c,h,j,l,m,r,λad f g=>⟨(d ad f g).1,λi s=>(yU o el _ _ _ _ _).2 ((d ad f g).2 i s)⟩⟩
theorem yU{w:World}{okb:Nat->Prop}(o:Bool):∀(ts:List LT)(b o' k:Nat)(x:D)(j:Nat),s7 w okb (fC o ts) b o' k x j<->s7 w okb ts b o' k x j
 |[],_,_,_,_,_=>Iff.rfl
 |t::ts,b,o',k,x,j=>by
  simp only[fC,s7];constructor
  ·rintro⟨c,⟨v,d,e⟩,f⟩;exact⟨c,⟨v,d,(DT o t v _).1 e⟩,(yU o ts b o' k x (j+1)).1 f⟩
  ·rintro⟨c,⟨v,d,e⟩,f⟩;exact⟨c,⟨v,d,(DT o t v _).2 e⟩,(yU o ts b o' k x (j+1)).2 f⟩
end
mutual
def Xa(w:World)(G:Gh)(S:List cQ)(r:Nat):LT->cQ->Value->D->Prop
 |.sl true e el,p,v,x=>p∈S\/(v=G.H r p/\∃a n c,v=.slice a n c/\x.els.length=n/\n<=c/\c<=maxLen/\(a=none->c=0)/\
   ∀ad,a=some ad->ad.spot=none/\G.own ad.block=.arr r p/\∃cs d,w.heap[ad.block]?=some (.cells cs d (0,0))/\ad.off+c*el.length<=cs.size/\
    ∀i,i<n->V7 w G S r el p i ad.block (ad.off+i*el.length) el.length (x.els.getD i (.i 0)) 0)
 |.sl false e el,_,v,x=>yQ w (λb=>G.own b=.fz) (.sl false e el) v x
 |.int k,_,v,x=>yQ w (λb=>G.own b=.fz) (.int k) v x
 |.bool,_,v,x=>yQ w (λb=>G.own b=.fz) .bool v x
 |.str,_,v,x=>yQ w (λb=>G.own b=.fz) .str v x
def V7(w:World)(G:Gh)(S:List cQ)(r:Nat):List LT->cQ->Nat->Nat->Nat->Nat->D->Nat->Prop
 |[],_,_,_,_,_,_,_=>True
 |t::ts,p,i,b,o,k,x,j=>(∃v,w.cell? ⟨b,o+j,none⟩=some v/\Xa w G S r t (p++[(i,j)]) v (lf k x j))/\V7 w G S r ts p i b o k x (j+1)
end
def yV(w:World)(G:Gh)(S:List cQ)(r:Nat)(e:TypeId)(el:List LT)(p:cQ)(v:Value)(data:LD):Prop:=
 ∃a n c,v=.slice a n c/\data.length=n/\n<=c/\c<=maxLen/\(a=none->c=0)/\
  ∀ad,a=some ad->ad.spot=none/\G.own ad.block=.arr r p/\∃cs d,w.heap[ad.block]?=some (.cells cs d (0,0))/\ad.off+c*el.length<=cs.size/\
   ∀i,i<n->V7 w G S r el p i ad.block (ad.off+i*el.length) el.length (data.getD i (.i 0)) 0
theorem vT{w:World}{G:Gh}{S:List cQ}{r:Nat}{e:TypeId}{el:List LT}{p:cQ}{v:Value}{x:D}:
  Xa w G S r (.sl true e el) p v x<->p∈S\/(v=G.H r p/\yV w G S r e el p v x.els):=Iff.rfl
mutual
theorem WA{w w':World}{G G':Gh}{S S':List cQ}{r r':Nat}
  (d:∀b,G.own b=.fz->G'.own b=.fz/\w'.heap[b]?=w.heap[b]?):
  ∀(t:LT)(p:cQ)(p':cQ)(v:Value)(x:D),
   (∀q,p++q∉S->(∃s,s<+:q/\p'++s∈S')\/(G'.H r' (p'++q)=G.H r (p++q)/\∀b,G.own b=.arr r (p++q)->G'.own b=.arr r' (p'++q)/\w'.heap[b]?=w.heap[b]?))->
   (∀q,p++q∈S->p'++q∈S')->
   Xa w G S r t p v x->Xa w' G' S' r' t p' v x
 |.sl true e el,p,p',v,x,y,g,h=>by
  rcases h with h |⟨Q,a,n,c,T,U,V,W,Y,a0⟩
  ·exact .inl (by simpa using g [] (by simpa using h))
  ·by_cases m:p∈S
   ·exact .inl (by simpa using g [] (by simpa using m))
   by_cases u:p'∈S'
   ·exact .inl u
   rcases y [] (by simpa using m)with⟨s,l,f⟩ |⟨a1,a3⟩
   ·have:s=[]:=List.prefix_nil.1 l;subst this;exact .inl (by simpa using f)
   refine .inr ⟨by rw[Q];simpa using a1.symm,a,n,c,T,U,V,W,Y,λad a2=>?_⟩;obtain⟨H,J,cs,F,K,L,P⟩:=a0 ad a2;obtain⟨a7,C⟩:=a3 ad.block (by simpa using J);refine⟨H,by simpa using a7,cs,F,C.trans K,L,λi a4=>?_⟩;exact MP d el p p' i i _ _ _ _ _ (λa9=>vS (by simpa using C) _)
    (λj q a5=>by
     rcases y ((i,j)::q) a5 with⟨s,l,f⟩ |h
     ·cases s with
      |nil=>exact absurd (by simpa using f) u
      |cons c s=>obtain⟨rfl,a6⟩:=List.cons_prefix_cons.1 l;exact .inl ⟨s,a6,f⟩
     ·exact .inr h) (λj q=>by have:=g ((i,j)::q);simpa using this) (P i a4)
 |.sl false _ _,_,_,v,x,_,_,h=>dA d _ v x h
 |.int _,_,_,v,x,_,_,h=>dA d _ v x h
 |.bool,_,_,v,x,_,_,h=>dA d _ v x h
 |.str,_,_,v,x,_,_,h=>dA d _ v x h
theorem MP{w w':World}{G G':Gh}{S S':List cQ}{r r':Nat}
  (e:∀b,G.own b=.fz->G'.own b=.fz/\w'.heap[b]?=w.heap[b]?):
  ∀(ts:List LT)(p p':cQ)(i c:Nat)(b o k:Nat)(x:D)(j:Nat),(∀l:Nat,w'.cell? ⟨b,o+l,none⟩=w.cell? ⟨b,o+l,none⟩)->
   (∀j q,p++(i,j)::q∉S->(∃s,s<+:q/\p'++(c,j)::s∈S')\/(G'.H r' (p'++(c,j)::q)=G.H r (p++(i,j)::q)/\∀b,G.own b=.arr r (p++(i,j)::q)->G'.own b=.arr r' (p'++(c,j)::q)/\w'.heap[b]?=w.heap[b]?))->
   (∀j q,p++(i,j)::q∈S->p'++(c,j)::q∈S')->
   V7 w G S r ts p i b o k x j->V7 w' G' S' r' ts p' c b o k x j
 |[],_,_,_,_,_,_,_,_,_,_,_,_,_=>trivial
 |t::ts,p,p',i,c,b,o,k,x,j,d,f,g,⟨⟨v,m,u⟩,y⟩=>
  ⟨⟨v,(d j).trans m,WA e t (p++[(i,j)]) (p'++[(c,j)]) v _ (λq C=>by
    rcases f j q (by simpa using C)with⟨s,F,H⟩ |h
    ·exact .inl ⟨s,F,by simpa using H⟩
    ·exact .inr (by simpa using h)) (λq=>by have:=g j q;simpa using this) u⟩,
   MP e ts p p' i c b o k x (j+1) d f g y⟩
end
def vU(G:Gh)(dep:List (Nat×Nat))(b:Nat):Prop:=G.own b=.fz\/∃d,d∈dep/\∃p,G.own b=.arr d.1 p
def WB:TypeId->List LT->cQ->Option (TypeId×List LT)
 |e,el,[]=>some (e,el)
 |_,el,(_,j)::p=>match el[j]?with
  |some (.sl true c d)=>WB c d p
  |_=>none
def ZH:List LT->LD->cQ->Prop
 |_,_,[]=>True
 |el,data,(i,j)::p=>i<data.length/\(match el[j]?with
  |some (.sl true _ c)=>ZH c (lf el.length (data.getD i (.i 0)) j).els p
  |_=>False)
def lP(st:St)(r u:Nat)(p:cQ)(a:yN):Prop:=look st.ar r=some a/\p.length<=4/\jP a p=u
mutual
def dO(w:World)(G:Gh)(st:St):A->Value->Prop
 |.int k n,v=>v=.int k n/\VH k<=n/\n<=VI k
 |.bool b,v=>v=.bool b
 |.str s,v=>v=.string ⟨s.toArray⟩/\s.length<=maxLen
 |.nils,v=>v=.slice none 0 0
 |.ez,v=>∃ad c,v=.slice (some ad) 0 c
 |.fz dep e el xs,v=>(∀d,d∈dep->d.2<st.ctr)/\(depOk st dep=true->yQ w (vU G dep) (.sl false e el) v (.l xs))
 |.vw r u p,v=>u<st.ctr/\∀a,lP st r u p a->v=G.H r p/\(∃t,WB a.e a.el p=some t)/\ZH a.el a.data p
 |.px r u n,v=>u<st.ctr/\∀a,lP st r u [] a->∃ad m c,G.H r []=.slice ad m c/\n<=m/\v=.slice ad n c
 |.sx r u k n g,v=>u<st.ctr/\∀a,lP st r u [] a->k=a.el.length/\∃ad m c,G.H r []=.slice ad m c/\g+n=m/\v=.slice (if c=g then ad else ad.map (·.add (g*k))) n (c-g)
 |.sb b u _ n,v=>u<st.ctr/\∀x,look st.bx b=some x->x.uid=u->v=.slice (some ⟨(G.B b).1,(G.B b).2,none⟩) n n/\n<=maxLen
 |.pa r u p k i off,v=>u<st.ctr/\∀a,lP st r u p a->∃t,WB a.e a.el p=some t/\ZH a.el a.data p/\k=t.2.length/\∃b o n c,G.H r p=.slice (some ⟨b,o,none⟩) n c/\i<n/\v=.pointer (some ⟨b,o+i*k+off,none⟩)
 |.pb b u off,v=>u<st.ctr/\∀x,look st.bx b=some x->x.uid=u->v=.pointer (some ⟨(G.B b).1,(G.B b).2 +off,none⟩)
 |.mp b u,v=>u<st.ctr/\∀x,look st.bx b=some x->x.uid=u->v=.map (some (G.B b).1)
 |.pz dep el x off,v=>(∀d,d∈dep->d.2<st.ctr)/\(depOk st dep=true->∃b o,v=.pointer (some ⟨b,o+off,none⟩)/\s7 w (vU G dep) el b o el.length x 0)
 |.agg xs,v=>∃vs,v=.agg ⟨vs⟩/\eZ w G st xs vs
 |.tup xs,v=>∃vs,v=.tuple ⟨vs⟩/\eZ w G st xs vs
 |.nilp,v=>v=.pointer none
 |.fn f xs,v=>∃vs,v=.func (.func f) #[] ⟨vs⟩/\eZ w G st xs vs
 |.undef,_=>True
def eZ(w:World)(G:Gh)(st:St):List A->List Value->Prop
 |[],vs=>vs=[]
 |x::xs,vs=>∃v c,vs=v::c/\dO w G st x v/\eZ w G st xs c
end
structure Le(w:World)(G:Gh)(st:St)(w':World)(G':Gh)(st':St):Prop where
 ctr:st.ctr<=st'.ctr
 vw:∀r u p a',u<st.ctr->lP st' r u p a'->∃a,lP st r u p a/\a'.e=a.e/\a'.el=a.el/\G'.H r p=G.H r p/\(ZH a.el a.data p->ZH a'.el a'.data p)
 bx:∀b x',x'.uid<st.ctr->look st'.bx b=some x'->∃x,look st.bx b=some x/\x.uid=x'.uid/\G'.B b=G.B b
 dep:∀r a',a'.dv<st.ctr->look st'.ar r=some a'->∃a,look st.ar r=some a/\a.dv=a'.dv/\∀b p,G.own b=.arr r p->(∃p',G'.own b=.arr r p')/\w'.heap[b]?=w.heap[b]?
 fz:∀b,G.own b=.fz->G'.own b=.fz/\w'.heap[b]?=w.heap[b]?
theorem Ow{st:St}:∀{dep:List (Nat×Nat)},depOk st dep=true->∀d,d∈dep->∃a,look st.ar d.1=some a/\a.dv=d.2
 |[],_,_,hd=>absurd hd (by simp)
 |(r,v)::l,h,d,hd=>by
  simp only[depOk,Bool.and_eq_true]at h;obtain⟨c,f⟩:=h;rcases List.mem_cons.1 hd with rfl |hd
  ·cases e:look st.ar r with
   |none=>simp[e]at c
   |some a=>exact⟨a,rfl,by simpa[e]using c⟩
  ·exact Ow f d hd
theorem Xb{st:St}:∀{dep:List (Nat×Nat)},(∀d,d∈dep->∃a,look st.ar d.1=some a/\a.dv=d.2)->depOk st dep=true
 |[],_=>rfl
 |(r,v)::l,h=>by obtain⟨a,c,e⟩:=h (r,v) (by simp);simp only[depOk,Bool.and_eq_true];exact⟨by simp at c;simp[c,e],Xb λd hd=>h d (by simp[hd])⟩
section
variable{w w':World}{G G':Gh}{st st':St}
theorem Le.depOk(h:Le w G st w' G' st'){dep:List (Nat×Nat)}(hd:∀d,d∈dep->d.2<st.ctr)(r:depOk st' dep=true):
  depOk st dep=true/\∀b,vU G dep b->vU G' dep b/\w'.heap[b]?=w.heap[b]?:=by
 have j:=Ow r;refine⟨Xb λd e=>?_,λb c=>?_⟩
 ·obtain⟨a',g,f⟩:=j d e;obtain⟨a,l,m,_⟩:=h.dep d.1 a' (by rw[f];exact hd d e) g;exact⟨a,l,m.trans f⟩
 ·rcases c with c |⟨d,e,p,c⟩
  ·exact⟨.inl (h.fz b c).1,(h.fz b c).2⟩
  ·obtain⟨a',g,f⟩:=j d e;obtain⟨a,l,m,s⟩:=h.dep d.1 a' (by rw[f];exact hd d e) g;obtain⟨⟨p',t⟩,u⟩:=s b p c;exact⟨.inr ⟨d,e,p',t⟩,u⟩
mutual
theorem dS(h:Le w G st w' G' st'):∀(a:A)(v:Value),dO w G st a v->dO w' G' st' a v
 |.int _ _,_,m=>m
 |.bool _,_,m=>m
 |.str _,_,m=>m
 |.nils,_,m=>m
 |.ez,_,m=>m
 |.fz dep e el xs,v,⟨c,f⟩=>⟨λd hd=>Nat.lt_of_lt_of_le (c d hd) h.ctr,λhd=>by obtain⟨g,j⟩:=h.depOk c hd;exact dA j _ _ _ (f g)⟩
 |.vw r u p,v,⟨c,f⟩=>⟨Nat.lt_of_lt_of_le c h.ctr,λa' C=>by obtain⟨a,g,j,l,y,K⟩:=h.vw r u p a' c C;obtain⟨F,H,L⟩:=f a g;exact⟨by rw[y];exact F,by rw[j,l];exact H,K L⟩⟩
 |.px r u n,v,⟨c,f⟩=>⟨Nat.lt_of_lt_of_le c h.ctr,λa' C=>by obtain⟨a,g,_,_,y,_⟩:=h.vw r u [] a' c C;rw[y];exact f a g⟩
 |.sx r u k n P,v,⟨c,f⟩=>⟨Nat.lt_of_lt_of_le c h.ctr,λa' C=>by obtain⟨a,g,_,l,y,_⟩:=h.vw r u [] a' c C;rw[y,l];exact f a g⟩
 |.sb b u k n,v,⟨c,f⟩=>⟨Nat.lt_of_lt_of_le c h.ctr,λJ hx s=>by obtain⟨x,g,j,l⟩:=h.bx b J (by rw[s];exact c) hx;rw[l];exact f x g (j.trans s)⟩
 |.pa r u p k i off,v,⟨c,f⟩=>⟨Nat.lt_of_lt_of_le c h.ctr,λa' C=>by obtain⟨a,g,j,l,y,K⟩:=h.vw r u p a' c C;obtain⟨t,F,H,L⟩:=f a g;exact⟨t,by rw[j,l];exact F,K H,by rw[y];exact L⟩⟩
 |.pb b u off,v,⟨c,f⟩=>⟨Nat.lt_of_lt_of_le c h.ctr,λJ hx s=>by obtain⟨x,g,j,l⟩:=h.bx b J (by rw[s];exact c) hx;rw[l];exact f x g (j.trans s)⟩
 |.mp b u,v,⟨c,f⟩=>⟨Nat.lt_of_lt_of_le c h.ctr,λJ hx s=>by obtain⟨x,g,j,l⟩:=h.bx b J (by rw[s];exact c) hx;rw[l];exact f x g (j.trans s)⟩
 |.pz dep el x off,v,⟨c,f⟩=>⟨λd hd=>Nat.lt_of_lt_of_le (c d hd) h.ctr,λhd=>by obtain⟨g,j⟩:=h.depOk c hd;obtain⟨b,o,F,H⟩:=f g;exact⟨b,o,F,sQ j _ _ _ _ _ _ H⟩⟩
 |.agg xs,_,⟨vs,c,f⟩=>⟨vs,c,pZ h xs vs f⟩
 |.tup xs,_,⟨vs,c,f⟩=>⟨vs,c,pZ h xs vs f⟩
 |.nilp,_,m=>m
 |.fn _ xs,_,⟨vs,c,f⟩=>⟨vs,c,pZ h xs vs f⟩
 |.undef,_,_=>trivial
theorem pZ(h:Le w G st w' G' st'):∀(l:List A)(vs:List Value),eZ w G st l vs->eZ w' G' st' l vs
 |[],_,g=>g
 |a::l,_,⟨v,c,d,e,f⟩=>⟨v,c,d,dS h a v e,pZ h l c f⟩
end
end
def WC:A->Value->Prop
 |.int k n,v=>v=.int k n/\VH k<=n/\n<=VI k
 |.bool b,v=>v=.bool b
 |.str s,v=>v=.string ⟨s.toArray⟩/\s.length<=maxLen
 |_,_=>False
def RP:List (A×A)->List MapEntry->Prop
 |[],c=>c=[]
 |(k,v)::m,c=>∃e es',c=e::es'/\WC k e.key/\WC v e.val/\RP m es'
def lG(w:World)(G:Gh)(st:St)(a:Nat×Nat)(x:Bx):Prop:=
 match x.mp with
 |none=>∃cs e,w.heap[a.1]?=some (.cells cs e (0,0))/\a.2+x.lv.length<=cs.size/\∀j,j<x.lv.length->∃v,cs[a.2+j]?=some v/\dO w G st (x.lv.getD j .undef) v
 |some m=>x.lv=[]/\∃c d,w.heap[a.1]?=some (.map c d)/\RP m.dec c.toList
theorem lG.cells{w:World}{G:Gh}{st:St}{a:Nat×Nat}{x:Bx}(h:lG w G st a x)(c:x.mp=none):
  ∃cs e,w.heap[a.1]?=some (.cells cs e (0,0))/\a.2+x.lv.length<=cs.size/\∀j,j<x.lv.length->∃v,cs[a.2+j]?=some v/\dO w G st (x.lv.getD j .undef) v:=by
 unfold lG at h;rw[c]at h;exact h
theorem lG.of_cells{w:World}{G:Gh}{st:St}{a:Nat×Nat}{x:Bx}(c:x.mp=none)
  (h:∃cs e,w.heap[a.1]?=some (.cells cs e (0,0))/\a.2+x.lv.length<=cs.size/\∀j,j<x.lv.length->∃v,cs[a.2+j]?=some v/\dO w G st (x.lv.getD j .undef) v):lG w G st a x:=by
 unfold lG;rw[c];exact h
theorem lG.noMap{w:World}{G:Gh}{st:St}{a:Nat×Nat}{x:Bx}(h:lG w G st a x){j:Nat}(c:j<x.lv.length):x.mp=none:=by
 unfold lG at h;cases hx:x.mp with
 |none=>rfl
 |some m=>rw[hx]at h;rw[h.1]at c;simp at c
theorem lG.noMap'{w:World}{G:Gh}{st:St}{a:Nat×Nat}{x:Bx}(h:lG w G st a x){cs:Array Value}{e:TypeId}{f:Nat×Nat}(d:w.heap[a.1]?=some (.cells cs e f)):x.mp=none:=by
 unfold lG at h;cases hx:x.mp with
 |none=>rfl
 |some m=>rw[hx]at h;obtain⟨_,j,g,c,_⟩:=h;rw[d]at c;simp at c
theorem lG.step{w w':World}{G G':Gh}{st st':St}{a:Nat×Nat}{x c:Bx}(h:lG w G st a x)(s:w'.heap[a.1]?=w.heap[a.1]?)(t:c.mp=x.mp)(d:c.lv.length=x.lv.length)
  (r:∀j,j<x.lv.length->∀v,dO w G st (x.lv.getD j .undef) v->dO w' G' st' (c.lv.getD j .undef) v):lG w' G' st' a c:=by
 unfold lG at h⊢;rw[t,s];cases hx:x.mp with
 |none=>rw[hx]at h;obtain⟨cs,e,f,g,l⟩:=h;refine⟨cs,e,f,by rw[d];exact g,λj C=>?_⟩;obtain⟨v,u,y⟩:=l j (by omega);exact⟨v,u,r j (by omega) v y⟩
 |some m=>rw[hx]at h;exact⟨List.eq_nil_of_length_eq_zero (by rw[d,h.1];rfl),h.2⟩
structure dI(w:World)(G:Gh)(st:St)(sl:Nat->Option Value):Prop where
 slots:∀t v,sl t=some v->dO w G st (st.sl.get t) v
 boxes:∀b x,look st.bx b=some x->x.uid<st.ctr/\G.own (G.B b).1 =.box/\lG w G st (G.B b) x
 apartB:∀b b' x x',look st.bx b=some x->look st.bx b'=some x'->b≠b'->(G.B b).1 ≠(G.B b').1
 arrs:∀r a,look st.ar r=some a->a.uid<st.ctr/\a.dv<st.ctr/\(a.hv.length=4/\∀u,u∈a.hv->u<st.ctr)/\yV w G a.stale r a.e a.el [] (G.H r []) a.data
 live:∀b,G.own b≠.out->b<w.heap.size
 hdr:∀r p,∃a n c,G.H r p=.slice a n c
end Go.Eng

namespace Go.Eng
theorem mW{α:Type}:∀(n:Nat)(l:List α),kL n l=l.take n
 |0,_=>by simp[kL]
 |_+1,[]=>by simp[kL]
 |n+1,x::l=>by simp[kL,mW n l]
theorem sR{α:Type}:∀(n:Nat)(l:List α),oS n l=l.drop n
 |0,_=>by simp[oS]
 |_+1,[]=>by simp[oS]
 |n+1,_::l=>by simp[oS,sR n l]
theorem aHu{α:Type}(l:List α)(i:Nat)(d:α):l.getD i d=(l[i]?).getD d:=by simp[List.getD]
def fZ:LT->Value
 |.int k=>.int k 0 |.bool=>.bool false |.str=>.string ⟨#[]⟩ |.sl ..=>.slice none 0 0
def aDO:TypeDesc->Bool
 |.struct _=>true |.array _ _=>true |_=>false
def H1(P:Program)(ti:TI):TypeDesc->Prop
 |.struct fs=>∀(f off:Nat)(c:TypeId),ti.fs[f]?=some (off,c)->∃fd:Field,fs[f]?=some fd/\fd.offset=off/\fd.type=c/\∃j,P.info? c=some j/\j.size≠0
 |.array n e=>ti.fs.length=n/\∀(i off:Nat)(c:TypeId),ti.fs[i]?=some (off,c)->c=e
 |.slice e=>ti.e=e/\ti.lv.length=1
 |.int k=>ti.lv=[.int k]
 |.bool=>ti.lv=[.bool]
 |.string=>ti.lv=[.str]
 |_=>True
structure lW(P:Program)(t:TypeId)(ti:TI):Prop where
 ex:∃d i z,P.underlying t=some d/\P.info? t=some i/\i.size=ti.lv.length/\i.bytes=ti.bytes/\i.zero=some z/\z.cells.toList=ti.lv.map fZ/\aDO d=ti.agg/\H1 P ti d
 int:ti.agg=false->∀k,ti.lv=[.int k]->P.underlying t=some (.int k)
 bool:ti.agg=false->ti.lv=[.bool]->P.underlying t=some .bool
 lvF:fC false ti.lv=ti.lv
 parts:∀fs,P.underlying t=some (.struct fs)->∀(j:Nat)(fd:Field),fs[j]?=some fd->∃i,P.info? fd.type=some i
 str:ti.agg=false->ti.lv=[.str]->P.underlying t=some .string
 arr:ti.arr=true->∃n e,P.underlying t=some (.array n e)
 struct:ti.agg=true->ti.arr=false->∃fs,P.underlying t=some (.struct fs)
 sl:ti.sl=true->∃i,P.underlying t=some (.slice ti.e)/\P.info? ti.e=some i/\i.size=ti.ek
structure aGK(P:Program)(t:TypeId):Prop where
 ex:∃(fs:Array Field)(i:TypeInfo),P.underlying t=some (.struct fs)/\P.info? t=some i/\i.size=fs.size/\P.stoodInHeld t=false/\P.eqGuardType P.depth t=false/\
  ∀(j:Nat)(fd:Field),fs[j]?=some fd->fd.name≠ "_"/\fd.offset=j/\∃k,P.underlying fd.type=some (.int k)
def GB:LT->Option TypeDesc
 |.str=>some .string
 |.int k=>some (.int k)
 |_=>none
structure gY(P:Program)(E:fM):Prop where
 maps:∀t mi,E.mt.look t=some mi->∃d,P.underlying t=some (.map mi.key mi.el)/\GB mi.kk=some d/\P.underlying mi.key=some d/\∃i,P.info? mi.el=some i/\i.zero=some (fZ mi.ek)
 types:∀t ti,E.tt.look t=some ti->lW P t ti
 ptrs:∀t e,E.pt.look t=some e->P.underlying t=some (.pointer e)/\∃i,P.info? t=some i/\i.size=1/\i.zero=some (.pointer none)
 eqs:∀t,has E.eqt t=true->aGK P t
section
variable{P:Program}{w:World}
theorem lW.isAgg{t:TypeId}{ti:TI}(h:lW P t ti):(isAgg t).run P w=.ok ti.agg w:=by obtain⟨d,i,z,c,f,g,j,l,m,e,r⟩:=h.ex;unfold Go.isAgg;rw[Sem.run_bind,run_underlying c w,<-e];cases d<;>rfl
theorem lW.sizeOf{t:TypeId}{ti:TI}(h:lW P t ti):(Go.sizeOf t).run P w=.ok ti.lv.length w:=by obtain⟨d,i,z,f,c,e,g,j,l,m,r⟩:=h.ex;simp[Go.sizeOf,typeInfo,Sem.run_bind,c,e]
theorem Dj{t:TypeId}{ti:TI}(h:lW P t ti)(b o:Nat)(vs:List Value)(m:vs.length=ti.lv.length)
  (e:∀j v,vs[j]?=some v->w.cell? ⟨b,o+j,none⟩=some v)(g:ti.agg=false->vs.length=1):
  (loadVar t ⟨b,o,none⟩).run P w=.ok (if ti.agg then .agg ⟨vs⟩else vs.getD 0 undef) w:=by
 have l:∀j,(⟨b,o,none⟩:Addr).add j=⟨b,o+j,none⟩:=by intro j;unfold Addr.add;split<;>simp_all
 cases c:ti.agg with
 |true=>
  have f:(loadCells ⟨b,o,none⟩ vs.length).run P w=.ok vs.toArray w:=
   run_loadCells_list (P:=P) w ⟨b,o,none⟩ vs (λj v hv=>by rw[l];exact e j v hv)
  rw[m]at f;simp[loadVar,Sem.run_bind,h.isAgg,c,h.sizeOf,f]
 |false=>
  have:=g c;match vs,this with
  |[v],_=>have d:=e 0 v rfl;simp only[Nat.add_zero]at d;simp[loadVar,Sem.run_bind,h.isAgg,c,run_load,d]
end
theorem dG{w:World}{G:Gh}{st:St}:∀{l:List A}{vs:List Value},eZ w G st l vs<->vs.length=l.length/\∀(j:Nat)(a:A)(v:Value),l[j]?=some a->vs[j]?=some v->dO w G st a v
 |[],vs=>by
  simp only[eZ];constructor
  ·rintro rfl;simp
  ·rintro⟨h,_⟩;exact List.eq_nil_of_length_eq_zero h
 |x::xs,vs=>by
  simp only[eZ];constructor
  ·rintro⟨v,g,rfl,c,f⟩;obtain⟨m,r⟩:=dG.1 f;refine⟨by simp[m],λj a u d e=>?_⟩;cases j with
   |zero=>simp at d e;subst d;subst e;exact c
   |succ j=>exact r j a u (by simpa using d) (by simpa using e)
  ·rintro⟨c,f⟩;match vs,c with
   |v::g,c=>exact⟨v,g,rfl,f 0 x v rfl rfl,dG.2 ⟨by simpa using c,λj a u d e=>f (j+1) a u (by simpa using d) (by simpa using e)⟩⟩
theorem MQ{w:World}{G:Gh}{st:St}{dep:List (Nat×Nat)}(g:∀d,d∈dep->d.2<st.ctr){t:LT}{v:Value}{x:D}
  (h:yQ w (vU G dep) t v x):dO w G st (DL dep t x) v:=by
 cases t with
 |int k=>exact h
 |bool=>exact h
 |str=>exact h
 |sl o e el=>refine⟨g,λ_=>?_⟩;have f:=(DT false (.sl o e el) v x).2 h;simp only[LT.setOwn]at f;obtain⟨a,n,c,j,l,m,r,s,u⟩:=f;exact⟨a,n,c,j,l,m,r,s,u⟩
theorem Se{w:World}{okb:Nat->Prop}:∀{ts:List LT}{b o k:Nat}{x:D}{c:Nat},s7 w okb ts b o k x c->
  ∀(j:Nat)(t:LT),ts[j]?=some t->∃v,w.cell? ⟨b,o+(c+j),none⟩=some v/\yQ w okb t v (lf k x (c+j))
 |[],_,_,_,_,_,_,j,t,h=>by simp at h
 |t::ts,b,o,k,x,c,⟨_,⟨v,d,e⟩,f⟩,j,g,h=>by
  cases j with
  |zero=>simp at h;subst h;exact⟨v,d,e⟩
  |succ j=>have:=Se f j g (by simpa using h);rwa [show c+1+j=c+(j+1)by omega]at this
theorem WD{w:World}{G:Gh}{st:St}{dep:List (Nat×Nat)}(f:∀d,d∈dep->d.2<st.ctr){b o k:Nat}{x:D}:
  ∀(ts:List LT)(c:Nat),(∀j t,ts[j]?=some t->∃v,w.cell? ⟨b,o+(c+j),none⟩=some v/\yQ w (vU G dep) t v (lf k x (c+j)))->
   ∃vs,eZ w G st (JA dep k x c ts) vs/\vs.length=ts.length/\∀j v,vs[j]?=some v->w.cell? ⟨b,o+(c+j),none⟩=some v
 |[],_,_=>⟨[],rfl,rfl,by simp⟩
 |t::ts,c,h=>by
  obtain⟨v,r,s⟩:=h 0 t rfl;obtain⟨vs,g,l,m⟩:=WD f (b:=b) (o:=o) (k:=k) (x:=x) ts (c+1) (λj t ht=>by have:=h (j+1) t (by simpa using ht);rwa [show c+(j+1)=c+1+j by omega]at this);refine⟨v::vs,⟨v,vs,rfl,MQ f s,g⟩,by simp[l],λj u e=>?_⟩;cases j with
  |zero=>simp at e;subst e;exact r
  |succ j=>have:=m j u (by simpa using e);rwa [show c+1+j=c+(j+1)by omega]at this
theorem JI{agg:Bool}{n:Nat}{l:List A}{a:A}(h:FX agg n l=some a):l.length=n/\(if agg then a=.agg l else l=[a]):=by
 unfold FX at h;cases c:Nat.beq l.length n with
 |false=>simp[c,aG]at h
 |true=>
  have d:=Nat.eq_of_beq_eq_true c;simp only[c,cond_true]at h;cases agg with
  |true=>simp[ok]at h;exact⟨d,by simp[h]⟩
  |false=>
   refine⟨d,?_⟩;simp only[cond_false]at h;match l,h with
   |[x],h=>simp[ok]at h;simp[h]
theorem DU{P:Program}{w:World}{G:Gh}{st:St}{t:TypeId}{ti:TI}(h:lW P t ti){b o:Nat}{l:List A}{vs:List Value}{a:A}
  (f:eZ w G st l vs)(m:∀j v,vs[j]?=some v->w.cell? ⟨b,o+j,none⟩=some v)(C:FX ti.agg ti.lv.length l=some a):
  ∃v,(∀w',HQ w w'->(Instr.loadAt t (.pointer (some ⟨b,o,none⟩))).run P w'=.ok v w')/\dO w G st a v:=by
 obtain⟨y,d⟩:=JI C;have r:=(dG.1 f).1;have s:vs.length=ti.lv.length:=r.trans y;cases c:ti.agg with
 |true=>simp only[c,if_true]at d;subst d;refine⟨.agg ⟨vs⟩,?_,vs,rfl,f⟩;intro w' g;have:=Dj (w:=w') h b o vs s (λj v hv=>g.cell (m j v hv)) (by simp[c]);simp only[c,if_true]at this;simp[Instr.loadAt,Instr.sureAddr,Sem.run_bind,this]
 |false=>
  simp only[c,Bool.false_eq_true,if_false]at d;subst d;have H:vs.length=1:=by rw[r];rfl
  match vs,H with
  |[v],_=>
   refine⟨v,?_,?_⟩
   ·intro w' g;have:=Dj (w:=w') h b o [v] s (λj v hv=>g.cell (m j v hv)) (by simp);simp only[c,Bool.false_eq_true,if_false]at this;simp[Instr.loadAt,Instr.sureAddr,Sem.run_bind,this]
   ·obtain⟨u,us,e,F,_⟩:=f;simp at e;rw[e.1];exact F
theorem fX{st:St}{b u:Nat}{l:List A}(h:pR st b u=some l):∃x,look st.bx b=some x/\x.uid=u/\x.lv=l:=by
 unfold pR at h;cases d:look st.bx b with
 |none=>simp[d,aG]at h
 |some x=>
  simp only[d]at h;cases c:Nat.beq x.uid u with
  |false=>simp[c,aG]at h
  |true=>
   simp only[c,cond_true]at h;split at h
   ·simp[ok]at h;exact⟨x,rfl,Nat.eq_of_beq_eq_true c,h⟩
   ·simp[aG]at h
theorem vV{st:St}{b u:Nat}{l:List A}{x:Bx}(h:pR st b u=some l)(hx:look st.bx b=some x):x.mp=none:=by
 unfold pR at h;simp only[hx]at h;cases c:Nat.beq x.uid u with
 |false=>simp[c,aG]at h
 |true=>
  simp only[c,cond_true]at h;split at h
  ·assumption
  ·simp[aG]at h
theorem Ia{st:St}{b u:Nat}{m:MV}(h:Cz st b u=some m):∃x,look st.bx b=some x/\x.uid=u/\x.mp=some m:=by
 unfold Cz at h;cases d:look st.bx b with
 |none=>simp[d,aG]at h
 |some x=>
  simp only[d]at h;cases c:Nat.beq x.uid u with
  |false=>simp[c,aG]at h
  |true=>
   simp only[c,cond_true]at h;split at h
   ·rename_i m' e;simp[ok]at h;subst h;exact⟨x,rfl,Nat.eq_of_beq_eq_true c,e⟩
   ·simp[aG]at h
theorem eM{st:St}{r u:Nat}{p:cQ}{a:yN}(h:jL st r u p=some a):lP st r u p a:=by
 unfold jL at h;cases d:look st.ar r with
 |none=>simp[d,aG]at h
 |some x=>
  simp only[d]at h;cases c:(Nat.ble p.length 4&&Nat.beq (jP x p) u)with
  |false=>simp[c,aG]at h
  |true=>simp[c,ok]at h;simp only[Bool.and_eq_true]at c;subst h;exact⟨d,Nat.le_of_ble_eq_true c.1,Nat.eq_of_beq_eq_true c.2⟩
theorem bind_some{α c:Type}{x:M α}{f:α->M c}{b:c}(h:x.bind f=some b):∃a,x=some a/\f a=some b:=by
 cases x with
 |none=>simp at h
 |some a=>exact⟨a,rfl,by simpa using h⟩
theorem JJ{st:St}{r u:Nat}{p:cQ}{q:Nat×TypeId×List LT×LD}(h:dQ st r u p=some q):
  ∃a,lP st r u p a/\a.stale=[]/\mT a.e a.el a.data p=some q.2/\q.1=a.dv:=by
 unfold dQ at h;obtain⟨a,f,c⟩:=bind_some h;refine⟨a,eM f,?_⟩;cases e:a.stale with
 |cons _ _=>simp[e,aG]at c
 |nil=>simp only[e]at c;obtain⟨x,g,d⟩:=bind_some c;simp[ok]at d;subst d;exact⟨rfl,g,rfl⟩
theorem ZU{n:Nat}:∀{l:List cQ},LN n l=true->∀q,q∈l->n<q.length
 |[],_,_,h=>absurd h (by simp)
 |q::l,h,d,c=>by
  simp only[LN,Bool.and_eq_true]at h;rcases List.mem_cons.1 c with rfl |c
  ·exact Nat.le_of_ble_eq_true h.1
  ·exact ZU h.2 d c
theorem Ib{st:St}{r u:Nat}{p:cQ}{q:TypeId×List LT×LD}(h:Wg st r u p=some q):
  ∃a,lP st r u p a/\(∀s,s∈a.stale->p.length<s.length)/\mT a.e a.el a.data p=some q:=by
 unfold Wg at h;obtain⟨a,e,c⟩:=bind_some h;refine⟨a,eM e,?_⟩;cases d:LN p.length a.stale with
 |false=>simp[d,aG]at c
 |true=>simp only[d,cond_true]at c;exact⟨ZU d,c⟩
theorem CM{w:World}{G:Gh}{S:List cQ}{r:Nat}:∀{ts:List LT}{p:cQ}{i b o k:Nat}{x:D}{c:Nat},V7 w G S r ts p i b o k x c->
  ∀(j:Nat)(t:LT),ts[j]?=some t->∃v,w.cell? ⟨b,o+(c+j),none⟩=some v/\Xa w G S r t (p++[(i,c+j)]) v (lf k x (c+j))
 |[],_,_,_,_,_,_,_,_,j,t,h=>by simp at h
 |t::ts,p,i,b,o,k,x,c,⟨⟨v,d,e⟩,f⟩,j,g,h=>by
  cases j with
  |zero=>simp at h;subst h;exact⟨v,d,e⟩
  |succ j=>have:=CM f j g (by simpa using h);rwa [show c+1+j=c+(j+1)by omega]at this
theorem ZV{w:World}{G:Gh}{S:List cQ}{r:Nat}:∀{p f:cQ}{e:TypeId}{el:List LT}{data:LD}{q:TypeId×List LT×LD},
  yV w G S r e el f (G.H r f) data->mT e el data p=some q->ZH el data p->(∀s,s∈S->f.length+p.length<s.length)->
  yV w G S r q.1 q.2.1 (f++p) (G.H r (f++p)) q.2.2
 |[],f,e,el,data,q,h,d,_,_=>by simp[mT]at d;subst d;simpa using h
 |(i,j)::p,f,e,el,data,q,h,d,g,m=>by
  obtain⟨ad,n,c,Y,a0,a1,a2,F,H⟩:=h;simp only[mT]at d;obtain⟨a3,g⟩:=g;cases ht:el[j]?with
  |none=>simp[ht]at d
  |some t=>
   cases t with
   |int k=>simp[ht]at d
   |bool=>simp[ht]at d
   |str=>simp[ht]at d
   |sl own L Q=>
    cases own with
    |false=>simp[ht]at d
    |true=>
     simp only[ht]at d g;have a4:0<n:=by omega
     cases ad with
     |none=>have:=F rfl;omega
     |some ad=>
      obtain⟨T,U,cs,P,V,W,C⟩:=H ad rfl;obtain⟨v,J,u⟩:=CM (C i (by omega)) j _ ht;simp only[Nat.zero_add]at J u;rcases vT.1 u with l |⟨K,y⟩
      ·have:=m _ l;simp at this
      ·rw[K]at y;have:=ZV y d g (λs l=>by have:=m s l;simp at this⊢;omega);simpa using this
theorem PR{G:Gh}(b:Nat):vU G [] b<->G.own b=.fz:=by simp[vU]
theorem Dk{w:World}{G:Gh}{st:St}{r u:Nat}{p:cQ}{i b o k:Nat}{x:D}{a0:yN}(f:u<st.ctr)
  (hd:∀(j:Nat)(a:yN),lP st r u (p++[(i,j)]) a->a=a0):∀(ts:List LT)(c:Nat),
   (∀(j:Nat)(t:LT),ts[j]?=some t->∃v,w.cell? ⟨b,o+(c+j),none⟩=some v/\Xa w G [] r t (p++[(i,c+j)]) v (lf k x (c+j)))->
   (∀(j:Nat)(e:TypeId)(el:List LT),ts[j]?=some (.sl true e el)->(∃t,WB a0.e a0.el (p++[(i,c+j)])=some t)/\ZH a0.el a0.data (p++[(i,c+j)]))->
   ∃vs,eZ w G st (SO r u p i k x c ts) vs/\vs.length=ts.length/\∀j v,vs[j]?=some v->w.cell? ⟨b,o+(c+j),none⟩=some v
 |[],_,_,_=>⟨[],rfl,rfl,by simp⟩
 |t::ts,c,h,s=>by
  obtain⟨v,H,d⟩:=h 0 t rfl;obtain⟨vs,y,C,F⟩:=Dk (w:=w) (G:=G) (st:=st) (b:=b) (o:=o) (k:=k) (x:=x) f hd ts (c+1) (λj t ht=>by
   have:=h (j+1) t (by simpa using ht);rwa [show c+(j+1)=c+1+j by omega]at this) (λj e el ht=>by
   have:=s (j+1) e el (by simpa using ht);rwa [show c+(j+1)=c+1+j by omega]at this)
  refine⟨v::vs,⟨v,vs,rfl,?_,y⟩,by simp[C],λj u f=>?_⟩
  ·have K:∀b,G.own b=.fz->vU G [] b:=λb l=>(PR b).2 l;have g:∀t,yQ w (λb=>G.own b=.fz) t v (lf k x (c+0))->dO w G st (DL [] t (lf k x (c+0))) v:=λt ht=>
    MQ (dep:=[]) (by simp) (dA (λb l=>⟨K b l,rfl⟩) t v _ ht)
   cases t with
   |int kk=>exact g (.int kk) d
   |bool=>exact g .bool d
   |str=>exact g .str d
   |sl own e el=>
    cases own with
    |false=>exact g (.sl false e el) d
    |true=>
     have m:=s 0 e el rfl;simp only[Nat.add_zero]at m d;refine⟨f,λa J=>?_⟩;have:=hd c a J;subst this;rcases vT.1 d with L |⟨P,_⟩
     ·simp at L
     ·exact⟨P,m.1,m.2⟩
  ·cases j with
   |zero=>simp at f;subst f;exact H
   |succ j=>have:=F j u (by simpa using f);rwa [show c+1+j=c+(j+1)by omega]at this
theorem Ox:∀{p:cQ}{e:TypeId}{el:List LT}{t:TypeId×List LT}{i j:Nat}{c:TypeId}{d:List LT},WB e el p=some t->t.2[j]?=some (.sl true c d)->
  WB e el (p++[(i,j)])=some (c,d)
 |[],e,el,t,i,j,c,d,h,ht=>by simp[WB]at h;subst h;simp at ht;simp[WB,ht]
 |(i0,g)::p,e,el,t,i,j,c,d,h,ht=>by
  simp only[WB,List.cons_append]at h⊢;cases f:el[g]?with
  |none=>simp[f]at h
  |some x=>
   cases x with
   |sl own e1 l=>
    cases own with
    |true=>simp only[f]at h⊢;exact Ox h ht
    |false=>simp[f]at h
   |_=>simp[f]at h
theorem HR:∀{p:cQ}{e:TypeId}{el:List LT}{data:LD}{q:TypeId×List LT×LD},mT e el data p=some q->WB e el p=some (q.1,q.2.1)
 |[],_,_,_,_,h=>by simp[mT]at h;subst h;simp[WB]
 |(i,j)::p,e,el,data,q,h=>by
  simp only[mT,WB]at h⊢;cases c:el[j]?with
  |none=>simp[c]at h
  |some x=>
   cases x with
   |sl own e1 d=>
    cases own with
    |true=>simp only[c]at h⊢;exact HR h
    |false=>simp[c]at h
   |_=>simp[c]at h
theorem Xc:∀{p:cQ}{e:TypeId}{el:List LT}{data:LD}{q:TypeId×List LT×LD}{i j:Nat}{g:TypeId}{l:List LT},
  mT e el data p=some q->ZH el data p->i<q.2.2.length->q.2.1[j]?=some (.sl true g l)->ZH el data (p++[(i,j)])
 |[],e,el,data,q,i,j,g,l,h,_,c,ht=>by simp[mT]at h;subst h;simp at c ht;simp[ZH,c,ht]
 |(i0,m)::p,e,el,data,q,i,j,g,l,h,d,c,ht=>by
  simp only[mT,ZH,List.cons_append]at h d⊢;refine⟨d.1,?_⟩;cases f:el[m]?with
  |none=>simp[f]at h
  |some x=>
   cases x with
   |sl own e1 r=>
    cases own with
    |true=>simp only[f]at h d⊢;exact Xc h d.2 c ht
    |false=>simp[f]at h
   |_=>simp[f]at h
theorem aFB{a:yN}{p:cQ}{c:Nat×Nat}:jP a (p++[c])=a.hv.getD p.length 0:=by
 cases p with
 |nil=>simp[jP]
 |cons d p=>simp[jP]
section
variable{P:Program}{w:World}{G:Gh}{st:St}{sl:Nat->Option Value}
theorem kN{α:Type}(n off j:Nat)(l:List α):(kL n (oS off l))[j]?=if j<n then l[off+j]?else none:=by rw[mW,sR,List.getElem?_take];split<;>simp[List.getElem?_drop]
theorem Ic{t:TypeId}{ti:TI}(Q:lW P t ti)(W:dI w G st sl){x a:A}{v:Value}(hx:dO w G st x v)(h:VJ st ti x=some a):
  ∃u,(∀w',HQ w w'->(Instr.loadAt t v).run P w'=.ok u w')/\dO w G st a u:=by
 cases x with
 |pb b u off=>
  simp only[VJ]at h;obtain⟨l,d,f⟩:=bind_some h;obtain⟨K,g,L,C⟩:=fX d;obtain⟨b6,hv⟩:=hx;have hv:=hv K g L;subst hv;obtain⟨_,a4,b3⟩:=W.boxes b K g;obtain⟨cs,e,V,e2,b7⟩:=b3.cells (vV d g);subst C;obtain⟨Y,_⟩:=JI f;have e0:ti.lv.length=0\/off+ti.lv.length<=K.lv.length:=by rw[mW,sR,List.length_take,List.length_drop]at Y;omega
  have a3:∀j,j<ti.lv.length->∃v,cs[(G.B b).2 +off+j]?=some v/\dO w G st (K.lv.getD (off+j) .undef) v:=λj s=>by have:=b7 (off+j) (by omega);rwa [<-Nat.add_assoc]at this
  let vs:=(List.range ti.lv.length).map λj=>(cs[(G.B b).2 +off+j]?).getD undef
  refine DU Q (b:=(G.B b).1) (o:=(G.B b).2 +off) (vs:=vs) (dG.2 ⟨by simp[vs,Y],λj a v m hv=>?_⟩) (λj v hv=>?_) f
  ·rw[kN]at m;split at m
   ·rename_i s;obtain⟨c4,y,F⟩:=a3 j s;simp only[vs,List.getElem?_map,List.getElem?_range s,Option.map_some,y,Option.getD_some,Option.some.injEq]at hv;subst hv;simpa[List.getD,m]using F
   ·simp at m
  ·by_cases s:j<ti.lv.length
   ·obtain⟨c4,y,F⟩:=a3 j s;simp only[vs,List.getElem?_map,List.getElem?_range s,Option.map_some,y,Option.getD_some,Option.some.injEq]at hv;subst hv;simp[World.cell?,V,y]
   ·simp[vs,List.getElem?_map,List.getElem?_eq_none (show(List.range ti.lv.length).length<=j by simp;omega)]at hv
 |pz dep el x off=>
  simp only[VJ]at h;cases hd:depOk st dep with
  |false=>simp[hd,aG]at h
  |true=>
   simp only[hd,cond_true]at h;obtain⟨d,f⟩:=hx;obtain⟨b,o,a4,V⟩:=f hd;subst a4;obtain⟨vs,g,L,C⟩:=WD (w:=w) (G:=G) (st:=st) d (b:=b) (o:=o) (k:=el.length) (x:=x) (kL ti.lv.length (oS off el)) off (λj t ht=>by
    rw[kN]at ht;split at ht
    ·have:=Se V (off+j) t ht;simpa using this
    ·simp at ht)
   exact DU Q g (λj v hv=>by have:=C j v hv;rwa [<-Nat.add_assoc]at this) h
 |pa r u p k i off=>
  simp only[VJ]at h;obtain⟨a0,d,f⟩:=bind_some h;have T:=eM d;obtain⟨b6,hv⟩:=hx;obtain⟨e3,y,F,c0,b,o,n,c,c1,c2,c3⟩:=hv a0 T;subst c3;cases U:a0.stale with
  |cons _ _=>simp[U,aG]at f
  |nil=>
   simp only[U]at f;obtain⟨q,H,b1⟩:=bind_some f;obtain⟨_,_,b4,a1⟩:=W.arrs r a0 T.1;rw[U]at a1;have a2:=ZV a1 H F (by simp);simp only[List.nil_append]at a2;obtain⟨ad,n',c',e1,c6,c7,c8,c9,a9⟩:=a2;rw[c1]at e1;injection e1 with a5 a6 a7;subst a5;subst a6;subst a7;obtain⟨d0,d1,cs,c5,d2,d3,b0⟩:=a9 _ rfl;have J:=HR H;rw[y]at J;have b5:k=q.2.1.length:=by rw[c0];injection J with J;rw[J]
   have b2:=CM (b0 i c2);obtain⟨vs,g,L,C⟩:=Dk (w:=w) (G:=G) (st:=st) (r:=r) (u:=a0.hv.getD p.length 0) (p:=p) (i:=i) (b:=b) (o:=o+i*q.2.1.length) (k:=q.2.1.length) (x:=q.2.2.getD i (.i 0)) (a0:=a0)
    (by
     cases hg:a0.hv[p.length]?with
     |none=>simp[List.getD,hg];omega
     |some z=>simp only[List.getD,hg,Option.getD_some];exact b4.2 z (List.mem_of_getElem? hg))
    (λj a m=>by have d:=m.1;rw[T.1]at d;injection d with d;exact d.symm)
    (kL ti.lv.length (oS off q.2.1)) off
    (λj t ht=>by
     rw[kN]at ht;split at ht
     ·have:=b2 (off+j) t ht;simpa using this
     ·simp at ht)
    (λj e el ht=>by
     rw[kN]at ht;split at ht
     ·exact⟨⟨_,Ox (HR H) ht⟩,Xc H F (by omega) ht⟩
     ·simp at ht)
   rw[b5];exact DU Q (o:=o+i*q.2.1.length+off) g (λj v hv=>by have:=C j v hv;rwa [<-Nat.add_assoc]at this) b1
 |_=>simp[VJ,aG]at h
end
theorem fN:∀(a b:Int),cX a b=true<->a<=b
 |.ofNat a,.ofNat b=>by simp only[cX];exact⟨λh=>Int.ofNat_le.2 (Nat.le_of_ble_eq_true h),λh=>Nat.ble_eq_true_of_le (Int.ofNat_le.1 h)⟩
 |.negSucc a,.ofNat b=>by simp[cX];have:=Int.negSucc_lt_zero a;have:(0:Int)<=(b:Int):=Int.natCast_nonneg b;omega
 |.ofNat a,.negSucc b=>by simp[cX];have:=Int.negSucc_lt_zero b;have:(0:Int)<=(a:Int):=Int.natCast_nonneg a;omega
 |.negSucc a,.negSucc b=>by
  simp only[cX];have c:Int.negSucc a=-(a:Int)-1:=by omega
  have d:Int.negSucc b=-(b:Int)-1:=by omega
  rw[c,d];exact⟨λh=>by have:=Nat.le_of_ble_eq_true h;omega,λh=>Nat.ble_eq_true_of_le (by omega)⟩
theorem Sf(a b:Int):cX a b=decide (a<=b):=by rw[Bool.eq_iff_iff,fN];simp
theorem ZW(a b:Int):aT a b=decide (a<b):=by
 rw[aT,Sf];by_cases h:a<b
 ·simp[h]
 ·simp[h];omega
theorem bT:∀(a b:Int),aD a b=true<->a=b
 |.ofNat a,.ofNat b=>by simp only[aD];exact⟨λh=>by rw[Nat.eq_of_beq_eq_true h],λh=>by injection h with h;rw[h];exact Nat.beq_refl b⟩
 |.negSucc a,.negSucc b=>by simp only[aD];exact⟨λh=>by rw[Nat.eq_of_beq_eq_true h],λh=>by injection h with h;rw[h];exact Nat.beq_refl b⟩
 |.negSucc a,.ofNat b=>by simp only[aD];exact⟨λh=>by simp at h,λh=>by injection h⟩
 |.ofNat a,.negSucc b=>by simp only[aD];exact⟨λh=>by simp at h,λh=>by injection h⟩
theorem ZX(a b:Int):aD a b=(a==b):=by rw[Bool.eq_iff_iff,bT];simp
theorem WE(a b:Bool):FS a b=(a==b):=by cases a<;>cases b<;>rfl
theorem fF(k c:IntKind):nK k c=true<->k=c:=by cases k<;>cases c<;>simp[nK]
theorem DV(k:IntKind)(n:Int):VH k<=k.wrap n/\k.wrap n<=VI k:=by cases k<;>simp[IntKind.wrap,IntKind.bits,IntKind.signed,VH,VI]<;>(try split)<;>omega
theorem aDP(k:IntKind)(n:Int)(c:VH k<=n)(d:n<=VI k):k.wrap n=n:=by cases k<;>simp[IntKind.wrap,IntKind.bits,IntKind.signed,VH,VI]at c d⊢<;>(try split)<;>omega
theorem vW(k:IntKind)(n:Int):bD k n=k.wrap n:=by
 unfold bD;cases h:(cX (VH k) n&&cX n (VI k))with
 |false=>rfl
 |true=>simp only[Bool.and_eq_true,fN]at h;simp[aDP k n h.1 h.2]
theorem tZ(k:IntKind):VH k<=0:=by cases k<;>simp[VH]
theorem uA(k:IntKind):0<=VI k:=by cases k<;>simp[VI]
theorem H2(a:Int)(d:Nat)(hd:0<d):(0<=a->0<=a.fdiv d/\a.fdiv d<=a)/\(a<0->a<=a.fdiv d/\a.fdiv d<=0):=by
 have e:(0:Int)<(d:Int):=by omega
 rw[Int.fdiv_eq_ediv_of_nonneg a (Int.le_of_lt e)];constructor
 ·intro h;exact⟨Int.ediv_nonneg h (Int.le_of_lt e),Int.ediv_le_self _ h⟩
 ·intro h;constructor
  ·have:=Int.le_ediv_of_mul_le (a:=a) (b:=a) (c:=(d:Int)) e (by
    have:a*(d:Int)<=a*1:=Int.mul_le_mul_of_nonpos_left (by omega) (by omega);omega)
   exact this
  ·have:a/(d:Int)<0:=Int.ediv_neg_of_neg_of_pos h e;omega
theorem H3(a b:Int):(0<=a->0<=a.tmod b/\a.tmod b<=a)/\(a<0->a<=a.tmod b/\a.tmod b<=0):=by
 constructor
 ·intro h;refine⟨Int.tmod_nonneg b h,?_⟩;have c:(a.tmod b).natAbs=a.natAbs%b.natAbs:=Int.natAbs_tmod a b;have d:=Nat.mod_le a.natAbs b.natAbs;have e:=Int.tmod_nonneg b h;omega
 ·intro h;have c:(a.tmod b).natAbs=a.natAbs%b.natAbs:=Int.natAbs_tmod a b;have d:=Nat.mod_le a.natAbs b.natAbs;have f:(-a).tmod b=-a.tmod b:=Int.neg_tmod a b;have g:=Int.tmod_nonneg (a:=-a) b (by omega);omega
theorem DW(k:Int)(n:Nat):aA k n=true<->0<=k/\k<(n:Int):=by simp[aA,fN,ZW]
theorem yW:∀(a b:List UInt8),DM a b=true<->a=b
 |[],[]=>by simp[DM]
 |[],_::_=>by simp[DM]
 |_::_,[]=>by simp[DM]
 |a::x,b::e=>by
  simp only[DM,Bool.and_eq_true,yW x e,List.cons.injEq];constructor
  ·rintro⟨c,d⟩;exact⟨UInt8.toNat_inj.1 (Nat.eq_of_beq_eq_true c),d⟩
  ·rintro⟨c,d⟩;exact⟨by rw[c];exact Nat.beq_refl _,d⟩
section
variable{P:Program}{w:World}{G:Gh}{st:St}{act:Act}
theorem qQ{x:A}{α:Type}{f:A->M α}{b:α}(h:mO st x f=some b):jM st x=true/\f x=some b:=by
 unfold mO at h;cases hv:jM st x with
 |false=>simp[hv,aG]at h
 |true=>simp[hv]at h;exact⟨rfl,h⟩
theorem jB{x:M A}{r:uX}(h:rv x=some r):∃a,x=some a/\r=.val a:=by obtain⟨a,d,c⟩:=bind_some h;simp[ok]at c;exact⟨a,d,c.symm⟩
theorem Oy(v:Value){c:Tr}:dO w G st (eR c (.const v)) v:=by
 simp only[eR];unfold aBl;split
 ·rename_i k n;cases h:(cX (VH k) n&&cX n (VI k))with
  |false=>exact trivial
  |true=>simp only[Bool.and_eq_true,fN]at h;exact⟨rfl,h.1,h.2⟩
 ·rfl
 ·rename_i s;cases h:Nat.ble s.data.toList.length 1000000 with
  |false=>exact trivial
  |true=>
   have:=Nat.le_of_ble_eq_true h;refine⟨?_,?_⟩
   ·cases s;simp
   ·unfold maxLen;omega
 ·rfl
 ·rfl
 ·exact trivial
def tv(ext:Nat->Value)(act:Act)(t:Nat):Value:=if t<1000 then act.tmps.getD t undef else ext t
theorem PS{ext:Nat->Value}{t:Nat}(e:dO w G st (st.sl.get t) (tv ext act t)):dO w G st (eR st.sl (.tmp t)) (act.tmps.getD t undef):=by
 simp only[eR];cases d:Nat.ble 1000 t with
 |true=>exact trivial
 |false=>
  have:t<1000:=by
   rcases Nat.lt_or_ge t 1000 with c |c
   ·exact c
   ·rw[Nat.ble_eq_true_of_le c]at d;simp at d
  simp only[tv,if_pos this]at e;exact e
theorem s8{ext:Nat->Value}(c:∀t,dO w G st (st.sl.get t) (tv ext act t))(x:Operand):dO w G st (eR st.sl x) (act.eval x):=by
 cases x with
 |tmp t=>exact PS (c t)
 |global g=>exact trivial
 |func f=>exact⟨[],rfl,rfl⟩
 |const v=>exact Oy v
def DX(P:Program)(w:World)(G:Gh)(st:St)(act:Act)(o:Op)(a:A):Prop:=
 ∀ot:Oper,ot.op=o->∃u,(∀w',(execOp act.eval ot).run P w'=.ok (.value u) w')/\dO w G st a u
def Gv(P:Program)(w:World)(G:Gh)(st:St)(act:Act)(o:Op)(a:A):Prop:=
 ∀ot:Oper,ot.op=o->∃u,(∀w',HQ w w'->(execOp act.eval ot).run P w'=.ok (.value u) w')/\dO w G st a u
theorem Id(x:Operand)(hx:dO w G st (eR st.sl x) (act.eval x)){r:uX}(h:ZL (eR st.sl x)=some r):
  ∃a,r=.val a/\DX P w G st act (.move x) a/\DX P w G st act (.assign x) a:=by
 refine⟨eR st.sl x,?_,λot c=>⟨act.eval x,?_,hx⟩,λot c=>⟨act.eval x,?_,hx⟩⟩
 ·unfold ZL at h;split at h
  ·simp[aG]at h
  ·simp[ok]at h;exact h.symm
 ·intro w';simp[execOp,c]
 ·intro w';simp[execOp,c]
theorem H4(c a b:Operand)(l:dO w G st (eR st.sl c) (act.eval c))(d:eR st.sl c=.bool true->dO w G st (eR st.sl a) (act.eval a))(e:eR st.sl c=.bool false->dO w G st (eR st.sl b) (act.eval b)){r:A}
  (h:Rq (eR st.sl a) (eR st.sl b) (eR st.sl c)=some r):DX P w G st act (.pick c a b) r:=by
 intro ot u;cases g:eR st.sl c with
 |bool q=>
  rw[g]at l h;simp only[Rq]at h;have t:act.eval c=.bool q:=l;rw[g]at d e;refine⟨if q then act.eval a else act.eval b,λw'=>by simp[execOp,u,t,asBool],?_⟩;unfold aE3 at h;split at h
  ·rename_i k m s n e1 f;rw[e1]at d;rw[f]at e;cases j:nK k s with
   |false=>simp[j,aG]at h
   |true=>
    have:=(fF k s).1 j;subst this;simp[j,ok]at h;subst h;cases q
    ·simpa using e rfl
    ·simpa using d rfl
  ·rename_i e1 f;rw[e1]at d;rw[f]at e;simp[ok]at h;subst h;cases q
   ·simpa using e rfl
   ·simpa using d rfl
  ·simp[aG]at h
 |_=>simp[g,Rq,aG]at h
theorem jR{α:Type}{c:Bool}{x d:α}(h:Cy true c x=some d):c=true/\x=d:=by
 unfold Cy at h;cases c with
 |false=>simp[aG]at h
 |true=>simp[ok]at h;exact⟨rfl,h⟩
theorem aBE(op:UnOp)(t:TypeId)(x:Operand)(hx:dO w G st (eR st.sl x) (act.eval x)){r:A}(h:unA op (eR st.sl x)=some r):DX P w G st act (.unOp op t x) r:=by
 intro ot c;unfold unA at h;split at h
 ·rename_i b e;rw[e]at hx;have hv:act.eval x=.bool b:=hx;cases op<;>simp[ok,aG]at h;subst h;exact⟨.bool (!b),λw'=>by simp[execOp,c,hv,Op.unary],rfl⟩
 ·rename_i k n e;rw[e]at hx;obtain⟨hv,d,f⟩:=hx;cases op<;>simp[ok,aG]at h
  ·subst h;refine⟨.int k (k.wrap (-n)),λw'=>by simp[execOp,c,hv,Op.unary,Op.intArith],?_⟩;have:=DV k (-n);exact⟨by rw[vW],by rw[vW];exact this.1,by rw[vW];exact this.2⟩
  ·subst h;refine⟨.int k (HM .xor k (if k.signed then-1 else k.max) n),?_,?_⟩
   ·intro w';simp[execOp,c,hv,Op.unary,Op.intBits,HM]
   ·have:=DV k;refine⟨?_,?_,?_⟩
    ·cases k.signed<;>rfl
    ·cases k.signed<;>exact(this _).1
    ·cases k.signed<;>exact(this _).2
 ·simp[aG]at h
theorem Np(c t:TypeId)(x:Operand){ti:TI}(j:lW P t ti)(g:∃d,P.underlying c=some d)(hx:dO w G st (eR st.sl x) (act.eval x)){r:A}(h:ZM (eR st.sl x) ti=some r):DX P w G st act (.convert c t x) r:=by
 intro ot m;unfold ZM at h;split at h
 ·rename_i k v n e e1 f;rw[f]at hx;obtain⟨hv,s,u⟩:=hx;simp[ok]at h;subst h;obtain⟨d,l⟩:=g;refine⟨.int k (k.wrap n),?_,?_⟩
  ·intro w';simp[execOp,m,hv,convert,run_underlying l,run_underlying (j.int e k e1),Conv.intToInt]
  ·have:=DV k n;exact⟨by rw[vW],by rw[vW];exact this.1,by rw[vW];exact this.2⟩
 ·simp[aG]at h
theorem Ie{t:TypeId}{x:Operand}{ti:TI}{sl:Nat->Option Value}(f:lW P t ti)(e:dI w G st sl)(hx:dO w G st (eR st.sl x) (act.eval x)){r:A}(h:VJ st ti (eR st.sl x)=some r):
  Gv P w G st act (.load t x) r:=by
 intro ot g;obtain⟨u,c,d⟩:=Ic f e hx h;exact⟨u,λw' j=>by simp[execOp,g,c w' j],d⟩
theorem Xd{t e:TypeId}(s:P.underlying t=some (.pointer e)/\∃i,P.info? t=some i/\i.size=1/\i.zero=some (.pointer none)){sl:Nat->Option Value}(r:dI w G st sl){x a:A}{v:Value}(hx:dO w G st x v)(h:Wj st x=some a):
  ∃u,(∀w',HQ w w'->(Instr.loadAt t v).run P w'=.ok u w')/\dO w G st a u:=by
 cases x with
 |pb b u off=>
  simp only[Wj]at h;obtain⟨l,f,d⟩:=bind_some h;obtain⟨g,c,j,m⟩:=fX f;obtain⟨V,hv⟩:=hx;have hv:=hv g c j;subst hv;obtain⟨_,W,F⟩:=r.boxes b g c;obtain⟨cs,U,K,Y,L⟩:=F.cells (vV f c);subst m;simp only[oR]at d;have H:=(List.getElem?_eq_some_iff.1 d).1;obtain⟨u,Q,T⟩:=L off H;refine⟨u,λw' J=>?_,by simpa[List.getD,d]using T⟩;have C:w'.cell? ⟨(G.B b).1,(G.B b).2 +off,none⟩=some u:=J.cell (by simp[World.cell?,K,Q]);have y:(isAgg t).run P w'=.ok false w':=by unfold Go.isAgg;rw[Sem.run_bind,run_underlying s.1 w'];rfl
  have hv:(loadVar t ⟨(G.B b).1,(G.B b).2 +off,none⟩).run P w'=.ok u w':=by simp only[loadVar,Sem.run_bind,y,Result.andThen_ok];rw[if_neg (by simp),run_load];simp[C]
  simp[Instr.loadAt,Sem.run_bind,hv,Instr.sureAddr]
 |_=>simp[Wj,aG]at h
theorem Xe{t e:TypeId}(g:P.underlying t=some (.pointer e)/\∃i,P.info? t=some i/\i.size=1/\i.zero=some (.pointer none)){x:Operand}{sl:Nat->Option Value}(f:dI w G st sl)(hx:dO w G st (eR st.sl x) (act.eval x)){r:A}(h:Wj st (eR st.sl x)=some r):
  Gv P w G st act (.load t x) r:=by
 intro ot j;obtain⟨u,c,d⟩:=Xd g f hx h;exact⟨u,λw' l=>by simp[execOp,j,c w' l],d⟩
theorem kE(b o n:Nat):(⟨b,o,none⟩:Addr).add n=⟨b,o+n,none⟩:=by unfold Addr.add;split<;>simp_all
theorem lH{x a:A}{v:Value}{n:Nat}(j:jM st x=true)(hx:dO w G st x v)(h:tV n x=some a):
  ∃b o,v=.pointer (some ⟨b,o,none⟩)/\dO w G st a (.pointer (some ⟨b,o+n,none⟩)):=by
 cases x with
 |pb b u off=>
  simp[tV,ok]at h;subst h;obtain⟨f,d⟩:=hx;simp only[jM]at j;cases g:pR st b u with
  |none=>simp[g]at j
  |some l=>obtain⟨Y,C,F,a0⟩:=fX g;refine⟨_,_,d Y C F,f,λx hx a1=>?_⟩;rw[Nat.add_assoc]
 |pz dep el x off=>simp[tV,ok]at h;subst h;obtain⟨f,d⟩:=hx;obtain⟨b,o,m,s⟩:=d j;exact⟨b,o+off,m,f,λ_=>⟨b,o,by rw[Nat.add_assoc],s⟩⟩
 |pa r u p k i off=>
  simp[tV,ok]at h;subst h;obtain⟨f,d⟩:=hx;simp only[jM]at j;cases g:jL st r u p with
  |none=>simp[g]at j
  |some a=>obtain⟨t,m,s,a2,b,o,n',c,a3,a4,y⟩:=d a (eM g);refine⟨b,o+i*k+off,y,f,λa' H=>?_⟩;obtain⟨W,J,K,L,b',o',V,c',P,Q,e⟩:=d a' H;refine⟨W,J,K,L,b',o',V,c',P,Q,?_⟩;rw[y]at e;injection e with e;injection e with e;injection e with T U;rw[T,U,Nat.add_assoc (o'+i*k) off n]
 |_=>simp[tV,aG]at h
theorem Fv{t:TypeId}{x:Operand}{f:Nat}{ti:TI}(g:lW P t ti)(hx:dO w G st (eR st.sl x) (act.eval x))(L:jM st (eR st.sl x)=true){r:A}
  (h:MH (eR st.sl x) f ti=some r):DX P w G st act (.fieldAddr t x f) r:=by
 intro ot H;unfold MH at h;cases c:(ti.agg&&!ti.arr)with
 |false=>simp[c,aG]at h
 |true=>
 simp only[c,cond_true]at h;simp only[Bool.and_eq_true,Bool.not_eq_true']at c;have J:=g.struct c.1 c.2;cases hf:ti.fs[f]?with
 |none=>simp[hf,aG]at h
 |some q=>
  simp only[hf]at h;obtain⟨d,i,z,e,Q,T,U,V,W,Y,F⟩:=g.ex;obtain⟨fs,l⟩:=J;rw[l]at e;injection e with e;subst e;obtain⟨fd,s,u,v,j,y,C⟩:=F f q.1 q.2 hf;obtain⟨b,o,e1,m⟩:=lH L hx h;refine⟨_,?_,m⟩;intro w';have K:(Go.sizeOf fd.type).run P w'=.ok j.size w':=by rw[v];simp[Go.sizeOf,typeInfo,y]
  simp[execOp,H,Instr.fieldAt,run_underlying l,s,e1,Instr.sureAddr,fieldPlace,K,C,kE,u]
theorem If{x:Operand}(hx:dO w G st (eR st.sl x) (act.eval x))(c:jM st (eR st.sl x)=true){r:A}(h:yS (eR st.sl x)=some r):DX P w G st act (.nilCheck x) r:=by
 intro ot g;have f:r=eR st.sl x/\∃b o,act.eval x=.pointer (some ⟨b,o,none⟩):=by
  cases d:eR st.sl x with
  |pb b u off=>rw[d]at hx c h;simp[yS,ok]at h;obtain⟨b',o',e1,_⟩:=lH (n:=0) c hx rfl;exact⟨h.symm,b',o',e1⟩
  |pa r u p k i off=>rw[d]at hx c h;simp[yS,ok]at h;obtain⟨b',o',e1,_⟩:=lH (n:=0) c hx rfl;exact⟨h.symm,b',o',e1⟩
  |pz dep el j off=>rw[d]at hx c h;simp[yS,ok]at h;obtain⟨b',o',e1,_⟩:=lH (n:=0) c hx rfl;exact⟨h.symm,b',o',e1⟩
  |_=>simp[d,yS,aG]at h
 obtain⟨f,b,o,e⟩:=f;subst f;exact⟨act.eval x,λw'=>by simp[execOp,g,e],hx⟩
theorem Nq{x:Operand}{i:Nat}(hx:dO w G st (eR st.sl x) (act.eval x)){r:A}(h:PP i (eR st.sl x)=some r):DX P w G st act (.extract x i) r:=by
 intro ot m;cases c:eR st.sl x with
 |tup l=>
  rw[c]at hx h;simp only[PP,oR]at h;obtain⟨vs,e,f⟩:=hx;obtain⟨g,j⟩:=dG.1 f;have d:i<vs.length:=by rw[g];exact(List.getElem?_eq_some_iff.1 h).1
  refine⟨vs[i],?_,j i r vs[i] h (by simp[d])⟩;intro w';simp[execOp,m,e,Instr.extract,d]
 |_=>simp[c,PP,aG]at h
theorem PT:∀(l:List Operand),(∀x∈l,dO w G st (eR st.sl x) (act.eval x))->eZ w G st (F5 st.sl l) (l.map act.eval)
 |[],_=>rfl
 |x::l,h=>⟨_,_,rfl,h x (by simp),PT l (λd c=>h d (by simp[c]))⟩
theorem Ig{f:Fn}{first captured:Array Operand}(e:∀x∈captured,dO w G st (eR st.sl x) (act.eval x)){r:A}(h:SR st first captured f=some r):DX P w G st act (.makeFunc f first captured) r:=by
 intro ot d;unfold SR at h;split at h
 ·rename_i g;split at h
  ·rename_i hf;simp[ok]at h;subst h;have c:first=#[]:=by cases first;simpa using hf
   subst c;refine⟨.func (.func g) #[] ⟨captured.toList.map act.eval⟩,?_,captured.toList.map act.eval,rfl,?_⟩
   ·intro w';simp only[execOp,d,Instr.makeFunc];simp;have:captured.map act.eval=⟨captured.toList.map act.eval⟩:=by
     apply Array.ext';simp
    rw[this]
   ·exact PT _ (λx hx=>e x (by simpa using hx))
  ·simp[aG]at h
 ·simp[aG]at h
end
section
variable{P:Program}{w w0:World}{G:Gh}{st:St}{act:Act}
theorem H5(op:BinOp)(t g:TypeId)(x c:Operand){r:A}{u:Value}(hg:∀w,(eqGuard op t x c (act.eval x) (act.eval c)).run P w=.ok () w)
  (d:∀w,(binOp op t (act.eval x) (act.eval c)).run P w=.ok u w)(f:dO w0 G st r u):DX P w0 G st act (.binOp op t x c g) r:=by
 intro ot e;exact⟨u,λw'=>by simp[execOp,e,hg,d],f⟩
theorem s9(op:BinOp)(t:TypeId)(x d:Operand)(k c:IntKind)(a b:Int):(eqGuard op t x d (.int k a) (.int c b)).run P w=.ok () w:=by cases op<;>simp[eqGuard]
theorem t7(op:BinOp)(t:TypeId)(x c:Operand)(a b:ByteArray):(eqGuard op t x c (.string a) (.string b)).run P w=.ok () w:=by cases op<;>simp[eqGuard]
theorem H6(op:BinOp)(t:TypeId)(x c:Operand)(a b:Bool):(eqGuard op t x c (.bool a) (.bool b)).run P w=.ok () w:=by cases op<;>simp[eqGuard]
theorem t8(op:BinOp)(t:TypeId)(x c:Operand)(a b:Option Addr):(eqGuard op t x c (.pointer a) (.pointer b)).run P w=.ok () w:=by cases op<;>simp[eqGuard]
theorem PU(k:IntKind)(n:Int):dO w0 G st (.int k (bD k n)) (.int k (k.wrap n)):=by have:=DV k n;exact⟨by rw[vW],by rw[vW];exact this.1,by rw[vW];exact this.2⟩
theorem MR(k:IntKind)(n:Int):dO w0 G st (.int k (k.wrap n)) (.int k (k.wrap n)):=by have:=DV k n;exact⟨rfl,this.1,this.2⟩
theorem CN(k:IntKind)(a b:Int)(c:VH k<=b/\b<=VI k):bJ k a b=bD k (a+b):=by
 unfold bJ;split
 ·have d:(Int.ofNat 0+b)=b:=by simp
  rw[d,bD];have e:=(fN (VH k) b).2 c.1;have f:=(fN b (VI k)).2 c.2;rw[e,f];rfl
 ·rfl
 ·rfl
theorem Xf(op:BinOp)(t:TypeId)(k:IntKind)(a b:Int)(j:VH k<=a/\a<=VI k)(c:VH k<=b/\b<=VI k){r:A}(h:Om true op k a b=some r):
  ∃u,(∀w,(binOp op t (.int k a) (.int k b)).run P w=.ok u w)/\dO w0 G st r u:=by
 cases op<;>simp only[Om,ok]at h;case add=>injection h with h;subst h;exact⟨.int k (k.wrap (a+b)),λw=>by simp[binOp,Op.intArith],by rw[CN k a b c];exact PU k _⟩
 case sub=>injection h with h;subst h;exact⟨.int k (k.wrap (a-b)),λw=>by simp[binOp,Op.intArith],PU k _⟩
 case mul=>injection h with h;subst h;exact⟨.int k (k.wrap (a*b)),λw=>by simp[binOp,Op.intArith],PU k _⟩
 case quo=>
  obtain⟨d,e⟩:=jR h;subst e;have c:b≠0:=by intro c;subst c;exact absurd d (by decide)
  exact⟨.int k (k.wrap (a.tdiv b)),λw=>by simp[binOp,Op.intDiv,c],PU k _⟩
 case rem=>
  obtain⟨d,e⟩:=jR h;subst e;have c:b≠0:=by intro c;subst c;exact absurd d (by decide)
  refine⟨.int k (a.tmod b),λw=>by simp[binOp,Op.intDiv,c],rfl,?_⟩;have:=H3 a b;have f:=tZ k;have g:=uA k;omega
 case and=>injection h with h;subst h;exact⟨.int k (HM .and k a b),λw=>by simp[binOp,Op.intBits,HM],MR k _⟩
 case or=>injection h with h;subst h;exact⟨.int k (HM .or k a b),λw=>by simp[binOp,Op.intBits,HM],MR k _⟩
 case xor=>injection h with h;subst h;exact⟨.int k (HM .xor k a b),λw=>by simp[binOp,Op.intBits,HM],MR k _⟩
 case andNot=>injection h with h;subst h;exact⟨.int k (HM .andNot k a b),λw=>by simp[binOp,Op.intBits,HM],MR k _⟩
 case eql=>injection h with h;subst h;exact⟨.bool (a==b),λw=>by simp[binOp,Op.intCmp],by rw[ZX];rfl⟩
 case neq=>injection h with h;subst h;exact⟨.bool (a !=b),λw=>by simp[binOp,Op.intCmp],by rw[ZX];rfl⟩
 case lss=>injection h with h;subst h;exact⟨.bool (decide (a<b)),λw=>by simp[binOp,Op.intCmp],by rw[ZW];rfl⟩
 case leq=>injection h with h;subst h;exact⟨.bool (decide (a<=b)),λw=>by simp[binOp,Op.intCmp],by rw[Sf];rfl⟩
 case gtr=>injection h with h;subst h;exact⟨.bool (decide (a>b)),λw=>by simp[binOp,Op.intCmp],by rw[ZW];rfl⟩
 case geq=>injection h with h;subst h;exact⟨.bool (decide (a>=b)),λw=>by simp[binOp,Op.intCmp],by rw[Sf];rfl⟩
 all_goals simp[aG]at h
theorem aBF(n:Nat):0<2^n:=Nat.pow_pos (by decide)
theorem H7(op:BinOp)(t:TypeId)(k c:IntKind)(a b:Int)(s:VH k<=a/\a<=VI k)(v:VH c<=b/\b<=VI c){r:A}(h:Rp true op k c a b=some r):
  ∃u,(∀w,(binOp op t (.int k a) (.int c b)).run P w=.ok u w)/\dO w0 G st r u:=by
 by_cases l:op=.shl
 ·subst l;obtain⟨d,f⟩:=jR h;subst f;have g:¬b<0:=by have:=(fN 0 b).1 d;omega
  exact⟨.int k (k.wrap (a*2^(min b.toNat k.bits))),λw=>by simp[binOp,Op.shift,g],MR k _⟩
 by_cases m:op=.shr
 ·subst m;obtain⟨d,f⟩:=jR h;subst f;have g:¬b<0:=by have:=(fN 0 b).1 d;omega
  refine⟨.int k (a.fdiv (2^(min b.toNat k.bits))),λw=>by simp[binOp,Op.shift,g],rfl,?_⟩;have:=H2 a (2^(min b.toNat k.bits)) (aBF _);have y:=tZ k;have C:=uA k;have e:(((2:Nat)^(min b.toNat k.bits):Nat):Int)=(2:Int)^(min b.toNat k.bits):=by simp
  rw[e]at this;omega
 have:Rp true op k c a b=bif nK k c then Om true op k a b else aG "bin: kinds":=by cases op<;>first|rfl |(exact absurd rfl l) |(exact absurd rfl m)
 rw[this]at h;cases j:nK k c with
 |false=>simp[j,aG]at h
 |true=>have:=(fF k c).1 j;subst this;simp only[j,cond_true]at h;exact Xf op t k a b s v h
theorem H8{fs:List Field}{vs us:List Value}:∀{xs ys:List A}{q:Bool}(i:Nat),eZ w0 G st xs (vs.drop i)->eZ w0 G st ys (us.drop i)->Rh xs ys=some q->fs.length=xs.length->
  (∀(j:Nat)(fd:Field),fs[j]?=some fd->fd.name≠ "_"/\fd.offset=i+j/\∃k,P.underlying fd.type=some (.int k))->
  (Op.eqFields 9999 ⟨vs⟩ ⟨us⟩ fs).run P w=.ok q w:=by
 induction fs with
 |nil=>
  intro xs ys q i hx s h c hf;cases xs with
  |nil=>
   cases ys with
   |nil=>simp[Rh,ok]at h;subst h;simp[Op.eqFields]
   |cons _ _=>simp[Rh,aG]at h
  |cons _ _=>simp at c
 |cons fd fs a0=>
  intro xs ys q i hx s h c hf;cases xs with
  |nil=>simp at c
  |cons x xs=>
   cases ys with
   |nil=>cases x<;>simp[Rh,aG]at h
   |cons a3 ys=>
    obtain⟨v,a2,e1,hv,V⟩:=hx;obtain⟨u,a1,f,e,W⟩:=s;cases x<;>cases a3<;>(try simp[Rh,aG]at h);rename_i k a t b;cases d:nK k t with
    |false=>simp[Rh,d,aG]at h
    |true=>
     have:=(fF k t).1 d;subst this;simp only[Rh,d,cond_true]at h;obtain⟨a5,H,m⟩:=bind_some h;simp[ok]at m;obtain⟨y,C,kk,g⟩:=hf 0 fd rfl;have T:vs[i]?=some v:=by have:(vs.drop i)[0]?=some v:=(by rw[e1];rfl);simpa[List.getElem?_drop]using this
     have L:us[i]?=some u:=by have:(us.drop i)[0]?=some u:=(by rw[f];rfl);simpa[List.getElem?_drop]using this
     have U:vs.drop (i+1)=a2:=by rw[<-List.tail_drop,e1];rfl
     have Q:us.drop (i+1)=a1:=by rw[<-List.tail_drop,f];rfl
     obtain⟨hv,_,_⟩:=hv;obtain⟨e,_,_⟩:=e;subst hv;subst e;have r:∀(l:List Value)(z:Value),l[i]?=some z->(part fd.type ⟨l⟩ fd.offset).run P w=.ok z w:=λl z Y=>by simp[part,isAgg,run_underlying g,C,Y]
     have K:=a0 (i+1) (U▸V) (Q▸W) H (by simpa using c) (λj F J=>by have:=hf (j+1) F (by simpa using J);rwa [show i+1+j=i+(j+1)by omega]);simp only[Op.eqFields,y,ne_eq,not_false_iff,if_true,Sem.run_bind,r vs _ T,r us _ L,Result.andThen_ok];have:=run_equalIn_int (P:=P) w 9998 fd.type k kk a b g;simp only[Nat.reduceAdd]at this;rw[this];simp only[Result.andThen_ok];rw[<-m,ZX];cases a4:(a==b)with
     |true=>simpa using K
     |false=>simp
theorem aFC(t:TypeId)(a b:List UInt8):(binOp .eql t (.string ⟨a.toArray⟩) (.string ⟨b.toArray⟩)).run P w=.ok (.bool (DM a b)) w/\(binOp .neq t (.string ⟨a.toArray⟩) (.string ⟨b.toArray⟩)).run P w=.ok (.bool (!DM a b)) w:=by
 have e:(a==b)=DM a b:=by rw[Bool.eq_iff_iff,yW];simp
 constructor<;>simp[binOp,Op.stringOp,e]
theorem ZY(d:Nat)(t e:TypeId)(a:Addr)(ht:P.underlying t=some (.pointer e)):(Op.equalIn (d+1) t (.pointer none) (.pointer (some a))).run P w=.ok false w:=by simp[Op.equalIn,run_underlying ht]
theorem u4(t e:TypeId)(ht:P.underlying t=some (.pointer e)){x r:A}{v u:Value}(l:jM st x=true)(m:jM st r=true)(hx:dO w0 G st x v)(d:dO w0 G st r u){q:Bool}(h:eqP x r=some q):
  ∃a b,v=.pointer a/\u=.pointer b/\(Op.equal t v u).run P w=.ok q w:=by
 have f:∀(x:A)(v:Value),jM st x=true->dO w0 G st x v->tV 0 x≠none->∃a,v=.pointer (some a):=λx v hv hx C=>by
  cases c:tV 0 x with
  |none=>exact absurd c C
  |some a=>obtain⟨b,o,e1,_⟩:=lH hv hx c;exact⟨_,e1⟩
 have s:P.underlying t=some (.pointer (P.pointee t)):=by simp[Program.pointee,ht]
 have g:∀a,(Op.equal t (.pointer none) (.pointer (some a))).run P w=.ok false w:=λa=>ZY 9999 t e a ht;have j:∀a,(Op.equal t (.pointer (some a)) (.pointer none)).run P w=.ok false w:=λa=>run_equalIn_pointer_nil (P:=P) w 9999 t (some a) s;have y:(Op.equal t (.pointer none) (.pointer none)).run P w=.ok true w:=run_equalIn_pointer_nil (P:=P) w 9999 t none s;unfold eqP at h;split at h<;>(try simp[ok]at h)<;>(try subst h)
 ·exact⟨none,none,hx,d,by rw[show v=_ from hx,show u=_ from d];exact y⟩
 ·obtain⟨a,c⟩:=f _ _ m d (by simp[tV,ok]);exact⟨none,some a,hx,c,by rw[show v=_ from hx,c];exact g a⟩
 ·obtain⟨a,c⟩:=f _ _ l hx (by simp[tV,ok]);exact⟨some a,none,c,d,by rw[show u=_ from d,c];exact j a⟩
 ·obtain⟨a,c⟩:=f _ _ m d (by simp[tV,ok]);exact⟨none,some a,hx,c,by rw[show v=_ from hx,c];exact g a⟩
 ·obtain⟨a,c⟩:=f _ _ l hx (by simp[tV,ok]);exact⟨some a,none,c,d,by rw[show u=_ from d,c];exact j a⟩
 ·obtain⟨a,c⟩:=f _ _ m d (by simp[tV,ok]);exact⟨none,some a,hx,c,by rw[show v=_ from hx,c];exact g a⟩
 ·obtain⟨a,c⟩:=f _ _ l hx (by simp[tV,ok]);exact⟨some a,none,c,d,by rw[show u=_ from d,c];exact j a⟩
 ·simp[aG]at h
theorem Nr(t:TypeId)(a b:Option Addr){q:Bool}(h:(Op.equal t (.pointer a) (.pointer b)).run P w=.ok q w):
  (binOp .eql t (.pointer a) (.pointer b)).run P w=.ok (.bool q) w/\(binOp .neq t (.pointer a) (.pointer b)).run P w=.ok (.bool (!q)) w:=by
 constructor<;>simp[binOp,h]
theorem vX(w:World)(t e:TypeId)(a:Addr)(n c:Nat)(h:P.underlying t=some (.slice e)):(Op.equal t (.slice (some a) n c) (.slice none 0 0)).run P w=.ok false w:=by exact Lib.run_equalIn_slice_nil w 9999 t e (some a) n c 0 0 h
theorem Oz{E:fM}(y:gY P E)(t:TypeId){x f:A}{v u:Value}(V:jM st x=true)(b0:jM st f=true)(hx:dO w0 G st x v)(C:dO w0 G st f u){q:Bool}(h:eqT E t x f=some q):
  (∀op a b,(eqGuard op t a b v u).run P w=.ok () w)/\(binOp .eql t v u).run P w=.ok (.bool q) w/\(binOp .neq t v u).run P w=.ok (.bool (!q)) w:=by
 unfold eqT at h;split at h
 ·rename_i a b;simp[ok]at h;obtain⟨s,_⟩:=hx;obtain⟨l,_⟩:=C;subst s;subst l;subst h;exact⟨λop x f=>t7 op t x f _ _,aFC t a b⟩
 ·rename_i xs ys;cases Q:has E.eqt t with
  |false=>simp[Q,aG]at h
  |true=>
   simp only[Q,cond_true]at h;obtain⟨ti,g,d⟩:=bind_some h;cases H:Nat.beq xs.length ti.lv.length with
   |false=>simp[H,aG]at d
   |true=>
    simp only[H,cond_true]at d;have H:=Nat.eq_of_beq_eq_true H;obtain⟨fs,i,e1,L,b3,W,Y,a0⟩:=(y.eqs t Q).ex;obtain⟨_,j,_,_,K,b4,_⟩:=(y.types t ti g).ex;rw[L]at K;injection K with K;subst K;obtain⟨vs,hv,a9⟩:=hx;obtain⟨us,a6,a7⟩:=C;subst hv;subst a6;have U:P.fieldsOf t=fs:=by simp[Program.fieldsOf,e1]
    have J:=run_equalIn_struct (P:=P) w 9999 t ⟨vs⟩ ⟨us⟩ (by rw[U];exact e1) W;have a5:=H8 (P:=P) (w:=w) (w0:=w0) (G:=G) (st:=st) (fs:=fs.toList) (vs:=vs) (us:=us) 0 (by simpa using a9) (by simpa using a7) d (by simp;omega)
     (λj fd a4=>by have:=a0 j fd (by simpa using a4);simpa using this)
    rw[U,a5]at J;simp only[Nat.reduceAdd]at J;refine⟨λop x f=>run_eqGuard_agg w op t x f _ _ Y,?_,?_⟩
    ·rw[run_eql_struct,J];rfl
    ·rw[run_neq_struct,J];rfl
 ·rename_i a b;obtain⟨ti,g,d⟩:=bind_some h;split at d
  ·rename_i e1 L;simp[ok]at d;have a2:=(y.types t ti g).bool e1 L;have s:v=.bool a:=hx;have l:u=.bool b:=C;subst s;subst l;subst d;have:=run_equal_bool (P:=P) w t a b a2;refine⟨λop x f=>H6 op t x f _ _,?_,?_⟩
   ·simp[binOp,this,WE]
   ·simp[binOp,this,WE]
  ·simp[aG]at d
 ·rename_i dep e el x xs;obtain⟨ti,g,d⟩:=bind_some h;cases m:ti.sl with
  |false=>simp[m,aG]at d
  |true=>
   simp[m,ok]at d;subst d;obtain⟨i,F,_,_⟩:=(y.types t ti g).sl m;obtain⟨a,n,c,T,b1,b5,_,b2,_⟩:=hx.2 V;have l:u=.slice none 0 0:=C;subst T;subst l;cases a with
   |none=>have:=b2 rfl;simp only[D.els,List.length_cons]at b1;omega
   |some ad=>
    have r:=vX (P:=P) w t ti.e ad n c F;refine⟨λop x f=>by cases op<;>simp[eqGuard],?_,?_⟩
    ·simp[binOp,r]
    ·simp[binOp,r]
 ·obtain⟨ti,g,d⟩:=bind_some h;cases m:ti.sl with
  |false=>simp[m,aG]at d
  |true=>simp[m,ok]at d;subst d;obtain⟨i,F,_,_⟩:=(y.types t ti g).sl m;obtain⟨ad,c,T⟩:=hx;have l:u=.slice none 0 0:=C;subst T;subst l;have r:=vX (P:=P) w t ti.e ad 0 c F;exact⟨λop x f=>by cases op<;>simp[eqGuard],by simp[binOp,r],by simp[binOp,r]⟩
 ·obtain⟨ti,g,d⟩:=bind_some h;cases m:ti.sl with
  |false=>simp[m,aG]at d
  |true=>simp[m,ok]at d;subst d;obtain⟨i,F,_,_⟩:=(y.types t ti g).sl m;have s:v=.slice none 0 0:=hx;have l:u=.slice none 0 0:=C;subst s;subst l;have r:(Op.equal t (.slice none 0 0) (.slice none 0 0)).run P w=.ok true w:=Lib.run_equalIn_slice_nil w 9999 t ti.e none 0 0 0 0 F;exact⟨λop x f=>by cases op<;>simp[eqGuard],by simp[binOp,r],by simp[binOp,r]⟩
 ·obtain⟨e,g,d⟩:=bind_some h;have a3:=(y.ptrs t e g).1;obtain⟨a,b,s,l,a1⟩:=u4 t e a3 V b0 hx C d;subst s;subst l;exact⟨λop x f=>t8 op t x f _ _,Nr t a b a1⟩
theorem u5{E:fM}(j:gY P E)(op:BinOp)(t g:TypeId)(x c:Operand)(l:jM st (eR st.sl x)=true)(m:jM st (eR st.sl c)=true)(hx:dO w0 G st (eR st.sl x) (act.eval x))(e:dO w0 G st (eR st.sl c) (act.eval c))
  {r:A}(h:F7 E true t op (eR st.sl x) (eR st.sl c)=some r):DX P w0 G st act (.binOp op t x c g) r:=by
 unfold F7 at h;split at h
 ·rename_i k a C b e1 s;rw[e1]at hx;rw[s]at e;obtain⟨hx,v⟩:=hx;obtain⟨e,y⟩:=e;obtain⟨u,f,d⟩:=H7 (P:=P) (w0:=w0) (G:=G) (st:=st) op t k C a b v y h;exact H5 op t g x c (u:=u) (λw=>by rw[hx,e];exact s9 ..) (λw=>by rw[hx,e];exact f w) d
 ·unfold aGE at h;split at h
  ·obtain⟨p,f,d⟩:=bind_some h;simp[ok]at d;subst d;have k:=λw=>Oz (w:=w) j t l m hx e f;exact H5 .eql t g x c (λw=>(k w).1 _ _ _) (λw=>(k w).2.1) rfl
  ·obtain⟨p,f,d⟩:=bind_some h;simp[ok]at d;subst d;have k:=λw=>Oz (w:=w) j t l m hx e f;exact H5 .neq t g x c (λw=>(k w).1 _ _ _) (λw=>(k w).2.2) rfl
  ·simp[aG]at h
end
section
variable{P:Program}{w:World}{G:Gh}{st:St}{act:Act}
theorem GY{l:List A}{vs:List Value}(h:eZ w G st l vs)(n off:Nat):eZ w G st (kL n (oS off l)) ((vs.drop off).take n):=by
 obtain⟨d,e⟩:=dG.1 h;refine dG.2 ⟨by rw[mW,sR];simp[d],λj a v c hv=>?_⟩;rw[kN]at c;split at c
 ·rename_i f;rw[List.getElem?_take]at hv;simp only[f,if_true,List.getElem?_drop]at hv;exact e _ a v c hv
 ·simp at c
theorem H9{t:TypeId}{ti:TI}(g:lW P t ti){l:List A}{vs:List Value}(h:eZ w G st l vs){off:Nat}{r:A}(F:FX ti.agg ti.lv.length (kL ti.lv.length (oS off l))=some r):
  ∃u,(∀w',(part t ⟨vs⟩ off).run P w'=.ok u w')/\dO w G st r u:=by
 obtain⟨m,c⟩:=JI F;have d:=GY h ti.lv.length off;have H:=(dG.1 d).1;cases f:ti.agg with
 |true=>
  simp only[f,if_true]at c;subst c;refine⟨.agg ⟨(vs.drop off).take ti.lv.length⟩,?_,_,rfl,d⟩;have:(⟨vs⟩:Array Value).extract off (off+ti.lv.length)=⟨(vs.drop off).take ti.lv.length⟩:=by apply Array.ext';simp[Array.toList_extract,List.extract_eq_take_drop]
  intro w';simp[part,g.isAgg,g.sizeOf,f,this]
 |false=>
  simp only[f,Bool.false_eq_true,if_false]at c;rw[c]at d;obtain⟨v,J,e,hv,j⟩:=d;subst j;have C:ti.lv.length=1:=by rw[<-m,c];rfl
  have s:vs[off]?=some v:=by
   have:((vs.drop off).take ti.lv.length)[0]?=some v:=by rw[e];rfl
   rw[C]at this;simpa[List.getElem?_take,List.getElem?_drop]using this
  have y:(⟨vs⟩:Array Value)[off]?=some v:=by simpa using s
  exact⟨v,λw'=>by simp[part,g.isAgg,f,y],hv⟩
theorem Xg{E:fM}(J:gY P E){t:TypeId}{ti:TI}(s:lW P t ti){x:Operand}{f:Nat}(hx:dO w G st (eR st.sl x) (act.eval x)){r:A}
  (h:Rr E f ti (eR st.sl x)=some r):DX P w G st act (.field t x f) r:=by
 intro ot K;unfold Rr at h;split at h
 ·rename_i l e;rw[e]at hx;obtain⟨vs,hv,L⟩:=hx;cases c:(ti.arr||!ti.agg)with
  |true=>simp[c,aG]at h
  |false=>simp only[c,cond_false]at h;simp only[Bool.or_eq_false_iff,Bool.not_eq_false']at c;obtain⟨q,j,C⟩:=bind_some h;obtain⟨Y,F,H⟩:=bind_some C;have m:=J.types _ _ F;obtain⟨fs,v⟩:=s.struct c.2 c.1;obtain⟨d,i,z,g,a0,a1,a2,a3,a4,a5,y⟩:=s.ex;rw[v]at g;injection g with g;subst g;simp only[oR]at j;obtain⟨fd,Q,T,U,_⟩:=y f q.1 q.2 j;rw[<-U]at m;obtain⟨u,V,W⟩:=H9 (w:=w) m L H;refine⟨u,?_,W⟩;intro w';simp[execOp,K,Instr.field,run_underlying v,Q,hv,asAgg,T,V]
 ·simp[aG]at h
theorem MS{t:TypeId}{ti:TI}(d:lW P t ti)(h:Hm ti=true):P.underlying t=some .string:=by
 unfold Hm at h;split at h
 ·rename_i e1 c;exact d.str e1 c
 ·simp at h
theorem aBG(n:Nat)(h:n<=maxLen):(n:Int)<=9223372036854775807:=by unfold maxLen at h;omega
theorem Xh{t:TypeId}{ti:TI}(m:lW P t ti){x i:Operand}(hx:dO w G st (eR st.sl x) (act.eval x))(c:dO w G st (eR st.sl i) (act.eval i)){r:A}
  (h:VK true (eR st.sl x) (eR st.sl i) ti=some r):DX P w G st act (.index t x i) r:=by
 intro ot y;unfold VK at h;split at h
 ·rename_i s k n e1 f;rw[e1]at hx;rw[f]at c;obtain⟨hx,H⟩:=hx;obtain⟨c,_⟩:=c;cases d:Hm ti with
  |false=>simp[d,aG]at h
  |true=>
   simp only[d,cond_true]at h;obtain⟨j,l⟩:=jR h;obtain⟨g,C⟩:=(DW n s.length).1 j;have e:n.toNat<s.length:=by omega
   subst l;have F:=(s.getD n.toNat 0).toNat_lt;refine⟨.int .u8 ((s.getD n.toNat 0).toNat:Int),?_,rfl,by show(0:Int)<=_;omega,by show _<=(255:Int);omega⟩
   ·have u:(⟨s.toArray⟩:ByteArray)[n.toNat]?=some (s.getD n.toNat 0):=by
     have v:n.toNat<(⟨s.toArray⟩:ByteArray).size:=by simpa[ByteArray.size]using e
     rw[getElem?_pos (⟨s.toArray⟩:ByteArray) n.toNat v];simp[ByteArray.getElem_eq_getElem_data,List.getD,e]
    intro w';simp[execOp,y,Instr.index,c,hx,asIntOf,run_underlying (MS m d),g,u]
 ·simp[aG]at h
theorem Xi{sl:Nat->Option Value}(H:dI w G st sl){x:A}{v:Value}(hx:dO w G st x v)(hv:jM st x=true){n:Nat}(h:lenOf st x=some n):
  n<=maxLen/\((∃s,x=.str s/\v=.string ⟨s.toArray⟩/\s.length=n)\/((∀s,x≠.str s)/\∃a c,v=.slice a n c)):=by
 cases x with
 |str s=>simp[lenOf,ok]at h;exact⟨by rw[<-h];exact hx.2,.inl ⟨s,rfl,hx.1,h⟩⟩
 |nils=>simp[lenOf,ok]at h;exact⟨by rw[<-h];exact Nat.zero_le _,.inr ⟨by simp,none,0,by rw[<-h];exact hx⟩⟩
 |fz dep e el xs=>
  simp[lenOf,ok]at h;obtain⟨a,n',c,C,F,a3,a4,_⟩:=hx.2 hv;have a2:xs.length=n':=F;have J:n'=n:=by omega
  subst J;exact⟨by omega,.inr ⟨by simp,a,c,C⟩⟩
 |sb b u k m=>
  simp[lenOf,ok]at h;subst h;simp only[jM]at hv;cases K:pR st b u with
  |none=>simp[K]at hv
  |some l=>obtain⟨a1,g,y,j⟩:=fX K;have:=hx.2 a1 g y;exact⟨this.2,.inr ⟨by simp,_,_,this.1⟩⟩
 |px r u m=>
  simp[lenOf,ok]at h;subst h;simp only[jM]at hv;cases t:jL st r u []with
  |none=>simp[t]at hv
  |some a=>have f:=eM t;obtain⟨ad,m',c,g,y,j⟩:=hx.2 a f;obtain⟨_,_,_,a',n',c',d,L,P,Q,_⟩:=H.arrs r a f.1;rw[g]at d;injection d with d Y a0;exact⟨by omega,.inr ⟨by simp,ad,c,j⟩⟩
 |sx r u k m a5=>
  simp[lenOf,ok]at h;subst h;simp only[jM]at hv;cases t:jL st r u []with
  |none=>simp[t]at hv
  |some a=>have f:=eM t;obtain⟨_,ad,m',c,g,y,j⟩:=hx.2 a f;obtain⟨_,_,_,a',n',c',d,L,P,Q,_⟩:=H.arrs r a f.1;rw[g]at d;injection d with d Y a0;exact⟨by omega,.inr ⟨by simp,_,_,j⟩⟩
 |vw r u p=>
  simp only[lenOf]at h;obtain⟨q,C,F⟩:=bind_some h;simp[ok]at F;obtain⟨a,f,U,V⟩:=Ib C;obtain⟨g,y,j⟩:=hx.2 a f;obtain⟨_,_,_,T⟩:=H.arrs r a f.1;have:=ZV T V j (λs W=>by have:=U s W;simp;exact this);simp only[List.nil_append]at this;obtain⟨ad,n',c,d,L,P,Q,_⟩:=this;have J:n'=n:=by omega
  subst J;exact⟨by omega,.inr ⟨by simp,ad,c,by rw[g];exact d⟩⟩
 |_=>simp[lenOf,aG]at h
theorem aDQ{α:Type}{x:A}{f:A->M α}{b:α}(h:mO st x f=some b):jM st x=true/\f x=some b:=qQ h
theorem u6{E:fM}(H:gY P E){t:TypeId}{x:Operand}{sl:Nat->Option Value}(J:dI w G st sl)(hx:dO w G st (eR st.sl x) (act.eval x)){r:A}
  (h:Wi E st t [x]=some r)(ty:TypeId)(ts:Array TypeId)(ht:ts[0]?=some t):∃u,(∀w',(Builtin.len_ ts ty #[act.eval x]).run P w'=.ok u w')/\dO w G st r u:=by
 simp only[Wi]at h;obtain⟨ti,y,f⟩:=bind_some h;have j:=H.types _ _ y;cases d:aBq ti (eR st.sl x)with
 |false=>simp[d,aG]at f
 |true=>
  simp only[d,cond_true]at f;obtain⟨n,C,g⟩:=bind_some f;obtain⟨hv,F⟩:=qQ C;simp[ok]at g;subst g;obtain⟨Q,K⟩:=Xi J hx hv F;have l:dO w G st (.int .i64 (n:Int)) (goInt n):=⟨rfl,by show(-9223372036854775808:Int)<=_;omega,by show _<=(9223372036854775807:Int);exact aBG n Q⟩;rcases K with⟨s,e1,e,m⟩ |⟨e1,a,c,e⟩
  ·rw[e1]at d;have U:=MS j d;refine⟨goInt n,?_,l⟩;have V:(⟨s.toArray⟩:ByteArray).size=n:=by rw[ByteArray.size];simpa using m
   intro w';simp[Builtin.len_,ht,run_underlying U,e,V]
  ·have T:ti.sl=true:=by
    unfold aBq at d;split at d
    ·rename_i s L;exact absurd L (e1 s)
    ·exact d
   obtain⟨i,v,_⟩:=j.sl T;refine⟨goInt n,?_,l⟩;intro w';simp[Builtin.len_,ht,run_underlying v,e,goInt]
def HS(act:Act)(o:Option Operand)(l:Option Int):Prop:=(o=none/\l=none)\/∃x k n,o=some x/\l=some n/\act.eval x=.int k n
theorem WF{o:Option Operand}{l:Option Int}(d:∀x,o=some x->dO w G st (eR st.sl x) (act.eval x))(h:ME (o.map (eR st.sl))=some l):HS act o l:=by
 cases o with
 |none=>simp[ME,ok]at h;exact .inl ⟨rfl,h.symm⟩
 |some x=>
  have hx:=d x rfl;simp only[Option.map]at h;cases c:eR st.sl x with
  |int k n=>rw[c]at h hx;simp[ME,ok]at h;exact .inr ⟨x,k,n,rfl,h.symm,hx.1⟩
  |_=>simp[c,ME,aG]at h
theorem yX(d c n:Int):kT d c n=true<->0<=d/\d<=c/\c<=n:=by simp[kT,fN]
theorem kO(y:Bool){m f:Option Operand}{l h:Option Int}(v:HS act m l)(u:HS act f h)(n c:Nat)(F:n<=c)(t:kT (l.getD 0) (h.getD (n:Int)) (n:Int)=true):
  (Instr.sliceBounds y n c (m.map act.eval) (f.map act.eval) none).run P w=.ok ((l.getD 0).toNat,(h.getD (n:Int)).toNat,c) w:=by
 obtain⟨b1,b2,r⟩:=(yX _ _ _).1 t;rcases v with⟨rfl,rfl⟩ |⟨x,k,i,rfl,rfl,hx⟩<;>rcases u with⟨rfl,rfl⟩ |⟨H,G,j,rfl,rfl,g⟩<;>simp only[Option.getD_some,Option.getD_none]at b1 b2 r
 ·simp[Instr.sliceBounds]
 ·have d:0<=j:=by omega
  have e:j<=(c:Int):=by omega
  simp[Instr.sliceBounds,g,run_sliceBound,d,e]
 ·simp[Instr.sliceBounds,hx,run_sliceBound,b1,b2]
 ·have d:0<=j:=by omega
  have e:j<=(c:Int):=by omega
  have s:i<=(j.toNat:Int):=by omega
  have C:=run_sliceBound (P:=P) w k i j.toNat .sliceB b1 s;simp[Instr.sliceBounds,hx,g,run_sliceBound,d,e,C]
theorem u7{w:World}{okb:Nat->Prop}{e:TypeId}{el:List LT}{xs:LD}{a:Option Addr}{n c l h:Nat}(T:l<=h)(P:h<=n)(hf:yQ w okb (.sl false e el) (.slice a n c) (.l xs)):
  yQ w okb (.sl false e el) (.slice (if c=l then a else a.map (·.add (l*el.length))) (h-l) (c-l)) (.l ((xs.take h).drop l)):=by
 obtain⟨a',n',c',v,y,K,L,C,F⟩:=hf;injection v with e1 m r;subst e1;subst m;subst r;have J:xs.length=n:=y;refine⟨_,_,_,rfl,?_,by omega,by omega,?_,?_⟩
 ·show((xs.take h).drop l).length=h-l;simp;omega
 ·intro j;split at j
  ·omega
  ·have:a=none:=by simpa using j
   have:=C this;omega
 ·intro ad d U;split at d
  ·omega
  ·cases a with
   |none=>simp at d
   |some a0=>
    simp at d;obtain⟨g,u⟩:=F a0 rfl (by omega);obtain⟨G,f,H⟩:=a0;simp only at g;subst g;rw[kE]at d;subst d;refine⟨rfl,λi Q=>?_⟩;have:=u (l+i) (by omega);have s:f+l*el.length+i*el.length=f+(l+i)*el.length:=by rw[Nat.add_mul];omega
    have t:(D.l ((xs.take h).drop l)).els.getD i (.i 0)=(D.l xs).els.getD (l+i) (.i 0):=by show((xs.take h).drop l).getD i (.i 0)=xs.getD (l+i) (.i 0);simp only[List.getD,List.getElem?_drop,List.getElem?_take];rw[if_pos (by omega)]
    simp only[s,t];exact this
theorem Dl{t:TypeId}{ti:TI}(Q:lW P t ti)(a2:ti.sl=true){m j:Option Operand}{l h:Option Int}(Y:HS act m l)(W:HS act j h){dep:List (Nat×Nat)}{e:TypeId}{el:List LT}{xs:LD}{v:Value}
  (U:ti.ek=el.length)(T:∀d,d∈dep->d.2<st.ctr)(hf:yQ w (vU G dep) (.sl false e el) v (.l xs)){r:A}(g:Hn true dep e el xs l h=some r):
  ∃u,(∀w',(Instr.sliceAt t v (m.map act.eval) (j.map act.eval) none).run P w'=.ok u w')/\dO w G st r u:=by
 obtain⟨f,g⟩:=jR g;subst g;obtain⟨i,y,C,F⟩:=Q.sl a2;have V:=hf;obtain⟨a,n,c,H,J,L,a3,a4,a5⟩:=hf;subst H;have K:xs.length=n:=J;obtain⟨b1,b2,s⟩:=(yX _ _ _).1 f;rw[K]at f b2 s⊢;have a1:=λw=>kO (P:=P) (w:=w) true Y W n c L f;have a0:=u7 (l:=(l.getD 0).toNat) (h:=(h.getD (n:Int)).toNat) (by omega) (by omega) V;refine⟨_,?_,T,λ_=>a0⟩;intro w';simp[Instr.sliceAt,Instr.slice,run_underlying y,a1,Go.sizeOf,typeInfo,C,F,U]
theorem Xj(s:List UInt8)(l h:Nat):(⟨s.toArray⟩:ByteArray).extract l h=⟨((s.take h).drop l).toArray⟩:=by apply ByteArray.ext;rw[ByteArray.data_extract];apply Array.ext';rw[Array.toList_extract,List.extract_eq_take_drop,List.drop_take]
theorem Sg{t:TypeId}{ti:TI}(g:lW P t ti){H y:Option Operand}{l h:Option Int}(C:HS act H l)(m:HS act y h){x:A}{v:Value}(hx:dO w G st x v)(hv:jM st x=true){r:A}
  (c:MD true ti x l h=some r):∃u,(∀w',(Instr.sliceAt t v (H.map act.eval) (y.map act.eval) none).run P w'=.ok u w')/\dO w G st r u:=by
 unfold MD at c;split at c
 ·rename_i dep e el xs;cases d:(ti.sl&&Nat.beq ti.ek el.length)with
  |false=>simp[d,aG]at c
  |true=>simp only[d,cond_true]at c;simp only[Bool.and_eq_true]at d;exact Dl g d.1 C m (Nat.eq_of_beq_eq_true d.2) hx.1 (hx.2 hv) c
 ·rename_i s;cases d:Hm ti with
  |false=>simp[d,aG]at c
  |true=>
   simp only[d,cond_true]at c;obtain⟨j,c⟩:=jR c;subst c;obtain⟨hx,Y⟩:=hx;subst hx;have K:=MS g d;have V:(⟨s.toArray⟩:ByteArray).size=s.length:=by rw[ByteArray.size];simp
   have F:=λw=>kO (P:=P) (w:=w) false C m s.length s.length (Nat.le_refl _) j;refine⟨.string ⟨((s.take (h.getD (s.length:Int)).toNat).drop (l.getD 0).toNat).toArray⟩,?_,rfl,?_⟩
   ·intro w';have:=run_sliceAt_string (P:=P) w' t (.string ⟨s.toArray⟩) (H.map act.eval) (y.map act.eval) none K;rw[this];simp only[Instr.slice,Sem.run_bind,run_underlying K,Result.andThen_ok,Option.isSome_none,Bool.false_eq_true,if_false];simp only[Sem.run_pure,Result.andThen_ok,V,F,Xj]
   ·simp;omega
 ·cases d:(ti.sl&&(aD (l.getD 0) 0&&aD (h.getD 0) 0))with
  |false=>simp[d,aG]at c
  |true=>simp only[d,cond_true]at c;simp[ok]at c;subst c;simp only[Bool.and_eq_true,bT]at d;obtain⟨U,J,f⟩:=d;have hx:v=.slice none 0 0:=hx;subst hx;obtain⟨i,L,Q,T⟩:=g.sl U;have j:kT (l.getD 0) (h.getD ((0:Nat):Int)) ((0:Nat):Int)=true:=(yX _ _ _).2 ⟨by omega,by rw[J];exact Int.le_of_eq f.symm,Int.le_of_eq f⟩;have F:=λw=>kO (P:=P) (w:=w) true C m 0 0 (Nat.le_refl _) j;have W:h.getD ((0:Nat):Int)=0:=f;refine⟨.slice none 0 0,λw'=>?_,rfl⟩;simp[Instr.sliceAt,Instr.slice,run_underlying L,F,Go.sizeOf,typeInfo,Q,T,J];exact Int.le_of_eq f
 ·simp[aG]at c
end
def okR(G:Gh)(r:Nat)(b:Nat):Prop:=G.own b=.fz\/∃p,G.own b=.arr r p
mutual
theorem aFD{w:World}{G:Gh}{r:Nat}:∀(t:LT)(p:cQ)(v:Value)(x:D),Xa w G [] r t p v x->yQ w (okR G r) t v x
 |.sl true e el,p,v,x,h=>by
  rcases vT.1 h with h |⟨P,a,n,c,l,m,s,u,y,C⟩
  ·simp at h
  ·refine⟨a,n,c,l,m,s,u,y,λad F Q=>?_⟩;obtain⟨f,g,cs,J,K,L,j⟩:=C ad F;exact⟨f,λi H=>I0 el p i _ _ _ _ _ (.inr ⟨p,g⟩) (j i H)⟩
 |.sl false e el,p,v,x,h=>dA (λb d=>⟨.inl d,rfl⟩) _ v x h
 |.int k,p,v,x,h=>dA (λb d=>⟨.inl d,rfl⟩) _ v x h
 |.bool,p,v,x,h=>dA (λb d=>⟨.inl d,rfl⟩) _ v x h
 |.str,p,v,x,h=>dA (λb d=>⟨.inl d,rfl⟩) _ v x h
theorem I0{w:World}{G:Gh}{r:Nat}:∀(ts:List LT)(p:cQ)(i b o k:Nat)(x:D)(j:Nat),okR G r b->V7 w G [] r ts p i b o k x j->s7 w (okR G r) ts b o k x j
 |[],_,_,_,_,_,_,_,_,_=>trivial
 |t::ts,p,i,b,o,k,x,j,c,⟨⟨v,d,e⟩,f⟩=>⟨c,⟨v,d,aFD t _ v _ e⟩,I0 ts p i b o k x (j+1) c f⟩
end
theorem I1{w:World}{G:Gh}{r:Nat}{e:TypeId}{el:List LT}{p:cQ}{v:Value}{data:LD}(h:yV w G [] r e el p v data):yQ w (okR G r) (.sl false e el) v (.l data):=by obtain⟨a,n,c,j,l,m,s,t,u⟩:=h;refine⟨a,n,c,j,l,m,s,t,λad y K=>?_⟩;obtain⟨d,f,cs,F,H,J,g⟩:=u ad y;exact⟨d,λi C=>I0 el p i _ _ _ _ _ (.inr ⟨p,f⟩) (g i C)⟩
theorem V8{G:Gh}{r v b:Nat}(h:okR G r b):vU G [(r,v)] b:=by
 rcases h with h |⟨p,h⟩
 ·exact .inl h
 ·exact .inr ⟨(r,v),by simp,p,h⟩
section
variable{P:Program}{w:World}{G:Gh}{st:St}{sl:Nat->Option Value}{act:Act}
theorem mX(m:dI w G st sl){r u:Nat}{p:cQ}{v:Value}(hx:dO w G st (.vw r u p) v){q:Nat×TypeId×List LT×LD}(h:dQ st r u p=some q):
  ∃a,lP st r u p a/\a.stale=[]/\q.1=a.dv/\a.dv<st.ctr/\mT a.e a.el a.data p=some q.2/\ZH a.el a.data p/\v=G.H r p/\yV w G [] r q.2.1 q.2.2.1 p v q.2.2.2:=by
 obtain⟨a,c,f,g,l⟩:=JJ h;obtain⟨d,t,e⟩:=hx.2 a c;obtain⟨_,s,_,j⟩:=m.arrs r a c.1;rw[f]at j;have:=ZV j g e (by simp);simp only[List.nil_append]at this;rw[<-d]at this;exact⟨a,c,f,l,s,g,e,d,this⟩
theorem MT(f:dI w G st sl){r u:Nat}{p:cQ}{v:Value}(hx:dO w G st (.vw r u p) v){q:Nat×TypeId×List LT×LD}(h:dQ st r u p=some q):
  q.1<st.ctr/\yQ w (vU G [(r,q.1)]) (.sl false q.2.1 (fC false q.2.2.1)) v (.l q.2.2.2):=by
 obtain⟨a,j,l,c,d,m,s,t,e⟩:=mX f hx h;refine⟨by rw[c];exact d,?_⟩;have:=dA (λb g=>⟨V8 (v:=q.1) g,rfl⟩) _ _ _ (I1 e);exact(DT false (.sl false q.2.1 q.2.2.1) v _).2 this
theorem I2{t:TypeId}{ti:TI}(y:lW P t ti)(J:ti.sl=true)(s:dI w G st sl){f e:Option Operand}{l h:Option Int}(F:HS act f l)(C:HS act e h){r u:Nat}{p:cQ}{v:Value}
  (hx:dO w G st (.vw r u p) v){a:A}(H:U8 true st ti.ek r u p l h=some a):∃u,(∀w',(Instr.sliceAt t v (f.map act.eval) (e.map act.eval) none).run P w'=.ok u w')/\dO w G st a u:=by
 obtain⟨q,m,c⟩:=bind_some H;cases d:Nat.beq ti.ek q.2.2.1.length with
 |false=>simp[d,aG]at c
 |true=>simp only[d,cond_true]at c;obtain⟨g,j⟩:=MT s hx m;exact Dl y J F C (by rw[kD];exact Nat.eq_of_beq_eq_true d) (by simpa using g) j c
theorem u9{t:TypeId}{ti:TI}(a0:lW P t ti)(a6:ti.sl=true)(Y:dI w G st sl){b0 a3:Option Operand}{l h:Option Int}(a4:HS act b0 l)(a2:HS act a3 h){r u:Nat}{p:cQ}{v:Value}
  (hx:dO w G st (.vw r u p) v){a:A}(f:Ri true st ti.ek r u p l h=some a):∃u,(∀w',(Instr.sliceAt t v (b0.map act.eval) (a3.map act.eval) none).run P w'=.ok u w')/\dO w G st a u:=by
 unfold Ri at f;split at f
 ·rename_i a5;obtain⟨q,J,d⟩:=bind_some f;cases e:Nat.beq ti.ek q.2.2.1.length with
  |false=>simp[e,aG]at d
  |true=>
   simp only[e,cond_true]at d;obtain⟨K,L⟩:=jR d;subst L;obtain⟨a,V,b1,b2,b3,W,b4,H,ad,m,c,j,a7,T,c1,c2,a9⟩:=mX Y hx J;obtain⟨i,e1,C,F⟩:=a0.sl a6;simp only[Bool.and_eq_true,fN]at K;have Q:kT ((none:Option Int).getD 0) ((some a5).getD (m:Int)) (m:Int)=true:=by rw[yX];simp;omega
   have g:=λw=>kO (P:=P) (w:=w) true a4 a2 m c T Q;simp only[Option.getD_none,Option.getD_some]at g;refine⟨.slice ad a5.toNat c,?_,hx.1,λa' a1=>⟨ad,m,c,by rw[<-H];exact j,by omega,rfl⟩⟩;intro w';rw[j];simp[Instr.sliceAt,Instr.slice,run_underlying e1,g,Go.sizeOf,typeInfo,C,F];cases ad with
   |none=>simp
   |some ad=>obtain⟨U,_⟩:=a9 ad rfl;obtain⟨x,c3,z⟩:=ad;simp only at U;subst U;simp[kE]
 ·rename_i s;obtain⟨q,J,d⟩:=bind_some f;cases e:Nat.beq ti.ek q.2.2.1.length with
  |false=>simp[e,aG]at d
  |true=>
   simp only[e,cond_true]at d;obtain⟨K,L⟩:=jR d;subst L;obtain⟨a,V,b1,b2,b3,W,b4,H,ad,m,c,j,a7,T,c1,c2,a9⟩:=mX Y hx J;obtain⟨i,e1,C,F⟩:=a0.sl a6;have b7:=Nat.eq_of_beq_eq_true e;simp only[Bool.and_eq_true,fN]at K;have Q:kT ((some s).getD 0) ((none:Option Int).getD (m:Int)) (m:Int)=true:=by rw[yX];simp;omega
   have g:=λw=>kO (P:=P) (w:=w) true a4 a2 m c T Q;simp only[Option.getD_none,Option.getD_some]at g;have c0:q.2.2.1=a.el:=by have:=W;simp only[mT]at this;injection this with this;rw[<-this]
   refine⟨.slice (if c=s.toNat then ad else ad.map (·.add (s.toNat*ti.ek))) (m-s.toNat) (c-s.toNat),?_,hx.1,λa' a1=>?_⟩
   ·intro w';rw[j];simp[Instr.sliceAt,Instr.slice,run_underlying e1,g,Go.sizeOf,typeInfo,C,F]
   ·have b6:a'=a:=by
     have y:=a1.1;have b5:=V.1;rw[b5]at y;injection y with y;exact y.symm
    subst b6;refine⟨by rw[b7,c0],ad,m,c,by rw[<-H];exact j,by omega,?_⟩;rw[a7]
 ·simp[aG]at f
theorem Fw{E:fM}(b3:gY P E){t:TypeId}(b4:dI w G st sl){x i:A}{v c7:Value}(hx:dO w G st x v)(a9:dO w G st i c7)(hv:jM st x=true){r:A}(h:AG E true st t x i=some r):
  ∃u,(∀w',(Instr.indexAt t v c7).run P w'=.ok u w')/\dO w G st r u:=by
 unfold AG at h;split at h
 ·rename_i k n;obtain⟨ti,l,g⟩:=bind_some h;have V:=b3.types _ _ l;obtain⟨a9,_⟩:=a9;subst a9;unfold vR at g;split at g
  ·rename_i dep e el xs;cases f:(ti.sl&&Nat.beq ti.ek el.length)with
   |false=>simp[f,aG]at g
   |true=>
    simp only[f,cond_true]at g;simp only[Bool.and_eq_true]at f;obtain⟨U,y⟩:=jR g;subst y;obtain⟨H,a3⟩:=(DW _ _).1 U;obtain⟨i,e1,Q,T⟩:=V.sl f.1;have W:=Nat.eq_of_beq_eq_true f.2;obtain⟨e0,e2⟩:=hx;obtain⟨a,m,c,F,b0,a0,e3,c1,c2⟩:=e2 hv;have f5:xs.length=m:=b0;have Y:n.toNat<m:=by omega
    subst F;cases a with
    |none=>have:=c1 rfl;omega
    |some ad=>
     obtain⟨C,a2⟩:=c2 ad rfl (by omega);obtain⟨b,o,c5⟩:=ad;simp only at C;subst C;refine⟨.pointer (some ⟨b,o+n.toNat*el.length,none⟩),?_,e0,λ_=>⟨b,o+n.toNat*el.length,by simp,?_⟩⟩
     ·have K:(n:Int)<(m:Int):=by omega
      intro w';simp[Instr.indexAt,asIntOf,run_underlying e1,H,K,Go.sizeOf,typeInfo,Q,T,W,kE]
     ·exact a2 n.toNat Y
  ·rename_i c4 c6 f8;obtain⟨q,U,y⟩:=bind_some g;cases f:(ti.sl&&Nat.beq ti.ek q.2.1.length)with
   |false=>simp[f,aG]at y
   |true=>
    simp only[f,cond_true]at y;simp only[Bool.and_eq_true]at f;obtain⟨a4,a5⟩:=jR y;subst a5;obtain⟨H,a3⟩:=(DW _ _).1 a4;obtain⟨i,e1,Q,T⟩:=V.sl f.1;have W:=Nat.eq_of_beq_eq_true f.2;obtain⟨a,J,d0,c0⟩:=Ib U;obtain⟨F,b0,a0⟩:=hx.2 a J;obtain⟨_,_,_,a6⟩:=b4.arrs _ a J.1;have b5:=ZV a6 c0 a0 (λs d3=>by have:=d0 s d3;simp;exact this);simp only[List.nil_append]at b5;obtain⟨ad,m,c,L,b1,b2,f7,e6,e7⟩:=b5;have Y:n.toNat<m:=by omega
    cases ad with
    |none=>have:=e6 rfl;omega
    |some ad=>
     obtain⟨C,_⟩:=e7 ad rfl;obtain⟨b,o,c5⟩:=ad;simp only at C;subst C;refine⟨.pointer (some ⟨b,o+n.toNat*q.2.1.length,none⟩),?_,hx.1,λa' a7=>?_⟩
     ·have K:(n:Int)<(m:Int):=by omega
      intro w';rw[F,L];simp[Instr.indexAt,asIntOf,run_underlying e1,H,K,Go.sizeOf,typeInfo,Q,T,W,kE]
     ·have:a'=a:=by have l:=a7.1;rw[J.1]at l;injection l with l;exact l.symm
      subst this;exact⟨_,HR c0,a0,rfl,b,o,m,c,L,Y,by simp⟩
  ·rename_i c4 c6 kk nn c3;have b7:(ti.sl&&Nat.beq ti.ek kk)=true:=by
    cases f:(ti.sl&&Nat.beq ti.ek kk)with
    |false=>simp[f,aG]at g
    |true=>rfl
   simp only[b7,cond_true]at g;have f:=b7;simp only[Bool.and_eq_true]at f;obtain⟨a4,a5⟩:=jR g;subst a5;obtain⟨H,a3⟩:=(DW _ _).1 a4;obtain⟨i,e1,Q,T⟩:=V.sl f.1;have W:=Nat.eq_of_beq_eq_true f.2;simp only[jM]at hv;cases b6:jL st c4 c6 []with
   |none=>simp[b6]at hv
   |some a=>
    have J:=eM b6;obtain⟨f0,ad,m,c,L,b1,b2⟩:=hx.2 a J;obtain⟨_,_,_,a6⟩:=b4.arrs _ a J.1;obtain⟨f4,m',c',a1,f9,g0,g1,f2,f3⟩:=a6;rw[L]at a1;injection a1 with a1 e9 f1;subst a1;subst e9;subst f1;have Y:n.toNat<nn:=by omega
    cases ad with
    |none=>have:=f2 rfl;omega
    |some ad=>
     obtain⟨C,_⟩:=f3 ad rfl;obtain⟨b,o,c5⟩:=ad;simp only at C;subst C;have d2:¬c=c3:=by omega
     rw[if_neg d2]at b2;refine⟨.pointer (some ⟨b,o+(c3+n.toNat)*kk,none⟩),?_,hx.1,λa' a7=>?_⟩
     ·have K:(n:Int)<(nn:Int):=by omega
      intro w';rw[b2];simp[Instr.indexAt,asIntOf,run_underlying e1,H,K,Go.sizeOf,typeInfo,Q,T,W,kE,Nat.add_mul,Nat.add_assoc]
     ·have:a'=a:=by have l:=a7.1;rw[J.1]at l;injection l with l;exact l.symm
      subst this;exact⟨(a'.e,a'.el),rfl,trivial,f0,b,o,m,c,L,by omega,by simp⟩
  ·unfold DO at g;split at g
   ·rename_i off c8 fs d1;obtain⟨g2,U,y⟩:=bind_some g;have c9:=b3.types _ _ U;cases f:(ti.arr&&(!true||aA n ti.fs.length))with
    |false=>rw[f]at y;simp[aG]at y
    |true=>
     rw[f]at y;simp only[cond_true]at y;simp only[Bool.not_true,Bool.false_or,Bool.and_eq_true]at f;obtain⟨H,a3⟩:=(DW _ _).1 f.2;obtain⟨e5,e,hd⟩:=V.arr f.1;obtain⟨d,j,z,F,b0,a0,e3,c1,c2,f6,e4⟩:=V.ex;rw[hd]at F;injection F with F;subst F;obtain⟨L,b1⟩:=e4;have:=b1 0 off c8 (by simp[d1]);subst this;obtain⟨b,o,C,a2⟩:=lH hv hx y;refine⟨_,?_,a2⟩;subst C;have K:n<(e5:Int):=by omega
     intro w';simp[Instr.indexAt,asIntOf,run_underlying hd,Instr.sureAddr,H,K,c9.sizeOf,kE]
   ·simp[aG]at g
 ·simp[aG]at h
end
section
variable{P:Program}{w:World}{G:Gh}{st:St}{act:Act}{sl:Nat->Option Value}
theorem aBH{l:List A}{vs:List Value}(h:eZ w G st l vs){i:Nat}{a:A}{v:Value}(m:dO w G st a v):eZ w G st (l.set i a) (vs.set i v):=by
 obtain⟨f,g⟩:=dG.1 h;refine dG.2 ⟨by simp[f],λj b u c d=>?_⟩;rw[List.getElem?_set]at c d;by_cases e:i=j
 ·subst e;simp only[if_true]at c d;split at c
  ·split at d
   ·injection c with c;injection d with d;subst c;subst d;exact m
   ·simp at d
  ·simp at c
 ·simp only[e,if_false]at c d;exact g j b u c d
def Dm(l:List Value):Nat->List Value->List Value
 |_,[]=>l
 |j,v::vs=>Dm (l.set j v) (j+1) vs
theorem Si:∀(vs l:List Value)(j:Nat),(Dm l j vs).length=l.length
 |[],_,_=>rfl
 |v::vs,l,j=>by rw[Dm,Si vs];simp
theorem qR:∀(as l:List A)(j:Nat),(vO l j as).length=l.length
 |[],_,_=>rfl
 |v::vs,l,j=>by rw[vO,qR vs];simp
theorem RQ:∀{as:List A}{us:List Value}{l:List A}{vs:List Value}(j:Nat),eZ w G st as us->eZ w G st l vs->eZ w G st (vO l j as) (Dm vs j us)
 |[],us,l,vs,j,h,c=>by have:us=[]:=h;subst this;exact c
 |a::as,us,l,vs,j,⟨u,g,e,d,f⟩,c=>by subst e;exact RQ (j+1) f (aBH c d)
theorem Dn:∀(us:List Value)(off k:Nat)(cs:Array Value),(us.zipIdx k).foldl (λcs p=>cs.setIfInBounds (off+p.2) p.1) cs=⟨Dm cs.toList (off+k) us⟩
 |[],_,_,_=>rfl
 |u::us,off,k,cs=>by simp only[List.zipIdx_cons,List.foldl_cons];rw[Dn us off (k+1)];simp[Dm,Nat.add_assoc]
theorem RR(H:dI w G st sl){a:A}{v:Value}(g:(AE a&&jM st a)=true)(h:dO w G st a v):v.cells=#[v]/\v.oneCell'=true:=by
 simp only[Bool.and_eq_true]at g;obtain⟨g,hv⟩:=g;cases a with
 |int k n=>rw[h.1];exact⟨rfl,rfl⟩
 |bool b=>rw[show v=_ from h];exact⟨rfl,rfl⟩
 |str s=>rw[h.1];exact⟨rfl,rfl⟩
 |nils=>rw[show v=_ from h];exact⟨rfl,rfl⟩
 |nilp=>rw[show v=_ from h];exact⟨rfl,rfl⟩
 |fz dep e el xs=>obtain⟨a,n,c,j,_⟩:=h.2 hv;rw[j];exact⟨rfl,rfl⟩
 |vw r u p=>
  simp only[jM]at hv;cases d:jL st r u p with
  |none=>simp[d]at hv
  |some a=>obtain⟨ad,n,c,j⟩:=H.hdr r p;rw[(h.2 a (eM d)).1,j];exact⟨rfl,rfl⟩
 |px r u n=>
  simp only[jM]at hv;cases d:jL st r u []with
  |none=>simp[d]at hv
  |some a=>obtain⟨ad,m,c,_,_,t⟩:=h.2 a (eM d);rw[t];exact⟨rfl,rfl⟩
 |sx r u k n L=>
  simp only[jM]at hv;cases d:jL st r u []with
  |none=>simp[d]at hv
  |some a=>obtain⟨_,ad,m,c,_,_,t⟩:=h.2 a (eM d);rw[t];exact⟨rfl,rfl⟩
 |sb b u k n=>
  simp only[jM]at hv;cases y:pR st b u with
  |none=>simp[y]at hv
  |some l=>obtain⟨J,C,F,K⟩:=fX y;rw[(h.2 J C F).1];exact⟨rfl,rfl⟩
 |pb b u off=>obtain⟨b',o',e1,_⟩:=lH (n:=0) hv h rfl;rw[e1];exact⟨rfl,rfl⟩
 |pa r u p k i off=>obtain⟨b',o',e1,_⟩:=lH (n:=0) hv h rfl;rw[e1];exact⟨rfl,rfl⟩
 |pz dep el x off=>obtain⟨b',o',e1,_⟩:=lH (n:=0) hv h rfl;rw[e1];exact⟨rfl,rfl⟩
 |agg _=>simp[AE]at g
 |mp _ _=>simp[AE]at g
 |ez=>simp[AE]at g
 |tup _=>simp[AE]at g
 |undef=>simp[AE]at g
 |fn f caps=>obtain⟨vs,j,_⟩:=h;rw[j];exact⟨rfl,rfl⟩
theorem RT{l:List A}(h:jT st l=true):∀a,a∈l->(AE a&&jM st a)=true:=by
 unfold jT at h;simp only[Bool.not_eq_true']at h;intro a c;induction l with
 |nil=>simp at c
 |cons b l d=>
  simp only[RD,Bool.or_eq_false_iff,Bool.not_eq_false']at h;rcases List.mem_cons.1 c with rfl |c
  ·exact h.1
  ·exact d h.2 c
theorem JK(g:dI w G st sl){a:A}{v:Value}(d:jT st (fY a)=true)(h:dO w G st a v):∃vs,v.cells=⟨vs⟩/\eZ w G st (fY a) vs:=by
 by_cases c:∃xs,a=.agg xs
 ·obtain⟨xs,rfl⟩:=c;obtain⟨vs,e,f⟩:=h;exact⟨vs,by rw[e];rfl,f⟩
 ·have j:fY a=[a]:=by
   cases a<;>first|rfl |(exact absurd ⟨_,rfl⟩ c)
  rw[j]at d⊢;have:=RR g (RT d a (by simp)) h;exact⟨[v],this.1,v,[],rfl,h,rfl⟩
theorem GC(u:dI w G st sl){place:Nat->M (Nat×Nat)}{mp:Nat->Option (Nat×Nat)}(g:∀i q,place i=some q->mp i=some q):
  ∀(parts:List (Nat×Operand))(l:List A)(c:Array Value)(r:List A),(∀p∈parts,dO w G st (eR st.sl p.2) (act.eval p.2))->eZ w G st l c.toList->Hp place st parts l=some r->
   ∃d,Instr.fill mp c (parts.map λ(i,x)=>(i,act.eval x))=some d/\eZ w G st r d.toList/\r.length=l.length
 |[],l,c,r,_,f,h=>by simp[Hp,ok]at h;subst h;exact⟨c,rfl,f,rfl⟩
 |(i,x)::ps,l,c,r,hx,f,h=>by
  simp only[Hp]at h;obtain⟨q,C,j⟩:=bind_some h;cases e:(jT st (fY (eR st.sl x))&&(Nat.beq (fY (eR st.sl x)).length q.2&&Nat.ble (q.1+q.2) l.length))with
  |false=>simp[e,aG]at j
  |true=>
   simp only[e,cond_true]at j;simp only[Bool.and_eq_true]at e;obtain⟨v,m,s⟩:=e;have m:=Nat.eq_of_beq_eq_true m;have s:=Nat.le_of_ble_eq_true s;obtain⟨us,y,t⟩:=JK u v (hx (i,x) (by simp));have U:=(dG.1 t).1;have F:=(dG.1 f).1;have J:=RQ q.1 t f;obtain⟨d,L,P,Q⟩:=GC u g ps _ ⟨Dm c.toList q.1 us⟩ r (λp g=>hx p (by simp[g])) J j;refine⟨d,?_,P,by rw[Q,qR]⟩;have K:(⟨us⟩:Array Value).size=q.2:=by simp;omega
   have T:c.size=l.length:=by simpa using F
   have H:(⟨us⟩:Array Value).zipIdx.foldl (λcs x=>cs.setIfInBounds (q.1+x.2) x.1) c=⟨Dm c.toList q.1 us⟩:=by rw[<-Array.foldl_toList,Array.toList_zipIdx];have:=Dn us q.1 0 c;simpa using this
   simp only[List.map_cons,Instr.fill,g i q C,y,K];rw[if_neg (by simp;omega)];rw[H];exact L
theorem RU:∀ts:List LT,(JB ts).length=ts.length
 |[]=>rfl
 |_::ts=>congrArg (·+1) (RU ts)
theorem GD:∀ts:List LT,eZ w G st (JB ts) (ts.map fZ)
 |[]=>rfl
 |t::ts=>by
  refine⟨_,_,rfl,?_,GD ts⟩;cases t with
  |int k=>exact⟨rfl,tZ k,uA k⟩
  |bool=>rfl
  |str=>exact⟨rfl,Nat.zero_le _⟩
  |sl o e el=>rfl
theorem v6(fs:List Field)(h:∀(j:Nat)(fd:Field),fs[j]?=some fd->∃i,P.info? fd.type=some i):
  ∃g,fs.mapM (λf=>(P.info? f.type).map λi=>(f.offset,i.size))=some g/\∀(j:Nat)(fd:Field)i,fs[j]?=some fd->P.info? fd.type=some i->g[j]?=some (fd.offset,i.size):=by
 induction fs with
 |nil=>exact⟨[],rfl,by simp⟩
 |cons f fs s=>
  obtain⟨i,e⟩:=h 0 f rfl;obtain⟨t,l,m⟩:=s (λj fd d=>h (j+1) fd (by simpa using d));refine⟨(f.offset,i.size)::t,by simp[List.mapM_cons,e,l],λj fd r d c=>?_⟩;cases j with
  |zero=>simp at d;subst d;rw[e]at c;injection c with c;subst c;rfl
  |succ j=>exact m j fd r (by simpa using d) c
theorem Xk{E:fM}(W:gY P E)(Y:dI w G st sl){t:TypeId}{ti:TI}(u:lW P t ti){parts:Array (Nat×Operand)}(hx:∀p∈parts.toList,dO w G st (eR st.sl p.2) (act.eval p.2)){r:A}
  (h:Rs E st parts ti=some r):DX P w G st act (.build t parts) r:=by
 intro ot b4;suffices b5:∃c,P.built t ((parts.map λ(i,x)=>(i,act.eval x)).toList)=some c/\dO w G st r (.agg c)by
  obtain⟨c,H,J⟩:=b5;exact⟨.agg c,λw'=>by simp[execOp,b4,run_build w' t _ c H],J⟩
 obtain⟨d,i,z,f,T,e0,e2,U,b0,e3,V⟩:=u.ex;have a1:eZ w G st (JB ti.lv) z.cells.toList:=by rw[b0];exact GD _
 have a0:(parts.map λ(i,x)=>(i,act.eval x)).toList=parts.toList.map λ(i,x)=>(i,act.eval x):=by simp
 unfold Rs at h;cases v:ti.arr with
 |true=>
  simp only[v,cond_true]at h;unfold Wh at h;split at h
  ·rename_i off a5 fs m;obtain⟨d1,H,J⟩:=bind_some h;obtain⟨l,K,g⟩:=bind_some J;simp[ok]at g;subst g;have b2:=W.types _ _ H;obtain⟨n,e,hd⟩:=u.arr v;rw[hd]at f;injection f with f;subst f;obtain⟨e4,c4⟩:=V;have:=c4 0 off a5 (by simp[m]);subst this;obtain⟨a3,y,d2,b6,C,Q,b7,c0,c1,c2,c3⟩:=b2.ex;obtain⟨c,e1,F,a4⟩:=GC Y (act:=act) (place:=ZK d1.lv.length) (mp:=λi=>some (i*y.size,y.size)) (λj q s=>by simp[ZK,ok]at s;rw[Q,s]) parts.toList _ z.cells l hx a1 K;refine⟨c,?_,c.toList,by simp,F⟩;rw[a0];simp only[Program.built,T,hd,U,C,e1]
  ·simp[aG]at h
 |false=>
  simp only[v,cond_false]at h;cases L:ti.agg with
  |false=>simp[L,aG]at h
  |true=>simp only[L,cond_true]at h;obtain⟨l,K,g⟩:=bind_some h;simp[ok]at g;subst g;obtain⟨fs,m⟩:=u.struct L v;rw[m]at f;injection f with f;subst f;obtain⟨c7,c5,c6⟩:=v6 (P:=P) fs.toList (λj fd b3=>u.parts fs m j fd (by simpa using b3));obtain⟨c,e1,F,a4⟩:=GC Y (act:=act) (place:=Ro E ti) (mp:=(c7.toArray[·]?)) (λj q s=>by unfold Ro at s;obtain⟨a,c8,c9⟩:=bind_some s;obtain⟨d3,d0,a2⟩:=bind_some c9;simp[ok]at a2;subst a2;obtain⟨fd,a6,a7,a9,_⟩:=V j a.1 a.2 c8;have b1:=W.types _ _ d0;obtain⟨a3,y,d2,b6,C,Q,b7,c0,c1,c2,c3⟩:=b1.ex;rw[<-a9]at C;have:=c6 j fd y (by simpa using a6) C;simp[this,a7,Q]) parts.toList _ z.cells l hx a1 K;refine⟨c,?_,c.toList,by simp,F⟩;rw[a0];simp only[Program.built,T,m,U,c5,e1]
end
theorem Tr.get_nil(n:Nat):Tr.get .nil n=.undef:=by unfold Tr.get;rfl
theorem qL{n m:Nat}(h:n≠m):Nat.beq n m=false:=by
 cases c:Nat.beq n m with
 |false=>rfl
 |true=>exact absurd (Nat.eq_of_beq_eq_true c) h
theorem qE(n:Nat):Nat.beq n n=true:=Nat.beq_refl n
theorem Tr.get_setF:∀(f:Nat)(t:Tr)(n:Nat)(v:A)(m:Nat),n<f->(Tr.setF f t n v).get m=if m=n then v else t.get m
 |0,_,_,_,_,h=>absurd h (Nat.not_lt_zero _)
 |f+1,t,n,v,m,h=>by
  have key:∀(a:A)(l r:Tr),(bif Nat.beq n 0 then Tr.node v l r else bif Nat.beq (n%2) 1 then .node a (Tr.setF f l (n/2) v) r else .node a l (Tr.setF f r (n/2-1) v)).get m=if m=n then v else(Tr.node a l r).get m:=by
   intro a l r;by_cases s:n=0
   ·subst s;simp only[qE,cond_true];by_cases c:m=0
    ·subst c;simp[Tr.get]
    ·simp[Tr.get,qL c,c]
   ·simp only[qL s,cond_false];by_cases j:n%2=1
    ·simp only[j,qE,cond_true];by_cases c:m=0
     ·subst c;simp[Tr.get];omega
     ·simp only[Tr.get,qL c,cond_false];by_cases d:m%2=1
      ·simp only[d,qE,cond_true];rw[Tr.get_setF f l (n/2) v (m/2) (by omega)];by_cases g:m=n
       ·subst g;simp
       ·rw[if_neg g,if_neg (by omega)]
      ·simp only[qL d,cond_false];rw[if_neg (by intro e;subst e;exact d j)]
    ·simp only[qL j,cond_false];by_cases c:m=0
     ·subst c;simp[Tr.get];omega
     ·simp only[Tr.get,qL c,cond_false];by_cases d:m%2=1
      ·simp only[d,qE,cond_true];rw[if_neg (by intro e;subst e;exact j d)]
      ·simp only[qL d,cond_false];rw[Tr.get_setF f r (n/2-1) v (m/2-1) (by omega)];by_cases g:m=n
       ·subst g;simp
       ·rw[if_neg g,if_neg (by omega)]
  cases t with
  |node a l r=>exact key a l r
  |nil=>
   have:=key .undef .nil .nil;have e:(Tr.node .undef .nil .nil).get m=Tr.get .nil m:=by
    by_cases c:m=0
    ·subst c;simp[Tr.get]
    ·simp only[Tr.get,qL c,cond_false];cases Nat.beq (m%2) 1<;>simp[Tr.get]
   rw[e]at this;exact this
theorem Tr.get_set(t:Tr)(n:Nat)(v:A)(m:Nat):(t.set n v).get m=if m=n then v else t.get m:=Tr.get_setF (n+1) t n v m (Nat.lt_succ_self n)
section
variable{α:Type}
theorem nM(l:List (Nat×α))(n m:Nat):look (oH l n) m=if m=n then none else look l m:=by
 induction l with
 |nil=>simp[oH,look]
 |cons p l e=>
  obtain⟨k,a⟩:=p;by_cases d:k=n
  ·subst d;simp only[oH,qE,cond_true,e];by_cases c:m=k
   ·subst c;simp
   ·rw[if_neg c,if_neg c];simp[look,qL (Ne.symm c)]
  ·simp only[oH,qL d,cond_false,look];by_cases c:k=m
   ·subst c;simp[d]
   ·simp only[qL c,cond_false,e]
theorem bQ(l:List (Nat×α))(n:Nat)(b:α)(m:Nat):look (qD l n b) m=if m=n then some b else look l m:=by
 by_cases c:m=n
 ·subst c;simp[qD,look]
 ·simp only[qD,look,qL (Ne.symm c),cond_false,nM,if_neg c]
end
theorem WG{w w':World}{G G':Gh}{S S':List cQ}{r r':Nat}{e:TypeId}{el:List LT}{p p':cQ}{v:Value}{data:LD}
  (W:∀b,G.own b=.fz->G'.own b=.fz/\w'.heap[b]?=w.heap[b]?)
  (l:∀q,q=[]\/p++q∉S->(∃s,s≠[]/\s<+:q/\p'++s∈S')\/(G'.H r' (p'++q)=G.H r (p++q)/\∀b,G.own b=.arr r (p++q)->G'.own b=.arr r' (p'++q)/\w'.heap[b]?=w.heap[b]?))
  (a0:∀q,q≠[]->p++q∈S->p'++q∈S')(h:yV w G S r e el p v data):yV w' G' S' r' e el p' v data:=by
 obtain⟨a,n,c,K,L,f,P,Q,T⟩:=h;rcases l [] (.inl rfl)with⟨s,h,d,_⟩ |⟨a2,V⟩
 ·exact absurd (List.prefix_nil.1 d) h
 refine⟨a,n,c,K,L,f,P,Q,λad U=>?_⟩;obtain⟨u,y,cs,t,C,F,H⟩:=T ad U;obtain⟨a1,m⟩:=V ad.block (by simpa using y);refine⟨u,by simpa using a1,cs,t,m.trans C,F,λi Y=>?_⟩;refine MP W el p p' i i _ _ _ _ _ (λa3=>vS m _) (λj q g=>?_) (λj q g=>a0 _ (by simp) g) (H i Y);rcases l ((i,j)::q) (.inr g)with⟨s,h,d,J⟩ |h
 ·cases s with
  |nil=>exact absurd rfl h
  |cons c s=>obtain⟨rfl,f⟩:=List.cons_prefix_cons.1 d;exact .inl ⟨s,f,J⟩
 ·exact .inr h
theorem HT{w w':World}{G G':Gh}{S:List cQ}{r:Nat}{e:TypeId}{el:List LT}{p:cQ}{v:Value}{data:LD}
  (f:∀b,G.own b=.fz->G'.own b=.fz/\w'.heap[b]?=w.heap[b]?)
  (c:∀p,G'.H r p=G.H r p)(d:∀b p,G.own b=.arr r p->G'.own b=.arr r p/\w'.heap[b]?=w.heap[b]?)(h:yV w G S r e el p v data):yV w' G' S r e el p v data:=
 WG f (λq _=>.inr ⟨c _,λb g=>d b _ g⟩) (λ_ _ h=>h) h
structure Fr(w:World)(G:Gh)(w':World)(G':Gh):Prop where
 os:w'.os=w.os
 tape:w'.tape=w.tape
 output:w'.output=w.output
 size:w.heap.size<=w'.heap.size
 block:∀b,b<w.heap.size->(G.own b=.out\/G.own b=.fz)->w'.heap[b]?=w.heap[b]?/\G'.own b=G.own b
 B:∀b,500<=b->b<600->G'.B b=G.B b
theorem Fr.refl(w:World)(G:Gh):Fr w G w G:=⟨rfl,rfl,rfl,Nat.le_refl _,λ_ _ _=>⟨rfl,rfl⟩,λ_ _ _=>rfl⟩
theorem Fr.trans{m r s:World}{e f g:Gh}(h:Fr m e r f)(k:Fr r f s g):Fr m e s g:=
 ⟨k.os.trans h.os,k.tape.trans h.tape,k.output.trans h.output,Nat.le_trans h.size k.size,λb j l=>by obtain⟨d,c⟩:=h.block b j l;obtain⟨t,u⟩:=k.block b (Nat.lt_of_lt_of_le j h.size) (by rw[c];exact l);exact⟨t.trans d,u.trans c⟩,λb d c=>(k.B b d c).trans (h.B b d c)⟩
section
variable{w w':World}{G G':Gh}{st st':St}{sl sl':Nat->Option Value}
def aFE(w:World)(G:Gh)(st:St)(b:Nat)(x:Bx):Prop:=
 x.uid<st.ctr/\G.own (G.B b).1 =.box/\lG w G st (G.B b) x
def aFF(w:World)(G:Gh)(st:St)(r:Nat)(a:yN):Prop:=
 a.uid<st.ctr/\a.dv<st.ctr/\(a.hv.length=4/\∀u,u∈a.hv->u<st.ctr)/\yV w G a.stale r a.e a.el [] (G.H r []) a.data
theorem dI.step(y:dI w G st sl)(d:Le w G st w' G' st')
  (T:∀t v,sl' t=some v->dO w' G' st' (st'.sl.get t) v)
  (L:∀b x,look st'.bx b=some x->(look st.bx b=some x/\G'.B b=G.B b/\w'.heap[(G.B b).1]?=w.heap[(G.B b).1]?/\G'.own (G.B b).1 =.box)\/aFE w' G' st' b x)
  (J:∀b b' x W,look st'.bx b=some x->look st'.bx b'=some W->b≠b'->(G'.B b).1 ≠(G'.B b').1)
  (K:∀r a,look st'.ar r=some a->(look st.ar r=some a/\(∀p,G'.H r p=G.H r p)/\∀b p,G.own b=.arr r p->G'.own b=.arr r p/\w'.heap[b]?=w.heap[b]?)\/aFF w' G' st' r a)
  (Q:∀b,G'.own b≠.out->b<w'.heap.size)(P:∀r p,∃a n c,G'.H r p=.slice a n c):dI w' G' st' sl':=by
 refine⟨T,λb x hx=>?_,J,λr a H=>?_,Q,P⟩
 ·rcases L b x hx with⟨l,f,m,F⟩ |h
  ·obtain⟨g,s,e⟩:=y.boxes b x l;rw[f];exact⟨Nat.lt_of_lt_of_le g d.ctr,F,e.step m rfl rfl λj Y v V=>dS d _ _ V⟩
  ·exact h
 ·rcases K r a H with⟨l,f,m⟩ |h
  ·obtain⟨g,s,e,C⟩:=y.arrs r a l;refine⟨Nat.lt_of_lt_of_le g d.ctr,Nat.lt_of_lt_of_le s d.ctr,⟨e.1,λu U=>Nat.lt_of_lt_of_le (e.2 u U) d.ctr⟩,?_⟩;rw[f];exact HT d.fz f m C
  ·exact h
theorem Le.refl(w:World)(G:Gh)(st:St):Le w G st w G st:=
 ⟨Nat.le_refl _,λr u p a' _ h=>⟨a',h,rfl,rfl,rfl,λh=>h⟩,λb d _ h=>⟨d,h,rfl,rfl⟩,λr a' _ h=>⟨a',h,rfl,λb p c=>⟨⟨p,c⟩,rfl⟩⟩,λb c=>⟨c,rfl⟩⟩
theorem Le.put(w:World)(G:Gh)(st:St)(d:Nat)(a:A):Le w G st w G (st.put d a):=
 ⟨Nat.le_refl _,λr u p a' _ h=>⟨a',h,rfl,rfl,rfl,λh=>h⟩,λb e _ h=>⟨e,h,rfl,rfl⟩,λr a' _ h=>⟨a',h,rfl,λb p c=>⟨⟨p,c⟩,rfl⟩⟩,λb c=>⟨c,rfl⟩⟩
def yY(sl:Nat->Option Value)(d:Nat)(v:Value):Nat->Option Value:=λt=>if t=d then some v else sl t
theorem dI.put(c:dI w G st sl){d:Nat}{a:A}{v:Value}(g:dO w G st a v):dI w G (st.put d a) (yY sl d v):=by
 refine c.step (Le.put w G st d a) (λt m f=>?_) (λb x hx=>.inl ⟨hx,rfl,rfl,(c.boxes b x hx).2.1⟩) (λb b' x s h j l=>c.apartB b b' x s h j l) (λr a g=>.inl ⟨g,λ_=>rfl,λb p h=>⟨h,rfl⟩⟩) c.live c.hdr;refine dS (Le.put w G st d a) _ _ ?_;simp only[St.put,Tr.get_set];simp only[yY]at f;split at f
 ·rename_i e;injection f with f;subst f;rw[if_pos e];exact g
 ·rename_i e;rw[if_neg e];exact c.slots t m f
end
def Gh.tag(G:Gh)(n:Nat)(T:Tag):Gh:={G with own:=λb=>if b=n then T else G.own b}
def Gh.box(G:Gh)(d:Nat)(x:Nat×Nat):Gh:={G with B:=λb=>if b=d then x else G.B b}
def Gh.hdr(G:Gh)(r:Nat)(f:cQ->Value):Gh:={G with H:=λq=>if q=r then f else G.H q}
section
variable{P:Program}{w w' w'':World}{G G' G'':Gh}{st st' st'':St}{sl:Nat->Option Value}{act:Act}
theorem Le.trans(h:Le w G st w' G' st')(k:Le w' G' st' w'' G'' st''):Le w G st w'' G'' st'':=by
 refine⟨Nat.le_trans h.ctr k.ctr,λr u p a' d m=>?_,λb P d hx=>?_,λr a' d m=>?_,λb s=>?_⟩
 ·obtain⟨a1,e,c,j,t,v⟩:=k.vw r u p a' (Nat.lt_of_lt_of_le d h.ctr) m;obtain⟨a2,f,g,l,C,F⟩:=h.vw r u p a1 d e;exact⟨a2,f,c.trans g,j.trans l,t.trans C,λy=>v (F y)⟩
 ·obtain⟨Q,e,c,j⟩:=k.bx b P (Nat.lt_of_lt_of_le d h.ctr) hx;obtain⟨T,f,g,l⟩:=h.bx b Q (by rw[c];exact d) e;exact⟨T,f,g.trans c,j.trans l⟩
 ·obtain⟨a1,e,c,j⟩:=k.dep r a' (Nat.lt_of_lt_of_le d h.ctr) m;obtain⟨a2,f,g,l⟩:=h.dep r a1 (by rw[c];exact d) e;refine⟨a2,f,g.trans c,λb p s=>?_⟩;obtain⟨⟨K,H⟩,J⟩:=l b p s;obtain⟨⟨L,o1⟩,o2⟩:=j b K H;exact⟨⟨L,o1⟩,o2.trans J⟩
 ·obtain⟨e,c⟩:=h.fz b s;obtain⟨f,g⟩:=k.fz b e;exact⟨f,g.trans c⟩
theorem Le.world(e:∀b,G.own b≠.out->G'.own b=G.own b/\w'.heap[b]?=w.heap[b]?)(l:∀r p,G'.H r p=G.H r p)(j:∀b,G'.B b=G.B b):Le w G st w' G' st:=
 ⟨Nat.le_refl _,λr u p a' _ h=>⟨a',h,rfl,rfl,l r p,λh=>h⟩,λb m _ h=>⟨m,h,rfl,j b⟩,λr a' _ h=>⟨a',h,rfl,λb p f=>by
  obtain⟨c,d⟩:=e b (by rw[f];simp);exact⟨⟨p,c.trans f⟩,d⟩⟩,λb g=>by
  obtain⟨c,d⟩:=e b (by rw[g];simp);exact⟨c.trans g,d⟩⟩
theorem dI.world(c:dI w G st sl)(j:∀b,G.own b≠.out->G'.own b=G.own b/\w'.heap[b]?=w.heap[b]?)(g:∀r p,G'.H r p=G.H r p)(e:∀b,G'.B b=G.B b)
  (C:∀b,G'.own b≠.out->b<w'.heap.size):dI w' G' st sl:=by
 have l:Le w G st w' G' st:=Le.world j g e;refine c.step l (λt v hv=>dS l _ _ (c.slots t v hv)) (λb x hx=>?_) (λb b' x H h s F=>by rw[e,e];exact c.apartB b b' x H h s F)
  (λr a y=>.inl ⟨y,g r,λb p m=>by obtain⟨d,f⟩:=j b (by rw[m];simp);exact⟨d.trans m,f⟩⟩) C (λr p=>by rw[g];exact c.hdr r p)
 have d:=(c.boxes b x hx).2.1;obtain⟨f,u⟩:=j (G.B b).1 (by rw[d];simp);exact .inl ⟨hx,e b,u,f.trans d⟩
theorem HQ.alloc(w:World)(o:Obj):HQ w (w.alloc o):=⟨by simp,λb c=>heap_alloc_old w o b c⟩
theorem MU(d:dI w G st sl)(o:Obj)(T:Tag):(∀b,G.own b≠.out->(G.tag w.heap.size T).own b=G.own b/\(w.alloc o).heap[b]?=w.heap[b]?)/\∀b,(G.tag w.heap.size T).own b≠.out->b<(w.alloc o).heap.size:=by
 refine⟨λb c=>?_,λb c=>?_⟩
 ·have:=d.live b c;exact⟨by simp[Gh.tag,Nat.ne_of_lt this],heap_alloc_old w o b this⟩
 ·simp only[Gh.tag]at c;rw[World.size_alloc];split at c
  ·omega
  ·have:=d.live b c;omega
theorem dI.alloc(c:dI w G st sl)(o:Obj)(T:Tag):dI (w.alloc o) (G.tag w.heap.size T) st sl:=
 c.world (MU c o T).1 (λ_ _=>rfl) (λ_=>rfl) (MU c o T).2
theorem Le.alloc(c:dI w G st sl)(o:Obj)(T:Tag):Le w G st (w.alloc o) (G.tag w.heap.size T) st:=
 Le.world (MU c o T).1 (λ_ _=>rfl) (λ_=>rfl)
theorem Fr.alloc(w:World)(G:Gh)(o:Obj)(T:Tag):Fr w G (w.alloc o) (G.tag w.heap.size T):=
 ⟨rfl,rfl,rfl,by simp,λb c _=>⟨heap_alloc_old w o b c,by simp[Gh.tag,Nat.ne_of_lt c]⟩,λ_ _ _=>rfl⟩
theorem dI.drew(c:dI w G st sl):dI w.drew G st sl:=c.world (λb _=>⟨rfl,rfl⟩) (λ_ _=>rfl) (λ_=>rfl) c.live
theorem Le.drew:Le w G st w.drew G st:=Le.world (λb _=>⟨rfl,rfl⟩) (λ_ _=>rfl) (λ_=>rfl)
theorem Fr.drew(w:World)(G:Gh):Fr w G w.drew G:=⟨rfl,rfl,rfl,Nat.le_refl _,λ_ _ _=>⟨rfl,rfl⟩,λ_ _ _=>rfl⟩
theorem Le.newBox(w:World)(G:Gh)(st:St)(d:Nat)(x:Nat×Nat)(l:List A):Le w G st w (G.box d x) (st.newBox d l):=by
 refine⟨Nat.le_succ _,λr u p a' e h=>⟨a',h,rfl,rfl,rfl,λh=>h⟩,λb g e hx=>?_,λr a' _ h=>⟨a',h,rfl,λb p c=>⟨⟨p,c⟩,rfl⟩⟩,λb c=>⟨c,rfl⟩⟩;simp only[St.newBox,bQ]at hx;split at hx
 ·injection hx with hx;subst hx;exact absurd e (Nat.lt_irrefl _)
 ·rename_i f;exact⟨g,hx,rfl,by simp[Gh.box,f]⟩
theorem dI.newBox(f:dI w G st sl){d b o:Nat}{l:List A}{cs:Array Value}{e:TypeId}(V:G.own b=.box)(Q:w.heap[b]?=some (.cells cs e (0,0)))(W:o+l.length<=cs.size)
  (U:∀j,j<l.length->∃v,cs[o+j]?=some v/\dO w G st (l.getD j .undef) v)
  (y:∀b' Y,look st.bx b'=some Y->b'≠d->(G.B b').1 ≠b):dI w (G.box d (b,o)) (st.newBox d l) sl:=by
 have s:=Le.newBox w G st d (b,o) l;refine f.step s (λt v hv=>dS s _ _ (f.slots t v hv)) (λb' x hx=>?_) (λb1 b2 F H m g C=>?_) (λr a P=>.inl ⟨P,λ_=>rfl,λb p h=>⟨h,rfl⟩⟩) f.live f.hdr
 ·simp only[St.newBox,bQ]at hx;split at hx
  ·rename_i u;subst u;injection hx with hx;subst hx;have L:(G.box b' (b,o)).B b'=(b,o):=by simp[Gh.box]
   refine .inr ⟨Nat.lt_succ_self _,?_⟩;rw[L];exact⟨V,lG.of_cells rfl ⟨cs,e,Q,W,λj T=>by obtain⟨v,J,K⟩:=U j T;exact⟨v,J,dS s _ _ K⟩⟩⟩
  ·rename_i u;exact .inl ⟨hx,by simp[Gh.box,u],rfl,(f.boxes b' x hx).2.1⟩
 ·simp only[St.newBox,bQ]at m g;simp only[Gh.box];by_cases e1:b1=d
  ·by_cases c:b2=d
   ·exact absurd (e1.trans c.symm) C
   ·rw[if_neg c]at g;rw[if_pos e1,if_neg c];exact Ne.symm (y b2 H g c)
  ·rw[if_neg e1]at m;by_cases c:b2=d
   ·rw[if_neg e1,if_pos c];exact y b1 F m e1
   ·rw[if_neg c]at g;rw[if_neg e1,if_neg c];exact f.apartB b1 b2 F H m g C
theorem aFG(w:World)(G:Gh)(st:St)(d b:Nat)(l:List A):dO w (G.box d (b,0)) (st.newBox d l) (.pb d st.ctr 0) (.pointer (some ⟨b,0,none⟩)):=by refine⟨Nat.lt_succ_self _,λx hx c=>?_⟩;simp[Gh.box]
theorem CO(c:dI w G st sl){d:Nat}(u:d<500\/600<=d){l:List A}{vs:List Value}(e:TypeId)(m:eZ w G st l vs):∃w' G',w'=w.alloc (.cells ⟨vs⟩ e)/\Fr w G w' G'/\Le w G st w' G' (st.newBox d l)/\
  dI w' G' (st.newBox d l) sl/\G'.B d=(w.heap.size,0):=by
 let o:Obj:=.cells ⟨vs⟩ e
 have g:=Le.alloc c o .box;have f:=c.alloc o .box;have v:=(dG.1 m).1;refine⟨w.alloc o,(G.tag w.heap.size .box).box d (w.heap.size,0),rfl,?_,g.trans (Le.newBox _ _ _ _ _ _),?_,by simp[Gh.box]⟩
 ·exact Fr.trans (Fr.alloc w G o .box) ⟨rfl,rfl,rfl,Nat.le_refl _,λ_ _ _=>⟨rfl,rfl⟩,λb f t=>by simp[Gh.box,show b≠d by omega]⟩
 ·refine f.newBox (cs:=⟨vs⟩) (e:=e) (by simp[Gh.tag]) (heap_alloc_new w o) (by simp;omega) (λj r=>?_) (λb' s hx y=>?_)
  ·have h:j<vs.length:=by omega
   refine⟨vs[j],by simp[h],dS g _ _ ?_⟩;exact(dG.1 m).2 j _ _ (by simp[List.getD,r]) (by simp[h])
  ·have:=c.live (G.B b').1 (by rw[(c.boxes b' s hx).2.1];simp);simp only[Gh.tag];omega
def RV(w:World)(G:Gh)(st:St)(sl:Nat->Option Value)(d:Nat)(u:Value)(w':World)(G':Gh):uX->Prop
 |.val a=>Le w G st w' G' st/\dI w' G' st sl/\dO w' G' st a u
 |.st s=>Le w G st w' G' s/\dI w' G' s (yY sl d u)
def MW(nx:Next)(u:Value):Prop:=nx=.value u\/(nx=.skip/\u=undef)
def I3(P:Program)(w:World)(G:Gh)(st:St)(sl:Nat->Option Value)(act:Act)(d:Nat)(o:Op)(r:uX):Prop:=
 ∀ot:Oper,ot.op=o->∃nx u w' G',(execOp act.eval ot).run P w=.ok nx w'/\MW nx u/\HQ w w'/\Fr w G w' G'/\RV w G st sl d u w' G' r
theorem I4(s:dI w G st sl){t:TypeId}{ti:TI}(v:lW P t ti){d:Nat}(y:d<500\/600<=d){r:St}(h:Rt st d ti=some r):I3 P w G st sl act d (.alloc t) (.st r):=by
 intro ot C;simp[Rt,ok]at h;subst h;obtain⟨H,i,z,J,c,K,L,f,g,Q,T⟩:=v.ex;obtain⟨w',G',e,l,m,u,j⟩:=CO s y t (GD (w:=w) (G:=G) (st:=st) ti.lv);refine⟨.value (.pointer (some ⟨w.heap.size,0,none⟩)),_,w',G',?_,.inl rfl,by rw[e];exact HQ.alloc _ _,l,m.trans (Le.put _ _ _ _ _),u.put ?_⟩
 ·rw[e];have F:z.cells=⟨ti.lv.map fZ⟩:=by rw[<-g]
  simp[execOp,C,Instr.alloc,zeroValue,typeInfo,c,f,newVar,newRow,F]
 ·refine⟨Nat.lt_succ_self _,λx hx U=>?_⟩;rw[j]
theorem Xl(m:dI w G st sl){t e:TypeId}(u:P.underlying t=some (.pointer e)/\∃i,P.info? t=some i/\i.size=1/\i.zero=some (.pointer none)){d:Nat}(v:d<500\/600<=d){r:St}(h:ok ((st.newBox d [.nilp]).put d (.pb d st.ctr 0))=some r):I3 P w G st sl act d (.alloc t) (.st r):=by
 intro ot y;simp[ok]at h;subst h;obtain⟨_,i,c,C,f⟩:=u;obtain⟨w',G',e,j,l,s,g⟩:=CO m v t (show eZ w G st [.nilp] [.pointer none]from⟨_,_,rfl,rfl,rfl⟩);refine⟨.value (.pointer (some ⟨w.heap.size,0,none⟩)),_,w',G',?_,.inl rfl,by rw[e];exact HQ.alloc _ _,j,l.trans (Le.put _ _ _ _ _),s.put ?_⟩
 ·rw[e];simp[execOp,y,Instr.alloc,zeroValue,typeInfo,c,f,newVar,newRow,Value.cells]
 ·refine⟨Nat.lt_succ_self _,λx hx F=>?_⟩;rw[g]
theorem aBI(f:dI w G st sl){t:TypeId}{x:Operand}(hx:dO w G st (eR st.sl x) (act.eval x)){d:Nat}(v:d<500\/600<=d){r:St}(h:aBr st d (eR st.sl x)=some r):I3 P w G st sl act d (.box t x) (.st r):=by
 intro ot y;unfold aBr at h;cases c:jT st (fY (eR st.sl x))with
 |false=>simp[c,aG]at h
 |true=>
  simp[c,ok]at h;subst h;obtain⟨vs,g,j⟩:=JK f c hx;obtain⟨w',G',e,m,s,u,l⟩:=CO f v t j;refine⟨.value (.pointer (some ⟨w.heap.size,0,none⟩)),_,w',G',?_,.inl rfl,by rw[e];exact HQ.alloc _ _,m,s.trans (Le.put _ _ _ _ _),u.put ?_⟩
  ·rw[e];simp[execOp,y,Instr.box,newVar,newRow,g]
  ·refine⟨Nat.lt_succ_self _,λx hx C=>?_⟩;rw[l]
end
mutual
theorem LT.beq_eq:∀(t u:LT),t.beq u=true->t=u
 |.int k,.int j,h=>by simp only[LT.beq]at h;rw[(fF k j).1 h]
 |.bool,.bool,_=>rfl
 |.str,.str,_=>rfl
 |.sl o e el,.sl o' l d,h=>by simp only[LT.beq,Bool.and_eq_true]at h;obtain⟨c,f,g⟩:=h;rw[WE]at c;rw[eq_of_beq c,Nat.eq_of_beq_eq_true f,iK el d g]
 |.int _,.bool,h=>by simp[LT.beq]at h
 |.int _,.str,h=>by simp[LT.beq]at h
 |.int _,.sl ..,h=>by simp[LT.beq]at h
 |.bool,.int _,h=>by simp[LT.beq]at h
 |.bool,.str,h=>by simp[LT.beq]at h
 |.bool,.sl ..,h=>by simp[LT.beq]at h
 |.str,.int _,h=>by simp[LT.beq]at h
 |.str,.bool,h=>by simp[LT.beq]at h
 |.str,.sl ..,h=>by simp[LT.beq]at h
 |.sl ..,.int _,h=>by simp[LT.beq]at h
 |.sl ..,.bool,h=>by simp[LT.beq]at h
 |.sl ..,.str,h=>by simp[LT.beq]at h
theorem iK:∀(l m:List LT),vK l m=true->l=m
 |[],[],_=>rfl
 |t::ts,u::us,h=>by simp only[vK,Bool.and_eq_true]at h;rw[LT.beq_eq t u h.1,iK ts us h.2]
 |[],_::_,h=>by simp[vK]at h
 |_::_,[],h=>by simp[vK]at h
end
theorem Sj{w:World}{okb:Nat->Prop}{b o k:Nat}{x:D}(d:okb b):∀(ts:List LT)(c:Nat),(∀(j:Nat)(t:LT),ts[j]?=some t->∃v,w.cell? ⟨b,o+(c+j),none⟩=some v/\yQ w okb t v (lf k x (c+j)))->s7 w okb ts b o k x c
 |[],_,_=>trivial
 |t::ts,c,h=>by
  refine⟨d,?_,Sj d ts (c+1) (λj t ht=>?_)⟩
  ·have:=h 0 t rfl;simpa using this
  ·have:=h (j+1) t (by simpa using ht);rwa [show c+(j+1)=c+1+j by omega]at this
theorem JL{k:Nat}{l:LD}(c:l.length=k)(j:Nat)(e:j<k):lf k (zS l) j=l.getD j (.i 0):=by
 unfold lf;by_cases d:k=1
 ·subst d;simp only[qE,cond_true];match l,c with
  |[x],_=>
   have:j=0:=by omega
   subst this;rfl
 ·simp only[qL d,cond_false];match l,c with
  |[],c=>have f:0=k:=c;omega
  |[x],c=>exact absurd c.symm d
  |x::g::l,_=>rfl
theorem RW(k:Nat):∀(n:Nat)(l:LD),(GX k n l).length=n
 |0,_=>rfl
 |n+1,l=>by simp[GX,RW k n]
theorem Ih(k:Nat):∀(n:Nat)(l:LD)(i:Nat),i<n->(GX k n l).getD i (.i 0)=zS (kL k (l.drop (i*k)))
 |0,_,_,h=>absurd h (Nat.not_lt_zero _)
 |n+1,l,0,_=>by simp[GX,List.getD]
 |n+1,l,i+1,h=>by have:=Ih k n (oS k l) i (by omega);simp only[GX,List.getD_cons_succ];rw[this,sR,List.drop_drop];congr 3;rw[Nat.add_mul,Nat.one_mul,Nat.add_comm]
theorem WH(l:List LT):∀(n i j:Nat),i<n->j<l.length->(Fu l n)[i*l.length+j]?=l[j]?
 |0,_,_,h,_=>absurd h (Nat.not_lt_zero _)
 |n+1,0,j,_,c=>by simp[Fu,List.getElem?_append_left c]
 |n+1,i+1,j,h,c=>by
  have:=WH l n i j (by omega) c;have e:(i+1)*l.length+j=l.length+(i*l.length+j):=by rw[Nat.add_mul];omega
  rw[e,Fu,List.getElem?_append_right (by omega)];simpa using this
theorem AI(l:List LT):∀n:Nat,(Fu l n).length=n*l.length
 |0=>by simp[Fu]
 |n+1=>by simp[Fu,AI l n,Nat.add_mul];omega
theorem DY{l:List LT}(h:fC false l=l):∀(j:Nat)(t:LT),l[j]?=some t->t.setOwn false=t:=by
 induction l with
 |nil=>intro j t ht;simp at ht
 |cons u us c=>
  simp only[fC,List.cons.injEq]at h;intro j t ht;cases j with
  |zero=>simp at ht;subst ht;exact h.1
  |succ j=>exact c h.2 j t (by simpa using ht)
section
variable{P:Program}{w:World}{G:Gh}{st:St}{sl:Nat->Option Value}
theorem aBJ{ds c:List (Nat×Nat)}{b:Nat}(h:vU G ds b):vU G (ds++c) b:=by
 rcases h with h |⟨d,hd,h⟩
 ·exact .inl h
 ·exact .inr ⟨d,by simp[hd],h⟩
theorem v7{ds c:List (Nat×Nat)}{b:Nat}(h:vU G c b):vU G (ds++c) b:=by
 rcases h with h |⟨d,hd,h⟩
 ·exact .inl h
 ·exact .inr ⟨d,by simp[hd],h⟩
theorem Ii{okb:Nat->Prop}{o:Bool}{e:TypeId}{el:List LT}:yQ w okb (.sl o e el) (.slice none 0 0) (.l []):=
 ⟨none,0,0,rfl,rfl,Nat.le_refl _,Nat.zero_le _,λ_=>rfl,λad h=>by simp at h⟩
theorem ZZ{α:Type}{c:Bool}{x:M α}{s:String}{d:α}(h:(bif c then aG s else x)=some d):c=false/\x=some d:=by
 cases c with
 |true=>simp[aG]at h
 |false=>exact⟨rfl,h⟩
theorem aW{α:Type}{c:Bool}{x:M α}{s:String}{d:α}(h:(bif c then x else aG s)=some d):c=true/\x=some d:=by
 cases c with
 |false=>simp[aG]at h
 |true=>exact⟨rfl,h⟩
theorem I5(y:dI w G st sl){t:LT}{a:A}{v:Value}{r:Nm D}(h:JD st t a=some r)(ht:t.setOwn false=t)(g:dO w G st a v):
  r.os=[]/\(∀d,d∈r.ds->d.2<st.ctr)/\yQ w (vU G r.ds) t v r.x:=by
 unfold JD at h;split at h
 ·rename_i k C n;obtain⟨c,f⟩:=aW h;simp[ok]at f;subst f;have:=(fF k C).1 c;subst this;exact⟨rfl,by simp,g⟩
 ·simp[ok]at h;subst h;exact⟨rfl,by simp,g⟩
 ·simp[ok]at h;subst h;exact⟨rfl,by simp,g⟩
 ·simp[ok]at h;subst h;rw[show v=_ from g];exact⟨rfl,by simp,Ii⟩
 ·simp[LT.setOwn]at ht
 ·rename_i e el dep F H xs;obtain⟨c,f⟩:=aW h;simp[ok]at f;subst f;simp only[Bool.and_eq_true]at c;obtain⟨c,l,j⟩:=c;have:=iK _ _ j;subst this;exact⟨rfl,g.1,g.2 c⟩
 ·rename_i e el r' u p;obtain⟨q,c,f⟩:=bind_some h;obtain⟨l,j⟩:=aW f;simp[ok]at j;subst j;simp only[Bool.and_eq_true]at l;obtain⟨m,s⟩:=MT y g c;have:=iK _ _ l.2;subst this;exact⟨rfl,by simpa using m,s⟩
 ·simp[aG]at h
theorem WJ(s:dI w G st sl):∀{lv:List LT}{l:List A}{vs:List Value}{r:Nm (LD)},cN st lv l=some r->(∀(j:Nat)(t:LT),lv[j]?=some t->t.setOwn false=t)->eZ w G st l vs->
  r.os=[]/\(∀d,d∈r.ds->d.2<st.ctr)/\r.x.length=lv.length/\vs.length=lv.length/\∀(j:Nat)(t:LT)(v:Value),lv[j]?=some t->vs[j]?=some v->yQ w (vU G r.ds) t v (r.x.getD j (.i 0))
 |[],[],vs,r,h,_,hv=>by simp[cN,ok]at h;subst h;have:vs=[]:=hv;subst this;exact⟨rfl,by simp,rfl,rfl,by simp⟩
 |t::ts,a::as,vs,r,h,ht,⟨v,Q,e,hv,L⟩=>by
  simp only[cN]at h;obtain⟨p,H,J⟩:=bind_some h;obtain⟨q,K,m⟩:=bind_some J;simp[ok]at m;subst m;subst e;obtain⟨a1,a2,a3⟩:=I5 s H (ht 0 t rfl) hv;obtain⟨b1,b2,y,C,F⟩:=WJ s K (λj t c=>ht (j+1) t (by simpa using c)) L;refine⟨by simp[a1,b1],λd hd=>?_,by simp[y],by simp[C],λj P u c g=>?_⟩
  ·simp at hd;rcases hd with hd |hd
   ·exact a2 d hd
   ·exact b2 d hd
  ·cases j with
   |zero=>simp at c g;subst c;subst g;exact dA (λb f=>⟨aBJ f,rfl⟩) _ _ _ a3
   |succ j=>have:=F j P u (by simpa using c) (by simpa using g);simp only[List.getD_cons_succ];exact dA (λb f=>⟨v7 f,rfl⟩) _ _ _ this
 |[],_::_,_,_,h,_,_=>by simp[cN,aG]at h
 |_::_,[],_,_,h,_,_=>by simp[cN,aG]at h
theorem JM(f:dI w G st sl){lv:List LT}{l:List A}{vs:List Value}{r:List (Nat×Nat)×LD}(h:F4 st lv l=some r)(hf:∀(j:Nat)(t:LT),lv[j]?=some t->t.setOwn false=t)(hv:eZ w G st l vs):
  (∀d,d∈r.1->d.2<st.ctr)/\r.2.length=lv.length/\vs.length=lv.length/\∀(j:Nat)(t:LT)(v:Value),lv[j]?=some t->vs[j]?=some v->yQ w (vU G r.1) t v (r.2.getD j (.i 0)):=by
 obtain⟨p,e,c⟩:=bind_some h;simp[ok]at c;subst c;obtain⟨_,a2,a3,a4,a5⟩:=WJ f e hf hv;exact⟨a2,a3,a4,a5⟩
theorem V9{okb:Nat->Prop}{e:TypeId}{el:List LT}{b o n c:Nat}{vs:List Value}{xs:LD}(m:okb b)(r:n<=c)(y:c<=maxLen)(F:vs.length=n*el.length)(hx:xs.length=n*el.length)
  (s:∀(j:Nat)(v:Value),vs[j]?=some v->w.cell? ⟨b,o+j,none⟩=some v)(hv:∀(j:Nat)(t:LT)(v:Value),(Fu el n)[j]?=some t->vs[j]?=some v->yQ w okb t v (xs.getD j (.i 0)))(C:Bool):
  yQ w okb (.sl C e el) (.slice (some ⟨b,o,none⟩) n c) (.l (GX el.length n xs)):=by
 refine⟨_,n,c,rfl,RW _ _ _,r,y,by simp,λad d G=>?_⟩;injection d with d;subst d;refine⟨rfl,λi f=>?_⟩;have e1:(D.l (GX el.length n xs)).els.getD i (.i 0)=zS (kL el.length (xs.drop (i*el.length))):=Ih _ n xs i f;rw[e1];have u:(i+1)*el.length<=n*el.length:=Nat.mul_le_mul_right _ f;rw[Nat.add_mul,Nat.one_mul]at u;refine Sj m el 0 (λj t ht=>?_);have g:j<el.length:=(List.getElem?_eq_some_iff.1 ht).1;have h:i*el.length+j<vs.length:=by omega
 refine⟨vs[i*el.length+j],?_,?_⟩
 ·have:=s (i*el.length+j) vs[i*el.length+j] (by simp[h]);simpa[Nat.add_assoc]using this
 ·have:=hv (i*el.length+j) t vs[i*el.length+j] (by rw[WH el n i j f g,ht]) (by simp[h]);rw[Nat.zero_add,JL (by rw[mW];simp;omega) j g];have l:(kL el.length (xs.drop (i*el.length))).getD j (.i 0)=xs.getD (i*el.length+j) (.i 0):=by
   rw[mW];simp only[List.getD,List.getElem?_take,List.getElem?_drop,if_pos g]
  rw[l];exact this
theorem Do(l:List A):∀n:Nat,(F6 l n).length=n*l.length
 |0=>by simp[F6]
 |n+1=>by simp[F6,Do l n,Nat.add_mul];omega
theorem MX{l m:List A}{vs us:List Value}(h:eZ w G st l vs)(k:eZ w G st m us):eZ w G st (l++m) (vs++us):=by
 induction l generalizing vs with
 |nil=>have:vs=[]:=h;subst this;exact k
 |cons a l e=>obtain⟨v,f,rfl,c,d⟩:=h;exact⟨v,f++us,rfl,c,e d⟩
def sE(l:List Value):Nat->List Value
 |0=>[]
 |n+1=>l++sE l n
theorem Ij{l:List A}{vs:List Value}(h:eZ w G st l vs):∀n:Nat,eZ w G st (F6 l n) (sE vs n)
 |0=>rfl
 |n+1=>MX h (Ij h n)
theorem uZ(l:List Value):∀n:Nat,(sE l n).length=n*l.length
 |0=>by simp[sE]
 |n+1=>by simp[sE,uZ l n,Nat.add_mul];omega
theorem WK(l:List Value):∀(n i:Nat),i<n*l.length->(sE l n)[i]?=l[i%l.length]?
 |0,i,h=>by simp at h
 |n+1,i,h=>by
  rw[sE];by_cases c:i<l.length
  ·rw[List.getElem?_append_left c,Nat.mod_eq_of_lt c]
  ·rw[List.getElem?_append_right (by omega),WK l n (i-l.length) (by rw[Nat.add_mul]at h;omega),<-Nat.mod_eq_sub_mod (by omega)]
theorem Pa(z:Array Value)(n:Nat):(⟨sE z.toList n⟩:Array Value)=(Array.range (n*z.size)).map (z[·%z.size]!):=by
 apply Array.ext';apply List.ext_getElem?;intro i;by_cases c:i<n*z.size
 ·have f:0<z.size:=Nat.pos_of_ne_zero (λh=>by rw[h]at c;simp at c);have:=WK z.toList n i (by simpa using c);simp only[this];have e:i%z.size<z.size:=Nat.mod_lt _ f;simp[Array.toList_map,c,e,Array.getElem!_eq_getD]
 ·have d:(sE z.toList n)[i]?=none:=List.getElem?_eq_none (by rw[uZ];simp;omega);simp only[d];rw[List.getElem?_eq_none (by simp;omega)]
theorem DZ(J:dI w G st sl){act:Act}{t:TypeId}{ti e:TI}(K:lW P t ti)(m:lW P ti.e e)(T:ti.sl=true){c:Nat}{parts:Array (Nat×Operand)}(hx:∀p∈parts.toList,dO w G st (eR st.sl p.2) (act.eval p.2))
  (a4:c*e.lv.length<=16777216){l:List A}(L:cellsOf st c parts e=some l):
  ∃g:Array Value,(Instr.buildSlice t c (parts.map λ(i,x)=>(i,act.eval x))).run P w=.ok (.slice (some ⟨w.heap.size,0,none⟩) c c) (w.alloc (.cells g ti.e))/\eZ w G st l g.toList/\l.length=c*e.lv.length:=by
 obtain⟨i0,e1,V,W⟩:=K.sl T;obtain⟨d,i,z,Y,F,a0,a1,H,r,a2,a3⟩:=m.ex;have v:z.cells.size=e.lv.length:=by
  have:z.cells.toList.length=e.lv.length:=by rw[r];simp
  simpa using this
 have U:eZ w G st (F6 (JB e.lv) c) (sE z.cells.toList c):=by rw[r];exact Ij (GD _) c
 obtain⟨g,f,y,C⟩:=GC J (act:=act) (place:=ZK e.lv.length) (mp:=λj=>some (j*e.lv.length,e.lv.length)) (λj q u=>by simp[ZK,ok]at u;rw[u]) parts.toList _ ⟨sE z.cells.toList c⟩ l hx U L;refine⟨g,?_,y,by rw[C,Do,RU]⟩;rw[Pa]at f;rw[v]at f;have s:(parts.map λ(i,x)=>(i,act.eval x)).toList=parts.toList.map λ(i,x)=>(i,act.eval x):=by simp
 have Q:¬(c*e.lv.length>2^24):=by omega
 by_cases h:c*e.lv.length=0
 ·rw[h]at f;simp only[Array.range_zero',List.map_nil,Array.map_empty]at f;simp only[Instr.buildSlice,Sem.run_bind,run_underlying e1,Result.andThen_ok,m.sizeOf,h,if_true,s];simp[f,newRow,show Array.range 0=#[]from rfl]
 ·simp only[Instr.buildSlice,Sem.run_bind,run_underlying e1,Result.andThen_ok,m.sizeOf,h,if_false,if_neg Q,s,zeroValue,typeInfo];simp[F,H,v,f,newRow]
theorem aBK(m:dI w G st sl){act:Act}{t:TypeId}{ti c:TI}(a1:lW P t ti)(L:lW P ti.e c){f:Nat}{parts:Array (Nat×Operand)}(hx:∀p∈parts.toList,dO w G st (eR st.sl p.2) (act.eval p.2)){d:Nat}{r:A}
  (h:aE5 st f parts ti c=some r):I3 P w G st sl act d (.buildSlice t f parts) (.val r):=by
 intro ot a4;obtain⟨g,V⟩:=aW h;simp only[Bool.and_eq_true]at g;obtain⟨l,W,Y⟩:=bind_some V;obtain⟨p,a0,J⟩:=bind_some Y;simp[ok]at J;subst J;have a3:=Nat.le_of_ble_eq_true g.2.2;obtain⟨y,Q,T,a6⟩:=DZ m a1 L g.1 hx a3 W;have a5:∀(j:Nat)(t:LT),(Fu c.lv f)[j]?=some t->t.setOwn false=t:=λj t ht=>by
  have s:j<f*c.lv.length:=by have:=(List.getElem?_eq_some_iff.1 ht).1;rwa [AI]at this
  have u:0<c.lv.length:=Nat.pos_of_ne_zero (λh=>by rw[h]at s;simp at s);have e:=Nat.div_add_mod j c.lv.length;have a2:j/c.lv.length<f:=Nat.div_lt_of_lt_mul (by rw[Nat.mul_comm];exact s);have:=WH c.lv f (j/c.lv.length) (j%c.lv.length) a2 (Nat.mod_lt _ u);rw[Nat.mul_comm,e,ht]at this;exact DY L.lvF _ t this.symm
 obtain⟨C,F,H,U⟩:=JM m a0 a5 T;rw[AI]at F H;let o:Obj:=.cells y ti.e
 have K:=Le.alloc m o .fz;refine⟨.value (.slice (some ⟨w.heap.size,0,none⟩) f f),_,w.alloc o,G.tag w.heap.size .fz,?_,.inl rfl,HQ.alloc _ _,Fr.alloc w G o .fz,K,m.alloc o .fz,?_⟩
 ·simp[execOp,a4,Q];rfl
 ·refine⟨C,λhd=>?_⟩;obtain⟨_,u⟩:=K.depOk C hd;refine V9 (vs:=y.toList) (.inl (by simp[Gh.tag])) (Nat.le_refl _) ?_ (by rw[H]) (by rw[F]) (λj v hv=>?_) (λj t v ht hv=>?_) false
  ·have:=Nat.le_of_ble_eq_true g.2.1;unfold maxLen;omega
  ·rw[Nat.zero_add,World.cell?_alloc_new];simpa using hv
  ·exact dA u _ _ _ (U j t v ht hv)
end
def qM{α:Type}(l:List α)(i:Nat)(vs:List α):List α:=l.take i++vs++l.drop (i+vs.length)
theorem vY{α:Type}{l vs:List α}{i:Nat}(h:i+vs.length<=l.length)(k:Nat):(qM l i vs)[k]?=if i<=k/\k<i+vs.length then vs[k-i]?else l[k]?:=by
 unfold qM;by_cases c:k<i
 ·rw[List.append_assoc,List.getElem?_append_left (by simp;omega),List.getElem?_take,if_pos c,if_neg (by omega)]
 ·by_cases d:k<i+vs.length
  ·rw[List.append_assoc,List.getElem?_append_right (by simp;omega),List.getElem?_append_left (by simp;omega),if_pos (by omega)];congr 1;simp;omega
  ·rw[List.getElem?_append_right (by simp;omega),List.getElem?_drop,if_neg (by omega)];congr 1;simp;omega
theorem vA{α:Type}{l vs:List α}{i:Nat}(h:i+vs.length<=l.length):(qM l i vs).length=l.length:=by simp[qM];omega
theorem MY:∀(as l:List A)(j k:Nat),j+as.length<=l.length->(vO l j as)[k]?=if j<=k/\k<j+as.length then as[k-j]?else l[k]?
 |[],l,j,k,_=>by rw[if_neg (by simp)];rfl
 |a::as,l,j,k,h=>by
  simp only[List.length_cons]at h;rw[vO,MY as (l.set j a) (j+1) k (by simp;omega)];by_cases c:j+1<=k/\k<j+1+as.length
  ·rw[if_pos c,if_pos (by simp;omega)];rw[show k-j=k-(j+1)+1 by omega];simp
  ·rw[if_neg c,List.getElem?_set];by_cases d:j=k
   ·subst d;simp;omega
   ·rw[if_neg d,if_neg (by simp;omega)]
section
variable{P:Program}{w w':World}{G:Gh}{st:St}{sl:Nat->Option Value}{act:Act}
theorem JN(e:dI w G st sl){l:List A}{vs:List Value}(g:jT st l=true)(h:eZ w G st l vs):∀v,v∈vs->v.oneCell'=true:=by
 intro v hv;obtain⟨j,f,rfl⟩:=List.getElem_of_mem hv;obtain⟨m,d⟩:=dG.1 h;have c:j<l.length:=by omega
 exact(RR e (RT g l[j] (List.getElem_mem c)) (d j _ _ (by simp[c]) (by simp[f]))).2
theorem Le.heap(c:∀b,(G.own b=.fz\/∃r p,G.own b=.arr r p)->w'.heap[b]?=w.heap[b]?):Le w G st w' G st:=
 ⟨Nat.le_refl _,λr u p a' _ h=>⟨a',h,rfl,rfl,rfl,λh=>h⟩,λb f _ h=>⟨f,h,rfl,rfl⟩,λr a' _ h=>⟨a',h,rfl,λb p d=>⟨⟨p,d⟩,c b (.inr ⟨r,p,d⟩)⟩⟩,λb e=>⟨e,c b (.inl e)⟩⟩
theorem Le.bxPut{b:Nat}{x:Bx}(hx:look st.bx b=some x)(lv:List A):Le w G st w G {st with bx:=qD st.bx b {uid:=x.uid,lv:=lv}}:=by
 refine⟨Nat.le_refl _,λr u p a' _ h=>⟨a',h,rfl,rfl,rfl,λh=>h⟩,λb' f _ h=>?_,λr a' _ h=>⟨a',h,rfl,λb p c=>⟨⟨p,c⟩,rfl⟩⟩,λb d=>⟨d,rfl⟩⟩;simp only[bQ]at h;split at h
 ·rename_i e;subst e;injection h with h;subst h;exact⟨x,hx,rfl,rfl⟩
 ·exact⟨f,h,rfl,rfl⟩
theorem Sk(f:dI w G st sl){b u off:Nat}{l:List A}{vs:List Value}{s:St}(h:Rl st b u off l=some s)(K:eZ w G st l vs):
  ∃w',(∀P:Program,(storeCells ⟨(G.B b).1,(G.B b).2 +off,none⟩ vs).run P w=.ok () w')/\Fr w G w' G/\Le w G st w' G s/\dI w' G s sl:=by
 obtain⟨lv,W,b3⟩:=bind_some h;obtain⟨x,C,V,b0⟩:=fX W;subst b0;obtain⟨J,b4⟩:=jR b3;subst b4;simp only[Bool.and_eq_true]at J;have d0:=Nat.le_of_ble_eq_true J.2;obtain⟨c3,a5,b7⟩:=f.boxes b x C;obtain⟨cs,e,a6,c4,c5⟩:=b7.cells (vV W C);have d1:=(dG.1 K).1;have Q:(G.B b).2 +off+vs.length<=cs.toList.length:=by simp;omega
 let g:Array Value:=(qM cs.toList ((G.B b).2 +off) vs).toArray
 let w':World:=w.setRow (G.B b).1 g
 have H:∀k,k≠(G.B b).1 ->w'.heap[k]?=w.heap[k]?:=λk c=>setRow_other w (G.B b).1 k g c;have c2:w'.heap[(G.B b).1]?=some (.cells g e (0,0)):=setRow_heap w (G.B b).1 cs g e (0,0) a6;have L:∀k,G.own k≠.box->k≠(G.B b).1 :=λk c e=>c (by rw[e];exact a5);have b5:Le w G st w' G st:=Le.heap (λk c=>H k (L k (by rcases c with c |⟨r,p,c⟩<;>rw[c]<;>simp)));have F:Le w G st w' G {st with bx:=qD st.bx b {uid:=u,lv:=vO x.lv off l}}:=by subst V;exact b5.trans (Le.bxPut C _)
 refine⟨w',λP=>?_,⟨rfl,rfl,rfl,by simp[w'],λk _ c=>⟨H k (L k (by rcases c with c |c<;>rw[c]<;>simp)),rfl⟩,λ_ _ _=>rfl⟩,F,?_⟩
 ·have:=run_storeCells_at (P:=P) (G.B b).1 ((G.B b).2 +off) e vs 0 cs w a6 (by simpa using Q) (JN f J.1 K);simpa[w',g,qM]using this
 ·refine f.step F (λt v hv=>dS F _ _ (f.slots t v hv)) (λb' m d=>?_) (λb1 b2 c8 c9 e1 U c1=>?_)
   (λr a b6=>.inl ⟨b6,λ_=>rfl,λk p a4=>⟨a4,H k (L k (by rw[a4];simp))⟩⟩) (λk c=>by simp[w'];exact f.live k c) f.hdr
  ·simp only[bQ]at d;split at d
   ·rename_i y;subst y;injection d with d;subst d;right;refine⟨by subst V;exact c3,a5,lG.of_cells rfl ⟨g,e,c2,?_,λj a1=>?_⟩⟩
    ·simp only[qR];show _<=(qM cs.toList ((G.B b').2 +off) vs).length;rw[vA Q];simpa using c4
    ·simp only[qR]at a1;have c0:g[(G.B b').2 +j]?=(qM cs.toList ((G.B b').2 +off) vs)[(G.B b').2 +j]?:=by simp[g]
     rw[c0,vY Q];simp only[List.getD,MY l x.lv off j (by omega)];by_cases a0:off<=j/\j<off+l.length
     ·rw[if_pos a0,if_pos (by omega)];have a2:j-off<vs.length:=by omega
      refine⟨vs[j-off],by rw[show(G.B b').2 +j-((G.B b').2 +off)=j-off by omega];simp[a2],?_⟩;exact dS F _ _ ((dG.1 K).2 (j-off) _ _ (by simp[show j-off<l.length by omega]) (by simp[a2]))
     ·rw[if_neg a0,if_neg (by omega)];obtain⟨v,T,a7⟩:=c5 j a1;exact⟨v,by simpa using T,dS F _ _ a7⟩
   ·rename_i y;obtain⟨d3,c7,_⟩:=f.boxes b' m d;by_cases Y:(G.B b').1 =(G.B b).1
    ·exact absurd Y.symm (f.apartB b b' x m C d (Ne.symm y))
    ·exact .inl ⟨d,rfl,H _ Y,c7⟩
  ·simp only[bQ]at e1 U;have a3:∀(b':Nat)(m:Bx),(if b'=b then some {uid:=u,lv:=vO x.lv off l}else look st.bx b')=some m->∃a9,look st.bx b'=some a9/\m.lv.length=a9.lv.length:=λb' m d=>by
    split at d
    ·rename_i y;injection d with d;subst d;exact⟨x,by rw[y];exact C,by simp[qR]⟩
    ·exact⟨m,d,rfl⟩
   obtain⟨y1,T,a7⟩:=a3 b1 c8 e1;obtain⟨y2,c6,d2⟩:=a3 b2 c9 U;exact f.apartB b1 b2 y1 y2 T c6 c1
end
theorem SU:∀(l:LD)(j:Nat)(c:D)(d:Nat),(cP l j c).getD d (.i 0)=if d=j then c else l.getD d (.i 0)
 |[],0,c,0=>rfl
 |[],0,c,d+1=>rfl
 |[],j+1,c,0=>rfl
 |[],j+1,c,d+1=>by
  rw[cP,List.getD_cons_succ,SU [] j c d];by_cases h:d=j
  ·subst h;simp
  ·rw[if_neg h,if_neg (by omega)];rfl
 |x::l,0,c,0=>rfl
 |x::l,0,c,d+1=>rfl
 |x::l,j+1,c,0=>rfl
 |x::l,j+1,c,d+1=>by
  rw[cP,List.getD_cons_succ,SU l j c d,List.getD_cons_succ];by_cases h:d=j
  ·subst h;simp
  ·rw[if_neg h,if_neg (by omega)]
theorem EA{k:Nat}{x d:D}{j c:Nat}(f:j<k)(g:c<k):lf k (rY k x j d) c=if c=j then d else lf k x c:=by
 unfold lf rY;by_cases e:k=1
 ·subst e;rw[if_pos (by omega)];simp[qE]
 ·simp only[qL e,cond_false];exact SU x.els j d c
theorem JO{w:World}{G:Gh}{S:List cQ}{r:Nat}{p:cQ}{i b o k:Nat}{x:D}:∀(ts:List LT)(c:Nat),(∀(j:Nat)(t:LT),ts[j]?=some t->∃v,w.cell? ⟨b,o+(c+j),none⟩=some v/\Xa w G S r t (p++[(i,c+j)]) v (lf k x (c+j)))->V7 w G S r ts p i b o k x c
 |[],_,_=>trivial
 |t::ts,c,h=>by
  refine⟨?_,JO ts (c+1) (λj t ht=>?_)⟩
  ·have:=h 0 t rfl;simpa using this
  ·have:=h (j+1) t (by simpa using ht);rwa [show c+(j+1)=c+1+j by omega]at this
theorem aFH{k i c j d:Nat}(m:j<k)(r:d<k)(h:¬(i=c/\j=d)):i*k+j≠c*k+d:=by
 intro e;have f:(i*k+j)/k=i:=by rw[Nat.mul_comm,Nat.mul_add_div (by omega),Nat.div_eq_of_lt m];omega
 have g:(c*k+d)/k=c:=by rw[Nat.mul_comm,Nat.mul_add_div (by omega),Nat.div_eq_of_lt r];omega
 have l:i=c:=by rw[<-f,e,g]
 subst l;exact h ⟨rfl,by omega⟩
theorem aBL{p q:cQ}{c d:Nat×Nat}(h:c≠d):¬(p++[c])<+:(p++d::q):=by rw[List.prefix_append_right_inj];intro e;obtain⟨t,ht⟩:=e;simp at ht;exact h ht.1
theorem I6{p q:cQ}(h:p<+:q):p.length<=q.length:=h.length_le
section
variable{w w':World}{G G':Gh}{S S':List cQ}{r:Nat}
structure aBM(w:World)(G:Gh)(S:List cQ)(r:Nat)(tgt:cQ)(w':World)(G':Gh)(S':List cQ):Prop where
 fz:∀b,G.own b=.fz->G'.own b=.fz/\w'.heap[b]?=w.heap[b]?
 H:∀q,¬tgt<+:q->G'.H r q=G.H r q
 own:∀q,¬tgt<+:q->∀b,G.own b=.arr r q->G'.own b=.arr r q/\w'.heap[b]?=w.heap[b]?
 stale:∀q,¬tgt<+:q->q∈S->q∈S'
 Htgt:G'.H r tgt=G.H r tgt
theorem jJ{p:cQ}{q:cQ}(h:q.length<p.length):¬p<+:q:=λc=>by have:=I6 c;omega
theorem aDR(p:cQ):∀(d:cQ)(e:TypeId)(el:List LT)(data:LD)(q:TypeId×List LT×LD)(f:LD->LD),aBM w G S r (d++p) w' G' S'->
  yV w G S r e el d (G.H r d) data->mT e el data p=some q->ZH el data p->(∀s,s∈S->d.length+p.length<s.length)->
  yV w' G' S' r q.1 q.2.1 (d++p) (G.H r (d++p)) (f q.2.2)->yV w' G' S' r e el d (G.H r d) (oY el data p f):=by
 induction p with
 |nil=>intro d e el data q f y W l _ _ ht;simp[mT]at l;subst l;simpa[oY]using ht
 |cons c p d0=>
  obtain⟨i,j⟩:=c;intro d e el data q f y W l J U ht;obtain⟨ad,n,a4,b3,b4,b5,b6,b7,c0⟩:=W;simp only[mT]at l;obtain⟨c4,J⟩:=J;cases m:el[j]?with
  |none=>simp[m]at l
  |some t=>
   cases t with
   |int k=>simp[m]at l
   |bool=>simp[m]at l
   |str=>simp[m]at l
   |sl own a5 K=>
    cases own with
    |false=>simp[m]at l
    |true=>
     simp only[m]at l J;have P:j<el.length:=(List.getElem?_eq_some_iff.1 m).1;have d2:0<n:=by omega
     have c9:¬(d++(i,j)::p)<+:d:=jJ (by simp);refine⟨ad,n,a4,b3,?_,b5,b6,b7,λa c1=>?_⟩
     ·simp only[oY,m];simpa using b4
     obtain⟨a7,a9,cs,a6,b0,b1,b2⟩:=c0 a c1;obtain⟨d1,Y⟩:=y.own d c9 a.block a9;refine⟨a7,d1,cs,a6,Y.trans b0,b1,λg c5=>?_⟩;have c2:(oY el data ((i,j)::p) f).getD g (.i 0)=if g=i then rY el.length (data.getD i (.i 0)) j (.l (oY K (lf el.length (data.getD i (.i 0)) j).els p f))else data.getD g (.i 0):=by
      simp only[oY,m,List.getD,List.getElem?_set];by_cases F:i=g
      ·subst F;simp[c4]
      ·rw[if_neg F,if_neg (Ne.symm F)]
     rw[c2];have c3:=CM (b2 g c5);refine JO el 0 (λu a3 H=>?_);have c6:u<el.length:=(List.getElem?_eq_some_iff.1 H).1;obtain⟨v,a0,T⟩:=c3 u a3 H;simp only[Nat.zero_add]at a0 T⊢;refine⟨v,(vS Y _).trans a0,?_⟩;by_cases L:g=i/\u=j
     ·obtain⟨rfl,rfl⟩:=L;rw[if_pos rfl,EA P P,if_pos rfl];rw[m]at H;injection H with H;subst H;have c8:d++[(g,u)]∉S:=λC=>by have:=U _ C;simp at this
      rcases vT.1 T with C |⟨a1,a2⟩
      ·exact absurd C c8
      ·refine vT.2 (.inr ⟨?_,?_⟩)
       ·rw[a1];by_cases V:p=[]
        ·subst V;exact y.Htgt.symm
        ·refine(y.H _ (jJ ?_)).symm;cases p with
         |nil=>exact absurd rfl V
         |cons _ _=>simp
       ·rw[a1]at a2⊢;have e1:d++(g,u)::p=(d++[(g,u)])++p:=by simp
        exact d0 (d++[(g,u)]) a5 K _ q f (by rw[<-e1];exact y) a2 l J (λs C=>by have:=U s C;simp at this⊢;omega) (by rw[<-e1];exact ht)
     ·have c7:lf el.length (if g=i then rY el.length (data.getD i (.i 0)) j (.l (oY K (lf el.length (data.getD i (.i 0)) j).els p f))else data.getD g (.i 0)) u=lf el.length (data.getD g (.i 0)) u:=by
       by_cases F:g=i
       ·subst F;rw[if_pos rfl,EA P c6,if_neg (λh=>L ⟨rfl,h⟩)]
       ·rw[if_neg F]
      rw[c7];have Q:∀s,¬(d++(i,j)::p)<+:(d++[(g,u)]++s):=λs=>by rw[List.append_assoc,List.prefix_append_right_inj];rintro⟨t,ht⟩;simp at ht;exact L ⟨ht.1.1.symm,ht.1.2.symm⟩
      exact WA y.fz a3 _ _ v _ (λs _=>.inr ⟨y.H _ (Q s),y.own _ (Q s)⟩) (λs C=>y.stale _ (Q s) C) T
structure JP(w:World)(G:Gh)(S:List cQ)(r:Nat)(tgt:cQ)(c:Nat×Nat)(w':World)(G':Gh)(S':List cQ):Prop where
 fz:∀b,G.own b=.fz->G'.own b=.fz/\w'.heap[b]?=w.heap[b]?
 H:∀q,¬(tgt++[c])<+:q->G'.H r q=G.H r q
 own:∀q,q≠tgt->¬(tgt++[c])<+:q->∀b,G.own b=.arr r q->G'.own b=.arr r q/\w'.heap[b]?=w.heap[b]?
 ownT:∀b,G.own b=.arr r tgt->G'.own b=.arr r tgt
 stale:∀q,¬(tgt++[c])<+:q->q∈S->q∈S'
theorem JP.row{tgt:cQ}{c:Nat×Nat}(h:JP w G S r tgt c w' G' S'):aBM w G S r tgt w' G' S':=by have f:∀q,¬tgt<+:q->¬(tgt++[c])<+:q:=λq d g=>d ((List.prefix_append _ _).trans g);exact⟨h.fz,λq d=>h.H q (f q d),λq d=>h.own q (λe=>d (by rw[e];exact List.prefix_refl _)) (f q d),λq d=>h.stale q (f q d),h.H tgt (jJ (by simp))⟩
theorem aDS{e:TypeId}{el:List LT}{tgt:cQ}{data:LD}{i j:Nat}{t:LT}{v:Value}{d:D}{b o n c:Nat}{cs l:Array Value}{L:TypeId}(H:JP w G S r tgt (i,j) w' G' S')
  (Y:G.H r tgt=.slice (some ⟨b,o,none⟩) n c)(c7:yV w G S r e el tgt (G.H r tgt) data)(a0:w.heap[b]?=some (.cells cs L (0,0)))(a4:w'.heap[b]?=some (.cells l L (0,0)))
  (c9:l.size=cs.size)(c1:i<data.length)(ht:el[j]?=some t)(c5:l[o+i*el.length+j]?=some v)(c6:∀m,m≠o+i*el.length+j->l[m]?=cs[m]?)
  (hv:Xa w' G' S' r t (tgt++[(i,j)]) v d):yV w' G' S' r e el tgt (G.H r tgt) (data.set i (rY el.length (data.getD i (.i 0)) j d)):=by
 obtain⟨ad,n',d0,W,b2,b3,b4,e1,b5⟩:=c7;have K:j<el.length:=(List.getElem?_eq_some_iff.1 ht).1;rw[Y]at W;injection W with a1 a2 a3;subst a1;subst a2;subst a3;refine⟨_,n,c,Y,by simpa using b2,b3,b4,by simp,λa P=>?_⟩;injection P with P;subst P;obtain⟨d3,T,d1,d2,F,U,V⟩:=b5 _ rfl;simp only at T F U V⊢;rw[a0]at F;injection F with F;injection F with b1 e0;subst b1;refine⟨trivial,H.ownT b T,l,L,a4,by rw[c9];exact U,λf c2=>?_⟩;have b7:(data.set i (rY el.length (data.getD i (.i 0)) j d)).getD f (.i 0)=if f=i then rY el.length (data.getD i (.i 0)) j d else data.getD f (.i 0):=by
  simp only[List.getD,List.getElem?_set];by_cases y:i=f
  ·subst y;simp[c1]
  ·rw[if_neg y,if_neg (Ne.symm y)]
 rw[b7];have c0:=CM (V f c2);refine JO el 0 (λg b0 C=>?_);have a6:g<el.length:=(List.getElem?_eq_some_iff.1 C).1;obtain⟨u,a7,a9⟩:=c0 g b0 C;simp only[Nat.zero_add]at a7 a9⊢;have a5:∀m,w'.cell? ⟨b,m,none⟩=l[m]?:=λm=>by simp[World.cell?,a4]
 have b6:∀m,w.cell? ⟨b,m,none⟩=cs[m]?:=λm=>by simp[World.cell?,a0]
 by_cases J:f=i/\g=j
 ·obtain⟨rfl,rfl⟩:=J;rw[if_pos rfl,EA K K,if_pos rfl];rw[ht]at C;injection C with C;subst C;exact⟨v,by rw[a5];exact c5,hv⟩
 ·refine⟨u,?_,?_⟩
  ·rw[a5,c6 _ (by have:=aFH a6 K J;omega),<-b6];exact a7
  ·have c3:lf el.length (if f=i then rY el.length (data.getD i (.i 0)) j d else data.getD f (.i 0)) g=lf el.length (data.getD f (.i 0)) g:=by
    by_cases y:f=i
    ·subst y;rw[if_pos rfl,EA K a6,if_neg (λh=>J ⟨rfl,h⟩)]
    ·rw[if_neg y]
   rw[c3];have Q:∀s,¬(tgt++[(i,j)])<+:(tgt++[(f,g)]++s):=λs=>by rw[List.append_assoc,List.prefix_append_right_inj];rintro⟨t,ht⟩;simp at ht;exact J ⟨ht.1.1.symm,ht.1.2.symm⟩
   have c4:∀s:cQ,tgt++[(f,g)]++s≠tgt:=λs e=>by have:=congrArg List.length e;simp at this
   exact WA H.fz b0 _ _ u _ (λs _=>.inr ⟨H.H _ (Q s),H.own _ (c4 s) (Q s)⟩) (λs c8=>H.stale _ (Q s) c8) a9
end
theorem HU(v:Nat):∀(n:Nat)(l:List Nat)(m:Nat),(yO v n l)[m]?=if m<n then l[m]?else(l[m]?).map λ_=>v
 |n,[],m=>by simp[yO]
 |0,x::l,0=>by simp[yO]
 |0,x::l,m+1=>by simp[yO,HU v 0 l m]
 |n+1,x::l,0=>by simp[yO]
 |n+1,x::l,m+1=>by simp[yO,HU v n l m]
theorem CP(v:Nat):∀(n:Nat)(l:List Nat),(yO v n l).length=l.length
 |_,[]=>by simp[yO]
 |0,x::l=>by simp[yO,CP v 0 l]
 |n+1,x::l=>by simp[yO,CP v n l]
theorem Pb{v:Nat}{n:Nat}{l:List Nat}{u:Nat}(h:u∈yO v n l):u=v\/u∈l:=by
 obtain⟨m,e,rfl⟩:=List.getElem_of_mem h;have c:=HU v n l m;rw[List.getElem?_eq_getElem e]at c;split at c
 ·exact .inr (List.mem_of_getElem? c.symm)
 ·cases d:l[m]?with
  |none=>simp[d]at c
  |some z=>simp[d]at c;exact .inl c
theorem W0(tgt:cQ):∀(e:TypeId)(el:List LT)(data:LD)(q:TypeId×List LT×LD)(f:LD->LD)(p':cQ),mT e el data tgt=some q->ZH el data tgt->ZH el data p'->
  (∀s,p'=tgt++s->ZH q.2.1 q.2.2 s->ZH q.2.1 (f q.2.2) s)->ZH el (oY el data tgt f) p':=by
 induction tgt with
 |nil=>intro e el data q f p' g _ d hf;simp[mT]at g;subst g;exact hf p' rfl d
 |cons c tgt W=>
  obtain⟨i,j⟩:=c;intro e el data q f p' g C d hf;cases p' with
  |nil=>exact trivial
  |cons c' a0=>
   obtain⟨r,v⟩:=c';simp only[mT]at g;obtain⟨P,C⟩:=C;obtain⟨Q,d⟩:=d;cases m:el[j]?with
   |none=>simp[m]at g
   |some t=>
    cases t with
    |int k=>simp[m]at g
    |bool=>simp[m]at g
    |str=>simp[m]at g
    |sl own H y=>
     cases own with
     |false=>simp[m]at g
     |true=>
      simp only[m]at g C;have F:j<el.length:=(List.getElem?_eq_some_iff.1 m).1;simp only[oY,m];refine⟨by simpa using Q,?_⟩;cases l:el[v]?with
      |none=>simp[l]at d
      |some a1=>
       have T:v<el.length:=(List.getElem?_eq_some_iff.1 l).1;cases a1 with
       |int k=>simp[l]at d
       |bool=>simp[l]at d
       |str=>simp[l]at d
       |sl Y a2 a3=>
        cases Y with
        |false=>simp[l]at d
        |true=>
         simp only[l]at d;simp only;have L:(data.set i (rY el.length (data.getD i (.i 0)) j (.l (oY y (lf el.length (data.getD i (.i 0)) j).els tgt f)))).getD r (.i 0)=if r=i then rY el.length (data.getD i (.i 0)) j (.l (oY y (lf el.length (data.getD i (.i 0)) j).els tgt f))else data.getD r (.i 0):=by
          simp only[List.getD,List.getElem?_set];by_cases u:i=r
          ·subst u;simp[P]
          ·rw[if_neg u,if_neg (Ne.symm u)]
         rw[L];by_cases G:r=i/\v=j
         ·obtain⟨rfl,rfl⟩:=G;rw[if_pos rfl,EA F F,if_pos rfl];rw[m]at l;injection l with l;injection l with _ J K;subst J;subst K;exact W H y _ q f a0 g C d (λs V=>hf s (by rw[V];rfl))
         ·have U:lf el.length (if r=i then rY el.length (data.getD i (.i 0)) j (.l (oY y (lf el.length (data.getD i (.i 0)) j).els tgt f))else data.getD r (.i 0)) v=lf el.length (data.getD r (.i 0)) v:=by
           by_cases u:r=i
           ·subst u;rw[if_pos rfl,EA F T,if_neg (λh=>G ⟨rfl,h⟩)]
           ·rw[if_neg u]
          rw[U];exact d
def sA:LT->Bool
 |.sl true _ _=>true
 |_=>false
theorem X0{el:List LT}{data:LD}{i j:Nat}{d:D}{s:cQ}(v:i<data.length){t:LT}(ht:el[j]?=some t)(h:ZH el data s)(H:sA t=false\/s=[]):
  ZH el (data.set i (rY el.length (data.getD i (.i 0)) j d)) s:=by
 cases s with
 |nil=>exact trivial
 |cons c s=>
  obtain⟨f,m⟩:=c;obtain⟨y,g⟩:=h;refine⟨by simpa using y,?_⟩;cases e:el[m]?with
  |none=>simp[e]at g
  |some K=>
   have F:m<el.length:=(List.getElem?_eq_some_iff.1 e).1;have C:j<el.length:=(List.getElem?_eq_some_iff.1 ht).1;cases K with
   |int k=>simp[e]at g
   |bool=>simp[e]at g
   |str=>simp[e]at g
   |sl J L P=>
    cases J with
    |false=>simp[e]at g
    |true=>
     simp only[e]at g;simp only;have u:(data.set i (rY el.length (data.getD i (.i 0)) j d)).getD f (.i 0)=if f=i then rY el.length (data.getD i (.i 0)) j d else data.getD f (.i 0):=by
      simp only[List.getD,List.getElem?_set];by_cases l:i=f
      ·subst l;simp[v]
      ·rw[if_neg l,if_neg (Ne.symm l)]
     rw[u];by_cases r:f=i/\m=j
     ·obtain⟨rfl,rfl⟩:=r;rw[ht]at e;injection e with e;subst e;simp[sA]at H
     ·have G:lf el.length (if f=i then rY el.length (data.getD i (.i 0)) j d else data.getD f (.i 0)) m=lf el.length (data.getD f (.i 0)) m:=by
       by_cases l:f=i
       ·subst l;rw[if_pos rfl,EA C F,if_neg (λh=>r ⟨rfl,h⟩)]
       ·rw[if_neg l]
      rw[G];exact g
section
variable{w w':World}{G G':Gh}{st stg:St}{sl:Nat->Option Value}
theorem v8(y:dI w G st sl){r:Nat}{a:yN}(U:look st.ar r=some a){p:cQ}{i j:Nat}{d:D}{hdr:Bool}{q:TypeId×List LT×LD}{t:LT}
  (hg:stg.bx=st.bx/\stg.sl=st.sl/\stg.ctr=st.ctr)
  (P:∀r',r'≠r->∀a',look stg.ar r'=some a'->look st.ar r'=some a'/\(∀p,G'.H r' p=G.H r' p)/\∀b p,G.own b=.arr r' p->G'.own b=.arr r' p/\w'.heap[b]?=w.heap[b]?)
  (a0:∀b,G.own b=.box->G'.own b=.box/\w'.heap[b]?=w.heap[b]?)(J:∀b,G'.B b=G.B b)
  (a4:∀b,G.own b=.fz->G'.own b=.fz/\w'.heap[b]?=w.heap[b]?)(a1:∀s,¬(p++[(i,j)])<+:s->G'.H r s=G.H r s)(a2:hdr=false->∀s,G'.H r s=G.H r s)
  (b3:mT a.e a.el a.data p=some q)(a9:ZH a.el a.data p)(a6:i<q.2.2.length)(ht:q.2.1[j]?=some t)(a3:hdr=false->sA t=false)
  (b4:yV w' G' (bif hdr then[]else a.stale) r a.e a.el [] (G'.H r []) (oY a.el a.data p λdata=>data.set i (rY q.2.1.length (data.getD i (.i 0)) j d)))
  (b0:∀b,G'.own b≠.out->b<w'.heap.size)(a5:∀r p,∃a n c,G'.H r p=.slice a n c):
  Le w G st w' G' (setRow stg r a p i j q.2.1.length d hdr)/\dI w' G' (setRow stg r a p i j q.2.1.length d hdr) sl:=by
 obtain⟨H,W,c3⟩:=hg;obtain⟨c5,c6,C,c7⟩:=y.arrs r a U;have L:Le w G st w' G' (setRow stg r a p i j q.2.1.length d hdr):=by
  refine⟨by show st.ctr<=stg.ctr+1;omega,λr' u p' a' g f=>?_,λb T g hx=>⟨T,by rw[<-H];exact hx,rfl,J b⟩,λr' a' g f=>?_,a4⟩
  ·obtain⟨m,K,l⟩:=f;simp only[setRow,bQ]at m;split at m
   ·rename_i e;subst e;injection m with m;subst m;have key:jP a p'=u/\(hdr=true->p'.length<=p.length):=by
     cases p' with
     |nil=>exact⟨l,λ_=>Nat.zero_le _⟩
     |cons c c2=>
      cases hdr with
      |false=>exact⟨l,by simp⟩
      |true=>
       simp only[jP,cond_true,List.getD,HU]at l;simp only[List.length_cons]at K;split at l
       ·rename_i c4;exact⟨by simp only[jP,List.getD];exact l,λ_=>by simp;omega⟩
       ·have:c2.length<a.hv.length:=by rw[C.1];omega
        simp[this]at l;omega
    refine⟨a,⟨U,K,key.1⟩,rfl,rfl,?_,λa7=>?_⟩
    ·cases hdr with
     |false=>exact a2 rfl p'
     |true=>exact a1 p' (jJ (by have:=key.2 rfl;simp;omega))
    ·refine W0 p a.e a.el a.data q _ p' b3 a9 a7 (λs b5 b6=>X0 a6 ht b6 ?_);cases hdr with
     |false=>exact .inl (a3 rfl)
     |true=>right;have:=key.2 rfl;rw[b5]at this;simp at this;exact List.eq_nil_of_length_eq_zero (by omega)
   ·rename_i e;obtain⟨F,Q,_⟩:=P r' e a' m;exact⟨a',⟨F,K,l⟩,rfl,rfl,Q p',λh=>h⟩
  ·simp only[setRow,bQ]at f;split at f
   ·injection f with f;subst f;simp only at g;omega
   ·rename_i e;obtain⟨F,_,b7⟩:=P r' e a' f;exact⟨a',F,rfl,λb p b2=>by obtain⟨c0,c1⟩:=b7 b p b2;exact⟨⟨p,c0⟩,c1⟩⟩
 refine⟨L,y.step L (λt v hv=>?_) (λb x hx=>?_) (λb b' x T h Y b1=>?_) (λr' a' f=>?_) b0 a5⟩
 ·show dO _ _ _ (stg.sl.get t) _;rw[W];exact dS L _ _ (y.slots t v hv)
 ·have V:look st.bx b=some x:=by rw[<-H];exact hx
  obtain⟨F,Q⟩:=a0 _ (y.boxes b x V).2.1;exact .inl ⟨V,J b,Q,F⟩
 ·rw[J,J];exact y.apartB b b' x T (by rw[<-H];exact h) (by rw[<-H];exact Y) b1
 ·simp only[setRow,bQ]at f;split at f
  ·rename_i e;subst e;injection f with f;subst f;refine .inr ⟨?_,?_,⟨?_,λu g=>?_⟩,b4⟩
   ·show a.uid<stg.ctr+1;omega
   ·show stg.ctr<stg.ctr+1;omega
   ·cases hdr
    ·exact C.1
    ·simp only[cond_true,CP];exact C.1
   ·show u<stg.ctr+1;cases hdr with
    |false=>have:=C.2 u g;omega
    |true=>
     simp only[cond_true]at g;rcases Pb g with rfl |g
     ·omega
     ·have:=C.2 u g;omega
  ·rename_i e;exact .inl (P r' e a' f)
end
def Ik:cQ->cQ->Option cQ
 |[],s=>some s
 |_::_,[]=>none
 |c::p,d::s=>if c=d then Ik p s else none
theorem PV:∀(p s:cQ),Ik p (p++s)=some s
 |[],_=>rfl
 |c::p,s=>by simp[Ik,PV p s]
theorem SV:∀(p s:cQ),¬p<+:s->Ik p s=none
 |[],s,h=>absurd (List.nil_prefix) h
 |_::_,[],_=>rfl
 |c::p,d::s,h=>by
  simp only[Ik];split
  ·rename_i e;subst e;exact SV p s (λf=>h (by simpa using f))
  ·rfl
def Gh.into(G:Gh)(q r:Nat)(p:cQ):Gh:=
 {own:=λb=>match G.own b with
   |.arr c s=>if c=q then .arr r (p++s)else .arr c s
   |T=>T
  H:=λc s=>if c=r then(match Ik p s with|some s'=>G.H q s' |none=>G.H r s)else G.H c s
  B:=G.B}
section
variable{P:Program}{w w':World}{G G':Gh}{st:St}{sl:Nat->Option Value}
theorem I7(P:Program){g i:Nat}{c:Array Value}{t:TypeId}{v:Value}(hg:w.heap[g]?=some (.cells c t (0,0)))(h:i<c.size)(d:v.oneCell'=true):
  (store ⟨g,i,none⟩ v).run P w=.ok () (w.setRow g (c.setIfInBounds i v)):=by
 have e:w.cell? ⟨g,i,none⟩=some c[i]:=by simp[World.cell?,hg,h]
 have f:w.frozen? ⟨g,i,none⟩=false:=by simp[World.frozen?,hg]
 rw[run_store P w _ v _ d,e];simp[f,setCell_eq_setRow w g i c t (0,0) v hg]
structure WL(G:Gh)(st:St)(r u:Nat)(p:cQ)(k i:Nat)(b o:Nat):Prop where
 ex:∃a t,lP st r u p a/\WB a.e a.el p=some t/\ZH a.el a.data p/\k=t.2.length/\∃n c,G.H r p=.slice (some ⟨b,o,none⟩) n c/\i<n
theorem X1{p:cQ}{S:List cQ}(h:fill p S=true):S=[]\/S=[p]:=by
 unfold fill at h;split at h
 ·exact .inl rfl
 ·rename_i q;right;have:∀(a b:cQ),PN a b=true->a=b:=by
   intro a;induction a with
   |nil=>intro b e;cases b with
    |nil=>rfl
    |cons _ _=>simp[PN]at e
   |cons c a f=>
    intro b e;cases b with
    |nil=>simp[PN]at e
    |cons d b=>obtain⟨g,j⟩:=c;obtain⟨d1,l⟩:=d;simp only[PN,Bool.and_eq_true]at e;rw[Nat.eq_of_beq_eq_true e.1,Nat.eq_of_beq_eq_true e.2.1,f b e.2.2]
  rw[this p q h]
 ·simp at h
theorem Sl(U:dI w G st sl){r u k:Nat}{p:cQ}{i j:Nat}{b o:Nat}(c3:WL G st r u p k i b o){a:yN}{q:TypeId×List LT×LD}{t:LT}{v:Value}{d:D}{hdr:Bool}{stg:St}
  (K:lP st r u p a)(a5:∀s,s∈a.stale->p.length<s.length)(F:mT a.e a.el a.data p=some q)(ht:q.2.1[j]?=some t)(l:v.oneCell'=true)
  (hg:stg.bx=st.bx/\stg.sl=st.sl/\stg.ctr=st.ctr)
  (e2:∀r',r'≠r->∀a',look stg.ar r'=some a'->look st.ar r'=some a'/\(∀p,G'.H r' p=G.H r' p)/\∀b p,G.own b=.arr r' p->G'.own b=.arr r' p)
  (a3:∀b,G'.B b=G.B b)(L:∀b,(∀r p,G.own b≠.arr r p)->G'.own b=G.own b)(b0:∀b p,G.own b=.arr r p->G'.own b=.arr r p)(f4:∀b r p,G.own b=.arr r p->∃r' p',G'.own b=.arr r' p')
  (J:∀s,¬(p++[(i,j)])<+:s->G'.H r s=G.H r s)(c1:hdr=false->∀s,G'.H r s=G.H r s)
  (e0:hdr=true->∀s,s∈a.stale->(p++[(i,j)])<+:s)(c6:hdr=false->sA t=false)(c7:∀r p,∃a n c,G'.H r p=.slice a n c)
  (hv:∀w',(∀b,G.own b≠.arr r p->w'.heap[b]?=w.heap[b]?)->Xa w' G' (bif hdr then[]else a.stale) r t (p++[(i,j)]) v d):
  ∃w',(∀P:Program,(store ⟨b,o+i*k+j,none⟩ v).run P w=.ok () w')/\Fr w G w' G'/\Le w G st w' G' (setRow stg r a p i j q.2.1.length d hdr)/\dI w' G' (setRow stg r a p i j q.2.1.length d hdr) sl/\
   WL G' (setRow stg r a p i j q.2.1.length d hdr) r (jA (setRow stg r a p i j q.2.1.length d hdr) r p) p k i b o:=by
 obtain⟨a',f1,e1,Y,C,a0,n,c,T,b6⟩:=c3.ex;have:a'=a:=by have l:=e1.1;rw[K.1]at l;injection l with l;exact l.symm
 subst this;have Q:=HR F;rw[Y]at Q;have V:k=q.2.1.length:=by rw[a0];injection Q with Q;rw[Q]
 obtain⟨f7,f8,f9,b3⟩:=U.arrs r a' K.1;have W:=ZV b3 F C (λs h=>by have:=a5 s h;simp;exact this);simp only[List.nil_append]at W;have d0:=W;obtain⟨ad,n',c',b4,g0,g1,g2,g3,e6⟩:=W;rw[T]at b4;injection b4 with e3 e4 e5;subst e3;subst e4;subst e5;obtain⟨f2,a2,cs,b5,H,b7,f3⟩:=e6 _ rfl;simp only at a2 H b7;have f5:j<q.2.1.length:=(List.getElem?_eq_some_iff.1 ht).1;have a7:o+i*k+j<cs.size:=by have l:(i+1)*q.2.1.length<=c*q.2.1.length:=Nat.mul_le_mul_right _ (by omega);rw[Nat.add_mul,Nat.one_mul]at l;rw[V];omega
 have c9:∀m,m≠b->(w.setRow b (cs.setIfInBounds (o+i*k+j) v)).heap[m]?=w.heap[m]?:=λm g=>setRow_other w b m _ g;have d2:=setRow_heap w b cs (cs.setIfInBounds (o+i*k+j) v) b5 (0,0) H;have c8:∀m,G.own m≠.arr r p->m≠b:=λm g e=>g (by rw[e];exact a2);have y:∀m,G.own m≠.arr r p->(w.setRow b (cs.setIfInBounds (o+i*k+j) v)).heap[m]?=w.heap[m]?:=λm g=>c9 m (c8 m g);have a6:∀b',G.own b'=.fz->G'.own b'=.fz/\(w.setRow b (cs.setIfInBounds (o+i*k+j) v)).heap[b']?=w.heap[b']?:=λb' f=>⟨(L b' (by rw[f];simp)).trans f,y b' (by rw[f];simp)⟩;have a4:JP w G a'.stale r p (i,j) (w.setRow b (cs.setIfInBounds (o+i*k+j) v)) G' (bif hdr then[]else a'.stale):=by
  refine⟨a6,J,λs h f6 b' f=>⟨b0 b' s f,y b' (by rw[f];intro e;injection e with _ e;exact h e)⟩,λb' f=>b0 b' p f,λs h g=>?_⟩;cases hdr with
  |false=>exact g
  |true=>exact absurd (e0 rfl s g) h
 have d3:=aDS (e:=q.1) (d:=d) a4 T d0 H d2 (by simp) (by omega) ht (v:=v) (by rw[<-V];simp[a7]) (λm g=>by rw[<-V]at g;simp[Ne.symm g]) (hv _ y);have c0:G'.H r []=G.H r []:=J [] (jJ (by simp));have b2:=aDR p [] a'.e a'.el a'.data q (λdata=>data.set i (rY q.2.1.length (data.getD i (.i 0)) j d)) (by simpa using a4.row) b3 F C (λs h=>by have:=a5 s h;simp;exact this) (by simpa using d3);rw[<-c0]at b2;obtain⟨c2,c4⟩:=v8 U K.1 (stg:=stg) (d:=d) (hdr:=hdr) hg (λr' b1 a1 c5=>by
   obtain⟨e7,e9,f0⟩:=e2 r' b1 a1 c5;exact⟨e7,e9,λb' p' f=>⟨f0 b' p' f,y b' (by rw[f];intro e;injection e with e;exact b1 e)⟩⟩)
  (λb' f=>⟨(L b' (by rw[f];simp)).trans f,y b' (by rw[f];simp)⟩) a3 a6 J c1 F C (by omega) ht c6 b2
  (λb' f=>by rw[size_setRow];refine U.live b' (λa9=>f ?_);rw[L b' (by rw[a9];simp),a9]) c7
 refine⟨_,λP=>I7 P H a7 l,⟨rfl,rfl,rfl,by simp,λb' _ f=>⟨y b' (by rcases f with f |f<;>rw[f]<;>simp),L b' (by rcases f with f |f<;>rw[f]<;>simp)⟩,λb _ _=>a3 b⟩,c2,c4,?_⟩;refine⟨{a' with data:=oY a'.el a'.data p (λdata=>data.set i (rY q.2.1.length (data.getD i (.i 0)) j d)),stale:=bif hdr then[]else a'.stale,dv:=stg.ctr,hv:=bif hdr then yO stg.ctr p.length a'.hv else a'.hv},f1,⟨by simp[setRow,bQ],K.2.1,?_⟩,Y,?_,a0,n,c,?_,b6⟩
 ·simp[jA,setRow,bQ]
 ·exact W0 p a'.e a'.el a'.data q _ p F C C (λs h d1=>X0 (by omega) ht d1 (.inr (by
   have:=congrArg List.length h;simp at this;exact this)))
 ·rw[J p (jJ (by simp))];exact T
theorem WM(c:dI w G st sl){r u k:Nat}{p:cQ}{i j:Nat}{b o:Nat}(l:WL G st r u p k i b o){a:yN}{q:TypeId×List LT×LD}{t:LT}{v:Value}{d:D}
  (m:lP st r u p a)(y:∀s,s∈a.stale->p.length<s.length)(F:mT a.e a.el a.data p=some q)(ht:q.2.1[j]?=some t)(g:v.oneCell'=true)(f:sA t=false)
  (hv:∀w',(∀b,G.own b=.fz->w'.heap[b]?=w.heap[b]?)->yQ w' (λb=>G.own b=.fz) t v d):
  ∃w' G',(∀P:Program,(store ⟨b,o+i*k+j,none⟩ v).run P w=.ok () w')/\Fr w G w' G'/\Le w G st w' G' (setRow st r a p i j q.2.1.length d false)/\dI w' G' (setRow st r a p i j q.2.1.length d false) sl/\
   WL G' (setRow st r a p i j q.2.1.length d false) r (jA (setRow st r a p i j q.2.1.length d false) r p) p k i b o:=by
 obtain⟨w',h⟩:=Sl (G':=G) (stg:=st) (hdr:=false) c l (d:=d) m y F ht g ⟨rfl,rfl,rfl⟩ (λr' _ a' h=>⟨h,λ_=>rfl,λ_ _ h=>h⟩) (λ_=>rfl) (λ_ _=>rfl) (λ_ _ h=>h) (λb r p h=>⟨r,p,h⟩) (λ_ _=>rfl) (λ_ _=>rfl)
  (by simp) (λ_=>f) c.hdr (λw' H=>by
   have:=hv w' (λb C=>H b (by rw[C];simp));cases t with
   |int k=>exact this
   |bool=>exact this
   |str=>exact this
   |sl J e el=>
    cases J with
    |false=>exact this
    |true=>simp[sA]at f)
 exact⟨w',G,h⟩
theorem aBN(d:dI w G st sl)(q r:Nat)(p:cQ):∀e s,∃a n c,(G.into q r p).H e s=.slice a n c:=by
 intro e s;simp only[Gh.into];split
 ·split
  ·exact d.hdr _ _
  ·exact d.hdr _ _
 ·exact d.hdr _ _
theorem Sm(t:dI w G st sl){r u k:Nat}{p:cQ}{i j:Nat}{b o:Nat}(J:WL G st r u p k i b o){x:A}{v:Value}(hx:dO w G st x v){s:St}(h:wrLeaf st r u p i j x=some s):
  ∃w' G',(∀P:Program,(store ⟨b,o+i*k+j,none⟩ v).run P w=.ok () w')/\Fr w G w' G'/\Le w G st w' G' s/\dI w' G' s sl/\WL G' s r (jA s r p) p k i b o:=by
 obtain⟨a,c3,a4⟩:=bind_some h;have K:=eM c3;cases a5:LN p.length a.stale with
 |false=>simp[a5,aG]at a4
 |true=>
 have L:=ZU a5;simp only[a5,Bool.not_true,cond_false]at a4;obtain⟨q,c4,g⟩:=bind_some a4;have Q:mT a.e a.el a.data p=some q:=c4;split at g
 ·rename_i d2 d1 n e1;obtain⟨F,C⟩:=aW g;simp[ok]at C;subst C;have:=(fF d2 d1).1 F;subst this;obtain⟨b2,U⟩:=hx;subst b2;exact WM t J K L Q e1 rfl rfl (λw' _=>⟨rfl,U⟩)
 ·rename_i c0 e1;simp[ok]at g;subst g;have T:v=.bool c0:=hx;subst T;exact WM t J K L Q e1 rfl rfl (λw' _=>rfl)
 ·rename_i e2 e1;simp[ok]at g;subst g;obtain⟨b2,U⟩:=hx;subst b2;exact WM t J K L Q e1 rfl rfl (λw' _=>⟨rfl,U⟩)
 ·rename_i e el d3 e0 xs e1;obtain⟨F,C⟩:=aW g;simp[ok]at C;subst C;simp only[Bool.and_eq_true]at F;have:=iK _ _ F.2;subst this;have hf:=hx.2 rfl;have a3:v.oneCell'=true:=by obtain⟨a',n,c,e,_⟩:=hf;rw[e];rfl
  exact WM t J K L Q e1 a3 rfl (λw' a0=>dA (λb a6=>by have l:=(PR b).1 a6;exact⟨l,a0 b l⟩) _ _ _ hf)
 ·rename_i e el e1;simp[ok]at g;subst g;have T:v=.slice none 0 0:=hx;subst T;exact WM t J K L Q e1 rfl rfl (λw' _=>Ii)
 ·rename_i e el e1;obtain⟨F,C⟩:=jR g;subst C;have T:v=.slice none 0 0:=hx;subst T;have f:=X1 F;have c5:∀s,¬(p++[(i,j)])<+:s->(if s=p++[(i,j)]then Value.slice none 0 0 else G.H r s)=G.H r s:=λs f=>if_neg (λe=>f (by rw[e];exact List.prefix_refl _));obtain⟨w',a7⟩:=Sl (G':=G.hdr r (λs=>if s=p++[(i,j)]then .slice none 0 0 else G.H r s)) (stg:=st) (hdr:=true) t J (d:=.l []) K L Q e1 rfl ⟨rfl,rfl,rfl⟩
   (λr' a9 a' h=>⟨h,λ_=>by simp[Gh.hdr,a9],λ_ _ h=>h⟩) (λ_=>rfl) (λ_ _=>rfl) (λ_ _ h=>h) (λb r p h=>⟨r,p,h⟩)
   (λs f=>by simp only[Gh.hdr,if_true];exact c5 s f) (by simp)
   (λ_ s y=>by
    rcases f with f |f
    ·rw[f]at y;simp at y
    ·rw[f]at y;simp at y;rw[y];exact List.prefix_refl _) (by simp) (λV s=>by
    by_cases b0:V=r
    ·by_cases b7:s=p++[(i,j)]
     ·exact⟨none,0,0,by simp[Gh.hdr,b0,b7]⟩
     ·obtain⟨a',n',c',e⟩:=t.hdr r s;exact⟨a',n',c',by simp[Gh.hdr,b0,b7,e]⟩
    ·obtain⟨a',n',c',e⟩:=t.hdr V s;exact⟨a',n',c',by simp[Gh.hdr,b0,e]⟩) (λw' _=>vT.2 (.inr ⟨by simp[Gh.hdr],none,0,0,rfl,rfl,Nat.le_refl _,Nat.zero_le _,λ_=>rfl,by simp⟩))
  exact⟨w',_,a7⟩
 ·rename_i e el m e3 e1;cases Y:Nat.beq m r with
  |true=>simp[Y,aG]at g
  |false=>
   have b5:m≠r:=λe=>by rw[e,qE]at Y;simp at Y
   simp only[Y,cond_false]at g;obtain⟨H,F,C⟩:=bind_some g;obtain⟨a1,a2⟩:=aW C;have b4:=eM F;cases b1:H.stale with
   |cons _ _=>simp[b1,aG]at a2
   |nil=>
    simp only[b1]at a2;obtain⟨c1,c2⟩:=jR a2;subst c2;simp only[Bool.and_eq_true]at a1;have c7:=Nat.eq_of_beq_eq_true a1.1;have c8:=iK _ _ a1.2;have f:=X1 c1;obtain⟨_,U⟩:=hx;obtain⟨hv,_,_⟩:=U H b4;obtain⟨_,_,_,b6⟩:=t.arrs m H b4.1;rw[b1]at b6;have a3:v.oneCell'=true:=by obtain⟨a',n,c,e⟩:=t.hdr m [];rw[hv,e];rfl
    have b3:∀s,(G.into m r (p++[(i,j)])).H r (p++[(i,j)]++s)=G.H m s:=λs=>by simp only[Gh.into,if_true,PV]
    obtain⟨w',a7⟩:=Sl (G':=G.into m r (p++[(i,j)])) (stg:=st.gone m) (hdr:=true) t J (d:=.l H.data) K L Q e1 a3 ⟨rfl,rfl,rfl⟩
     (λr' a9 a' h=>by
      simp only[St.gone,nM]at h;split at h
      ·simp at h
      ·rename_i c9;exact⟨h,λ_=>by simp[Gh.into,a9],λb s a6=>by simp[Gh.into,a6,c9]⟩) (λ_=>rfl)
     (λb' l=>by
      cases W:G.own b' with
      |arr V s=>exact absurd W (l V s)
      |out=>simp[Gh.into,W]
      |fz=>simp[Gh.into,W]
      |box=>simp[Gh.into,W])
     (λb' s l=>by simp[Gh.into,l,Ne.symm b5])
     (λb' V s l=>by
      simp only[Gh.into,l];split
      ·exact⟨_,_,rfl⟩
      ·exact⟨_,_,rfl⟩)
     (λs f=>by simp only[Gh.into,if_true,SV _ _ f]) (by simp)
     (λ_ s y=>by
      rcases f with f |f
      ·rw[f]at y;simp at y
      ·rw[f]at y;simp at y;rw[y];exact List.prefix_refl _) (by simp) (aBN t m r _)
     (λw' a0=>by
      refine vT.2 (.inr ⟨?_,?_⟩)
      ·have:=b3 [];rw[List.append_nil]at this;rw[this];exact hv
      ·have d0:yV w' (G.into m r (p++[(i,j)])) [] r H.e H.el (p++[(i,j)]) (G.H m []) H.data:=by
        refine WG (r:=m) (p:=[]) (λb' l=>⟨by simp[Gh.into,l],a0 b' (by rw[l];simp)⟩) (λs _=>.inr ⟨b3 s,λb' l=>⟨?_,a0 b' ?_⟩⟩) (by simp) b6
        ·have c6:G.own b'=.arr m s:=by simpa using l
         simp[Gh.into,c6]
        ·rw[show G.own b'=.arr m s by simpa using l];intro e;injection e with e;exact b5 e
       rw[hv,<-c7,c8];exact d0)
    exact⟨w',_,a7⟩
 ·simp[aG]at g
theorem EB{r k:Nat}{p:cQ}{i b o off:Nat}:∀{l:List A}{vs:List Value}{w:World}{G:Gh}{st:St}{u:Nat}{s:St}(c:Nat),dI w G st sl->WL G st r u p k i b o->eZ w G st l vs->
  wrLeaves st r u p i (off+c) l=some s->∃w' G',(∀P:Program,(storeCells ⟨b,o+i*k+off,none⟩ vs c).run P w=.ok () w')/\Fr w G w' G'/\Le w G st w' G' s/\dI w' G' s sl/\WL G' s r (jA s r p) p k i b o
 |[],vs,w,G,st,u,s,c,f,d,g,h=>by have:vs=[]:=g;subst this;simp[wrLeaves,ok]at h;subst h;refine⟨w,G,λP=>rfl,Fr.refl w G,Le.refl w G st,f,?_⟩;obtain⟨a,t,e1,y⟩:=d.ex;exact⟨a,t,⟨e1.1,e1.2.1,by simp[jA,e1.1]⟩,y⟩
 |x::l,vs,w,G,st,u,s,c,f,d,⟨v,a1,e,hx,g⟩,h=>by subst e;simp only[wrLeaves]at h;obtain⟨s1,K,L⟩:=bind_some h;obtain⟨a2,a0,C,F,j,H,J⟩:=Sm f d hx K;obtain⟨Y,m,Q,T,U,V,W⟩:=EB (c+1) H J (pZ j _ _ g) (by rw[<-Nat.add_assoc];exact L);refine⟨Y,m,λP=>?_,F.trans T,j.trans U,V,W⟩;have:=C P;simp only[storeCells,Sem.run_bind,kE,<-Nat.add_assoc]at this⊢;rw[this];exact Q P
theorem I8{E:fM}(U:gY P E)(F:dI w G st sl){act:Act}{t:TypeId}{p x:Operand}(y:dO w G st (eR st.sl p) (act.eval p))(hx:dO w G st (eR st.sl x) (act.eval x)){d:Nat}{s:St}
  (h:((Ry E t).bind λn=>VO st n (eR st.sl p) (eR st.sl x))=some s):∀ot:Oper,ot.op=.store t p x->∃w' G',(execOp act.eval ot).run P w=.ok .skip w'/\Fr w G w' G'/\Le w G st w' G' s/\dI w' G' s sl:=by
 intro ot a4;obtain⟨n,j,T⟩:=bind_some h;have a6:(sizeOf t).run P w=.ok n w:=by
  unfold Ry at j;split at j
  ·rename_i ti a7;simp[ok]at j;subst j;exact(U.types t ti a7).sizeOf
  ·obtain⟨e,l,m⟩:=bind_some j;simp[ok]at m;subst m;obtain⟨i,C,g⟩:=(U.ptrs t e l).2;simp[sizeOf,typeInfo,C,g]
 unfold VO at T;obtain⟨l,m⟩:=aW T;simp only[Bool.and_eq_true]at l;obtain⟨hv,f⟩:=qQ m;have b4:=Nat.eq_of_beq_eq_true l.2;obtain⟨vs,C,g⟩:=JK F l.1 hx;have b6:=(dG.1 g).1;have W:∀(a:Addr)(w':World),act.eval p=.pointer (some a)->(storeCells a vs).run P w=.ok () w'->(execOp act.eval ot).run P w=.ok .skip w':=λa w' v a5=>by
  have b5:¬((⟨vs⟩:Array Value).size≠n):=by simp;omega
  simp[execOp,a4,Instr.storeAt,v,Instr.sureAddr,storeVar,C,a6,a5];omega
 cases H:eR st.sl p with
 |pb b u off=>rw[H]at f y;simp only[ZJ]at f;obtain⟨w',J,K,L,Q⟩:=Sk F f g;obtain⟨lv,a9,_⟩:=bind_some f;obtain⟨b3,b0,b1,_⟩:=fX a9;have:=y.2 b3 b0 b1;exact⟨w',G,W _ w' this (J P),K,L,Q⟩
 |pa r u q k i off=>
  rw[H]at f y hv;simp only[ZJ]at f;simp only[jM]at hv;cases v:jL st r u q with
  |none=>simp[v]at hv
  |some a=>have V:=eM v;obtain⟨b2,e1,Y,a0,b,o,n',c,a1,a2,a3⟩:=y.2 a V;obtain⟨w',G',J,K,L,Q,_⟩:=EB (off:=off) 0 F ⟨a,b2,V,e1,Y,a0,n',c,a1,a2⟩ g f;exact⟨w',G',W _ w' a3 (J P),K,L,Q⟩
 |_=>rw[H]at f;simp[ZJ,aG]at f
end
theorem X2(u n:Nat)(h:n<4):(ZI u).getD n 0=u:=by
 match n,h with
 |0,_=>rfl
 |1,_=>rfl
 |2,_=>rfl
 |3,_=>rfl
 |n+4,h=>omega
section
variable{P:Program}{w w':World}{G G':Gh}{st stg:St}{sl:Nat->Option Value}
theorem Il{r d:Nat}{p:cQ}{e e1:TypeId}{el:List LT}{v:Value}{data data':LD}{l n' c' b' o':Nat}{f:Array Value}{s:TypeId}
  (a6:yV w G [] r e el p v data)(a2:data'.length=n')(b5:l+n'<=data.length)(Y:∀i,i<n'->data'.getD i (.i 0)=data.getD (l+i) (.i 0))
  (V:n'<=c')(a4:c'<=maxLen)(F:w'.heap[b']?=some (.cells f s (0,0)))(a5:G'.own b'=.arr d [])(a9:o'+c'*el.length<=f.size)
  (W:∀b o n c,v=.slice (some ⟨b,o,none⟩) n c->∀m,m<n'*el.length->f[o'+m]?=(w.cell? ⟨b,o+l*el.length+m,none⟩))
  (a1:∀b,G.own b=.fz->G'.own b=.fz/\w'.heap[b]?=w.heap[b]?)
  (a7:∀i j q,i<n'->G'.H d ((i,j)::q)=G.H r (p++(l+i,j)::q)/\∀b,G.own b=.arr r (p++(l+i,j)::q)->G'.own b=.arr d ((i,j)::q)/\w'.heap[b]?=w.heap[b]?):
  yV w' G' [] d e1 el [] (.slice (some ⟨b',o',none⟩) n' c') data':=by
 obtain⟨a,n,c,Q,b1,b2,b3,T,U⟩:=a6;refine⟨_,n',c',rfl,a2,V,a4,by simp,λad g=>?_⟩;injection g with g;subst g;refine⟨rfl,a5,f,s,F,a9,λi h=>?_⟩;cases a with
 |none=>have:=T rfl;omega
 |some ad=>
  obtain⟨y,K,cs,b0,L,P,C⟩:=U ad rfl;obtain⟨b,o,b6⟩:=ad;simp only at y;subst y;simp only at K L P C⊢;have a0:=CM (C (l+i) (by omega));refine JO el 0 (λj t ht=>?_);have b4:j<el.length:=(List.getElem?_eq_some_iff.1 ht).1;obtain⟨u,H,J⟩:=a0 j t ht;simp only[Nat.zero_add]at H J⊢;refine⟨u,?_,?_⟩
  ·have a3:i*el.length+j<n'*el.length:=by
    have:(i+1)*el.length<=n'*el.length:=Nat.mul_le_mul_right _ h;rw[Nat.add_mul,Nat.one_mul]at this;omega
   have:=W b o n c Q _ a3;have hx:w'.cell? ⟨b',o'+i*el.length+j,none⟩=f[o'+(i*el.length+j)]?:=by simp[World.cell?,F,Nat.add_assoc]
   rw[hx,this,<-H,Nat.add_mul];congr 2;omega
  ·rw[Y i h];refine WA a1 t (p++[(l+i,j)]) ([]++[(i,j)]) u _ (λq _=>.inr ?_) (by simp) J;have:=a7 i j q h;simpa using this
structure aGM(w:World)(G:Gh)(st:St)(w':World)(G':Gh)(stg:St)(r:Nat)(a':yN):Prop where
 ex:∃a,look st.ar r=some a/\a'.e=a.e/\a'.el=a.el/\a'.uid<stg.ctr/\(a'.hv.length=4/\∀u,u∈a'.hv->u<stg.ctr)/\a'.dv<stg.ctr/\st.ctr<=a'.dv/\
  (∀u p,u<st.ctr->p.length<=4->jP a' p=u->jP a p=u/\G'.H r p=G.H r p/\(ZH a.el a.data p->ZH a'.el a'.data p))/\yV w' G' a'.stale r a'.e a'.el [] (G'.H r []) a'.data
theorem iP(L:dI w G st sl){d:Nat}{e:TypeId}{el:List LT}{data:LD}(hg:stg.bx=st.bx/\stg.sl=st.sl/\st.ctr<=stg.ctr)
  (T:∀r,r≠d->∀a,look stg.ar r=some a->(look st.ar r=some a/\(∀p,G'.H r p=G.H r p)/\∀b p,G.own b=.arr r p->G'.own b=.arr r p/\w'.heap[b]?=w.heap[b]?)\/aGM w G st w' G' stg r a)
  (a9:∀b,G.own b=.box->G'.own b=.box/\w'.heap[b]?=w.heap[b]?)(K:∀b,G'.B b=G.B b)
  (b0:∀b,G.own b=.fz->G'.own b=.fz/\w'.heap[b]?=w.heap[b]?)(b4:yV w' G' [] d e el [] (G'.H d []) data)
  (b2:∀b,G'.own b≠.out->b<w'.heap.size)(b1:∀r p,∃a n c,G'.H r p=.slice a n c):
  Le w G st w' G' (stg.newArr d e el data)/\dI w' G' (stg.newArr d e el data) sl:=by
 obtain⟨F,a6,b6⟩:=hg;have Q:Le w G st w' G' (stg.newArr d e el data):=by
  refine⟨by show st.ctr<=stg.ctr+1;omega,λr u p a' g f=>?_,λb a3 g hx=>⟨a3,by rw[<-F];exact hx,rfl,K b⟩,λr a' g f=>?_,b0⟩
  ·obtain⟨s,H,J⟩:=f;simp only[St.newArr,bQ]at s;split at s
   ·injection s with s;subst s;exfalso;cases p with
    |nil=>simp only[jP]at J;omega
    |cons c p=>simp only[jP]at J;simp only[List.length_cons]at H;have b7:=X2 stg.ctr p.length (by omega);omega
   ·rename_i m;rcases T r m a' s with⟨j,l,y⟩ |C
    ·exact⟨a',⟨j,H,J⟩,rfl,rfl,l p,λh=>h⟩
    ·obtain⟨a,j,l,y,U,P,V,a5,W,Y⟩:=C.ex;obtain⟨a1,a2,b5⟩:=W u p g H J;exact⟨a,⟨j,H,a1⟩,l,y,a2,b5⟩
  ·simp only[St.newArr,bQ]at f;split at f
   ·injection f with f;subst f;simp only at g;omega
   ·rename_i m;rcases T r m a' f with⟨j,l,y⟩ |C
    ·exact⟨a',j,rfl,λb p b3=>by obtain⟨a1,a2⟩:=y b p b3;exact⟨⟨p,a1⟩,a2⟩⟩
    ·obtain⟨a,j,l,y,U,P,V,a5,W,Y⟩:=C.ex;omega
 refine⟨Q,L.step Q (λt v hv=>?_) (λb x hx=>?_) (λb b' x a3 h a7 m=>?_) (λr a f=>?_) b2 b1⟩
 ·show dO _ _ _ (stg.sl.get t) _;rw[a6];exact dS Q _ _ (L.slots t v hv)
 ·have a4:look st.bx b=some x:=by rw[<-F];exact hx
  obtain⟨j,l⟩:=a9 _ (L.boxes b x a4).2.1;exact .inl ⟨a4,K b,l,j⟩
 ·rw[K,K];exact L.apartB b b' x a3 (by rw[<-F];exact h) (by rw[<-F];exact a7) m
 ·simp only[St.newArr,bQ]at f;split at f
  ·rename_i e;subst e;injection f with f;subst f;exact .inr ⟨Nat.lt_succ_self _,Nat.lt_succ_self _,⟨rfl,λu g=>by simp[ZI]at g;subst g;exact Nat.lt_succ_self _⟩,b4⟩
  ·rename_i m;rcases T r m a f with h |C
   ·exact .inl h
   ·obtain⟨a0,j,l,y,U,P,V,a5,W,Y⟩:=C.ex;exact .inr ⟨Nat.lt_succ_of_lt U,Nat.lt_succ_of_lt V,⟨P.1,λu g=>Nat.lt_succ_of_lt (P.2 u g)⟩,Y⟩
theorem Gw{d:Nat}{a:yN}(c:look stg.ar d=some a)(e:a.uid<stg.ctr):dO w G stg (.vw d (jA stg d []) []) (G.H d []):=by refine⟨by simp only[jA,c,jP];exact e,λa' _=>⟨rfl,⟨_,rfl⟩,trivial⟩⟩
theorem jO{d:Nat}{e:TypeId}{el:List LT}{data:LD}:dO w G (stg.newArr d e el data) (.vw d (jA (stg.newArr d e el data) d []) []) (G.H d []):=
 Gw (a:={e:=e,el:=el,data:=data,uid:=stg.ctr,hv:=ZI stg.ctr,dv:=stg.ctr}) (by simp[St.newArr,bQ]) (Nat.lt_succ_self _)
end
def Gh.ren(G:Gh)(r:Nat)(p:cQ)(d l:Nat)(v:Value):Gh:=
 {own:=λb=>match G.own b with
   |.arr c s=>if c=r then(match Ik p s with
     |some []=>.arr d []
     |some ((i,j)::q)=>if l<=i then .arr d ((i-l,j)::q)else .arr c s
     |none=>.arr c s)else .arr c s
   |T=>T
  H:=λc s=>if c=d then(match s with|[]=>v |(i,j)::q=>G.H r (p++(l+i,j)::q))else G.H c s
  B:=G.B}
section
variable{P:Program}{w w':World}{G G':Gh}{st:St}{sl:Nat->Option Value}
theorem CQ{r d l:Nat}{p:cQ}{v:Value}(b:Nat)(h:∀r p,G.own b≠.arr r p):(G.ren r p d l v).own b=G.own b:=by
 cases c:G.own b with
 |arr e s=>exact absurd c (h e s)
 |out=>simp[Gh.ren,c]
 |fz=>simp[Gh.ren,c]
 |box=>simp[Gh.ren,c]
theorem X3{r d l:Nat}{p:cQ}{v:Value}(b:Nat)(h:(G.ren r p d l v).own b≠.out):G.own b≠.out:=λc=>h (by simp[Gh.ren,c])
theorem PW{r d l c:Nat}{p s:cQ}{v:Value}(b:Nat)(e:c≠r)(h:G.own b=.arr c s):(G.ren r p d l v).own b=.arr c s:=by simp[Gh.ren,h,e]
theorem I9{r d l:Nat}{p s:cQ}{v:Value}(b:Nat)(c:¬p<+:s)(h:G.own b=.arr r s):(G.ren r p d l v).own b=.arr r s:=by simp[Gh.ren,h,SV p s c]
theorem J0{r d l i j:Nat}{p q:cQ}{v:Value}(b:Nat)(h:G.own b=.arr r (p++(l+i,j)::q)):(G.ren r p d l v).own b=.arr d ((i,j)::q):=by simp[Gh.ren,h,PV]
theorem Sn{r d l:Nat}{p:cQ}{v:Value}(b:Nat)(h:G.own b=.arr r p):(G.ren r p d l v).own b=.arr d []:=by have:=PV p [];simp at this;simp[Gh.ren,h,this]
theorem GE(g:dI w G st sl){r d l:Nat}{p:cQ}{v:Value}(hv:∃a n c,v=.slice a n c):∀f s,∃a n c,(G.ren r p d l v).H f s=.slice a n c:=by
 intro f s;by_cases h:f=d
 ·cases s with
  |nil=>obtain⟨a,n,c,e⟩:=hv;exact⟨a,n,c,by simp[Gh.ren,h,e]⟩
  |cons x q=>obtain⟨a,n,c,e⟩:=g.hdr r (p++(l+x.1,x.2)::q);exact⟨a,n,c,by simp[Gh.ren,h,e]⟩
 ·obtain⟨a,n,c,e⟩:=g.hdr f s;exact⟨a,n,c,by simp[Gh.ren,h,e]⟩
theorem EC(a1:dI w G st sl){r u d l:Nat}{p:cQ}{v:Value}{a:yN}(F:lP st r u p a)(a5:a.stale=[])(a7:ZH a.el a.data p){s1:St}(h:LP st d r p=some s1)
  (Q:∀b,G'.own b=(G.ren r p d l v).own b\/G.own b=.out)(j:∀m,m≠d->∀s,G'.H m s=G.H m s)
  (K:∀b,G.own b≠.out->G.own b≠.arr r p->w'.heap[b]?=w.heap[b]?):
  (s1.bx=st.bx/\s1.sl=st.sl/\st.ctr<=s1.ctr)/\
  ∀r',r'≠d->∀a',look s1.ar r'=some a'->(look st.ar r'=some a'/\(∀p,G'.H r' p=G.H r' p)/\∀b p,G.own b=.arr r' p->G'.own b=.arr r' p/\w'.heap[b]?=w.heap[b]?)\/aGM w G st w' G' s1 r' a':=by
 have T:∀b m s,G.own b=.arr m s->G'.own b=(G.ren r p d l v).own b:=λb m s f=>by
  rcases Q b with h |h
  ·exact h
  ·rw[f]at h;simp at h
 have U:∀r',r'≠r->∀b p',G.own b=.arr r' p'->G'.own b=.arr r' p'/\w'.heap[b]?=w.heap[b]?:=λr' V b p' f=>
  ⟨by rw[T b r' p' f];exact PW b V f,K b (by rw[f];simp) (by rw[f];intro e;injection e with e;exact V e)⟩
 unfold LP at h;split at h
 ·simp[ok]at h;subst h;refine⟨⟨rfl,rfl,Nat.le_refl _⟩,λr' hd a' g=>.inl ?_⟩;simp only[St.gone,nM]at g;split at g
  ·simp at g
  ·rename_i H;exact⟨g,j r' hd,U r' H⟩
 ·rename_i c p;cases C:Nat.beq r d with
  |true=>simp[C,aG]at h
  |false=>
   have a9:r≠d:=λe=>by rw[e,qE]at C;simp at C
   simp only[C,cond_false,oR]at h;obtain⟨a0,y,P⟩:=bind_some h;rw[F.1]at y;injection y with y;subst y;simp[ok]at P;subst P;refine⟨⟨rfl,rfl,Nat.le_succ _⟩,λr' hd a' g=>?_⟩;simp only[bQ]at g;split at g
   ·rename_i a4;subst a4;injection g with g;subst g;right;obtain⟨a6,b0,L,W⟩:=a1.arrs r' a F.1;rw[a5]at W;have a2:∀b,G.own b=.fz->G'.own b=.fz/\w'.heap[b]?=w.heap[b]?:=λb f=>by
     refine⟨?_,K b (by rw[f];simp) (by rw[f];simp)⟩;rcases Q b with h |h
     ·rw[h,CQ b (by rw[f];simp),f]
     ·rw[f]at h;simp at h
    refine⟨a,F.1,rfl,rfl,Nat.lt_succ_of_lt a6,⟨by simp only[CP];exact L.1,λx hx=>?_⟩,Nat.lt_succ_self _,Nat.le_refl _,λx q hx a3 t=>?_,?_⟩
    ·show x<st.ctr+1;rcases Pb hx with rfl |hx
     ·omega
     ·have:=L.2 x hx;omega
    ·cases q with
     |nil=>exact⟨t,j r' hd [],λh=>h⟩
     |cons c' q=>
      refine⟨?_,j r' hd _,λh=>h⟩;simp only[jP,List.getD,HU,List.length_cons]at t a3⊢;split at t
      ·exact t
      ·have:q.length<a.hv.length:=by rw[L.1];omega
       simp[this]at t;omega
    ·have Y:G'.H r' []=G.H r' []:=j r' hd [];rw[Y];refine WG (r:=r') (p:=[]) (p':=[]) a2 (λq _=>?_) (by simp) W;simp only[List.nil_append];by_cases J:(c::p)<+:q
     ·exact .inl ⟨c::p,by simp,J,by simp⟩
     ·refine .inr ⟨j r' hd q,λb f=>⟨by rw[T b r' q f];exact I9 b J f,K b (by rw[f];simp) ?_⟩⟩;rw[f];intro e;injection e with _ e;exact J (by rw[e];exact List.prefix_refl _)
   ·rename_i H;exact .inl ⟨g,j r' hd,U r' H⟩
end
section
variable{P:Program}{w w':World}{G G':Gh}{st:St}{sl:Nat->Option Value}{act:Act}
theorem dI.view{s:St}(c:dI w G s sl){d:Nat}(hv:dO w G s (.vw d (jA s d []) []) (G.H d [])):dI w G (s.view d) (yY sl d (G.H d []))/\Le w G s w G (s.view d):=
 ⟨c.put hv,Le.put _ _ _ _ _⟩
theorem DG(e:dI w G st sl){r d l:Nat}{p:cQ}{v:Value}:(∀b,G.own b=.box->(G.ren r p d l v).own b=.box/\w.heap[b]?=w.heap[b]?)/\(∀b,G.own b=.fz->(G.ren r p d l v).own b=.fz/\w.heap[b]?=w.heap[b]?)/\
  (∀b,(G.ren r p d l v).own b≠.out->b<w.heap.size)/\Fr w G w (G.ren r p d l v):=
 ⟨λb c=>⟨by rw[CQ b (by rw[c];simp),c],rfl⟩,λb c=>⟨by rw[CQ b (by rw[c];simp),c],rfl⟩,λb c=>e.live b (X3 b c),
  ⟨rfl,rfl,rfl,Nat.le_refl _,λb _ c=>⟨rfl,CQ b (by rcases c with c |c<;>rw[c]<;>simp)⟩,λ_ _ _=>rfl⟩⟩
theorem w5(g:dI w G st sl){t:TypeId}{ti:TI}(c5:lW P t ti)(e5:ti.sl=true){J y:Option Operand}{l h:Option Int}(c9:HS act J l)(c8:HS act y h){r u d:Nat}{p:cQ}{v:Value}
  (hx:dO w G st (.vw r u p) v){s:St}(a2:aFy st d ti.ek r u p l h=some s):
  ∃nv G',(∀w',(Instr.sliceAt t v (J.map act.eval) (y.map act.eval) none).run P w'=.ok nv w')/\Fr w G w G'/\Le w G st w G' s/\dI w G' s (yY sl d nv):=by
 obtain⟨q,F,T⟩:=bind_some a2;obtain⟨C,U⟩:=aW T;obtain⟨s1,c2,V⟩:=bind_some U;simp[ok]at V;subst V;simp only[Bool.and_eq_true]at C;have c7:=Nat.eq_of_beq_eq_true C.2;obtain⟨a,b7,c0,f7,f8,f9,c1,g0,a3⟩:=mX g hx F;have e3:=a3;obtain⟨ad,n,c,a4,e9,f0,g8,f1,f2⟩:=a3;obtain⟨b1,b2,a9⟩:=(yX _ _ _).1 C.1;obtain⟨i,e1,b0,b3⟩:=c5.sl e5;have Y:=C.1;clear a2 T U;rw[e9]at Y b2 a9⊢;have e4:=λw=>kO (P:=P) (w:=w) true c9 c8 n c f0 Y;generalize g3:(l.getD 0).toNat=L at*;generalize g1:(h.getD (n:Int)).toNat=H at*;have g4:L<=H:=by omega
 have g2:H<=n:=by omega
 let nv:Value:=.slice (if c=L then ad else ad.map (·.add (L*q.2.2.1.length))) (H-L) (c-L)
 obtain⟨b4,Q,b5,b6⟩:=DG g (r:=r) (d:=d) (l:=L) (p:=p) (v:=nv);obtain⟨d0,d1⟩:=EC g (w':=w) (G':=G.ren r p d L nv) (v:=nv) (l:=L) b7 c0 c1 c2 (λb=>.inl rfl) (λg9 F s=>by simp[Gh.ren,F]) (λ_ _ _=>rfl);have e0:∀w',(Instr.sliceAt t v (J.map act.eval) (y.map act.eval) none).run P w'=.ok nv w':=by intro w';rw[a4];simp[Instr.sliceAt,Instr.slice,run_underlying e1,e4,Go.sizeOf,typeInfo,b0,b3,c7,nv]
 have W:(G.ren r p d L nv).H d []=nv:=by simp[Gh.ren]
 have d3:yV w (G.ren r p d L nv) [] d q.2.1 q.2.2.1 [] ((G.ren r p d L nv).H d []) ((q.2.2.2.take H).drop L):=by
  rw[W];have a0:((q.2.2.2.take H).drop L).length=H-L:=by simp;omega
  cases ad with
  |none=>have g5:=f1 rfl;refine⟨none,H-L,c-L,by simp[nv],a0,by omega,by omega,λ_=>by omega,by simp⟩
  |some ad=>
   obtain⟨a5,a6,cs,f6,K,f3,f4⟩:=f2 ad rfl;obtain⟨b,o,h0⟩:=ad;simp only at a5;subst a5;simp only at a6 K f3 f4;have e2:nv=.slice (some ⟨b,if c=L then o else o+L*q.2.2.1.length,none⟩) (H-L) (c-L):=by simp only[nv];split<;>simp[kE]
   rw[e2];have g7:(c-L)*q.2.2.1.length+L*q.2.2.1.length=c*q.2.2.1.length:=by rw[<-Nat.add_mul];congr 1;omega
   refine Il (l:=L) e3 a0 (by omega) (λi y=>?_) (by omega) (by omega) K (Sn b a6) ?_ (λb' o' n' c' f m a1=>?_) Q (λi j s y=>⟨by simp[Gh.ren],λb' c6=>⟨J0 b' c6,rfl⟩⟩)
   ·simp only[List.getD,List.getElem?_drop,List.getElem?_take];rw[if_pos (by omega)]
   ·split
    ·rename_i g6;have:c-L=0:=by omega
     rw[this];omega
    ·omega
   ·rw[a4]at f;injection f with f;injection f with f;injection f with e6 e7;subst e6;subst e7;have d2:¬c=L:=λe=>by
     have:H-L=0:=by omega
     rw[this]at a1;simp at a1
    simp[World.cell?,K,d2]
 obtain⟨c3,c4⟩:=iP g (d:=d) (e:=q.2.1) (el:=q.2.2.1) (data:=(q.2.2.2.take H).drop L) d0 d1 b4 (λ_=>rfl) Q d3 b5 (GE g ⟨_,_,_,rfl⟩);obtain⟨a7,f5⟩:=c4.view (jO (w:=w) (G:=G.ren r p d L nv) (stg:=s1) (d:=d) (e:=q.2.1) (el:=q.2.2.1) (data:=(q.2.2.2.take H).drop L));rw[W]at a7;exact⟨nv,_,e0,b6,c3.trans f5,a7⟩
theorem J1(f:dI w G st sl){a:A}{d:Nat}{v:Value}(hx:dO w G st a v){s:St}(g:F3 st d a=some s):
  ∃G',Fr w G w G'/\Le w G st w G' s/\dI w G' s (yY sl d v):=by
 unfold F3 at g;split at g
 ·rename_i r u p;obtain⟨q,t,F⟩:=bind_some g;obtain⟨s1,a4,H⟩:=bind_some F;simp[ok]at H;subst H;obtain⟨a,a1,a2,c6,c7,c8,a3,c9,K⟩:=mX f hx t;have L:=K;obtain⟨ad,n,c,P,Q,b6,b7,c0,c1⟩:=K;clear g F;obtain⟨W,C,Y,a0⟩:=DG f (r:=r) (d:=d) (l:=0) (p:=p) (v:=v);obtain⟨b1,b2⟩:=EC f (w':=w) (G':=G.ren r p d 0 v) (v:=v) (l:=0) a1 a2 a3 a4 (λb=>.inl rfl) (λd1 t s=>by simp[Gh.ren,t]) (λ_ _ _=>rfl);have J:(G.ren r p d 0 v).H d []=v:=by simp[Gh.ren]
  have b3:yV w (G.ren r p d 0 v) [] d q.2.1 q.2.2.1 [] ((G.ren r p d 0 v).H d []) q.2.2.2:=by
   rw[J];rw[P]at L⊢;cases ad with
   |none=>have a9:=c0 rfl;exact⟨none,n,c,rfl,Q,b6,b7,λ_=>a9,by simp⟩
   |some ad=>
    obtain⟨T,U,cs,c5,y,c2,c3⟩:=c1 ad rfl;obtain⟨b,o,d2⟩:=ad;simp only at T;subst T;simp only at U y c2 c3;refine Il (l:=0) L Q (by omega) (λi b0=>by rw[Nat.zero_add]) (by omega) (by omega) y (Sn b U) ?_ (λb' o' n' c' h m d0=>?_) C (λi j s b0=>⟨by simp[Gh.ren],λb' a7=>⟨J0 b' a7,rfl⟩⟩)
    ·omega
    ·injection h with h;injection h with h;injection h with b4 b5;subst b4;subst b5;simp[World.cell?,y]
  obtain⟨a5,a6⟩:=iP f (d:=d) (e:=q.2.1) (el:=q.2.2.1) (data:=q.2.2.2) b1 b2 W (λ_=>rfl) C b3 Y (GE f ⟨_,_,_,P⟩);obtain⟨V,c4⟩:=a6.view (jO (w:=w) (G:=G.ren r p d 0 v) (stg:=s1) (d:=d) (e:=q.2.1) (el:=q.2.2.1) (data:=q.2.2.2));rw[J]at V;exact⟨_,a0,a5.trans c4,V⟩
 ·simp[aG]at g
end
theorem w6(o:Bool)(t:LT):fZ (t.setOwn o)=fZ t:=by cases t<;>rfl
theorem aBO(o:Bool)(t:LT):(t.setOwn o).zero=t.zero:=by cases t<;>rfl
theorem Dp(o:Bool):∀ts:List LT,fC o ts=ts.map (LT.setOwn o)
 |[]=>rfl
 |t::ts=>by simp[fC,Dp o ts]
theorem JQ:∀(ts:List LT)(j:Nat)(t:LT),ts[j]?=some t->(fW ts).getD j (.i 0)=t.zero
 |[],_,_,h=>by simp at h
 |u::us,0,t,h=>by simp at h;subst h;rfl
 |u::us,j+1,t,h=>by rw[fW,List.getD_cons_succ];exact JQ us j t (by simpa using h)
theorem zV:∀ts:List LT,(fW ts).length=ts.length
 |[]=>rfl
 |_::ts=>congrArg (·+1) (zV ts)
theorem aBP{w:World}{G:Gh}{S:List cQ}{r:Nat}{p:cQ}(t:LT)(h:G.H r p=.slice none 0 0):Xa w G S r t p (fZ t) t.zero:=by
 cases t with
 |int k=>exact⟨rfl,tZ k,uA k⟩
 |bool=>rfl
 |str=>exact⟨rfl,Nat.zero_le _⟩
 |sl c e el=>
  cases c with
  |false=>exact Ii (o:=false) (e:=e)
  |true=>exact vT.2 (.inr ⟨h.symm,none,0,0,rfl,rfl,Nat.le_refl _,Nat.zero_le _,λ_=>rfl,by simp⟩)
theorem Xm{w:World}{G:Gh}{S:List cQ}{r:Nat}{p:cQ}{i b o:Nat}{el:List LT}(c:∀j,G.H r (p++[(i,j)])=.slice none 0 0)
  (d:∀j t,el[j]?=some t->w.cell? ⟨b,o+j,none⟩=some (fZ t)):V7 w G S r el p i b o el.length (zS (fW el)) 0:=by
 refine JO el 0 (λj t ht=>?_);have e:j<el.length:=(List.getElem?_eq_some_iff.1 ht).1;rw[Nat.zero_add,JL (zV el) j e,JQ el j t ht];exact⟨_,d j t ht,aBP t (c j)⟩
def Gh.fresh(G:Gh)(n d:Nat)(v:Value):Gh:=
 {own:=λb=>if b=n then .arr d []else G.own b
  H:=λr s=>if r=d then(match s with|[]=>v |_::_=>.slice none 0 0)else G.H r s
  B:=G.B}
section
variable{P:Program}{w w':World}{G G':Gh}{st:St}{sl:Nat->Option Value}{act:Act}
theorem Pc(g:dI w G st sl){n d:Nat}{v:Value}(hv:∃a n c,v=.slice a n c):∀f s,∃a m c,(G.fresh n d v).H f s=.slice a m c:=by
 intro f s;by_cases h:f=d
 ·cases s with
  |nil=>obtain⟨a,n,c,e⟩:=hv;exact⟨a,n,c,by simp[Gh.fresh,h,e]⟩
  |cons x q=>exact⟨none,0,0,by simp[Gh.fresh,h]⟩
 ·obtain⟨a,n,c,e⟩:=g.hdr f s;exact⟨a,n,c,by simp[Gh.fresh,h,e]⟩
theorem Im(j:dI w G st sl)(o:Obj){d:Nat}{e:TypeId}{el:List LT}{data:LD}{v:Value}(hv:∃a n c,v=.slice a n c)
  (C:yV (w.alloc o) (G.fresh w.heap.size d v) [] d e el [] v data):
  Fr w G (w.alloc o) (G.fresh w.heap.size d v)/\Le w G st (w.alloc o) (G.fresh w.heap.size d v) (st.newArr d e el data)/\dI (w.alloc o) (G.fresh w.heap.size d v) (st.newArr d e el data) sl:=by
 have l:∀b,G.own b≠.out->(G.fresh w.heap.size d v).own b=G.own b/\(w.alloc o).heap[b]?=w.heap[b]?:=λb f=>by have:=j.live b f;exact⟨by simp[Gh.fresh,Nat.ne_of_lt this],heap_alloc_old w o b this⟩
 have t:(G.fresh w.heap.size d v).H d []=v:=by simp[Gh.fresh]
 obtain⟨m,s⟩:=iP j (stg:=st) (d:=d) (e:=e) (el:=el) (data:=data) (w':=w.alloc o) (G':=G.fresh w.heap.size d v) ⟨rfl,rfl,Nat.le_refl _⟩
  (λr y a u=>.inl ⟨u,λp=>by simp[Gh.fresh,y],λb p f=>by obtain⟨g,h⟩:=l b (by rw[f];simp);exact⟨g.trans f,h⟩⟩)
  (λb f=>by obtain⟨g,h⟩:=l b (by rw[f];simp);exact⟨g.trans f,h⟩) (λ_=>rfl) (λb f=>by obtain⟨g,h⟩:=l b (by rw[f];simp);exact⟨g.trans f,h⟩)
  (by rw[t];exact C) (λb f=>by
   rw[World.size_alloc];simp only[Gh.fresh]at f;split at f
   ·omega
   ·have:=j.live b f;omega) (Pc j hv)
 exact⟨⟨rfl,rfl,rfl,by simp,λb f _=>⟨heap_alloc_old w o b f,by simp[Gh.fresh,Nat.ne_of_lt f]⟩,λ_ _ _=>rfl⟩,m,s⟩
theorem PX{n bytes:Nat}(h:jN n bytes=true):n<=281474976710656/\n*bytes<=140737488355328:=by simp only[jN,Bool.and_eq_true]at h;exact⟨Nat.le_of_ble_eq_true h.1,Nat.le_of_ble_eq_true h.2⟩
theorem J2(a2:dI w G st sl){h:fR}{t:TypeId}{ti c:TI}(a3:lW P t ti)(a4:lW P ti.e c){n m:Int}{d:Nat}{s:St}(b3:Ru h st d n m ti c=some s):
  ∃nv w' G',(Instr.makeSlice t (.int .i64 n) (.int .i64 m)).run P w=.ok nv w'/\HQ w w'/\Fr w G w' G'/\Le w G st w' G' s/\dI w' G' s (yY sl d nv):=by
 obtain⟨f,l⟩:=aW b3;simp[ok]at l;subst l;simp only[Bool.and_eq_true,fN,bT]at f;obtain⟨b5,J,b2,b0,a5⟩:=f;subst b2;obtain⟨d1,d2⟩:=PX b0;have v:=iK _ _ a5;obtain⟨i0,e1,c6,c7⟩:=a3.sl b5;obtain⟨c5,i,z,c8,T,U,V,W,F,c9,d0⟩:=a4.ex;have r:z.cells.size=c.lv.length:=by
  have:z.cells.toList.length=c.lv.length:=by rw[F];simp
  simpa using this
 have y:(MJ h d c).length=c.lv.length:=by rw[<-v,kD]
 have K:=run_make (P:=P) w t ti.e i z e1 T W .i64 .i64 n n J (Int.le_refl _) (by
  rw[V];have:((c.bytes*n.toNat:Nat):Int)<=281474976710656:=by rw[Nat.mul_comm];omega
  rw[Int.natCast_mul,Int.toNat_of_nonneg J]at this;exact this) (by omega)
 rw[U]at K;let o:Obj:=.cells (madeCells z.cells (n.toNat*c.lv.length)) ti.e
 let nv:Value:=.slice (some ⟨w.heap.size,0,none⟩) n.toNat n.toNat
 have a6:madeCells z.cells (n.toNat*c.lv.length)=⟨sE z.cells.toList n.toNat⟩:=by rw[Pa,r];unfold madeCells;rw[r]
 have b4:yV (w.alloc o) (G.fresh w.heap.size d nv) [] d ti.e (MJ h d c) [] nv (List.replicate n.toNat (zS (fW c.lv))):=by
  refine⟨_,_,_,rfl,by simp,Nat.le_refl _,by unfold maxLen;omega,by simp,λad u=>?_⟩;injection u with u;subst u;refine⟨rfl,by simp[Gh.fresh],_,_,heap_alloc_new w o,by rw[size_madeCells,y];simp,λg H=>?_⟩;have a7:(List.replicate n.toNat (zS (fW c.lv))).getD g (.i 0)=zS (fW (MJ h d c)):=by
   have b6:∀(ts us:List LT),fC false ts=us->fW us=fW ts:=by
    intro ts;induction ts with
    |nil=>intro us C;subst C;rfl
    |cons t ts b7=>intro us C;subst C;simp[fC,fW,aBO,b7 _ rfl]
   simp[List.getD,H,b6 _ _ v]
  rw[a7];refine Xm (λj=>by simp[Gh.fresh]) (λj c3 L=>?_);have a9:j<c.lv.length:=by rw[<-y];exact(List.getElem?_eq_some_iff.1 L).1
  have b1:g*c.lv.length+j<n.toNat*c.lv.length:=by have:(g+1)*c.lv.length<=n.toNat*c.lv.length:=Nat.mul_le_mul_right _ H;rw[Nat.add_mul,Nat.one_mul]at this;omega
  rw[y,Nat.zero_add,World.cell?_alloc_new,a6];have f:=WK z.cells.toList n.toNat (g*c.lv.length+j) (by simpa[r]using b1);have l:(g*c.lv.length+j)%z.cells.toList.length=j:=by rw[show z.cells.toList.length=c.lv.length by simpa using r,Nat.mul_comm,Nat.mul_add_mod,Nat.mod_eq_of_lt a9]
  rw[l]at f;have a0:z.cells.toList[j]?=(c.lv.map fZ)[j]?:=by rw[F]
  rw[a0]at f;have Y:c.lv[j]?=some (c3.setOwn false):=by rw[<-v,Dp];simp[L]
  simp only[List.getElem?_toArray];rw[f];simp[Y,w6]
 obtain⟨c0,c1,c2⟩:=Im a2 o ⟨_,_,_,rfl⟩ b4;obtain⟨Q,c4⟩:=c2.view (jO (stg:=st) (d:=d) (e:=ti.e) (el:=MJ h d c));have a1:(G.fresh w.heap.size d nv).H d []=nv:=by simp[Gh.fresh]
 rw[a1]at Q;exact⟨nv,_,_,K,HQ.alloc _ _,c0,c1.trans c4,Q⟩
end
structure MZ(w:World)(G:Gh)(el:List LT)(yv:Value)(ys:LD):Prop where
 ex:∃a m c,yv=.slice a m c/\ys.length=m/\(a=none->m=0)/\∀ad,a=some ad->0<m->ad.spot=none/\∀i,i<m->∀(j:Nat)(t:LT),el[j]?=some t->sA t=false/\
  ∃v,w.cell? ⟨ad.block,ad.off+i*el.length+j,none⟩=some v/\v.oneCell'=true/\yQ w (λb=>G.own b=.fz) t v (lf el.length (ys.getD i (.i 0)) j)
theorem X4{w:World}{okb:Nat->Prop}{t:LT}{v:Value}{x:D}(h:yQ w okb t v x):v.oneCell'=true:=by
 cases t with
 |int k=>rw[h.1];rfl
 |bool=>rw[show v=_ from h];rfl
 |str=>rw[h.1];rfl
 |sl o e el=>obtain⟨a,n,c,d,_⟩:=h;rw[d];rfl
theorem uB:∀{ts:List LT},sC ts=true->∀(j:Nat)(t:LT),ts[j]?=some t->∀o e el,t≠.sl o e el
 |[],_,_,_,h=>by simp at h
 |.sl ..::_,h,_,_,_=>by simp[sC]at h
 |.int k::ts,h,0,t,ht=>by simp at ht;subst ht;simp
 |.bool::ts,h,0,t,ht=>by simp at ht;subst ht;simp
 |.str::ts,h,0,t,ht=>by simp at ht;subst ht;simp
 |.int k::ts,h,j+1,t,ht=>uB (ts:=ts) (by simpa[sC]using h) j t (by simpa using ht)
 |.bool::ts,h,j+1,t,ht=>uB (ts:=ts) (by simpa[sC]using h) j t (by simpa using ht)
 |.str::ts,h,j+1,t,ht=>uB (ts:=ts) (by simpa[sC]using h) j t (by simpa using ht)
theorem So{w:World}{ok1 d:Nat->Prop}{t:LT}{v:Value}{x:D}(c:∀o e el,t≠.sl o e el)(h:yQ w ok1 t v x):yQ w d t v x:=by
 cases t with
 |int k=>exact h
 |bool=>exact h
 |str=>exact h
 |sl o e el=>exact absurd rfl (c o e el)
theorem Aa{t:LT}(h:t.setOwn false=t):sA t=false:=by
 cases t with
 |sl o e el=>cases o with
  |false=>rfl
  |true=>simp[LT.setOwn]at h
 |_=>rfl
section
variable{w:World}{G:Gh}{st:St}{sl:Nat->Option Value}
theorem In{okb:Nat->Prop}{e:TypeId}{el:List LT}{yv:Value}{ys:LD}(hf:yQ w okb (.sl false e el) yv (.l ys))
  (h:(∀(j:Nat)(t:LT),el[j]?=some t->∀o e el,t≠.sl o e el)\/((∀(j:Nat)(t:LT),el[j]?=some t->t.setOwn false=t)/\∀b,okb b->G.own b=.fz)):MZ w G el yv ys:=by
 obtain⟨a,m,c,s,u,L,P,y,C⟩:=hf;refine⟨a,m,c,s,u,λf=>by have:=y f;omega,λad f J=>?_⟩;obtain⟨l,r⟩:=C ad f J;refine⟨l,λi H j t ht=>?_⟩;obtain⟨v,g,d⟩:=Se (r i H) j t ht;simp only[Nat.zero_add]at g d;rcases h with h |⟨h,K⟩
 ·have:=h j t ht;refine⟨?_,v,g,X4 d,So this d⟩;cases t with
  |sl o e el=>exact absurd rfl (this o e el)
  |_=>rfl
 ·exact⟨Aa (h j t ht),v,g,X4 d,dA (λb F=>⟨K b F,rfl⟩) _ _ _ d⟩
theorem SW(y:dI w G st sl){el:List LT}{v:A}{yv:Value}{ys:LD}(m:dO w G st v yv)(h:LO st el v=some (.flat ys)):MZ w G el yv ys:=by
 unfold LO at h;split at h
 ·simp[ok]at h;subst h;rw[show yv=_ from m];exact⟨none,0,0,rfl,rfl,λ_=>rfl,by simp⟩
 ·simp[ok]at h;subst h;obtain⟨ad,c,e⟩:=m;exact⟨some ad,0,c,e,rfl,λ_=>rfl,λ_ _ h=>absurd h (Nat.lt_irrefl _)⟩
 ·obtain⟨l,_,d⟩:=bind_some h;obtain⟨_,f⟩:=aW d;simp[ok]at f
 ·rename_i dep J K Y;obtain⟨g,d⟩:=aW h;simp[ok]at d;subst d;simp only[Bool.and_eq_true]at g;obtain⟨f,j,t⟩:=g;have:=iK _ _ j;subst this;refine In (m.2 f) ?_;cases dep with
  |nil=>have F:=iK _ _ t;exact .inr ⟨DY F,λb C=>(PR b).1 C⟩
  |cons _ _=>exact .inl (uB t)
 ·rename_i r u p;cases s:sC el with
  |false=>simp[s,aG]at h
  |true=>simp only[s,cond_true]at h;obtain⟨q,g,d⟩:=bind_some h;obtain⟨f,j⟩:=aW d;simp[ok]at j;subst j;obtain⟨a,L,P,Q,T,U,V,W,H⟩:=mX y m g;have:=iK _ _ f;subst this;exact In (I1 H) (.inl (uB s))
 ·simp[aG]at h
end
end Go.Eng
