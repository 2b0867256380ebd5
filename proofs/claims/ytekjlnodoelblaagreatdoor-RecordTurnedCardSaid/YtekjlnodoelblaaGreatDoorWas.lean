/- Texts that the last one of this claim rests on: a layer over the guide's own conditions for code; contracts of the functions that the law reaches, one by one. No conditions beside those of the given rows. -/
import Derived.Test.YtekjlnodoelblaaGreatDoorWah
import Derived.Test.YtekjlnodoelblaaGreatDoorWar
set_option linter.unusedSimpArgs false
set_option linter.unusedVariables false
section
namespace Go.Av
abbrev sPackage : List UInt8:=[112,97,99,107,97,103,101]
abbrev sVersion : List UInt8:=[118,101,114,115,105,111,110]
abbrev sPre : List UInt8:=[112,114,101,45,100,101,112,101,110,100,115]
abbrev sDep : List UInt8:=[100,101,112,101,110,100,115]
abbrev sRcm : List UInt8:=[114,101,99,111,109,109,101,110,100,115]
abbrev sCon : List UInt8:=[99,111,110,102,108,105,99,116,115]
abbrev sBrk : List UInt8:=[98,114,101,97,107,115]
abbrev sProv : List UInt8:=[112,114,111,118,105,100,101,115]
abbrev sEss : List UInt8:=[101,115,115,101,110,116,105,97,108]
abbrev sHold : List UInt8:=[104,111,108,100]
abbrev sConf : List UInt8:=[99,111,110,102,105,103,117,114,101,100]
abbrev sPrio : List UInt8:=[112,114,105,111,114,105,116,121]
abbrev sState : List UInt8:=[115,116,97,116,101]
abbrev sYes : List UInt8:=[121,101,115]
abbrev sNo : List UInt8:=[110,111]
abbrev sUnp : List UInt8:=[117,110,112,97,99,107,101,100]

inductive ValN where
 | text (s : List UInt8)
 | count (n : Int)
 | yes (b : Bool)
 | cls (l : List Clause)
 | atoms (l : List Atom)
 | provs (l : List Prov)

def lowT (s : List UInt8) : List UInt8:=s.map lowB
def fkind (n : List UInt8) : Nat :=
 if lowT n = sPackage then 0 else if lowT n = sVersion then 1
 else if lowT n = sPre ∨ lowT n = sDep ∨ lowT n = sRcm then 2
 else if lowT n = sCon ∨ lowT n = sBrk then 3
 else if lowT n = sProv then 4
 else if lowT n = sEss ∨ lowT n = sHold ∨ lowT n = sConf then 5
 else if lowT n = sPrio then 6 else 7
def numV : List UInt8 → Int → Int
 | [],n=>n
 | c :: r,n=>numV r (10 * n + (c.toNat - 48))
def numT (s : List UInt8) : Option Int:=if s.length = 0 ∨ 9 < s.length ∨ (1 < s.length ∧ s.head? = some 48) ∨ s.all digitC = false then none else some (numV s 0)
def provOk (a : Atom) : Bool:=decide (a.rel = 0) || decide (a.rel = 3)
def anyOk (_ : Atom) : Bool:=true
def provOf (c : Clause) : Prov:=match c with
 | []=>⟨[],[]⟩
 | a :: _=>⟨a.name,a.ver⟩
def readV (name s : List UInt8) : Except Int ValN :=
 match fkind name with
 | 0=>if nameOk s = true then .ok (.text s) else .error 3
 | 1=>if isVer s = true then .ok (.text s) else .error 3
 | 2=>if (relP anyOk false s).2 = 0 then .ok (.cls (relP anyOk false s).1) else .error (relP anyOk false s).2
 | 3=>if (relP anyOk true s).2 = 0 then .ok (.atoms (relP anyOk true s).1.flatten) else .error (relP anyOk true s).2
 | 4=>if (relP provOk true s).2 = 0 then .ok (.provs ((relP provOk true s).1.map provOf)) else .error (relP provOk true s).2
 | 5=>if s = sYes then .ok (.yes true) else if s = sNo then .ok (.yes false) else .error 3
 | 6=>match numT s with
  | some n=>.ok (.count n)
  | none=>.error 3
 | _=>.ok (.text s)

structure EntN where
 pkg : Pkg
 conf : Bool
 hold : Bool
 deriving DecidableEq
def pkg0 : Pkg:=⟨[],[],[],[],[],[],[],[],false⟩
def ent0 : EntN:=⟨pkg0,false,false⟩
structure Acc where
 ent : EntN
 n : Bool
 v : Bool
 s : Bool
def acc0 : Acc:=⟨ent0,false,false,false⟩
def ValN.txt : ValN → List UInt8 | .text s=>s | _=>[]
def ValN.isYes : ValN → Bool | .yes b=>b | _=>false
def ValN.cl : ValN → List Clause | .cls l=>l | _=>[]
def ValN.at : ValN → List Atom | .atoms l=>l | _=>[]
def ValN.pr : ValN → List Prov | .provs l=>l | _=>[]
def putV (n : List UInt8) (v : ValN) (x : Acc) : Acc :=
 if lowT n = sPackage then { x with ent:={ x.ent with pkg:={ x.ent.pkg with name:=v.txt } },n:=true }
 else if lowT n = sVersion then { x with ent:={ x.ent with pkg:={ x.ent.pkg with ver:=v.txt } },v:=true }
 else if lowT n = sPre then { x with ent:={ x.ent with pkg:={ x.ent.pkg with pre:=v.cl } } }
 else if lowT n = sDep then { x with ent:={ x.ent with pkg:={ x.ent.pkg with dep:=v.cl } } }
 else if lowT n = sRcm then { x with ent:={ x.ent with pkg:={ x.ent.pkg with rcm:=v.cl } } }
 else if lowT n = sCon then { x with ent:={ x.ent with pkg:={ x.ent.pkg with con:=v.at } } }
 else if lowT n = sBrk then { x with ent:={ x.ent with pkg:={ x.ent.pkg with brk:=v.at } } }
 else if lowT n = sProv then { x with ent:={ x.ent with pkg:={ x.ent.pkg with prov:=v.pr } } }
 else if lowT n = sEss then { x with ent:={ x.ent with pkg:={ x.ent.pkg with ess:=v.isYes } } }
 else if lowT n = sHold then { x with ent:={ x.ent with hold:=v.isYes } }
 else if lowT n = sState then { x with ent:={ x.ent with conf:=decide (v.txt = sConf) },s:=true }
 else x
def badSt (status : Bool) (n : List UInt8) (v : ValN) : Bool:=status && decide (lowT n = sState) && !decide (v.txt = sUnp) && !decide (v.txt = sConf)
def readF (status : Bool) : List Fld → List Fld → Nat → Acc → Except (Int × Nat) Acc
 | _,[],_,x=>.ok x
 | seen,f :: r,b,x=>match readV f.name (foldT f.lines) with
  | .error e=>.error (e,b)
  | .ok v=>if badSt status f.name v = true then .error (3,b) else readF status (seen ++ [f]) r (b + f.lines.length) (if hasF seen f.name = true then x else putV f.name v x)
def lineT (a : Int) (b : Nat) : Int:=if 9223372036854775807 - (b : Int) < a then 9223372036854775807 else a + b
def readE (s : Stz) (status : Bool) : EntN × (Int × Int):=match readF status [] s.fields 0 acc0 with
 | .error (e,b)=>(ent0,(e,lineT s.line b))
 | .ok x=>if x.n = false ∨ x.v = false ∨ (status = true ∧ x.s = false) then (ent0,(5,s.line)) else (x.ent,(0,0))
def readL (status : Bool) : List Stz → List EntN → List EntN × (Int × Int)
 | [],out=>(out,(0,0))
 | s :: r,out=>if (readE s status).2.1 ≠ 0 then ([],(readE s status).2) else readL status r (out ++ [(readE s status).1])
def pkgsT (b : List UInt8) : List Pkg × (Int × Int) :=
 if (stzT b).2.1 ≠ 0 then ([],(stzT b).2) else
 if (readL false (stzT b).1 []).2.1 ≠ 0 then ([],(readL false (stzT b).1 []).2) else
 if mayAll ((readL false (stzT b).1 []).1.map (·.pkg)) ≠ 0 then ([],(mayAll ((readL false (stzT b).1 []).1.map (·.pkg)),0)) else ((readL false (stzT b).1 []).1.map (·.pkg),(0,0))
end Go.Av
end
