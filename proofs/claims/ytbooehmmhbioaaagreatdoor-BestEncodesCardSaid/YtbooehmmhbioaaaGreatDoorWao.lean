/- Texts that the last one of this claim rests on: a layer over the guide's own conditions for code; contracts of the functions that the law reaches, one by one. No conditions beside those of the given rows. -/
import Derived.Lib.SplitLaws
import Derived.Lib.IndexBytes
import Derived.Test.YtbooehmmhbioaaaGreatDoorWam
set_option linter.unusedSimpArgs false
set_option linter.unusedVariables false
section
namespace Go.Av
structure Fld where
 name:List UInt8
 lines:List (List UInt8)
 deriving DecidableEq
structure Stz where
 line:Int
 fields:List Fld
 deriving DecidableEq
structure PS where
 l:List Stz
 op:Bool
def Xh (i:Nat)(c:UInt8):Bool:=(decide (c.toNat<33)||decide (126<c.toNat))||(decide (i=0)&&(decide (c.toNat=35)||decide (c.toNat=45)))
def LA :Nat→List UInt8→Nat
 |i,[]=>i
 |i,c::r=>if c.toNat=58 then i else if Xh i c=true then 0 else LA (i+1) r
def EX (s:List UInt8):Nat:=LA 0 s
def SN (s:List UInt8):Bool:=match s with
 |[]=>false
 |c::_=>decide (c.toNat=35)
def TM (l:List Fld)(n:List UInt8):Bool:=l.any λf=>LO f.name n
structure SO (st:PS):Prop where
 op:st.op=true→ ∃u x v f,st.l=u++[x]∧x.fields=v++[f]
 len:st.l.length≤200
 bp: ∀x∈st.l,x.fields.length≤40
theorem SO.nil :SO ⟨[],false⟩:=⟨λh=>(by cases h),by simp,by simp⟩
def MA (k m:Nat)(l:List Stz):Prop:=∀ x∈l,∀f∈x.fields,f.lines.length≤k∧f.name.length≤m∧ ∀s∈f.lines,s.length≤m
theorem MA.mono {k k' m:Nat}{l:List Stz}(h:MA k m l)(hk:k≤k'):MA k' m l:=λx hx f hf=>by
 obtain⟨h1,h2⟩:=h x hx f hf
 exact⟨by omega,h2⟩
end Go.Av
end
