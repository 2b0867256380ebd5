/- What the last text of this claim rests on. No conditions. -/
import Derived.Lib.SplitLaws
import Derived.Lib.IndexBytes
import Derived.Test.YtbkobngljnnmgaaGreatDoorWam
set_option linter.unusedSimpArgs false
set_option linter.unusedVariables false
section
namespace Go.Av
structure Fld where
 name:List UInt8
 lines:List (List UInt8)
 deriving DecidableEq
structure Stz where
 line:Int
 fields:List Fld
 deriving DecidableEq
structure PS where
 l:List Stz
 op:Bool
def ab1 (i:Nat)(c:UInt8):Bool:=(decide (c.toNat<33)||decide (126<c.toNat))||(decide (i=0)&&(decide (c.toNat=35)||decide (c.toNat=45)))
def Xg :Nat->List UInt8->Nat
 |i,[]=>i
 |i,c::r=>if c.toNat=58 then i else if ab1 i c=true then 0 else Xg (i+1) r
def SR (s:List UInt8):Nat:=Xg 0 s
def aaD (s:List UInt8):Bool:=match s with
 |[]=>false
 |c::_=>decide (c.toNat=35)
def abC (l:List Fld)(n:List UInt8):Bool:=l.any λf=>Xf f.name n
structure aae (st:PS):Prop where
 op:st.op=true-> ∃u x v f,st.l=u++[x]/\x.fields=v++[f]
 len:st.l.length<=200
 bt: ∀x∈st.l,x.fields.length<=40
theorem aae.nil :aae ⟨[],false⟩:=⟨λh=>(by cases h),by simp,by simp⟩
def Yf (k m:Nat)(l:List Stz):Prop:=∀ x∈l,∀f∈x.fields,f.lines.length<=k/\f.name.length<=m/\ ∀s∈f.lines,s.length<=m
theorem Yf.mono {k k' m:Nat}{l:List Stz}(h:Yf k m l)(hk:k<=k'):Yf k' m l:=λx hx f hf=>by
 obtain⟨h1,h2⟩:=h x hx f hf;grind
end Go.Av
end
