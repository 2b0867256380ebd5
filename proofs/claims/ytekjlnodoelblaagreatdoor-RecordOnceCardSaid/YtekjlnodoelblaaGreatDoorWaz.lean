/- Texts that the last one of this claim rests on: a layer over the guide's own conditions for code; contracts of the functions that the law reaches, one by one. No conditions beside those of the given rows. -/
import Derived.Test.YtekjlnodoelblaaGreatDoorWat
set_option linter.unusedSimpArgs false
set_option linter.unusedVariables false
section
namespace Go.Av
def awT1 : List UInt8:=[80,97,99,107,97,103,101,58,32,97,97,10,86,101,114,115,105,111,110,58,32,49,10,68,101,112,101,110,100,115,58,32,98,98,10]
def awT2 : List UInt8:=[80,97,99,107,97,103,101,58,32,97,97,10]
theorem aw9_1 : pkgsT awT1 = ([⟨[97,97],[49],[],[[⟨[98,98],0,[]⟩]],[],[],[],[],false⟩],(0,0)):=by decide +kernel
theorem aw9_2 : pkgsT awT2 = ([],(5,1)):=by decide +kernel
end Go.Av
end
