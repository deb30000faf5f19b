/- The hash of "abc", reckoned. -/
import Derived.Test.YtoegpjfpfhjbkaaShaText
namespace Go.Proofs.Ytoegpjfpfhjbkaa
def abc : List W8 := [97, 98, 99]
set_option maxRecDepth 100000 in
theorem abc_text : digU (shaB abc) 4 = [98, 97, 55, 56, 49, 54, 98, 102] := by decide +kernel
set_option maxRecDepth 100000 in
theorem abc_last : shaB abc 31 = 0xad := by decide +kernel
end Go.Proofs.Ytoegpjfpfhjbkaa
