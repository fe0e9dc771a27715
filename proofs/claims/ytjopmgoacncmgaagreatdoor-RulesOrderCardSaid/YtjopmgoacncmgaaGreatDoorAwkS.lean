/- Rules: the law's examples. Plain law. -/
import Derived.Test.YtjopmgoacncmgaaGreatDoorRfSort
set_option linter.unusedVariables false
set_option linter.unusedSimpArgs false
namespace Go.Proofs.YtjopmgoacncmgaaGreatDoor

def tx1 : Bs := [114, 101, 97, 99, 104, 40, 88, 44, 32, 90, 41, 32, 58, 45, 32, 114, 101, 97, 99, 104, 40, 88, 44, 32, 89, 41, 44, 32, 101, 100, 103, 101, 40, 89, 44, 32, 90, 41, 46, 10, 97, 115, 107, 40, 34, 113, 34, 44, 32, 45, 51, 41, 32, 58, 45, 32, 110, 111, 116, 32, 100, 111, 110, 101, 40, 49, 41, 44, 32, 50, 32, 60, 32, 51, 46, 10]
def tx2 : Bs := [112, 40, 88, 41, 32, 58, 45, 32, 113, 40, 88, 41, 44, 32, 110, 111, 116, 32, 114, 40, 88, 41, 46, 10, 114, 40, 88, 41, 32, 58, 45, 32, 115, 40, 88, 41, 46]
def tx3 : Bs := [112, 40, 88, 41, 32, 58, 45, 32, 113, 40, 88, 41, 44, 32, 110, 111, 116, 32, 114, 40, 88, 41, 46, 10, 114, 40, 88, 41, 32, 58, 45, 32, 113, 40, 88, 41, 44, 32, 110, 111, 116, 32, 112, 40, 88, 41, 46]
set_option maxRecDepth 100000
theorem awake1 : (parseS tx1).2 = (0, 0) := by decide +kernel
theorem awake1p : printS (parseS tx1).1 = (tx1, 0) := by decide +kernel
theorem awake2 : (parseS tx2).2 = (0, 0) := by decide +kernel
theorem awake2s : strataS (parseS tx2).1 = ([[[113], [114], [115]], [[112]]], -1, 0) := by decide +kernel
theorem awake3 : checkS53 (parseS tx3).1 = (-1, 12) := by decide +kernel
end Go.Proofs.YtjopmgoacncmgaaGreatDoor
