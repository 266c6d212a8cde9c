/- fields: what awake's calls answer, in plain words. -/
import Derived.Test.YtkggjcfiomddeaaFo
namespace Go.Proofs.Ytkggjcfiomddeaa
open Go.ChangeShapes Go.WideShapes Go.RowKit
set_option linter.unusedVariables false

def awT : Tbl := ⟨[], 200, 0⟩
def fx : Fl := (bs [120], bs [49])
def fg : Fl := (bs [58, 109, 101, 116, 104, 111, 100], bs [71, 69, 84])
def awT1 : Tbl := ⟨[fx], 200, 34⟩
def awTold : ByteArray := bs [65, 120, 1, 49]
def awSec : ByteArray := bs [1, 0, 192, 128]

theorem aw_write : writeF awT [fg, fx] = (awT1, awTold, awSec, 0) := by kernel_rfl
theorem aw_read0 : readF [] awSec = ([], 13) := by kernel_rfl
theorem aw_told : toldF 5 awT awTold = (awT1, 0) := by kernel_rfl
theorem aw_read1 : readF [fx] awSec = ([fg, fx], 0) := by kernel_rfl
theorem aw_write2 : writeF awT1 [fx] = (awT1, ⟨#[]⟩, bs [1, 0, 128], 0) := by kernel_rfl
theorem aw_write3 : writeF awT1 [emptyF] = (awT1, ⟨#[]⟩, ⟨#[]⟩, 2) := by kernel_rfl
theorem aw_take : takeF [31, 154, 10, 120] 5 = (1337, [120], true) := by kernel_rfl
theorem aw_number : numberF 1337 5 0 = [31, 154, 10] := by
  unfold numberF
  rw [if_neg (by decide), tailF_big _ (by decide), tailF_small _ (by decide)]
  rfl
theorem aw_most : mostF 200 = 200 := by decide

end Go.Proofs.Ytkggjcfiomddeaa
