/- How a case of signs is read with a bound on its size. -/
import Derived.Test.YtklnoajdhknfnaaGreatZc
import Derived.Test.YtklnoajdhknfnaaGreatSi
set_option linter.unusedVariables false
set_option linter.unusedSimpArgs false
set_option maxRecDepth 100000
namespace Go.Proofs.YtklnoajdhknfnaaGreat
open Go Go.Rx Go.Num Go.Tow
theorem readsB_words : ReadsB Tryz.prog 29 (RSl RW) := readsB_slice Tryz.underlying29 (readsB_u32 Tryz.underlying55) (by kernel_rfl) (by decide)
theorem readsB_Int : ReadsB Tryz.prog 31 RI := readsB_struct Tryz.underlying31 (.cons rfl (readsB_bool Tryz.underlying4) (by kernel_rfl) (.one rfl readsB_words (by kernel_rfl))) (by kernel_rfl)
theorem readsB_Rat : ReadsB Tryz.prog 33 RQ := readsB_struct Tryz.underlying33 (.cons rfl readsB_Int (by kernel_rfl) (.one rfl readsB_Int (by kernel_rfl))) (by kernel_rfl)
theorem readsB_RE : ReadsB Tryz.prog 23 RE := readsB_slice Tryz.underlying23 readsB_Rat (by kernel_rfl) (by decide)
theorem readsB_RT : ReadsB Tryz.prog 22 RT := readsB_slice Tryz.underlying22 readsB_RE (by kernel_rfl) (by decide)
theorem readsB_Case : ReadsB Tryz.prog 25 RC3 :=
  readsB_struct Tryz.underlying25 (.cons rfl readsB_RT (by kernel_rfl) (.cons rfl readsB_RE (by kernel_rfl) (.one rfl readsB_RE (by kernel_rfl)))) (by kernel_rfl)
end Go.Proofs.YtklnoajdhknfnaaGreat
