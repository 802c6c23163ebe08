/- How a case is read with a bound on its size. -/
import Derived.Test.YtcobdnnfmhfenaaGreatZc
import Derived.Test.YtcobdnnfmhfenaaGreatYh
set_option linter.unusedVariables false
set_option linter.unusedSimpArgs false
set_option maxRecDepth 100000
namespace Go.Proofs.YtcobdnnfmhfenaaGreat
open Go Go.Rx Go.Num Go.Tow

theorem readsB_words : ReadsB Tryz.prog 43 (RSl RW) := readsB_slice Tryz.underlying43 (readsB_u32 Tryz.underlying80) (by kernel_rfl) (by decide)
theorem readsB_Int : ReadsB Tryz.prog 45 RI := readsB_struct Tryz.underlying45 (.cons rfl (readsB_bool Tryz.underlying4) (by kernel_rfl) (.one rfl readsB_words (by kernel_rfl))) (by kernel_rfl)
theorem readsB_Rat : ReadsB Tryz.prog 47 RQ := readsB_struct Tryz.underlying47 (.cons rfl readsB_Int (by kernel_rfl) (.one rfl readsB_Int (by kernel_rfl))) (by kernel_rfl)
theorem readsB_RE : ReadsB Tryz.prog 23 RE := readsB_slice Tryz.underlying23 readsB_Rat (by kernel_rfl) (by decide)
theorem readsB_RT : ReadsB Tryz.prog 22 RT := readsB_slice Tryz.underlying22 readsB_RE (by kernel_rfl) (by decide)
theorem readsB_Case : ReadsB Tryz.prog 25 RCs :=
  readsB_struct Tryz.underlying25 (.cons rfl readsB_RT (by kernel_rfl) (.cons rfl readsB_RE (by kernel_rfl) (.cons rfl readsB_RE (by kernel_rfl) (.one rfl readsB_RE (by kernel_rfl))))) (by kernel_rfl)
theorem mid_bk {l : List Raw} (h : Bk.b l ≤ 1048576) : midL l := ⟨Bk.len h, fun i hi => ⟨Bk.len (Bk.r (Bk.l (Bk.mem h hi))), Bk.len (Bk.r (Bk.r (Bk.mem h hi)))⟩⟩
end Go.Proofs.YtcobdnnfmhfenaaGreat
