import Derived.Test.YtpebcbnkalkikaaTstA
import Derived.Test.YtpebcbnkalkikaaVsDen
namespace Go.VS
theorem ev5 : evalF AP RPn 200 5 [] [] = some (.bool true, []) := by kernel_rfl
@[simp] theorem known_run : denF AP RPn 5 [] [] = some (.bool true, []) := denF_eval ev5
end Go.VS
