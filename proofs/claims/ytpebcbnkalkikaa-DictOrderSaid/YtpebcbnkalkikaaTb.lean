/- The table's functions are the program's; the library's keep to the interpreter. -/
import Derived.Test.YtpebcbnkalkikaaTa
import Derived.Test.YtpebcbnkalkikaaFd
import Derived.Test.YtpebcbnkalkikaaPr
namespace Go.VS
theorem ev5 : evalF AP RPn 200 5 [] [] = some (.bool true, []) := by kernel_rfl
@[simp] theorem known_run : denF AP RPn 5 [] [] = some (.bool true, []) := denF_eval ev5
end Go.VS
namespace Go.VS
open Go.Proofs

theorem code_of {a b : AFunc} (h : some (AFn.code a) = some (AFn.code b)) : a = b := by cases h; rfl
theorem prim_of {a b : List AV → List Obj → Option (AV × List Obj)} (h : some (AFn.prim a) = some (AFn.prim b)) : a = b := by cases h; rfl
theorem not_code {a : AFunc} {b : List AV → List Obj → Option (AV × List Obj)} (h : some (AFn.prim b) = some (AFn.code a)) : False := by cases h
theorem not_prim {a : AFunc} {b : List AV → List Obj → Option (AV × List Obj)} (h : some (AFn.code a) = some (AFn.prim b)) : False := by cases h

theorem tabT : ∀ f fn, AP f = some (.code fn) → FnT Try.prog f fn := by
  intro f fn h
  unfold AP at h
  split at h
  · exact code_of h ▸ chkFn_ok ck3
  · exact code_of h ▸ chkFn_ok ck4
  · exact code_of h ▸ chkFn_ok ck5
  · exact code_of h ▸ chkFn_ok ck6
  · exact code_of h ▸ chkFn_ok ck7
  · exact code_of h ▸ chkFn_ok ck8
  · exact code_of h ▸ chkFn_ok ck9
  · exact code_of h ▸ chkFn_ok ck10
  · exact code_of h ▸ chkFn_ok ck11
  · exact code_of h ▸ chkFn_ok ck14
  · exact code_of h ▸ chkFn_ok ck15
  · exact code_of h ▸ chkFn_ok ck16
  · exact code_of h ▸ chkFn_ok ck17
  · exact code_of h ▸ chkFn_ok ck18
  · exact code_of h ▸ chkFn_ok ck19
  · exact code_of h ▸ chkFn_ok ck20
  · exact code_of h ▸ chkFn_ok ck21
  · exact code_of h ▸ chkFn_ok ck22
  · exact code_of h ▸ chkFn_ok ck23
  · exact code_of h ▸ chkFn_ok ck24
  · exact code_of h ▸ chkFn_ok ck28
  · exact code_of h ▸ chkFn_ok ck29
  · exact code_of h ▸ chkFn_ok ck30
  · exact code_of h ▸ chkFn_ok ck32
  · exact code_of h ▸ chkFn_ok ck33
  · exact code_of h ▸ chkFn_ok ck34
  · exact code_of h ▸ chkFn_ok ck35
  · exact code_of h ▸ chkFn_ok ck39
  · exact (not_code h).elim
  · exact (not_code h).elim
  · exact (not_code h).elim
  · exact absurd h (by simp)

theorem tabP : ∀ f p, AP f = some (.prim p) → FnOk Try.prog (fun _ vs store => p vs store) f := by
  intro f p h
  unfold AP at h
  split at h
  · exact (not_prim h).elim
  · exact (not_prim h).elim
  · exact (not_prim h).elim
  · exact (not_prim h).elim
  · exact (not_prim h).elim
  · exact (not_prim h).elim
  · exact (not_prim h).elim
  · exact (not_prim h).elim
  · exact (not_prim h).elim
  · exact (not_prim h).elim
  · exact (not_prim h).elim
  · exact (not_prim h).elim
  · exact (not_prim h).elim
  · exact (not_prim h).elim
  · exact (not_prim h).elim
  · exact (not_prim h).elim
  · exact (not_prim h).elim
  · exact (not_prim h).elim
  · exact (not_prim h).elim
  · exact (not_prim h).elim
  · exact (not_prim h).elim
  · exact (not_prim h).elim
  · exact (not_prim h).elim
  · exact (not_prim h).elim
  · exact (not_prim h).elim
  · exact (not_prim h).elim
  · exact (not_prim h).elim
  · exact (not_prim h).elim
  · exact prim_of h ▸ ok_compact
  · exact prim_of h ▸ ok_sorted
  · exact prim_of h ▸ ok_clone
  · exact absurd h (by simp)
end Go.VS
