/- Equations by which simp runs code over symbolic states. -/
import Derived.Test.YtpebcbnkalkikaaVsDen
import Derived.Test.YtpebcbnkalkikaaVsPrim
set_option linter.unusedVariables false
namespace Go.VS

attribute [simp] den_skip den_label den_goto den_exit den_ret den_ops den_ite den_seq den_block den_sc den_frz runOps runOp rd look view kill put setV unref unr pers persL plain unG drop binop intBin isShift strBin unop
  partOf cellsOf oneCell cellView runLd freezeT elemOk intShift toIdx optIdx runSlc runApp elemsOf disown ownerLen give skipD skipV killV findL enter outV resOf resL leave stoCell setElem runSto intoCell setPart buildCells

theorem den_loop_ {AP : FuncId → Option AFn} {RP : FuncId → Option (List AV → Option AV)} {c : AC} {st : St} : den AP RP (.loop [] c) st = match den AP RP c st with | some (.norm, st') => den AP RP (.loop [] c) st' | r => r := by rw [den_loop]; rfl

theorem wrap_i64 (n : Int) (h1 : -9223372036854775808 ≤ n) (h2 : n < 9223372036854775808) : IntKind.i64.wrap n = n := by
  unfold IntKind.wrap
  simp [IntKind.bits, IntKind.signed]
  split <;> omega

theorem wrap_u64 (n : Int) (h1 : 0 ≤ n) (h2 : n < 18446744073709551616) : IntKind.u64.wrap n = n := by
  unfold IntKind.wrap
  simp [IntKind.bits, IntKind.signed]
  omega

theorem wrap_u8 (n : Int) (h1 : 0 ≤ n) (h2 : n < 256) : IntKind.u8.wrap n = n := by
  unfold IntKind.wrap
  simp [IntKind.bits, IntKind.signed]
  omega


section
variable (n m : Nat)
@[simp] theorem lit_lt : (no_index (OfNat.ofNat n : Int) < (m : Int)) ↔ (OfNat.ofNat n : Nat) < m := Int.ofNat_lt
@[simp] theorem lt_lit : ((m : Int) < no_index (OfNat.ofNat n : Int)) ↔ m < (OfNat.ofNat n : Nat) := Int.ofNat_lt
@[simp] theorem lit_le : (no_index (OfNat.ofNat n : Int) ≤ (m : Int)) ↔ (OfNat.ofNat n : Nat) ≤ m := Int.ofNat_le
@[simp] theorem le_lit : ((m : Int) ≤ no_index (OfNat.ofNat n : Int)) ↔ m ≤ (OfNat.ofNat n : Nat) := Int.ofNat_le
@[simp] theorem lit_eq : (no_index (OfNat.ofNat n : Int) = (m : Int)) ↔ (OfNat.ofNat n : Nat) = m := Int.ofNat_inj
@[simp] theorem eq_lit : ((m : Int) = no_index (OfNat.ofNat n : Int)) ↔ m = (OfNat.ofNat n : Nat) := Int.ofNat_inj
end

def strs (l : List (List UInt8)) : List AV := l.map .str
@[simp] theorem strs_length (l : List (List UInt8)) : (strs l).length = l.length := by simp [strs]
@[simp] theorem strs_get (l : List (List UInt8)) (i : Nat) : (strs l)[i]? = l[i]?.map .str := by simp [strs]
@[simp] theorem strs_getE (l : List (List UInt8)) (i : Nat) (h : i < (strs l).length) : (strs l)[i] = .str (l[i]'(by simpa using h)) := by simp [strs]
@[simp] theorem strs_append (l k : List (List UInt8)) : strs l ++ strs k = strs (l ++ k) := by simp [strs]
@[simp] theorem strs_snoc (l : List (List UInt8)) (s : List UInt8) : strs l ++ [.str s] = strs (l ++ [s]) := by simp [strs]

def u64s (l : List Nat) : List AV := l.map fun (n : Nat) => .int .u64 (n : Int)
@[simp] theorem u64s_length (l : List Nat) : (u64s l).length = l.length := by simp [u64s]
@[simp] theorem u64s_getE (l : List Nat) (i : Nat) (h : i < (u64s l).length) : (u64s l)[i] = .int .u64 ((l[i]'(by simpa using h) : Nat) : Int) := by simp [u64s]
@[simp] theorem u64s_snoc (l : List Nat) (n : Nat) : u64s l ++ [.int .u64 (n : Int)] = u64s (l ++ [n]) := by simp [u64s]
@[simp] theorem u64s_nil : ([] : List AV) = u64s [] ↔ True := by simp [u64s]

def bools (l : List Bool) : List AV := l.map .bool
@[simp] theorem bools_length (l : List Bool) : (bools l).length = l.length := by simp [bools]
@[simp] theorem bools_getE (l : List Bool) (i : Nat) (h : i < (bools l).length) : (bools l)[i] = .bool (l[i]'(by simpa using h)) := by simp [bools]
@[simp] theorem bools_set (l : List Bool) (i : Nat) (b : Bool) : (bools l).set i (.bool b) = bools (l.set i b) := by simp [bools]

theorem isStrs_strs (l : List (List UInt8)) : isStrs (strs l) = true := by
  induction l with
  | nil => rfl
  | cons s l ih => simpa [strs, isStrs] using ih

theorem strOf_strs (l : List (List UInt8)) : (strs l).map strOf = l := by
  induction l with
  | nil => rfl
  | cons s l ih => simp only [strs, List.map_cons, strOf] at ih ⊢; rw [ih]

end Go.VS
