/- The check that an abstract operation stands for an operation of the program. -/
import Derived.Test.YtpebcbnkalkikaaFc
set_option linter.unusedVariables false
namespace Go.VS

def isStr (P : Program) (T : TypeId) : Bool := match P.underlying T with | some .string => true | _ => false
def sliceOf (P : Program) (T : TypeId) : Option TypeId := match P.underlying T with | some (.slice e) => some e | _ => none
def isSlice (P : Program) (T : TypeId) : Bool := (sliceOf P T).isSome
def isInt (P : Program) (T : TypeId) (k : IntKind) : Bool := match P.underlying T with | some (.int j) => decide (j = k) | _ => false
def hasSize (P : Program) (T s : Nat) : Bool := match P.info? T with | some i => i.size == s | none => false
def elemFits (P : Program) (e s eb : Nat) : Option Value := match P.info? e with
  | some i => match i.zero with
    | some z => if i.size == s && i.bytes == eb && z.cells.size == s then some z else none
    | none => none
  | none => none
def chkKind (P : Program) (T : TypeId) : Option Nat → Bool
  | none => (match P.underlying T with | some d => !isAggD d | none => false) && hasSize P T 1
  | some k => (match P.underlying T with | some d => isAggD d | none => false) && hasSize P T k
def zeroV : Value → AV → Bool
  | .agg vs, .agg l => zeroOk l vs.toList
  | v, x => constOk v x
def chkZero (P : Program) (T : TypeId) (zero : List AV) : Bool := match P.info? T with
  | some i => match i.zero with
    | some z => zeroOk zero z.cells.toList
    | none => false
  | none => false
def placesOf (P : Program) (T : TypeId) : Option (Nat → Option (Nat × Nat)) := match P.underlying T with
  | some (.struct fs) => (fs.toList.mapM fun f => (P.info? f.type).map fun i => (f.offset, i.size)).map fun places k => places.toArray[k]?
  | some (.array k e) => (P.info? e).map fun i j => some (j * i.size, i.size)
  | _ => none
def chkField (P : Program) (T f off : Nat) : Bool := match P.underlying T with
  | some (.struct fs) => match fs[f]? with
    | some fd => fd.offset == off && (match P.info? fd.type with | some i => i.size != 0 | none => false)
    | none => false
  | _ => false
def chkArr (P : Program) (T len s : Nat) : Bool := match P.underlying T with
  | some (.array n e) => n == len && hasSize P e s
  | _ => false

section
variable {P : Program} {T : TypeId}
theorem isStr_ok (h : isStr P T = true) : P.underlying T = some .string := by
  unfold isStr at h
  split at h
  · assumption
  · simp at h
theorem sliceOf_ok {e : TypeId} (h : sliceOf P T = some e) : P.underlying T = some (.slice e) := by
  unfold sliceOf at h
  split at h
  · simp only [Option.some.injEq] at h; subst h; assumption
  · simp at h
theorem isSlice_ok (h : isSlice P T = true) : ∃ e, P.underlying T = some (.slice e) := by
  obtain ⟨e, he⟩ := Option.isSome_iff_exists.1 h
  exact ⟨e, sliceOf_ok he⟩
theorem isInt_ok {k : IntKind} (h : isInt P T k = true) : P.underlying T = some (.int k) := by
  unfold isInt at h
  split at h
  · have := of_decide_eq_true h; subst this; assumption
  · simp at h
theorem hasSize_ok {s : Nat} (h : hasSize P T s = true) : SizeIs P T s := by
  unfold hasSize at h
  split at h
  · exact ⟨_, by assumption, by simpa using h⟩
  · simp at h
theorem elemFits_ok {s eb : Nat} {z : Value} (h : elemFits P T s eb = some z) : ElemIs P T s eb z := by
  unfold elemFits at h
  split at h
  · rename_i i hi
    split at h
    · rename_i z' hz
      split at h
      · rename_i hc
        simp only [Option.some.injEq] at h
        subst h
        simp only [Bool.and_eq_true, beq_iff_eq] at hc
        exact ⟨⟨i, hi, hc.1.1, hc.1.2, hz⟩, hc.2⟩
      · simp at h
    · simp at h
  · simp at h
theorem chkKind_ok {sz : Option Nat} (h : chkKind P T sz = true) : KindIs P T sz := by
  cases sz with
  | none =>
    simp only [chkKind, Bool.and_eq_true] at h
    refine ⟨?_, hasSize_ok h.2⟩
    have := h.1
    split at this
    · exact ⟨_, by assumption, by simpa using this⟩
    · simp at this
  | some k =>
    simp only [chkKind, Bool.and_eq_true] at h
    refine ⟨?_, hasSize_ok h.2⟩
    have := h.1
    split at this
    · exact ⟨_, by assumption, this⟩
    · simp at this
theorem zeroV_ok {v : Value} {x : AV} (h : zeroV v x = true) : (∀ S G w, RepV S G w x v) ∧ plain x = true := by
  unfold zeroV at h
  split at h
  · exact ⟨fun S G w => ⟨_, rfl, zeroOk_reps h⟩, rfl⟩
  · exact ⟨fun S G w => (constOk_rep h).1, (constOk_rep (S := fun _ _ => True) (G := fun _ => none) (w := default) h).2⟩
theorem chkZero_ok {zero : List AV} (h : chkZero P T zero = true) : ZeroIs P T zero := by
  unfold chkZero at h
  split at h
  · split at h
    · exact ⟨_, _, by assumption, by assumption, h⟩
    · simp at h
  · simp at h
theorem placesOf_ok {zero : List AV} {place : Nat → Option (Nat × Nat)} (hz : chkZero P T zero = true) (h : placesOf P T = some place) : PlacesAre P T zero place := by
  obtain ⟨i, z, h1, h2, h3⟩ := chkZero_ok hz
  refine ⟨i, z, h1, h2, h3, ?_⟩
  unfold placesOf at h
  split at h
  · rename_i fs hfs
    simp only [Option.map_eq_some_iff] at h
    obtain ⟨places, e1, e2⟩ := h
    exact .inl ⟨fs, places, hfs, e1, e2.symm⟩
  · rename_i k e hk
    simp only [Option.map_eq_some_iff] at h
    obtain ⟨j, e1, e2⟩ := h
    exact .inr ⟨k, e, j.size, hk, ⟨j, e1, rfl⟩, e2.symm⟩
  · simp at h
end

def chkApp (P : Program) (t tx s eb : Nat) : Bool := match sliceOf P t with
  | some e => (elemFits P e s eb).isSome && (isSlice P tx || isStr P tx)
  | none => false

def opndEq : Operand → Operand → Bool
  | .tmp a, .tmp b => a == b
  | .const (.int k n), .const (.int j m) => decide (k = j) && n == m
  | _, _ => false

theorem opndEq_ok {x y : Operand} (h : opndEq x y = true) : x = y := by
  unfold opndEq at h
  split at h <;> simp_all

/-- Does it stand for it? -/
def chkOp (P : Program) (slots : List Nat) (n : Nat) (o : Oper) (op : AOp) : Bool :=
  match op with
  | .mv d r => chkDstO slots n o.dst d && (match o.op with
    | .move x => chkRef slots x r
    | .assign x => chkRef slots x r
    | _ => false)
  | .take i m x => (match o.op with
    | .move (.tmp y) => x == y
    | .assign (.tmp y) => x == y
    | _ => false) && (match o.dst with | some z => slots[i]? == some z | none => false) && !slots.contains x
  | .pick d c a b => chkDstO slots n o.dst d && (match o.op with
    | .pick x y z => chkRef slots x c && chkRef slots y a && chkRef slots z b
    | _ => false)
  | .bin d bo x y => chkDstO slots n o.dst d && (match o.op with
    | .binOp bo' _ a b _ => decide (bo' = bo) && chkRef slots a x && chkRef slots b y
    | _ => false)
  | .un d uo x => chkDstO slots n o.dst d && (match o.op with
    | .unOp uo' _ a => decide (uo' = uo) && chkRef slots a x
    | _ => false)
  | .len d str x => chkDstO slots n o.dst d && (match o.op with
    | .call { callee := .builtin .len, args := ⟨[a]⟩, argTypes := ts } => chkRef slots a x && (match ts[0]? with | some T => if str then isStr P T else isSlice P T | none => false)
    | _ => false)
  | .idx d x i => chkDstO slots n o.dst d && (match o.op with
    | .index T a b => isStr P T && chkRef slots a x && chkRef slots b i
    | _ => false)
  | .iad d s x i => chkDstO slots n o.dst d && (match o.op with
    | .indexAddr T a b => (match sliceOf P T with | some e => hasSize P e s | none => false) && chkRef slots a x && chkRef slots b i
    | _ => false)
  | .iada d len s x i => chkDstO slots n o.dst d && (match o.op with
    | .indexAddr T a b => chkArr P T len s && chkRef slots a x && chkRef slots b i
    | _ => false)
  | .fad d off x => chkDstO slots n o.dst d && (match o.op with
    | .fieldAddr T a f => chkField P T f off && chkRef slots a x
    | _ => false)
  | .ld d sz x => chkDstO slots n o.dst d && (match o.op with
    | .load T a => chkKind P T sz && chkRef slots a x
    | _ => false)
  | .sto sz x v => o.dst.isNone && (match o.op with
    | .store T a b => chkKind P T sz && chkRef slots a x && chkRef slots b v
    | _ => false)
  | .slc d str s x lo hi => chkDstO slots n o.dst d && (match o.op with
    | .slice T a l h none => (if str then isStr P T else (match sliceOf P T with | some e => hasSize P e s | none => false)) && chkRef slots a x && chkOpt slots l lo && chkOpt slots h hi
    | _ => false)
  | .mks d zero s eb r => chkDstO slots n o.dst d && (match o.op with
    | .makeSlice T a b => opndEq a b && (match sliceOf P T with | some e => (match elemFits P e s eb with | some z => zeroV z zero | none => false) | none => false) && chkRef slots a r
    | _ => false)
  | .lit d s parts => chkDstO slots n o.dst d && (match o.op with
    | .buildSlice T len ps => (match sliceOf P T with | some e => (match P.info? e with | some i => (elemFits P e s i.bytes).isSome | none => false) | none => false) && decide (len * s ≤ 16777216) &&
        decide (ps.toList.map (·.1) = List.range len) && chkRefs slots (ps.toList.map (·.2)) parts
    | _ => false)
  | .bld d zero parts => chkDstO slots n o.dst d && (match o.op with
    | .build T ps => chkZero P T zero && (match placesOf P T with | some place => chkParts slots place ps.toList parts | none => false)
    | _ => false)
  | .alo i zero => (match o.op with
    | .alloc T => chkZero P T zero
    | _ => false) && (match o.dst with | some z => slots[i]? == some z | none => false)
  | .box i x => (match o.op with
    | .box T a => chkRef slots a x
    | _ => false) && (match o.dst with | some z => slots[i]? == some z | none => false)
  | .app d s eb x y => chkDstO slots n o.dst d && (match o.op with
    | .call { callee := .builtin .append, args := ⟨[a, b]⟩, argTypes := ⟨[t, tx]⟩ } => chkApp P t tx s eb && chkRef slots a x && chkRef slots b y
    | _ => false)
  | .cvi d k x => chkDstO slots n o.dst d && (match o.op with
    | .convert T T' a => (P.underlying T).isSome && isInt P T' k && chkRef slots a x
    | _ => false)
  | .b2s d x => chkDstO slots n o.dst d && (match o.op with
    | .convert T T' a => (match sliceOf P T with | some e => isInt P e .u8 | none => false) && isStr P T' && chkRef slots a x
    | _ => false)
  | .s2b d x => chkDstO slots n o.dst d && (match o.op with
    | .convert T T' a => isStr P T && (match sliceOf P T' with | some e => isInt P e .u8 | none => false) && chkRef slots a x
    | _ => false)
  | .call d f args => chkDstO slots n o.dst d && (match o.op with
    | .call { callee := .value (.func g), args := as, argTypes := _ } => g == f && chkRefs slots as.toList args
    | _ => false)
  | .callo d f r => chkDstO slots n o.dst d && (match o.op with
    | .call { callee := .value (.func g), args := ⟨[x]⟩, argTypes := _ } => g == f && chkRef slots x r
    | _ => false)
  | .eqv d neg x y => chkDstO slots n o.dst d && (match o.op with
    | .binOp bo T a b _ => decide (bo = if neg then .neq else .eql) && (match P.underlying T with | some .bool => true | _ => false) && chkRef slots a x && chkRef slots b y
    | _ => false)
  | .niq d neg x => chkDstO slots n o.dst d && (match o.op with
    | .binOp bo T a (.const (.slice none 0 0)) _ => decide (bo = if neg then .neq else .eql) && isSlice P T && chkRef slots a x
    | _ => false)
  | .mnx d mx x y => chkDstO slots n o.dst d && (match o.op with
    | .call { callee := .builtin bi, args := ⟨[a, b]⟩, argTypes := _ } => decide (bi = if mx then .max else .min) && chkRef slots a x && chkRef slots b y
    | _ => false)
  | .callv d f args => chkDstO slots n o.dst d && (match o.op with
    | .call { callee := .value x, args := as, argTypes := _ } => chkRef slots x f && chkRefs slots as.toList args
    | _ => false)
  | .ext d x k => chkDstO slots n o.dst d && (match o.op with
    | .extract (.tmp y) j => x == y && k == j && !slots.contains x
    | _ => false)
  | .mkf d f caps => chkDstO slots n o.dst d && (match o.op with
    | .makeFunc (.func g) ⟨[]⟩ cs => g == f && chkRefs slots cs.toList caps
    | _ => false)
  | .mkq d f i => chkDstO slots n o.dst d && (match o.op with
    | .makeFunc (.func g) ⟨[]⟩ ⟨[.tmp x]⟩ => g == f && slots[i]? == some x
    | _ => false)
  | .nck d x => chkDstO slots n o.dst d && (match o.op with
    | .nilCheck a => chkRef slots a x
    | _ => false)
  | _ => false

theorem chkOp_sound {P : Program} {slots : List Nat} {n : Nat} {o : Oper} {op : AOp} (h : chkOp P slots n o op = true) {CS : CallSem} {RP : FuncId → Option (List AV → Option AV)} (hf : ∀ f, FnOk P CS f) : OpFits P CS RP slots n o op := by
  unfold chkOp at h
  split at h
  · -- mv
    simp only [Bool.and_eq_true] at h
    obtain ⟨hd, h⟩ := h
    split at h
    · exact fits_mv (.inl (by assumption)) hd h
    · exact fits_mv (.inr (by assumption)) hd h
    · simp at h
  · -- take
    simp only [Bool.and_eq_true, Bool.not_eq_true', List.contains_eq_mem, decide_eq_false_iff_not] at h
    obtain ⟨⟨h, hd⟩, hs⟩ := h
    split at hd
    · rename_i z hz
      split at h
      · rename_i y hy
        have := beq_iff_eq.1 h
        subst this
        exact fits_take (.inl hy) hz (by simpa using hd) hs
      · rename_i y hy
        have := beq_iff_eq.1 h
        subst this
        exact fits_take (.inr hy) hz (by simpa using hd) hs
      · simp at h
    · simp at hd
  · -- pick
    simp only [Bool.and_eq_true] at h
    obtain ⟨hd, h⟩ := h
    split at h
    · rename_i x y z ho
      simp only [Bool.and_eq_true] at h
      exact fits_pick ho hd h.1.1 h.1.2 h.2
    · simp at h
  · -- bin
    simp only [Bool.and_eq_true] at h
    obtain ⟨hd, h⟩ := h
    split at h
    · rename_i ho
      simp only [Bool.and_eq_true, decide_eq_true_eq] at h
      obtain ⟨⟨h1, h2⟩, h3⟩ := h
      subst h1
      exact fits_bin ho hd h2 h3
    · simp at h
  · -- un
    simp only [Bool.and_eq_true] at h
    obtain ⟨hd, h⟩ := h
    split at h
    · rename_i ho
      simp only [Bool.and_eq_true, decide_eq_true_eq] at h
      obtain ⟨h1, h2⟩ := h
      subst h1
      exact fits_un ho hd h2
    · simp at h
  · -- len
    rename_i d str x
    simp only [Bool.and_eq_true] at h
    obtain ⟨hd, h⟩ := h
    split at h
    · rename_i a ts ho
      simp only [Bool.and_eq_true] at h
      obtain ⟨h1, h2⟩ := h
      split at h2
      · rename_i T hT
        refine fits_len ho hT ?_ hd h1
        cases str with
        | true => exact isStr_ok (by simpa using h2)
        | false => exact isSlice_ok (by simpa using h2)
      · simp at h2
    · simp at h
  · -- idx
    simp only [Bool.and_eq_true] at h
    obtain ⟨hd, h⟩ := h
    split at h
    · rename_i ho
      simp only [Bool.and_eq_true] at h
      exact fits_idx ho (isStr_ok h.1.1) hd h.1.2 h.2
    · simp at h
  · -- iad
    simp only [Bool.and_eq_true] at h
    obtain ⟨hd, h⟩ := h
    split at h
    · rename_i ho
      simp only [Bool.and_eq_true] at h
      obtain ⟨⟨h1, h2⟩, h3⟩ := h
      split at h1
      · rename_i e he
        exact fits_iad ho (sliceOf_ok he) (hasSize_ok h1) hd h2 h3
      · simp at h1
    · simp at h
  · -- iada
    simp only [Bool.and_eq_true] at h
    obtain ⟨hd, h⟩ := h
    split at h
    · rename_i ho
      simp only [Bool.and_eq_true] at h
      obtain ⟨⟨h1, h2⟩, h3⟩ := h
      unfold chkArr at h1
      split at h1
      · rename_i m e he
        simp only [Bool.and_eq_true, beq_iff_eq] at h1
        obtain ⟨h1, h4⟩ := h1
        subst h1
        exact fits_iada ho he (hasSize_ok h4) hd h2 h3
      · simp at h1
    · simp at h
  · -- fad
    simp only [Bool.and_eq_true] at h
    obtain ⟨hd, h⟩ := h
    split at h
    · rename_i ho
      simp only [Bool.and_eq_true] at h
      obtain ⟨h1, h2⟩ := h
      unfold chkField at h1
      split at h1
      · rename_i fs hfs
        split at h1
        · rename_i fd hfd
          simp only [Bool.and_eq_true, beq_iff_eq] at h1
          obtain ⟨h1, h4⟩ := h1
          split at h4
          · rename_i i hi
            exact fits_fad ho hfs hfd h1 ⟨i.size, ⟨i, hi, rfl⟩, by simpa using h4⟩ hd h2
          · simp at h4
        · simp at h1
      · simp at h1
    · simp at h
  · -- ld
    simp only [Bool.and_eq_true] at h
    obtain ⟨hd, h⟩ := h
    split at h
    · rename_i ho
      simp only [Bool.and_eq_true] at h
      exact fits_ld ho (chkKind_ok h.1) hd h.2
    · simp at h
  · -- sto
    simp only [Bool.and_eq_true] at h
    obtain ⟨hd, h⟩ := h
    split at h
    · rename_i ho
      simp only [Bool.and_eq_true] at h
      exact fits_sto ho (chkKind_ok h.1.1) (by simpa using hd) h.1.2 h.2
    · simp at h
  · -- slc
    rename_i d str s x lo hi
    simp only [Bool.and_eq_true] at h
    obtain ⟨hd, h⟩ := h
    split at h
    · rename_i ho
      simp only [Bool.and_eq_true] at h
      obtain ⟨⟨⟨h1, h2⟩, h3⟩, h4⟩ := h
      refine fits_slc ho ?_ hd h2 h3 h4
      cases str with
      | true => exact isStr_ok (by simpa using h1)
      | false =>
        simp only [Bool.false_eq_true, if_false] at h1
        split at h1
        · rename_i e he
          exact ⟨e, sliceOf_ok he, hasSize_ok h1⟩
        · simp at h1
    · simp at h
  · -- mks
    simp only [Bool.and_eq_true] at h
    obtain ⟨hd, h⟩ := h
    split at h
    · rename_i ho
      simp only [Bool.and_eq_true] at h
      obtain ⟨⟨h1, h2⟩, h3⟩ := h
      have := opndEq_ok h1
      subst this
      split at h2
      · rename_i e he
        split at h2
        · rename_i z hz
          have := zeroV_ok h2
          exact fits_mks ho (sliceOf_ok he) (elemFits_ok hz) this.1 this.2 hd h3
        · simp at h2
      · simp at h2
    · simp at h
  · -- lit
    simp only [Bool.and_eq_true] at h
    obtain ⟨hd, h⟩ := h
    split at h
    · rename_i ho
      simp only [Bool.and_eq_true, decide_eq_true_eq] at h
      obtain ⟨⟨⟨h1, h2⟩, h3⟩, h4⟩ := h
      split at h1
      · rename_i e he
        split at h1
        · rename_i i hi
          obtain ⟨z, hz⟩ := Option.isSome_iff_exists.1 h1
          exact fits_lit ho (sliceOf_ok he) (elemFits_ok hz) h2 h3 hd h4
        · simp at h1
      · simp at h1
    · simp at h
  · -- bld
    simp only [Bool.and_eq_true] at h
    obtain ⟨hd, h⟩ := h
    split at h
    · rename_i ho
      simp only [Bool.and_eq_true] at h
      obtain ⟨h1, h2⟩ := h
      split at h2
      · rename_i place hp
        exact fits_bld ho (placesOf_ok h1 hp) hd h2
      · simp at h2
    · simp at h
  · -- alo
    simp only [Bool.and_eq_true] at h
    obtain ⟨h, hd⟩ := h
    split at hd
    · rename_i z hz
      split at h
      · rename_i ho
        exact fits_alo ho (chkZero_ok h) hz (by simpa using hd)
      · simp at h
    · simp at hd
  · -- box
    simp only [Bool.and_eq_true] at h
    obtain ⟨h, hd⟩ := h
    split at hd
    · rename_i z hz
      split at h
      · rename_i ho
        exact fits_box ho h hz (by simpa using hd)
      · simp at h
    · simp at hd
  · -- app
    simp only [Bool.and_eq_true] at h
    obtain ⟨hd, h⟩ := h
    split at h
    · rename_i ho
      simp only [Bool.and_eq_true] at h
      obtain ⟨⟨h1, h2⟩, h3⟩ := h
      unfold chkApp at h1
      split at h1
      · rename_i e he
        simp only [Bool.and_eq_true, Bool.or_eq_true] at h1
        obtain ⟨h1, h4⟩ := h1
        obtain ⟨z, hz⟩ := Option.isSome_iff_exists.1 h1
        exact fits_app ho (sliceOf_ok he) (elemFits_ok hz) (h4.imp isSlice_ok isStr_ok) hd h2 h3
      · simp at h1
    · simp at h
  · -- cvi
    simp only [Bool.and_eq_true] at h
    obtain ⟨hd, h⟩ := h
    split at h
    · rename_i ho
      simp only [Bool.and_eq_true] at h
      exact fits_cvi ho (Option.isSome_iff_exists.1 h.1.1) (isInt_ok h.1.2) hd h.2
    · simp at h
  · -- b2s
    simp only [Bool.and_eq_true] at h
    obtain ⟨hd, h⟩ := h
    split at h
    · rename_i ho
      simp only [Bool.and_eq_true] at h
      obtain ⟨⟨h1, h2⟩, h3⟩ := h
      split at h1
      · rename_i e he
        exact fits_b2s ho (sliceOf_ok he) (isInt_ok h1) (isStr_ok h2) hd h3
      · simp at h1
    · simp at h
  · -- s2b
    simp only [Bool.and_eq_true] at h
    obtain ⟨hd, h⟩ := h
    split at h
    · rename_i ho
      simp only [Bool.and_eq_true] at h
      obtain ⟨⟨h1, h2⟩, h3⟩ := h
      split at h2
      · rename_i e he
        exact fits_s2b ho (isStr_ok h1) (sliceOf_ok he) (isInt_ok h2) hd h3
      · simp at h2
    · simp at h
  · -- call
    simp only [Bool.and_eq_true] at h
    obtain ⟨hd, h⟩ := h
    split at h
    · rename_i ho
      simp only [Bool.and_eq_true, beq_iff_eq] at h
      obtain ⟨h1, h2⟩ := h
      subst h1
      exact fits_call ho (hf _) hd h2
    · simp at h
  · -- callo
    simp only [Bool.and_eq_true] at h
    obtain ⟨hd, h⟩ := h
    split at h
    · rename_i ho
      simp only [Bool.and_eq_true, beq_iff_eq] at h
      obtain ⟨h1, h2⟩ := h
      subst h1
      exact fits_callo ho (hf _) hd h2
    · simp at h
  · -- eqv
    simp only [Bool.and_eq_true] at h
    obtain ⟨hd, h⟩ := h
    split at h
    · rename_i ho
      simp only [Bool.and_eq_true, decide_eq_true_eq] at h
      obtain ⟨⟨⟨h1, h2⟩, h3⟩, h4⟩ := h
      subst h1
      split at h2
      · rename_i hu
        exact fits_eqv ho hu hd h3 h4
      · simp at h2
    · simp at h
  · -- niq
    simp only [Bool.and_eq_true] at h
    obtain ⟨hd, h⟩ := h
    split at h
    · rename_i ho
      simp only [Bool.and_eq_true, decide_eq_true_eq] at h
      obtain ⟨⟨h1, h2⟩, h3⟩ := h
      subst h1
      obtain ⟨e, hu⟩ := isSlice_ok h2
      exact fits_niq ho hu hd h3
    · simp at h
  · -- mnx
    simp only [Bool.and_eq_true] at h
    obtain ⟨hd, h⟩ := h
    split at h
    · rename_i ho
      simp only [Bool.and_eq_true, decide_eq_true_eq] at h
      obtain ⟨⟨h1, h2⟩, h3⟩ := h
      subst h1
      exact fits_mnx ho hd h2 h3
    · simp at h
  · -- callv
    simp only [Bool.and_eq_true] at h
    obtain ⟨hd, h⟩ := h
    split at h
    · rename_i ho
      simp only [Bool.and_eq_true] at h
      exact fits_callv ho hf hd h.1 h.2
    · simp at h
  · -- ext
    simp only [Bool.and_eq_true] at h
    obtain ⟨hd, h⟩ := h
    split at h
    · rename_i ho
      simp only [Bool.and_eq_true, beq_iff_eq, Bool.not_eq_true', List.contains_eq_mem, decide_eq_false_iff_not] at h
      obtain ⟨⟨h1, h2⟩, h3⟩ := h
      subst h1 h2
      exact fits_ext ho hd h3
    · simp at h
  · -- mkf
    simp only [Bool.and_eq_true] at h
    obtain ⟨hd, h⟩ := h
    split at h
    · rename_i ho
      simp only [Bool.and_eq_true, beq_iff_eq] at h
      obtain ⟨h1, h2⟩ := h
      subst h1
      exact fits_mkf ho hd h2
    · simp at h
  · -- mkq
    simp only [Bool.and_eq_true] at h
    obtain ⟨hd, h⟩ := h
    split at h
    · rename_i ho
      simp only [Bool.and_eq_true, beq_iff_eq] at h
      obtain ⟨h1, h2⟩ := h
      subst h1
      exact fits_mkq ho h2 hd
    · simp at h
  · -- nck
    simp only [Bool.and_eq_true] at h
    obtain ⟨hd, h⟩ := h
    split at h
    · rename_i ho
      exact fits_nck ho hd h
    · simp at h
  · simp at h

/-- An operation that leaves the world as it is. -/
def quietOp : AOp → Bool
  | .mv .. | .pick .. | .bin .. | .un .. | .len .. | .iad .. | .iada .. | .ld .. | .cvi .. | .nck .. | .ext .. => true
  | _ => false

theorem quiet_sound {P : Program} {slots : List Nat} {n : Nat} {o : Oper} {op : AOp} (h : chkOp P slots n o op = true) (hq : quietOp op = true) {CS : CallSem} {RP : FuncId → Option (List AV → Option AV)} (hf : ∀ f, FnOk P CS f) : OpStill P CS RP slots n o op := by
  have hfit := chkOp_sound h (RP := RP) hf
  unfold chkOp at h
  split at h <;> first
    | (simp [quietOp] at hq; done)
    | skip
  · simp only [Bool.and_eq_true] at h
    obtain ⟨hd, h⟩ := h
    split at h
    · exact still_mv (.inl (by assumption))
    · exact still_mv (.inr (by assumption))
    · simp at h
  · simp only [Bool.and_eq_true] at h
    obtain ⟨hd, h⟩ := h
    split at h
    · rename_i ho
      exact still_pick ho hfit
    · simp at h
  · simp only [Bool.and_eq_true] at h
    obtain ⟨hd, h⟩ := h
    split at h
    · rename_i ho
      simp only [Bool.and_eq_true, decide_eq_true_eq] at h
      obtain ⟨⟨h1, h2⟩, h3⟩ := h
      subst h1
      exact still_bin ho h2 h3
    · simp at h
  · simp only [Bool.and_eq_true] at h
    obtain ⟨hd, h⟩ := h
    split at h
    · rename_i ho
      simp only [Bool.and_eq_true, decide_eq_true_eq] at h
      obtain ⟨h1, h2⟩ := h
      subst h1
      exact still_un ho h2
    · simp at h
  · rename_i d str x
    simp only [Bool.and_eq_true] at h
    obtain ⟨hd, h⟩ := h
    split at h
    · rename_i a ts ho
      simp only [Bool.and_eq_true] at h
      obtain ⟨h1, h2⟩ := h
      split at h2
      · rename_i T hT
        refine still_len ho hT ?_ h1
        cases str with
        | true => exact isStr_ok (by simpa using h2)
        | false => exact isSlice_ok (by simpa using h2)
      · simp at h2
    · simp at h
  · simp only [Bool.and_eq_true] at h
    obtain ⟨hd, h⟩ := h
    split at h
    · rename_i ho
      exact still_iad ho hfit
    · simp at h
  · simp only [Bool.and_eq_true] at h
    obtain ⟨hd, h⟩ := h
    split at h
    · rename_i ho
      exact still_iad ho hfit
    · simp at h
  · simp only [Bool.and_eq_true] at h
    obtain ⟨hd, h⟩ := h
    split at h
    · rename_i ho
      exact still_ld ho hfit
    · simp at h
  · simp only [Bool.and_eq_true] at h
    obtain ⟨hd, h⟩ := h
    split at h
    · rename_i ho
      simp only [Bool.and_eq_true] at h
      exact still_cvi ho (Option.isSome_iff_exists.1 h.1.1) (isInt_ok h.1.2) h.2
    · simp at h
  · simp only [Bool.and_eq_true] at h
    obtain ⟨hd, h⟩ := h
    split at h
    · rename_i ho
      exact still_ext ho hfit
    · simp at h
  · simp only [Bool.and_eq_true] at h
    obtain ⟨hd, h⟩ := h
    split at h
    · rename_i ho
      exact still_nck ho h
    · simp at h

end Go.VS
/- The check of regions, code, functions. -/
set_option linter.unusedVariables false
namespace Go.VS

def chkGOp (P : Program) (slots : List Nat) (n : Nat) (ops : Array Oper) (o : Oper) : AOp → Bool
  | .g (.t tg) want ds op => (match o.guard with
      | some (g, w) => w == want && (match ops[g]? with | some og => og.dst == some tg | none => false)
      | none => false) && !slots.contains tg && chkSkip slots n o.dst ds && chkOp P slots n o op
  | op => o.guard.isNone && chkOp P slots n o op

def quietG : AOp → Bool
  | .g _ _ _ op => quietOp op
  | op => quietOp op

def chkL (P : Program) (slots : List Nat) (n : Nat) (ops : Array Oper) : List Oper → List AOp → Bool
  | [], [] => true
  | o :: os, a :: as => chkGOp P slots n ops o a && chkL P slots n ops os as
  | _, _ => false

section
variable {P : Program} {slots : List Nat} {n : Nat} {ops : Array Oper} {CS : CallSem} {RP : FuncId → Option (List AV → Option AV)}

theorem chkGOp_cases {o : Oper} {op : AOp} (h : chkGOp P slots n ops o op = true) :
    (∃ tg want ds op' g og, op = .g (.t tg) want ds op' ∧ o.guard = some (g, want) ∧ ops[g]? = some og ∧ og.dst = some tg ∧ tg ∉ slots ∧ chkSkip slots n o.dst ds = true ∧ chkOp P slots n o op' = true) ∨
    (o.guard = none ∧ chkOp P slots n o op = true ∧ quietG op = quietOp op) := by
  unfold chkGOp at h
  split at h
  · rename_i tg want ds op'
    simp only [Bool.and_eq_true, Bool.not_eq_true', List.contains_eq_mem, decide_eq_false_iff_not] at h
    obtain ⟨⟨⟨h1, h2⟩, h3⟩, h4⟩ := h
    split at h1
    · rename_i g w hg
      simp only [Bool.and_eq_true, beq_iff_eq] at h1
      obtain ⟨h1, h5⟩ := h1
      subst h1
      split at h5
      · rename_i og hog
        exact .inl ⟨tg, w, ds, op', g, og, rfl, hg, hog, by simpa using h5, h2, h3, h4⟩
      · simp at h5
    · simp at h1
  · rename_i hne
    simp only [Bool.and_eq_true, Option.isNone_iff_eq_none] at h
    refine .inr ⟨h.1, h.2, ?_⟩
    cases op with
    | g x want ds op' => simp [chkOp] at h
    | _ => rfl

theorem chkGOp_fits {o : Oper} {op : AOp} (h : chkGOp P slots n ops o op = true) (hf : ∀ f, FnOk P CS f) : OpFitsG P CS RP slots n ops o op := by
  rcases chkGOp_cases h with ⟨tg, want, ds, op', g, og, rfl, h1, h2, h3, h4, h5, h6⟩ | ⟨h1, h2, _⟩
  · exact fitsG_some h1 h2 h3 h4 h5 (chkOp_sound h6 hf)
  · exact fitsG_none h1 (chkOp_sound h2 hf)

theorem chkGOp_still {o : Oper} {op : AOp} (h : chkGOp P slots n ops o op = true) (hq : quietG op = true) (hf : ∀ f, FnOk P CS f) : OpStillG P CS RP slots n ops o op := by
  rcases chkGOp_cases h with ⟨tg, want, ds, op', g, og, rfl, h1, h2, h3, h4, h5, h6⟩ | ⟨h1, h2, h3⟩
  · exact stillG_some h1 h2 h3 h4 (quiet_sound h6 hq hf)
  · rw [h3] at hq
    exact stillG_none h1 (quiet_sound h2 hq hf)

theorem chkL_get : ∀ {os : List Oper} {as : List AOp}, chkL P slots n ops os as = true → as.length = os.length ∧ ∀ (i : Nat) (o : Oper) (op : AOp), os[i]? = some o → as[i]? = some op → chkGOp P slots n ops o op = true
  | [], [], _ => ⟨rfl, by simp⟩
  | o :: os, a :: as, h => by
    simp only [chkL, Bool.and_eq_true] at h
    obtain ⟨e1, e2⟩ := chkL_get h.2
    refine ⟨by simp [e1], fun i o' op' h1 h2 => ?_⟩
    cases i with
    | zero =>
      simp only [List.getElem?_cons_zero, Option.some.injEq] at h1 h2
      subst h1 h2
      exact h.1
    | succ i => exact e2 i o' op' (by simpa using h1) (by simpa using h2)
  | [], _ :: _, h => by simp [chkL] at h
  | _ :: _, [], h => by simp [chkL] at h
end

/-! ### orders -/
def directs (o : Oper) : List Nat := (o.after.toList.filter fun e => Region.binds .any e).map (·.on)

def predsGo : List Oper → List (List Nat) → List (List Nat)
  | [], acc => acc
  | o :: os, acc => predsGo os (acc ++ [(directs o).flatMap fun x => x :: acc.getD x []])

def cutB (N : Nat) (pl : List (List Nat)) (m : Nat) : Bool :=
  (List.range N).all fun j => j < m || (List.range m).all fun i => (pl.getD j []).contains i

def groupOk (ops : Array Oper) (al : List AOp) (k m : Nat) : Bool :=
  (List.range m).all fun i => i < k || ((match al[i]? with | some op => quietG op | none => false) && (Region.ready .any ops (upto ops.size i)).contains i && Region.free .any ops (upto ops.size i) i)

def groupsB (ops : Array Oper) (al : List AOp) (pl : List (List Nat)) : Nat → Nat → Bool
  | 0, k => k == ops.size
  | fuel + 1, k => if k == ops.size then true else
      if k < ops.size && Region.ready .any ops (upto ops.size k) == [k] then groupsB ops al pl fuel (k + 1) else
      match (List.range (ops.size + 1)).find? fun m => decide (k < m) && cutB ops.size pl m with
      | some m => groupOk ops al k m && groupsB ops al pl fuel m
      | none => false

section
variable {P : Program} {slots : List Nat} {n : Nat} {ops : Array Oper} {CS : CallSem} {RP : FuncId → Option (List AV → Option AV)}

def PInv (ops : Array Oper) (acc : List (List Nat)) : Prop :=
  ∀ j o, ops[j]? = some o → ∀ i ∈ acc.getD j [], ∀ listed, Closed ops listed → (∀ x ∈ directs o, listed.getD x false = true) → listed.getD i false = true

theorem predsGo_inv : ∀ (os : List Oper) (acc : List (List Nat)), (∀ i o, os[i]? = some o → ops[acc.length + i]? = some o) → PInv ops acc → PInv ops (predsGo os acc)
  | [], acc, _, h => h
  | o :: os, acc, hos, h => by
    refine predsGo_inv os _ (fun i o' hi => ?_) ?_
    · have := hos (i + 1) o' (by simpa using hi)
      simpa [Nat.add_assoc, Nat.add_comm 1 i] using this
    · intro j oj hj i hi listed hcl hd
      rcases Nat.lt_trichotomy j acc.length with hlt | heq | hgt
      · rw [List.getD_eq_getElem?_getD, List.getElem?_append_left hlt, ← List.getD_eq_getElem?_getD] at hi
        exact h j oj hj i hi listed hcl hd
      · subst heq
        have : oj = o := by
          have := hos 0 o rfl
          rw [Nat.add_zero, hj] at this
          simpa using this
        subst this
        simp only [List.getD_eq_getElem?_getD, List.getElem?_append_right (Nat.le_refl _), Nat.sub_self, List.getElem?_cons_zero, Option.getD_some, List.mem_flatMap, List.mem_cons] at hi
        obtain ⟨x, hx, hi⟩ := hi
        rcases hi with rfl | hi
        · exact hd i hx
        · cases hox : ops[x]? with
          | none =>
            have hxs := Array.getElem?_eq_none_iff.1 hox
            have hacc : acc.length ≤ ops.size := by
              have := hos 0 oj rfl
              have := (Array.getElem?_eq_some_iff.1 this).1
              omega
            rw [List.getElem?_eq_none (by omega)] at hi
            simp at hi
          | some ox =>
            refine h x ox hox i (by rw [List.getD_eq_getElem?_getD]; exact hi) listed hcl fun y hy => ?_
            simp only [directs, List.mem_map, List.mem_filter, Array.mem_toList_iff] at hy
            obtain ⟨e, ⟨h1, h2⟩, rfl⟩ := hy
            exact hcl x ox hox (hd x hx) e h1 h2
      · rw [List.getD_eq_getElem?_getD, List.getElem?_eq_none (by simp; omega)] at hi
        simp at hi

theorem cutB_ok {m : Nat} {pl : List (List Nat)} (hpl : PInv ops pl) (h : cutB ops.size pl m = true) : Cut ops m := by
  intro listed hcl hal j hj
  obtain ⟨_, oj, hoj, hall⟩ := mem_ready.1 hj
  have hjn : j < ops.size := (Array.getElem?_eq_some_iff.1 hoj).1
  rcases Nat.lt_or_ge j m with hlt | hge
  · exact hlt
  · exfalso
    rw [allL, List.all_eq_false] at hal
    obtain ⟨i, hi, hni⟩ := hal
    simp only [cutB, List.all_eq_true, List.mem_range, Bool.or_eq_true, decide_eq_true_eq] at h
    have := (h j hjn).resolve_left (by omega) i (List.mem_range.1 hi)
    refine hni (hpl j oj hoj i (by simpa using this) listed hcl fun x hx => ?_)
    simp only [directs, List.mem_map, List.mem_filter, Array.mem_toList_iff] at hx
    obtain ⟨e, ⟨h1, h2⟩, rfl⟩ := hx
    exact hall e h1 h2

theorem groupsB_ok {al : List AOp} {pl : List (List Nat)} (hpl : PInv ops pl) (hal : ∀ (i : Nat) (o : Oper) (op : AOp), ops[i]? = some o → al[i]? = some op → chkGOp P slots n ops o op = true) (hf : ∀ f, FnOk P CS f) :
    ∀ (fuel k : Nat), groupsB ops al pl fuel k = true → GroupsOk P CS RP slots n ops al k
  | 0, k, h => by
    simp only [groupsB, beq_iff_eq] at h
    subst h
    exact .done
  | fuel + 1, k, h => by
    simp only [groupsB] at h
    split at h
    · rename_i hk
      have := beq_iff_eq.1 hk
      subst this
      exact .done
    · split at h
      · rename_i h1
        simp only [Bool.and_eq_true, decide_eq_true_eq, beq_iff_eq] at h1
        exact .one k h1.1 h1.2 (groupsB_ok hpl hal hf fuel (k + 1) h)
      · split at h
        · rename_i m hm
          have h1 := List.find?_some hm
          have h2 := List.mem_of_find?_eq_some hm
          simp only [Bool.and_eq_true, decide_eq_true_eq] at h1 h
          have hmn : m ≤ ops.size := by have := List.mem_range.1 h2; omega
          have hg : ∀ i, k ≤ i → i < m → _ := fun i hki him => by
            have := h.1
            simp only [groupOk, List.all_eq_true, List.mem_range, Bool.or_eq_true, decide_eq_true_eq] at this
            exact (this i him).resolve_left (by omega)
          refine .many k m (by omega) hmn (cutB_ok hpl h1.2) (fun i o op hki him ho hop => ?_) (fun i hki him => ?_) (groupsB_ok hpl hal hf fuel m h.2)
          · have := hg i hki him
            rw [hop] at this
            simp only [Bool.and_eq_true] at this
            exact chkGOp_still (hal i o op ho hop) this.1.1 hf
          · have := hg i hki him
            simp only [Bool.and_eq_true, List.contains_eq_mem, decide_eq_true_eq] at this
            exact ⟨this.1.2, this.2⟩
        · simp at h

/-- A region. -/
def chkReg (P : Program) (slots : List Nat) (n : Nat) (ops : Array Oper) (draw : Bool) (al : List AOp) : Bool :=
  chkL P slots n ops ops.toList al && (!draw || (P.follows .mixedOrders && Region.noSelect ops && groupsB ops al (predsGo ops.toList []) ops.size 0))

theorem chkReg_ok {draw : Bool} {al : List AOp} (h : chkReg P slots n ops draw al = true) : RegT P slots n ops draw al := by
  intro CS RP hf
  simp only [chkReg, Bool.and_eq_true, Bool.or_eq_true, Bool.not_eq_true'] at h
  obtain ⟨h1, h2⟩ := h
  obtain ⟨e1, e2⟩ := chkL_get h1
  have hal : ∀ (i : Nat) (o : Oper) (op : AOp), ops[i]? = some o → al[i]? = some op → chkGOp P slots n ops o op = true := fun i o op ho hop => e2 i o op (by simpa using ho) hop
  refine ⟨⟨by simpa using e1, fun i o op ho hop => chkGOp_fits (hal i o op ho hop) hf⟩, fun hd => ?_⟩
  subst hd
  simp only [reduceCtorEq, false_or] at h2
  refine ⟨h2.1.1, h2.1.2, groupsB_ok (predsGo_inv ops.toList [] (fun i o hi => by simpa using hi) ?_) hal hf _ 0 h2.2⟩
  intro j o hj i hi
  simp at hi

def chkC (P : Program) (slots : List Nat) (n : Nat) : AC → Code → Bool
  | .frz _ c, code => chkC P slots n c code
  | .skip, .skip => true
  | .ops _ al, .region _ ops draw => chkReg P slots n ops draw al
  | .ite r a b, .cond x ca cb => chkRef slots x r && chkC P slots n a ca && chkC P slots n b cb
  | .seq a b, .seq ca cb => chkC P slots n a ca && chkC P slots n b cb
  | .block id c, .block id' code => id == id' && chkC P slots n c code
  | .loop _ c, .loop code => chkC P slots n c code
  | .sc _ c, .scope code => chkC P slots n c code
  | .label l, .label l' => l == l'
  | .goto l, .goto l' => l == l'
  | .exit id, .exit id' => id == id'
  | .ret, .ret => true
  | _, _ => false

theorem chkC_ok : ∀ {c : AC} {code : Code}, chkC P slots n c code = true → CodeT P slots n c code := by
  intro c
  induction c with
  | frz i c ih => intro code h; simp only [chkC] at h; exact .frz (ih h)
  | skip => intro code h; cases code <;> simp [chkC] at h; exact .skip
  | ops dr al => intro code h; cases code <;> simp [chkC] at h; exact .ops (chkReg_ok h)
  | ite r a b iha ihb =>
    intro code h
    cases code <;> simp [chkC] at h
    exact .ite h.1.1 (iha h.1.2) (ihb h.2)
  | seq a b iha ihb =>
    intro code h
    cases code <;> simp [chkC] at h
    exact .seq (iha h.1) (ihb h.2)
  | block id c ih =>
    intro code h
    cases code <;> simp [chkC] at h
    obtain ⟨rfl, h⟩ := h
    exact .block (ih h)
  | loop ks c ih => intro code h; cases code <;> simp [chkC] at h; exact .loop (ih h)
  | sc ks c ih => intro code h; cases code <;> simp [chkC] at h; exact .scope (ih h)
  | scope ks c cur _ _ => intro code h; cases code <;> simp [chkC] at h
  | label l => intro code h; cases code <;> simp [chkC] at h; subst h; exact .label
  | goto l => intro code h; cases code <;> simp [chkC] at h; subst h; exact .goto
  | exit id => intro code h; cases code <;> simp [chkC] at h; subst h; exact .exit
  | ret => intro code h; cases code <;> simp [chkC] at h; exact .ret

def chkRes (P : Program) (slots : List Nat) : List ResultVar → List ARes → Bool
  | [], [] => true
  | .tmp t :: rs, .v i :: as => slots[i]? == some t && chkRes P slots rs as
  | .cell t T :: rs, .cell i sz :: as => slots[i]? == some t && chkKind P T sz && chkRes P slots rs as
  | _, _ => false

theorem chkRes_ok : ∀ {rs : List ResultVar} {as : List ARes}, chkRes P slots rs as = true → rs.length = as.length ∧ ∀ (j : Nat) (rv : ResultVar) (ar : ARes), rs[j]? = some rv → as[j]? = some ar → ResT P slots rv ar
  | [], [], _ => ⟨rfl, by simp⟩
  | .tmp t :: rs, .v i :: as, h => by
    simp only [chkRes, Bool.and_eq_true, beq_iff_eq] at h
    obtain ⟨e1, e2⟩ := chkRes_ok h.2
    refine ⟨by simp [e1], fun j rv ar h1 h2 => ?_⟩
    cases j with
    | zero =>
      simp only [List.getElem?_cons_zero, Option.some.injEq] at h1 h2
      subst h1 h2
      exact h.1
    | succ j => exact e2 j rv ar (by simpa using h1) (by simpa using h2)
  | .cell t T :: rs, .cell i sz :: as, h => by
    simp only [chkRes, Bool.and_eq_true, beq_iff_eq] at h
    obtain ⟨e1, e2⟩ := chkRes_ok h.2
    refine ⟨by simp [e1], fun j rv ar h1 h2 => ?_⟩
    cases j with
    | zero =>
      simp only [List.getElem?_cons_zero, Option.some.injEq] at h1 h2
      subst h1 h2
      exact ⟨h.1.1, chkKind_ok h.1.2⟩
    | succ j => exact e2 j rv ar (by simpa using h1) (by simpa using h2)
  | [], _ :: _, h => by simp [chkRes] at h
  | .tmp _ :: _, [], h => by simp [chkRes] at h
  | .cell _ _ :: _, [], h => by simp [chkRes] at h
  | .tmp _ :: _, .cell _ _ :: _, h => by simp [chkRes] at h
  | .cell _ _ :: _, .v _ :: _, h => by simp [chkRes] at h

end

def nodupB : List Nat → Bool
  | [] => true
  | x :: xs => !xs.contains x && nodupB xs

theorem nodupB_ok : ∀ {l : List Nat}, nodupB l = true → l.Nodup
  | [], _ => List.nodup_nil
  | x :: xs, h => by
    simp only [nodupB, Bool.and_eq_true, Bool.not_eq_true', List.contains_eq_mem, decide_eq_false_iff_not] at h
    exact List.nodup_cons.2 ⟨h.1, nodupB_ok h.2⟩

/-- A function of the program. -/
def chkFn (P : Program) (f : FuncId) (fn : AFunc) : Bool :=
  match P.funcs[f]? with
  | some func => match func.body with
    | some code => !(func.name == "runtime.NumGoroutine") && func.ntmps == fn.n && chkC P fn.slots fn.n fn.body code && chkRes P fn.slots func.results.toList fn.res && nodupB fn.slots && fn.slots.all (fun x => decide (x < fn.n))
    | none => false
  | none => false

theorem chkFn_ok {P : Program} {f : FuncId} {fn : AFunc} (h : chkFn P f fn = true) : FnT P f fn := by
  unfold chkFn at h
  split at h
  · rename_i func hfunc
    split at h
    · rename_i code hcode
      simp only [Bool.and_eq_true, Bool.not_eq_true', beq_iff_eq, List.all_eq_true, decide_eq_true_eq] at h
      obtain ⟨⟨⟨⟨⟨h1, h2⟩, h3⟩, h4⟩, h5⟩, h6⟩ := h
      obtain ⟨e1, e2⟩ := chkRes_ok h4
      exact ⟨⟨func, code, hfunc, hcode, h1, h2, chkC_ok h3, by simpa using e1, fun j rv ar a b => e2 j rv ar (by simpa using a) b⟩, nodupB_ok h5, h6⟩
    · simp at h
  · simp at h

end Go.VS
/- More fuel tells no less. What a call comes to, whatever the fuel. -/
set_option linter.unusedVariables false
namespace Go.VS

def CSle (A B : CallSem) : Prop := ∀ f vs s r, A f vs s = some r → B f vs s = some r
def CCle (A B : CodeSem) : Prop := ∀ c st r, A c st = some r → B c st = some r

section
variable {A B : CallSem} {RP : FuncId → Option (List AV → Option AV)}

theorem runOp_mono (h : CSle A B) : ∀ {op : AOp} {st st' : St}, runOp A RP st op = some st' → runOp B RP st op = some st' := by
  intro op
  induction op with
  | call d f args =>
    intro st st' hr
    simp only [runOp] at hr ⊢
    split at hr
    · rename_i vs st1 hp
      split at hr
      · rename_i r s' hc
        rw [h _ _ _ _ hc]
        exact hr
      · simp at hr
    · simp at hr
  | callo d f x =>
    intro st st' hr
    simp only [runOp] at hr ⊢
    split at hr
    · rename_i v st1 hp
      split at hr
      · rename_i r s' hc
        rw [h _ _ _ _ hc]
        exact hr
      · simp at hr
    · simp at hr
  | callv d f args =>
    intro st st' hr
    simp only [runOp] at hr ⊢
    split at hr
    · rename_i k caps vs st1 hf hp
      split at hr
      · rename_i hpl
        rw [if_pos hpl]
        split at hr
        · rename_i r s' hc
          rw [h _ _ _ _ hc]
          exact hr
        · simp at hr
      · simp at hr
    · simp at hr
  | g x want ds op ih =>
    intro st st' hr
    simp only [runOp] at hr ⊢
    split at hr
    · split at hr
      · rename_i hb; rw [if_pos hb]; exact ih hr
      · rename_i hb; rw [if_neg hb]; exact hr
    · exact hr
    · simp at hr
  | _ => intro st st' hr; simp only [runOp] at hr ⊢; exact hr

theorem runOps_mono (h : CSle A B) : ∀ {l : List AOp} {st st' : St}, runOps A RP st l = some st' → runOps B RP st l = some st'
  | [], _, _, hr => by simpa [runOps] using hr
  | o :: os, st, st', hr => by
    obtain ⟨st1, h1, h2⟩ := runOps_cons hr
    simp only [runOps, runOp_mono h h1]
    exact runOps_mono h h2

theorem stepC_mono (h : CSle A B) {C D : CodeSem} (k : CCle C D) : CCle (stepC A RP C) (stepC B RP D) := by
  intro c st r hr
  cases c with
  | frz i c =>
    simp only [stepC] at hr ⊢
    split at hr
    · exact k _ _ _ hr
    · simp at hr
  | ops dr l =>
    simp only [stepC] at hr ⊢
    split at hr
    · rename_i st1 h1
      rw [runOps_mono h h1]
      exact hr
    · simp at hr
  | ite c a b =>
    simp only [stepC] at hr ⊢
    split at hr
    · split at hr
      · rename_i ht; rw [if_pos ht]; exact k _ _ _ hr
      · rename_i ht; rw [if_neg ht]; exact k _ _ _ hr
    · simp at hr
  | seq a b =>
    simp only [stepC] at hr ⊢
    split at hr
    · rename_i st1 h1
      rw [k _ _ _ h1]
      exact k _ _ _ hr
    · rename_i hx
      rw [k _ _ _ hr]
      obtain ⟨o, s⟩ := r
      cases o with
      | norm => exact absurd hr (hx _)
      | _ => rfl
  | block id c =>
    simp only [stepC] at hr ⊢
    split at hr
    · rename_i id' st1 h1
      rw [k _ _ _ h1]
      exact hr
    · rename_i hx
      rw [k _ _ _ hr]
      obtain ⟨o, s⟩ := r
      cases o with
      | exit id' => exact absurd hr (hx _ _)
      | _ => rfl
  | loop ks c =>
    simp only [stepC] at hr ⊢
    split at hr
    · rename_i st1 h1
      rw [k _ _ _ h1]
      exact k _ _ _ hr
    · rename_i hx
      rw [k _ _ _ hr]
      obtain ⟨o, s⟩ := r
      cases o with
      | norm => exact absurd hr (hx _)
      | _ => rfl
  | sc ks c => simp only [stepC] at hr ⊢; exact k _ _ _ hr
  | scope ks c cur =>
    simp only [stepC] at hr ⊢
    split at hr
    · rename_i l st1 h1
      rw [k _ _ _ h1]
      dsimp only
      split at hr
      · exact k _ _ _ hr
      · exact hr
    · rename_i hx
      rw [k _ _ _ hr]
      obtain ⟨o, s⟩ := r
      cases o with
      | goto l => exact absurd hr (hx _ _)
      | _ => rfl
  | _ => simp only [stepC] at hr ⊢; exact hr

variable {AP : FuncId → Option AFn}

theorem runF_mono {C D : CodeSem} (k : CCle C D) : CSle (runF AP C) (runF AP D) := by
  intro f vs s r hr
  simp only [runF] at hr ⊢
  split at hr
  · split at hr
    · rename_i hc
      rw [if_pos hc]
      split at hr
      · rename_i st h1; rw [k _ _ _ h1]; exact hr
      · rename_i st h1; rw [k _ _ _ h1]; exact hr
      · simp at hr
    · simp at hr
  · exact hr
  · simp at hr

theorem evalC_succ : ∀ N, CCle (evalC AP RP N) (evalC AP RP (N + 1))
  | 0 => fun c st r hr => by simp [evalC] at hr
  | N + 1 => by
    show CCle (stepC (runF AP (evalC AP RP N)) RP (evalC AP RP N)) (stepC (runF AP (evalC AP RP (N + 1))) RP (evalC AP RP (N + 1)))
    exact stepC_mono (runF_mono (evalC_succ N)) (evalC_succ N)

theorem evalC_le {N K : Nat} (h : N ≤ K) : CCle (evalC AP RP N) (evalC AP RP K) := by
  induction h with
  | refl => exact fun _ _ _ h => h
  | step _ ih => exact fun c st r hr => evalC_succ _ _ _ _ (ih c st r hr)

end

section
variable (AP : FuncId → Option AFn) (RP : FuncId → Option (List AV → Option AV))

/-- A piece of code comes to this. -/
def CRuns (c : AC) (st : St) (out : Out) (st' : St) : Prop := ∃ N, evalC AP RP N c st = some (out, st')
/-- A call comes to this. -/
def FRuns (f : FuncId) (vs : List AV) (s : List Obj) (r : AV) (s' : List Obj) : Prop := ∃ N, evalF AP RP N f vs s = some (r, s')
end

section
variable {AP : FuncId → Option AFn} {RP : FuncId → Option (List AV → Option AV)} {st st1 st2 : St}

theorem cr_skip : CRuns AP RP .skip st .norm st := ⟨1, rfl⟩
theorem cr_label {l : Nat} : CRuns AP RP (.label l) st .norm st := ⟨1, rfl⟩
theorem cr_goto {l : Nat} : CRuns AP RP (.goto l) st (.goto l) st := ⟨1, rfl⟩
theorem cr_exit {l : Nat} : CRuns AP RP (.exit l) st (.exit l) st := ⟨1, rfl⟩
theorem cr_ret : CRuns AP RP .ret st .ret st := ⟨1, rfl⟩

theorem cr_frz {i : Nat} {c : AC} {m : Bool} {s : Nat} {xs : List AV} {out : Out} (hi : st.vars[i]? = some (.sl (.own m) s xs)) (h : CRuns AP RP c (setV st i (.sl (.own false) s xs)) out st1) : CRuns AP RP (.frz i c) st out st1 := by
  obtain ⟨N, h⟩ := h
  exact ⟨N + 1, by rw [evalC]; simp only [stepC, hi, h]⟩

theorem cr_seq {a b : AC} {out : Out} (h : CRuns AP RP a st .norm st1) (k : CRuns AP RP b st1 out st2) : CRuns AP RP (.seq a b) st out st2 := by
  obtain ⟨N, h⟩ := h
  obtain ⟨K, k⟩ := k
  refine ⟨max N K + 1, ?_⟩
  rw [evalC]
  simp only [stepC, evalC_le (Nat.le_max_left N K) _ _ _ h, evalC_le (Nat.le_max_right N K) _ _ _ k]

theorem cr_seq_out {a b : AC} {out : Out} (h : CRuns AP RP a st out st1) (ho : out ≠ .norm) : CRuns AP RP (.seq a b) st out st1 := by
  obtain ⟨N, h⟩ := h
  refine ⟨N + 1, ?_⟩
  rw [evalC]
  cases out with
  | norm => exact absurd rfl ho
  | _ => simp only [stepC, h]

theorem cr_ite {c : Ref} {a b : AC} {t : Bool} {out : Out} (hc : rd st c = .bool t) (h : CRuns AP RP (if t then a else b) (drop st) out st1) : CRuns AP RP (.ite c a b) st out st1 := by
  obtain ⟨N, h⟩ := h
  refine ⟨N + 1, ?_⟩
  rw [evalC]
  cases t <;> simp only [stepC, hc, if_true, if_false, Bool.false_eq_true] at h ⊢ <;> exact h

theorem cr_block {id : Nat} {c : AC} {out : Out} (h : CRuns AP RP c st out st1) : CRuns AP RP (.block id c) st (if out = .exit id then .norm else out) st1 := by
  obtain ⟨N, h⟩ := h
  refine ⟨N + 1, ?_⟩
  rw [evalC]
  cases out with
  | exit j =>
    simp only [stepC, h, Out.exit.injEq]
    split <;> rfl
  | _ => simp [stepC, h]

theorem cr_loop {ks : List Nat} {c : AC} {out : Out} (h : CRuns AP RP c (killV st ks) .norm st1) (k : CRuns AP RP (.loop ks c) st1 out st2) : CRuns AP RP (.loop ks c) st out st2 := by
  obtain ⟨N, h⟩ := h
  obtain ⟨K, k⟩ := k
  refine ⟨max N K + 1, ?_⟩
  rw [evalC]
  simp only [stepC, evalC_le (Nat.le_max_left N K) _ _ _ h, evalC_le (Nat.le_max_right N K) _ _ _ k]

theorem cr_loop_out {ks : List Nat} {c : AC} {out : Out} (h : CRuns AP RP c (killV st ks) out st1) (ho : out ≠ .norm) : CRuns AP RP (.loop ks c) st out st1 := by
  obtain ⟨N, h⟩ := h
  refine ⟨N + 1, ?_⟩
  rw [evalC]
  cases out with
  | norm => exact absurd rfl ho
  | _ => simp only [stepC, h]

theorem cr_sc {ks : List Nat} {c : AC} {out : Out} (h : CRuns AP RP (.scope ks c c) st out st1) : CRuns AP RP (.sc ks c) st out st1 := by
  obtain ⟨N, h⟩ := h
  exact ⟨N + 1, by rw [evalC]; simp only [stepC, h]⟩

theorem cr_scope {ks : List Nat} {c cur : AC} {out : Out} (h : CRuns AP RP cur st out st1) (ho : ∀ l, out ≠ .goto l) : CRuns AP RP (.scope ks c cur) st out st1 := by
  obtain ⟨N, h⟩ := h
  refine ⟨N + 1, ?_⟩
  rw [evalC]
  cases out with
  | goto l => exact absurd rfl (ho l)
  | _ => simp only [stepC, h]

theorem cr_scope_goto {ks : List Nat} {c cur r : AC} {out : Out} {l : Nat} (h : CRuns AP RP cur st (.goto l) st1) (hl : findL c l = some r) (k : CRuns AP RP (.scope ks c r) (killV st1 ks) out st2) : CRuns AP RP (.scope ks c cur) st out st2 := by
  obtain ⟨N, h⟩ := h
  obtain ⟨K, k⟩ := k
  refine ⟨max N K + 1, ?_⟩
  rw [evalC]
  simp only [stepC, evalC_le (Nat.le_max_left N K) _ _ _ h, hl, evalC_le (Nat.le_max_right N K) _ _ _ k]

/-- What is known of the calls that are met. -/
def Known (AP : FuncId → Option AFn) (RP : FuncId → Option (List AV → Option AV)) (CS : CallSem) : Prop := ∀ f vs s r s', CS f vs s = some (r, s') → FRuns AP RP f vs s r s'

/-- Operations without a call. -/
theorem cr_ops0 {dr : Bool} {l : List AOp} (h : runOps (fun _ _ _ => none) RP st l = some st1) : CRuns AP RP (.ops dr l) st .norm (if dr then drop st1 else st1) := by
  refine ⟨1, ?_⟩
  rw [evalC]
  simp only [stepC, runOps_mono (B := runF AP (evalC AP RP 0)) (fun f vs s r hr => by simp at hr) h]

/-- With one call that is known. -/
theorem cr_ops {dr : Bool} {l : List AOp} {CS : CallSem} (hk : ∃ N, CSle CS (evalF AP RP N)) (h : runOps CS RP st l = some st1) : CRuns AP RP (.ops dr l) st .norm (if dr then drop st1 else st1) := by
  obtain ⟨N, hk⟩ := hk
  refine ⟨N + 1, ?_⟩
  rw [evalC]
  simp only [stepC, runOps_mono (B := runF AP (evalC AP RP N)) hk h]

/-- A function of the table. -/
theorem fr_code {f : FuncId} {fn : AFunc} {vs : List AV} {s s' : List Obj} {out : Out} {r : AV} (hf : AP f = some (.code fn)) (hl : (vs.length ≤ fn.n && vs.all plain) = true) (h : CRuns AP RP fn.body (enter fn vs s) out st1) (ho : out = .norm ∨ out = .ret)
    (hv : leave fn st1 = some (r, s')) : FRuns AP RP f vs s r s' := by
  obtain ⟨N, h⟩ := h
  refine ⟨N, ?_⟩
  show runF AP (evalC AP RP N) f vs s = _
  simp only [runF, hf]
  rw [if_pos hl, h]
  rcases ho with rfl | rfl <;> exact hv

theorem fr_prim {f : FuncId} {p : List AV → List Obj → Option (AV × List Obj)} {vs : List AV} {s s' : List Obj} {r : AV} (hf : AP f = some (.prim p)) (h : p vs s = some (r, s')) : FRuns AP RP f vs s r s' :=
  ⟨0, by show runF AP (evalC AP RP 0) f vs s = _; simp only [runF, hf, h]⟩

theorem evalF_le {N K : Nat} (h : N ≤ K) : CSle (evalF AP RP N) (evalF AP RP K) := runF_mono (evalC_le h)

/-- What FRuns tells is what the model does. -/
theorem FRuns.calls {P : Program} (hT : ∀ f fn, AP f = some (.code fn) → FnT P f fn) (hP : ∀ f p, AP f = some (.prim p) → FnOk P (fun _ vs store => p vs store) f) {f : FuncId} {vs : List AV} {s s' : List Obj} {r : AV} (h : FRuns AP RP f vs s r s')
    {M : Mem} {args : List Value} (wf : M.Wf) (ho : OnlyG M) (hA : ArgsRep M vs args) (hs : StoreRep M s) :
    Calls P f args.toArray M.w fun e w' => ∃ v M', e = .returned v ∧ w' = M'.w ∧ Evo M M' ∧ M'.Wf ∧ ResRep M' r v ∧ StoreRep M' s' := by
  obtain ⟨N, h⟩ := h
  exact (evalF_sound (RP := RP) hT hP N f M vs args s r s' wf ho hA hs h).2

end
end Go.VS
/- Operations whose calls are known. -/
set_option linter.unusedVariables false
namespace Go.VS

section
variable (AP : FuncId → Option AFn) (RP : FuncId → Option (List AV → Option AV))
/-- Operations come to this. -/
def ORuns (st : St) (l : List AOp) (st' : St) : Prop := ∃ N, runOps (evalF AP RP N) RP st l = some st'
end

section
variable {AP : FuncId → Option AFn} {RP : FuncId → Option (List AV → Option AV)} {st st1 st2 st' : St} {l : List AOp}

theorem or_nil : ORuns AP RP st [] st := ⟨0, rfl⟩

theorem or_done (e : st = st') : ORuns AP RP st [] st' := e ▸ or_nil

theorem runOps_app {CS : CallSem} : ∀ {l k : List AOp} {st : St}, runOps CS RP st (l ++ k) = (runOps CS RP st l).bind fun s => runOps CS RP s k
  | [], k, st => by simp [runOps]
  | o :: os, k, st => by
    simp only [List.cons_append, runOps]
    split
    · exact runOps_app
    · rfl

/-- The first k: no call among them. -/
theorem or_take (k : Nat) (h : runOps (fun _ _ _ => none) RP st (l.take k) = some st1) (r : ORuns AP RP st1 (l.drop k) st') : ORuns AP RP st l st' := by
  obtain ⟨N, r⟩ := r
  refine ⟨N, ?_⟩
  rw [← List.take_append_drop k l, runOps_app, runOps_mono (B := evalF AP RP N) (fun f vs s r hr => by simp at hr) h]
  exact r

theorem or_cons {o : AOp} (h : ∃ N, runOp (evalF AP RP N) RP st o = some st1) (r : ORuns AP RP st1 l st') : ORuns AP RP st (o :: l) st' := by
  obtain ⟨N, h⟩ := h
  obtain ⟨K, r⟩ := r
  refine ⟨max N K, ?_⟩
  simp only [runOps, runOp_mono (evalF_le (Nat.le_max_left N K)) h]
  exact runOps_mono (evalF_le (Nat.le_max_right N K)) r

theorem or_call {d : Dst} {f : FuncId} {args : List Ref} {vs : List AV} {r : AV} {s' : List Obj} (hp : persL st args = some (vs, st1)) (hf : FRuns AP RP f vs st1.store r s') (hput : put { st1 with store := s', tmps := unG st1.tmps } d r = some st2)
    (h : ORuns AP RP st2 l st') : ORuns AP RP st (.call d f args :: l) st' := by
  obtain ⟨N, hf⟩ := hf
  exact or_cons ⟨N, by simp only [runOp, hp, hf, hput]⟩ h

theorem or_callo {d : Dst} {f : FuncId} {x : Ref} {v r : AV} {s' : List Obj} (hp : give st x = some (v, st1)) (hf : FRuns AP RP f [v] st1.store r s') (hput : put { st1 with store := s', tmps := unG st1.tmps } d r = some st2)
    (h : ORuns AP RP st2 l st') : ORuns AP RP st (.callo d f x :: l) st' := by
  obtain ⟨N, hf⟩ := hf
  exact or_cons ⟨N, by simp only [runOp, hp, hf, hput]⟩ h

theorem or_callv {d : Dst} {f : Ref} {k : FuncId} {args : List Ref} {vs caps : List AV} {r : AV} {s' : List Obj} (hk : rd st f = .func k caps) (hp : persL st args = some (vs, st1)) (hc : caps.all plain = true) (hf : FRuns AP RP k (vs ++ caps) st1.store r s')
    (hput : put { st1 with store := s', tmps := unG st1.tmps } d r = some st2) (h : ORuns AP RP st2 l st') : ORuns AP RP st (.callv d f args :: l) st' := by
  obtain ⟨N, hf⟩ := hf
  exact or_cons ⟨N, by simp only [runOp, hk, hp, hc, if_true, hf, hput]⟩ h

/-- A guarded operation that is wanted; that is not. -/
theorem or_g {x : Ref} {want : Bool} {ds : List Dst} {o : AOp} (hx : rd st x = .bool want) (h : ORuns AP RP st (o :: l) st') : ORuns AP RP st (.g x want ds o :: l) st' := by
  obtain ⟨N, h⟩ := h
  obtain ⟨st1, h1, h2⟩ := runOps_cons h
  exact or_cons ⟨N, by simp only [runOp, hx, if_true, h1]⟩ ⟨N, h2⟩

theorem or_g_not {x : Ref} {want b : Bool} {ds : List Dst} {o : AOp} (hx : rd st x = .bool b) (hb : b ≠ want) (hd : skipD st ds = some st1) (h : ORuns AP RP st1 l st') : ORuns AP RP st (.g x want ds o :: l) st' :=
  or_cons ⟨0, by simp only [runOp, hx, if_neg hb, hd]⟩ h

theorem or_g_none {x : Ref} {want : Bool} {ds : List Dst} {o : AOp} (hx : rd st x = .tup []) (hd : skipD st ds = some st1) (h : ORuns AP RP st1 l st') : ORuns AP RP st (.g x want ds o :: l) st' :=
  or_cons ⟨0, by simp only [runOp, hx, hd]⟩ h

/-- A region of operations whose calls are known. -/
theorem cr_opsO {dr : Bool} (h : ORuns AP RP st l st1) (e : (if dr then drop st1 else st1) = st2) : CRuns AP RP (.ops dr l) st .norm st2 := by
  obtain ⟨N, h⟩ := h
  subst e
  refine ⟨N + 1, ?_⟩
  rw [evalC]
  simp only [stepC]
  have : runOps (runF AP (evalC AP RP N)) RP st l = some st1 := h
  rw [this]

end
end Go.VS
/- What code, a call comes to, as an equation: the interpreter's limit. -/
set_option linter.unusedVariables false
namespace Go.VS

section
variable (AP : FuncId → Option AFn) (RP : FuncId → Option (List AV → Option AV))

open Classical in
/-- What a piece of code comes to. -/
noncomputable def den : CodeSem := fun c st => if h : ∃ r N, evalC AP RP N c st = some r then some h.choose else none
open Classical in
/-- What a call comes to. -/
noncomputable def denF : CallSem := fun f vs s => if h : ∃ r N, evalF AP RP N f vs s = some r then some h.choose else none
end

section
variable {AP : FuncId → Option AFn} {RP : FuncId → Option (List AV → Option AV)}

theorem den_of {N : Nat} {c : AC} {st : St} {r : Out × St} (h : evalC AP RP N c st = some r) : den AP RP c st = some r := by
  have hex : ∃ r N, evalC AP RP N c st = some r := ⟨r, N, h⟩
  unfold den
  rw [dif_pos hex]
  obtain ⟨K, hK⟩ := hex.choose_spec
  have h1 := evalC_le (Nat.le_max_left N K) _ _ _ h
  have h2 := evalC_le (Nat.le_max_right N K) _ _ _ hK
  rw [h1] at h2
  exact h2.symm

theorem of_den {c : AC} {st : St} {r : Out × St} (h : den AP RP c st = some r) : ∃ N, evalC AP RP N c st = some r := by
  unfold den at h
  split at h
  · rename_i hex
    simp only [Option.some.injEq] at h
    obtain ⟨N, hN⟩ := hex.choose_spec
    exact ⟨N, by rw [hN, h]⟩
  · simp at h

theorem denF_of {N : Nat} {f : FuncId} {vs : List AV} {s : List Obj} {r : AV × List Obj} (h : evalF AP RP N f vs s = some r) : denF AP RP f vs s = some r := by
  have hex : ∃ r N, evalF AP RP N f vs s = some r := ⟨r, N, h⟩
  unfold denF
  rw [dif_pos hex]
  obtain ⟨K, hK⟩ := hex.choose_spec
  have h1 := evalF_le (Nat.le_max_left N K) _ _ _ _ h
  have h2 := evalF_le (Nat.le_max_right N K) _ _ _ _ hK
  rw [h1] at h2
  exact h2.symm

theorem of_denF {f : FuncId} {vs : List AV} {s : List Obj} {r : AV × List Obj} (h : denF AP RP f vs s = some r) : ∃ N, evalF AP RP N f vs s = some r := by
  unfold denF at h
  split at h
  · rename_i hex
    simp only [Option.some.injEq] at h
    obtain ⟨N, hN⟩ := hex.choose_spec
    exact ⟨N, by rw [hN, h]⟩
  · simp at h

theorem denF_runs {f : FuncId} {vs : List AV} {s s' : List Obj} {r : AV} : denF AP RP f vs s = some (r, s') ↔ FRuns AP RP f vs s r s' :=
  ⟨of_denF, fun ⟨N, h⟩ => denF_of h⟩

theorem evalF_den (N : Nat) : CSle (evalF AP RP N) (denF AP RP) := fun _ _ _ _ h => denF_of h
theorem evalC_den (N : Nat) : CCle (evalC AP RP N) (den AP RP) := fun _ _ _ h => den_of h

theorem runOp_fin : ∀ {op : AOp} {st st' : St}, runOp (denF AP RP) RP st op = some st' → ∃ N, runOp (evalF AP RP N) RP st op = some st' := by
  intro op
  induction op with
  | call d f args =>
    intro st st' hr
    simp only [runOp] at hr ⊢
    split at hr
    · rename_i vs st1 hp
      split at hr
      · rename_i r s' hc
        obtain ⟨N, hN⟩ := of_denF hc
        refine ⟨N, ?_⟩
        rw [hN]
        exact hr
      · simp at hr
    · simp at hr
  | callo d f x =>
    intro st st' hr
    simp only [runOp] at hr ⊢
    split at hr
    · rename_i v st1 hp
      split at hr
      · rename_i r s' hc
        obtain ⟨N, hN⟩ := of_denF hc
        refine ⟨N, ?_⟩
        rw [hN]
        exact hr
      · simp at hr
    · simp at hr
  | callv d f args =>
    intro st st' hr
    simp only [runOp] at hr ⊢
    split at hr
    · rename_i k caps vs st1 hf hp
      split at hr
      · rename_i hpl
        split at hr
        · rename_i r s' hc
          obtain ⟨N, hN⟩ := of_denF hc
          refine ⟨N, ?_⟩
          rw [if_pos hpl, hN]
          exact hr
        · simp at hr
      · simp at hr
    · simp at hr
  | g x want ds op ih =>
    intro st st' hr
    simp only [runOp] at hr ⊢
    split at hr
    · split at hr
      · rename_i hb
        obtain ⟨N, hN⟩ := ih hr
        exact ⟨N, by rw [if_pos hb]; exact hN⟩
      · rename_i hb; exact ⟨0, by rw [if_neg hb]; exact hr⟩
    · exact ⟨0, hr⟩
    · simp at hr
  | _ => intro st st' hr; simp only [runOp] at hr ⊢; exact ⟨0, hr⟩

theorem runOps_fin : ∀ {l : List AOp} {st st' : St}, runOps (denF AP RP) RP st l = some st' → ∃ N, runOps (evalF AP RP N) RP st l = some st'
  | [], _, _, hr => ⟨0, by simpa [runOps] using hr⟩
  | o :: os, st, st', hr => by
    obtain ⟨st1, h1, h2⟩ := runOps_cons hr
    exact or_cons (runOp_fin h1) (runOps_fin h2)

theorem opt_ext {α : Type} {a b : Option α} (h : ∀ r, a = some r ↔ b = some r) : a = b := by
  cases a with
  | some x => exact ((h x).1 rfl).symm
  | none =>
    cases b with
    | none => rfl
    | some y => exact (h y).2 rfl

theorem of_cruns {c : AC} {st st' : St} {out : Out} (h : CRuns AP RP c st out st') : den AP RP c st = some (out, st') := by
  obtain ⟨N, h⟩ := h; exact den_of h

theorem cruns_of {c : AC} {st st' : St} {out : Out} (h : den AP RP c st = some (out, st')) : CRuns AP RP c st out st' := of_den h

/-- The interpreter's limit is its own step. -/
theorem den_step (c : AC) (st : St) : den AP RP c st = stepC (denF AP RP) RP (den AP RP) c st := by
  refine opt_ext fun r => ⟨fun h => ?_, fun h => ?_⟩
  · obtain ⟨N, h⟩ := of_den h
    cases N with
    | zero => simp [evalC] at h
    | succ N =>
      rw [evalC] at h
      exact stepC_mono (A := runF AP (evalC AP RP N)) (fun f vs s r hh => denF_of (N := N) hh) (evalC_den N) _ _ _ h
  · obtain ⟨out, st'⟩ := r
    cases c with
    | skip => simp only [stepC, Option.some.injEq, Prod.mk.injEq] at h; obtain ⟨rfl, rfl⟩ := h; exact of_cruns cr_skip
    | label l => simp only [stepC, Option.some.injEq, Prod.mk.injEq] at h; obtain ⟨rfl, rfl⟩ := h; exact of_cruns cr_label
    | goto l => simp only [stepC, Option.some.injEq, Prod.mk.injEq] at h; obtain ⟨rfl, rfl⟩ := h; exact of_cruns cr_goto
    | exit l => simp only [stepC, Option.some.injEq, Prod.mk.injEq] at h; obtain ⟨rfl, rfl⟩ := h; exact of_cruns cr_exit
    | ret => simp only [stepC, Option.some.injEq, Prod.mk.injEq] at h; obtain ⟨rfl, rfl⟩ := h; exact of_cruns cr_ret
    | frz i c =>
      simp only [stepC] at h
      split at h
      · rename_i m s xs hi; exact of_cruns (cr_frz hi (cruns_of h))
      · simp at h
    | ops dr l =>
      simp only [stepC] at h
      split at h
      · rename_i st1 h1
        simp only [Option.some.injEq, Prod.mk.injEq] at h
        obtain ⟨rfl, rfl⟩ := h
        exact of_cruns (cr_opsO (runOps_fin h1) rfl)
      · simp at h
    | ite c a b =>
      simp only [stepC] at h
      split at h
      · rename_i t hc
        refine of_cruns (cr_ite hc (cruns_of ?_))
        cases t <;> simpa using h
      · simp at h
    | seq a b =>
      simp only [stepC] at h
      split at h
      · rename_i st1 h1
        exact of_cruns (cr_seq (cruns_of h1) (cruns_of h))
      · rename_i hx
        refine of_cruns (cr_seq_out (cruns_of h) ?_)
        rintro rfl
        exact hx _ h
    | block id c =>
      simp only [stepC] at h
      split at h
      · rename_i id' st1 h1
        have := cr_block (id := id) (cruns_of h1)
        split at h
        · rename_i e
          simp only [Option.some.injEq, Prod.mk.injEq] at h
          obtain ⟨rfl, rfl⟩ := h
          subst e
          simpa using of_cruns this
        · rename_i e
          simp only [Option.some.injEq, Prod.mk.injEq] at h
          obtain ⟨rfl, rfl⟩ := h
          simpa [e] using of_cruns this
      · rename_i hx
        have := cr_block (id := id) (cruns_of h)
        rw [if_neg (by rintro rfl; exact hx _ _ h)] at this
        exact of_cruns this
    | loop ks c =>
      simp only [stepC] at h
      split at h
      · rename_i st1 h1
        exact of_cruns (cr_loop (cruns_of h1) (cruns_of h))
      · rename_i hx
        refine of_cruns (cr_loop_out (cruns_of h) ?_)
        rintro rfl
        exact hx _ h
    | sc ks c => simp only [stepC] at h; exact of_cruns (cr_sc (cruns_of h))
    | scope ks c cur =>
      simp only [stepC] at h
      split at h
      · rename_i l st1 h1
        split at h
        · rename_i r hl
          exact of_cruns (cr_scope_goto (cruns_of h1) hl (cruns_of h))
        · rename_i hl
          simp only [Option.some.injEq, Prod.mk.injEq] at h
          obtain ⟨rfl, rfl⟩ := h
          obtain ⟨N, h1⟩ := of_den h1
          refine den_of (N := N + 1) ?_
          rw [evalC]
          simp only [stepC, h1, hl]
      · rename_i hx
        refine of_cruns (cr_scope (cruns_of h) ?_)
        rintro l rfl
        exact hx _ _ h

section
variable {st st' : St}
theorem den_skip : den AP RP .skip st = some (.norm, st) := by rw [den_step]; rfl
theorem den_label {l : Nat} : den AP RP (.label l) st = some (.norm, st) := by rw [den_step]; rfl
theorem den_goto {l : Nat} : den AP RP (.goto l) st = some (.goto l, st) := by rw [den_step]; rfl
theorem den_exit {l : Nat} : den AP RP (.exit l) st = some (.exit l, st) := by rw [den_step]; rfl
theorem den_ret : den AP RP .ret st = some (.ret, st) := by rw [den_step]; rfl
theorem den_ops {dr : Bool} {l : List AOp} : den AP RP (.ops dr l) st = match runOps (denF AP RP) RP st l with | some st' => some (.norm, if dr then drop st' else st') | none => none := by rw [den_step]; rfl
theorem den_ite {c : Ref} {a b : AC} : den AP RP (.ite c a b) st = match rd st c with | .bool t => if t then den AP RP a (drop st) else den AP RP b (drop st) | _ => none := by rw [den_step]; rfl
theorem den_seq {a b : AC} : den AP RP (.seq a b) st = match den AP RP a st with | some (.norm, st') => den AP RP b st' | r => r := by rw [den_step]; rfl
theorem den_block {id : Nat} {c : AC} : den AP RP (.block id c) st = match den AP RP c st with | some (.exit id', st') => if id' = id then some (.norm, st') else some (.exit id', st') | r => r := by rw [den_step]; rfl
theorem den_loop {ks : List Nat} {c : AC} : den AP RP (.loop ks c) st = match den AP RP c (killV st ks) with | some (.norm, st') => den AP RP (.loop ks c) st' | r => r := by rw [den_step]; rfl
theorem den_sc {ks : List Nat} {c : AC} : den AP RP (.sc ks c) st = den AP RP (.scope ks c c) st := by rw [den_step]; rfl
theorem den_scope {ks : List Nat} {c cur : AC} : den AP RP (.scope ks c cur) st = match den AP RP cur st with
    | some (.goto l, st') => (match findL c l with | some r => den AP RP (.scope ks c r) (killV st' ks) | none => some (.goto l, st'))
    | r => r := by rw [den_step]; rfl
theorem den_frz {i : Nat} {c : AC} : den AP RP (.frz i c) st = match st.vars[i]? with | some (.sl (.own _) s xs) => den AP RP c (setV st i (.sl (.own false) s xs)) | _ => none := by rw [den_step]; rfl
end

/-- A call of a function of the table. -/
theorem denF_code {f : FuncId} {fn : AFunc} {vs : List AV} {s : List Obj} (hf : AP f = some (.code fn)) : denF AP RP f vs s =
    if vs.length ≤ fn.n && vs.all plain then match den AP RP fn.body (enter fn vs s) with
      | some (.norm, st) => leave fn st
      | some (.ret, st) => leave fn st
      | _ => none
    else none := by
  refine opt_ext fun r => ⟨fun h => ?_, fun h => ?_⟩
  · obtain ⟨N, h⟩ := of_denF h
    have h' : runF AP (evalC AP RP N) f vs s = some r := h
    have := runF_mono (AP := AP) (evalC_den (AP := AP) (RP := RP) N) _ _ _ _ h'
    simp only [runF, hf] at this
    exact this
  · split at h
    · rename_i hl
      split at h
      · rename_i st h1
        exact denF_runs.2 (fr_code hf hl (cruns_of h1) (.inl rfl) h)
      · rename_i st h1
        exact denF_runs.2 (fr_code hf hl (cruns_of h1) (.inr rfl) h)
      · simp at h
    · simp at h

theorem denF_prim {f : FuncId} {p : List AV → List Obj → Option (AV × List Obj)} {vs : List AV} {s : List Obj} (hf : AP f = some (.prim p)) : denF AP RP f vs s = p vs s := by
  refine opt_ext fun r => ⟨fun h => ?_, fun h => ?_⟩
  · obtain ⟨N, h⟩ := of_denF h
    have h' : runF AP (evalC AP RP N) f vs s = some r := h
    simpa only [runF, hf] using h'
  · exact denF_runs.2 (fr_prim hf h)

/-- A call that the kernel can reckon. -/
theorem denF_eval {N : Nat} {f : FuncId} {vs : List AV} {s : List Obj} {r : AV × List Obj} (h : evalF AP RP N f vs s = some r) : denF AP RP f vs s = some r := denF_of h
end
end Go.VS
