/- The check that an abstract operation stands for an operation of the program. -/
import Derived.Test.YtpebcbnkalkikaaVsOp9
set_option linter.unusedVariables false
namespace Go.VS

def isStr (P : Program) (T : TypeId) : Bool := match P.underlying T with | some .string => true | _ => false
def sliceOf (P : Program) (T : TypeId) : Option TypeId := match P.underlying T with | some (.slice e) => some e | _ => none
def isSlice (P : Program) (T : TypeId) : Bool := (sliceOf P T).isSome
def isInt (P : Program) (T : TypeId) (k : IntKind) : Bool := match P.underlying T with | some (.int j) => decide (j = k) | _ => false
def hasSize (P : Program) (T s : Nat) : Bool := match P.info? T with | some i => i.size == s | none => false
def elemFits (P : Program) (e s eb : Nat) : Option Value := match P.info? e with
  | some i => match i.zero with
    | some z => if i.size == s && i.bytes == eb && z.cells.size == s then some z else none
    | none => none
  | none => none
def chkKind (P : Program) (T : TypeId) : Option Nat → Bool
  | none => (match P.underlying T with | some d => !isAggD d | none => false) && hasSize P T 1
  | some k => (match P.underlying T with | some d => isAggD d | none => false) && hasSize P T k
def zeroV : Value → AV → Bool
  | .agg vs, .agg l => zeroOk l vs.toList
  | v, x => constOk v x
def chkZero (P : Program) (T : TypeId) (zero : List AV) : Bool := match P.info? T with
  | some i => match i.zero with
    | some z => zeroOk zero z.cells.toList
    | none => false
  | none => false
def placesOf (P : Program) (T : TypeId) : Option (Nat → Option (Nat × Nat)) := match P.underlying T with
  | some (.struct fs) => (fs.toList.mapM fun f => (P.info? f.type).map fun i => (f.offset, i.size)).map fun places k => places.toArray[k]?
  | some (.array k e) => (P.info? e).map fun i j => some (j * i.size, i.size)
  | _ => none
def chkField (P : Program) (T f off : Nat) : Bool := match P.underlying T with
  | some (.struct fs) => match fs[f]? with
    | some fd => fd.offset == off && (match P.info? fd.type with | some i => i.size != 0 | none => false)
    | none => false
  | _ => false
def chkArr (P : Program) (T len s : Nat) : Bool := match P.underlying T with
  | some (.array n e) => n == len && hasSize P e s
  | _ => false

section
variable {P : Program} {T : TypeId}
theorem isStr_ok (h : isStr P T = true) : P.underlying T = some .string := by
  unfold isStr at h
  split at h
  · assumption
  · simp at h
theorem sliceOf_ok {e : TypeId} (h : sliceOf P T = some e) : P.underlying T = some (.slice e) := by
  unfold sliceOf at h
  split at h
  · simp only [Option.some.injEq] at h; subst h; assumption
  · simp at h
theorem isSlice_ok (h : isSlice P T = true) : ∃ e, P.underlying T = some (.slice e) := by
  obtain ⟨e, he⟩ := Option.isSome_iff_exists.1 h
  exact ⟨e, sliceOf_ok he⟩
theorem isInt_ok {k : IntKind} (h : isInt P T k = true) : P.underlying T = some (.int k) := by
  unfold isInt at h
  split at h
  · have := of_decide_eq_true h; subst this; assumption
  · simp at h
theorem hasSize_ok {s : Nat} (h : hasSize P T s = true) : SizeIs P T s := by
  unfold hasSize at h
  split at h
  · exact ⟨_, by assumption, by simpa using h⟩
  · simp at h
theorem elemFits_ok {s eb : Nat} {z : Value} (h : elemFits P T s eb = some z) : ElemIs P T s eb z := by
  unfold elemFits at h
  split at h
  · rename_i i hi
    split at h
    · rename_i z' hz
      split at h
      · rename_i hc
        simp only [Option.some.injEq] at h
        subst h
        simp only [Bool.and_eq_true, beq_iff_eq] at hc
        exact ⟨⟨i, hi, hc.1.1, hc.1.2, hz⟩, hc.2⟩
      · simp at h
    · simp at h
  · simp at h
theorem chkKind_ok {sz : Option Nat} (h : chkKind P T sz = true) : KindIs P T sz := by
  cases sz with
  | none =>
    simp only [chkKind, Bool.and_eq_true] at h
    refine ⟨?_, hasSize_ok h.2⟩
    have := h.1
    split at this
    · exact ⟨_, by assumption, by simpa using this⟩
    · simp at this
  | some k =>
    simp only [chkKind, Bool.and_eq_true] at h
    refine ⟨?_, hasSize_ok h.2⟩
    have := h.1
    split at this
    · exact ⟨_, by assumption, this⟩
    · simp at this
theorem zeroV_ok {v : Value} {x : AV} (h : zeroV v x = true) : (∀ S G w, RepV S G w x v) ∧ plain x = true := by
  unfold zeroV at h
  split at h
  · exact ⟨fun S G w => ⟨_, rfl, zeroOk_reps h⟩, rfl⟩
  · exact ⟨fun S G w => (constOk_rep h).1, (constOk_rep (S := fun _ _ => True) (G := fun _ => none) (w := default) h).2⟩
theorem chkZero_ok {zero : List AV} (h : chkZero P T zero = true) : ZeroIs P T zero := by
  unfold chkZero at h
  split at h
  · split at h
    · exact ⟨_, _, by assumption, by assumption, h⟩
    · simp at h
  · simp at h
theorem placesOf_ok {zero : List AV} {place : Nat → Option (Nat × Nat)} (hz : chkZero P T zero = true) (h : placesOf P T = some place) : PlacesAre P T zero place := by
  obtain ⟨i, z, h1, h2, h3⟩ := chkZero_ok hz
  refine ⟨i, z, h1, h2, h3, ?_⟩
  unfold placesOf at h
  split at h
  · rename_i fs hfs
    simp only [Option.map_eq_some_iff] at h
    obtain ⟨places, e1, e2⟩ := h
    exact .inl ⟨fs, places, hfs, e1, e2.symm⟩
  · rename_i k e hk
    simp only [Option.map_eq_some_iff] at h
    obtain ⟨j, e1, e2⟩ := h
    exact .inr ⟨k, e, j.size, hk, ⟨j, e1, rfl⟩, e2.symm⟩
  · simp at h
end

def chkApp (P : Program) (t tx s eb : Nat) : Bool := match sliceOf P t with
  | some e => (elemFits P e s eb).isSome && (isSlice P tx || isStr P tx)
  | none => false

def opndEq : Operand → Operand → Bool
  | .tmp a, .tmp b => a == b
  | .const (.int k n), .const (.int j m) => decide (k = j) && n == m
  | _, _ => false

theorem opndEq_ok {x y : Operand} (h : opndEq x y = true) : x = y := by
  unfold opndEq at h
  split at h <;> simp_all

/-- Does it stand for it? -/
def chkOp (P : Program) (slots : List Nat) (n : Nat) (o : Oper) (op : AOp) : Bool :=
  match op with
  | .mv d r => chkDstO slots n o.dst d && (match o.op with
    | .move x => chkRef slots x r
    | .assign x => chkRef slots x r
    | _ => false)
  | .take i m x => (match o.op with
    | .move (.tmp y) => x == y
    | .assign (.tmp y) => x == y
    | _ => false) && (match o.dst with | some z => slots[i]? == some z | none => false) && !slots.contains x
  | .pick d c a b => chkDstO slots n o.dst d && (match o.op with
    | .pick x y z => chkRef slots x c && chkRef slots y a && chkRef slots z b
    | _ => false)
  | .bin d bo x y => chkDstO slots n o.dst d && (match o.op with
    | .binOp bo' _ a b _ => decide (bo' = bo) && chkRef slots a x && chkRef slots b y
    | _ => false)
  | .un d uo x => chkDstO slots n o.dst d && (match o.op with
    | .unOp uo' _ a => decide (uo' = uo) && chkRef slots a x
    | _ => false)
  | .len d str x => chkDstO slots n o.dst d && (match o.op with
    | .call { callee := .builtin .len, args := ⟨[a]⟩, argTypes := ts } => chkRef slots a x && (match ts[0]? with | some T => if str then isStr P T else isSlice P T | none => false)
    | _ => false)
  | .idx d x i => chkDstO slots n o.dst d && (match o.op with
    | .index T a b => isStr P T && chkRef slots a x && chkRef slots b i
    | _ => false)
  | .iad d s x i => chkDstO slots n o.dst d && (match o.op with
    | .indexAddr T a b => (match sliceOf P T with | some e => hasSize P e s | none => false) && chkRef slots a x && chkRef slots b i
    | _ => false)
  | .iada d len s x i => chkDstO slots n o.dst d && (match o.op with
    | .indexAddr T a b => chkArr P T len s && chkRef slots a x && chkRef slots b i
    | _ => false)
  | .fad d off x => chkDstO slots n o.dst d && (match o.op with
    | .fieldAddr T a f => chkField P T f off && chkRef slots a x
    | _ => false)
  | .ld d sz x => chkDstO slots n o.dst d && (match o.op with
    | .load T a => chkKind P T sz && chkRef slots a x
    | _ => false)
  | .sto sz x v => o.dst.isNone && (match o.op with
    | .store T a b => chkKind P T sz && chkRef slots a x && chkRef slots b v
    | _ => false)
  | .slc d str s x lo hi => chkDstO slots n o.dst d && (match o.op with
    | .slice T a l h none => (if str then isStr P T else (match sliceOf P T with | some e => hasSize P e s | none => false)) && chkRef slots a x && chkOpt slots l lo && chkOpt slots h hi
    | _ => false)
  | .mks d zero s eb r => chkDstO slots n o.dst d && (match o.op with
    | .makeSlice T a b => opndEq a b && (match sliceOf P T with | some e => (match elemFits P e s eb with | some z => zeroV z zero | none => false) | none => false) && chkRef slots a r
    | _ => false)
  | .lit d s parts => chkDstO slots n o.dst d && (match o.op with
    | .buildSlice T len ps => (match sliceOf P T with | some e => (match P.info? e with | some i => (elemFits P e s i.bytes).isSome | none => false) | none => false) && decide (len * s ≤ 16777216) &&
        decide (ps.toList.map (·.1) = List.range len) && chkRefs slots (ps.toList.map (·.2)) parts
    | _ => false)
  | .bld d zero parts => chkDstO slots n o.dst d && (match o.op with
    | .build T ps => chkZero P T zero && (match placesOf P T with | some place => chkParts slots place ps.toList parts | none => false)
    | _ => false)
  | .alo i zero => (match o.op with
    | .alloc T => chkZero P T zero
    | _ => false) && (match o.dst with | some z => slots[i]? == some z | none => false)
  | .box i x => (match o.op with
    | .box T a => chkRef slots a x
    | _ => false) && (match o.dst with | some z => slots[i]? == some z | none => false)
  | .app d s eb x y => chkDstO slots n o.dst d && (match o.op with
    | .call { callee := .builtin .append, args := ⟨[a, b]⟩, argTypes := ⟨[t, tx]⟩ } => chkApp P t tx s eb && chkRef slots a x && chkRef slots b y
    | _ => false)
  | .cvi d k x => chkDstO slots n o.dst d && (match o.op with
    | .convert T T' a => (P.underlying T).isSome && isInt P T' k && chkRef slots a x
    | _ => false)
  | .b2s d x => chkDstO slots n o.dst d && (match o.op with
    | .convert T T' a => (match sliceOf P T with | some e => isInt P e .u8 | none => false) && isStr P T' && chkRef slots a x
    | _ => false)
  | .s2b d x => chkDstO slots n o.dst d && (match o.op with
    | .convert T T' a => isStr P T && (match sliceOf P T' with | some e => isInt P e .u8 | none => false) && chkRef slots a x
    | _ => false)
  | .call d f args => chkDstO slots n o.dst d && (match o.op with
    | .call { callee := .value (.func g), args := as, argTypes := _ } => g == f && chkRefs slots as.toList args
    | _ => false)
  | .callo d f r => chkDstO slots n o.dst d && (match o.op with
    | .call { callee := .value (.func g), args := ⟨[x]⟩, argTypes := _ } => g == f && chkRef slots x r
    | _ => false)
  | .eqv d neg x y => chkDstO slots n o.dst d && (match o.op with
    | .binOp bo T a b _ => decide (bo = if neg then .neq else .eql) && (match P.underlying T with | some .bool => true | _ => false) && chkRef slots a x && chkRef slots b y
    | _ => false)
  | .niq d neg x => chkDstO slots n o.dst d && (match o.op with
    | .binOp bo T a (.const (.slice none 0 0)) _ => decide (bo = if neg then .neq else .eql) && isSlice P T && chkRef slots a x
    | _ => false)
  | .mnx d mx x y => chkDstO slots n o.dst d && (match o.op with
    | .call { callee := .builtin bi, args := ⟨[a, b]⟩, argTypes := _ } => decide (bi = if mx then .max else .min) && chkRef slots a x && chkRef slots b y
    | _ => false)
  | .callv d f args => chkDstO slots n o.dst d && (match o.op with
    | .call { callee := .value x, args := as, argTypes := _ } => chkRef slots x f && chkRefs slots as.toList args
    | _ => false)
  | .ext d x k => chkDstO slots n o.dst d && (match o.op with
    | .extract (.tmp y) j => x == y && k == j && !slots.contains x
    | _ => false)
  | .mkf d f caps => chkDstO slots n o.dst d && (match o.op with
    | .makeFunc (.func g) ⟨[]⟩ cs => g == f && chkRefs slots cs.toList caps
    | _ => false)
  | .mkq d f i => chkDstO slots n o.dst d && (match o.op with
    | .makeFunc (.func g) ⟨[]⟩ ⟨[.tmp x]⟩ => g == f && slots[i]? == some x
    | _ => false)
  | .nck d x => chkDstO slots n o.dst d && (match o.op with
    | .nilCheck a => chkRef slots a x
    | _ => false)
  | _ => false

theorem chkOp_sound {P : Program} {slots : List Nat} {n : Nat} {o : Oper} {op : AOp} (h : chkOp P slots n o op = true) {CS : CallSem} {RP : FuncId → Option (List AV → Option AV)} (hf : ∀ f, FnOk P CS f) : OpFits P CS RP slots n o op := by
  unfold chkOp at h
  split at h
  · -- mv
    simp only [Bool.and_eq_true] at h
    obtain ⟨hd, h⟩ := h
    split at h
    · exact fits_mv (.inl (by assumption)) hd h
    · exact fits_mv (.inr (by assumption)) hd h
    · simp at h
  · -- take
    simp only [Bool.and_eq_true, Bool.not_eq_true', List.contains_eq_mem, decide_eq_false_iff_not] at h
    obtain ⟨⟨h, hd⟩, hs⟩ := h
    split at hd
    · rename_i z hz
      split at h
      · rename_i y hy
        have := beq_iff_eq.1 h
        subst this
        exact fits_take (.inl hy) hz (by simpa using hd) hs
      · rename_i y hy
        have := beq_iff_eq.1 h
        subst this
        exact fits_take (.inr hy) hz (by simpa using hd) hs
      · simp at h
    · simp at hd
  · -- pick
    simp only [Bool.and_eq_true] at h
    obtain ⟨hd, h⟩ := h
    split at h
    · rename_i x y z ho
      simp only [Bool.and_eq_true] at h
      exact fits_pick ho hd h.1.1 h.1.2 h.2
    · simp at h
  · -- bin
    simp only [Bool.and_eq_true] at h
    obtain ⟨hd, h⟩ := h
    split at h
    · rename_i ho
      simp only [Bool.and_eq_true, decide_eq_true_eq] at h
      obtain ⟨⟨h1, h2⟩, h3⟩ := h
      subst h1
      exact fits_bin ho hd h2 h3
    · simp at h
  · -- un
    simp only [Bool.and_eq_true] at h
    obtain ⟨hd, h⟩ := h
    split at h
    · rename_i ho
      simp only [Bool.and_eq_true, decide_eq_true_eq] at h
      obtain ⟨h1, h2⟩ := h
      subst h1
      exact fits_un ho hd h2
    · simp at h
  · -- len
    rename_i d str x
    simp only [Bool.and_eq_true] at h
    obtain ⟨hd, h⟩ := h
    split at h
    · rename_i a ts ho
      simp only [Bool.and_eq_true] at h
      obtain ⟨h1, h2⟩ := h
      split at h2
      · rename_i T hT
        refine fits_len ho hT ?_ hd h1
        cases str with
        | true => exact isStr_ok (by simpa using h2)
        | false => exact isSlice_ok (by simpa using h2)
      · simp at h2
    · simp at h
  · -- idx
    simp only [Bool.and_eq_true] at h
    obtain ⟨hd, h⟩ := h
    split at h
    · rename_i ho
      simp only [Bool.and_eq_true] at h
      exact fits_idx ho (isStr_ok h.1.1) hd h.1.2 h.2
    · simp at h
  · -- iad
    simp only [Bool.and_eq_true] at h
    obtain ⟨hd, h⟩ := h
    split at h
    · rename_i ho
      simp only [Bool.and_eq_true] at h
      obtain ⟨⟨h1, h2⟩, h3⟩ := h
      split at h1
      · rename_i e he
        exact fits_iad ho (sliceOf_ok he) (hasSize_ok h1) hd h2 h3
      · simp at h1
    · simp at h
  · -- iada
    simp only [Bool.and_eq_true] at h
    obtain ⟨hd, h⟩ := h
    split at h
    · rename_i ho
      simp only [Bool.and_eq_true] at h
      obtain ⟨⟨h1, h2⟩, h3⟩ := h
      unfold chkArr at h1
      split at h1
      · rename_i m e he
        simp only [Bool.and_eq_true, beq_iff_eq] at h1
        obtain ⟨h1, h4⟩ := h1
        subst h1
        exact fits_iada ho he (hasSize_ok h4) hd h2 h3
      · simp at h1
    · simp at h
  · -- fad
    simp only [Bool.and_eq_true] at h
    obtain ⟨hd, h⟩ := h
    split at h
    · rename_i ho
      simp only [Bool.and_eq_true] at h
      obtain ⟨h1, h2⟩ := h
      unfold chkField at h1
      split at h1
      · rename_i fs hfs
        split at h1
        · rename_i fd hfd
          simp only [Bool.and_eq_true, beq_iff_eq] at h1
          obtain ⟨h1, h4⟩ := h1
          split at h4
          · rename_i i hi
            exact fits_fad ho hfs hfd h1 ⟨i.size, ⟨i, hi, rfl⟩, by simpa using h4⟩ hd h2
          · simp at h4
        · simp at h1
      · simp at h1
    · simp at h
  · -- ld
    simp only [Bool.and_eq_true] at h
    obtain ⟨hd, h⟩ := h
    split at h
    · rename_i ho
      simp only [Bool.and_eq_true] at h
      exact fits_ld ho (chkKind_ok h.1) hd h.2
    · simp at h
  · -- sto
    simp only [Bool.and_eq_true] at h
    obtain ⟨hd, h⟩ := h
    split at h
    · rename_i ho
      simp only [Bool.and_eq_true] at h
      exact fits_sto ho (chkKind_ok h.1.1) (by simpa using hd) h.1.2 h.2
    · simp at h
  · -- slc
    rename_i d str s x lo hi
    simp only [Bool.and_eq_true] at h
    obtain ⟨hd, h⟩ := h
    split at h
    · rename_i ho
      simp only [Bool.and_eq_true] at h
      obtain ⟨⟨⟨h1, h2⟩, h3⟩, h4⟩ := h
      refine fits_slc ho ?_ hd h2 h3 h4
      cases str with
      | true => exact isStr_ok (by simpa using h1)
      | false =>
        simp only [Bool.false_eq_true, if_false] at h1
        split at h1
        · rename_i e he
          exact ⟨e, sliceOf_ok he, hasSize_ok h1⟩
        · simp at h1
    · simp at h
  · -- mks
    simp only [Bool.and_eq_true] at h
    obtain ⟨hd, h⟩ := h
    split at h
    · rename_i ho
      simp only [Bool.and_eq_true] at h
      obtain ⟨⟨h1, h2⟩, h3⟩ := h
      have := opndEq_ok h1
      subst this
      split at h2
      · rename_i e he
        split at h2
        · rename_i z hz
          have := zeroV_ok h2
          exact fits_mks ho (sliceOf_ok he) (elemFits_ok hz) this.1 this.2 hd h3
        · simp at h2
      · simp at h2
    · simp at h
  · -- lit
    simp only [Bool.and_eq_true] at h
    obtain ⟨hd, h⟩ := h
    split at h
    · rename_i ho
      simp only [Bool.and_eq_true, decide_eq_true_eq] at h
      obtain ⟨⟨⟨h1, h2⟩, h3⟩, h4⟩ := h
      split at h1
      · rename_i e he
        split at h1
        · rename_i i hi
          obtain ⟨z, hz⟩ := Option.isSome_iff_exists.1 h1
          exact fits_lit ho (sliceOf_ok he) (elemFits_ok hz) h2 h3 hd h4
        · simp at h1
      · simp at h1
    · simp at h
  · -- bld
    simp only [Bool.and_eq_true] at h
    obtain ⟨hd, h⟩ := h
    split at h
    · rename_i ho
      simp only [Bool.and_eq_true] at h
      obtain ⟨h1, h2⟩ := h
      split at h2
      · rename_i place hp
        exact fits_bld ho (placesOf_ok h1 hp) hd h2
      · simp at h2
    · simp at h
  · -- alo
    simp only [Bool.and_eq_true] at h
    obtain ⟨h, hd⟩ := h
    split at hd
    · rename_i z hz
      split at h
      · rename_i ho
        exact fits_alo ho (chkZero_ok h) hz (by simpa using hd)
      · simp at h
    · simp at hd
  · -- box
    simp only [Bool.and_eq_true] at h
    obtain ⟨h, hd⟩ := h
    split at hd
    · rename_i z hz
      split at h
      · rename_i ho
        exact fits_box ho h hz (by simpa using hd)
      · simp at h
    · simp at hd
  · -- app
    simp only [Bool.and_eq_true] at h
    obtain ⟨hd, h⟩ := h
    split at h
    · rename_i ho
      simp only [Bool.and_eq_true] at h
      obtain ⟨⟨h1, h2⟩, h3⟩ := h
      unfold chkApp at h1
      split at h1
      · rename_i e he
        simp only [Bool.and_eq_true, Bool.or_eq_true] at h1
        obtain ⟨h1, h4⟩ := h1
        obtain ⟨z, hz⟩ := Option.isSome_iff_exists.1 h1
        exact fits_app ho (sliceOf_ok he) (elemFits_ok hz) (h4.imp isSlice_ok isStr_ok) hd h2 h3
      · simp at h1
    · simp at h
  · -- cvi
    simp only [Bool.and_eq_true] at h
    obtain ⟨hd, h⟩ := h
    split at h
    · rename_i ho
      simp only [Bool.and_eq_true] at h
      exact fits_cvi ho (Option.isSome_iff_exists.1 h.1.1) (isInt_ok h.1.2) hd h.2
    · simp at h
  · -- b2s
    simp only [Bool.and_eq_true] at h
    obtain ⟨hd, h⟩ := h
    split at h
    · rename_i ho
      simp only [Bool.and_eq_true] at h
      obtain ⟨⟨h1, h2⟩, h3⟩ := h
      split at h1
      · rename_i e he
        exact fits_b2s ho (sliceOf_ok he) (isInt_ok h1) (isStr_ok h2) hd h3
      · simp at h1
    · simp at h
  · -- s2b
    simp only [Bool.and_eq_true] at h
    obtain ⟨hd, h⟩ := h
    split at h
    · rename_i ho
      simp only [Bool.and_eq_true] at h
      obtain ⟨⟨h1, h2⟩, h3⟩ := h
      split at h2
      · rename_i e he
        exact fits_s2b ho (isStr_ok h1) (sliceOf_ok he) (isInt_ok h2) hd h3
      · simp at h2
    · simp at h
  · -- call
    simp only [Bool.and_eq_true] at h
    obtain ⟨hd, h⟩ := h
    split at h
    · rename_i ho
      simp only [Bool.and_eq_true, beq_iff_eq] at h
      obtain ⟨h1, h2⟩ := h
      subst h1
      exact fits_call ho (hf _) hd h2
    · simp at h
  · -- callo
    simp only [Bool.and_eq_true] at h
    obtain ⟨hd, h⟩ := h
    split at h
    · rename_i ho
      simp only [Bool.and_eq_true, beq_iff_eq] at h
      obtain ⟨h1, h2⟩ := h
      subst h1
      exact fits_callo ho (hf _) hd h2
    · simp at h
  · -- eqv
    simp only [Bool.and_eq_true] at h
    obtain ⟨hd, h⟩ := h
    split at h
    · rename_i ho
      simp only [Bool.and_eq_true, decide_eq_true_eq] at h
      obtain ⟨⟨⟨h1, h2⟩, h3⟩, h4⟩ := h
      subst h1
      split at h2
      · rename_i hu
        exact fits_eqv ho hu hd h3 h4
      · simp at h2
    · simp at h
  · -- niq
    simp only [Bool.and_eq_true] at h
    obtain ⟨hd, h⟩ := h
    split at h
    · rename_i ho
      simp only [Bool.and_eq_true, decide_eq_true_eq] at h
      obtain ⟨⟨h1, h2⟩, h3⟩ := h
      subst h1
      obtain ⟨e, hu⟩ := isSlice_ok h2
      exact fits_niq ho hu hd h3
    · simp at h
  · -- mnx
    simp only [Bool.and_eq_true] at h
    obtain ⟨hd, h⟩ := h
    split at h
    · rename_i ho
      simp only [Bool.and_eq_true, decide_eq_true_eq] at h
      obtain ⟨⟨h1, h2⟩, h3⟩ := h
      subst h1
      exact fits_mnx ho hd h2 h3
    · simp at h
  · -- callv
    simp only [Bool.and_eq_true] at h
    obtain ⟨hd, h⟩ := h
    split at h
    · rename_i ho
      simp only [Bool.and_eq_true] at h
      exact fits_callv ho hf hd h.1 h.2
    · simp at h
  · -- ext
    simp only [Bool.and_eq_true] at h
    obtain ⟨hd, h⟩ := h
    split at h
    · rename_i ho
      simp only [Bool.and_eq_true, beq_iff_eq, Bool.not_eq_true', List.contains_eq_mem, decide_eq_false_iff_not] at h
      obtain ⟨⟨h1, h2⟩, h3⟩ := h
      subst h1 h2
      exact fits_ext ho hd h3
    · simp at h
  · -- mkf
    simp only [Bool.and_eq_true] at h
    obtain ⟨hd, h⟩ := h
    split at h
    · rename_i ho
      simp only [Bool.and_eq_true, beq_iff_eq] at h
      obtain ⟨h1, h2⟩ := h
      subst h1
      exact fits_mkf ho hd h2
    · simp at h
  · -- mkq
    simp only [Bool.and_eq_true] at h
    obtain ⟨hd, h⟩ := h
    split at h
    · rename_i ho
      simp only [Bool.and_eq_true, beq_iff_eq] at h
      obtain ⟨h1, h2⟩ := h
      subst h1
      exact fits_mkq ho h2 hd
    · simp at h
  · -- nck
    simp only [Bool.and_eq_true] at h
    obtain ⟨hd, h⟩ := h
    split at h
    · rename_i ho
      exact fits_nck ho hd h
    · simp at h
  · simp at h

/-- An operation that leaves the world as it is. -/
def quietOp : AOp → Bool
  | .mv .. | .pick .. | .bin .. | .un .. | .len .. | .iad .. | .iada .. | .ld .. | .cvi .. | .nck .. | .ext .. => true
  | _ => false

theorem quiet_sound {P : Program} {slots : List Nat} {n : Nat} {o : Oper} {op : AOp} (h : chkOp P slots n o op = true) (hq : quietOp op = true) {CS : CallSem} {RP : FuncId → Option (List AV → Option AV)} (hf : ∀ f, FnOk P CS f) : OpStill P CS RP slots n o op := by
  have hfit := chkOp_sound h (RP := RP) hf
  unfold chkOp at h
  split at h <;> first
    | (simp [quietOp] at hq; done)
    | skip
  · simp only [Bool.and_eq_true] at h
    obtain ⟨hd, h⟩ := h
    split at h
    · exact still_mv (.inl (by assumption))
    · exact still_mv (.inr (by assumption))
    · simp at h
  · simp only [Bool.and_eq_true] at h
    obtain ⟨hd, h⟩ := h
    split at h
    · rename_i ho
      exact still_pick ho hfit
    · simp at h
  · simp only [Bool.and_eq_true] at h
    obtain ⟨hd, h⟩ := h
    split at h
    · rename_i ho
      simp only [Bool.and_eq_true, decide_eq_true_eq] at h
      obtain ⟨⟨h1, h2⟩, h3⟩ := h
      subst h1
      exact still_bin ho h2 h3
    · simp at h
  · simp only [Bool.and_eq_true] at h
    obtain ⟨hd, h⟩ := h
    split at h
    · rename_i ho
      simp only [Bool.and_eq_true, decide_eq_true_eq] at h
      obtain ⟨h1, h2⟩ := h
      subst h1
      exact still_un ho h2
    · simp at h
  · rename_i d str x
    simp only [Bool.and_eq_true] at h
    obtain ⟨hd, h⟩ := h
    split at h
    · rename_i a ts ho
      simp only [Bool.and_eq_true] at h
      obtain ⟨h1, h2⟩ := h
      split at h2
      · rename_i T hT
        refine still_len ho hT ?_ h1
        cases str with
        | true => exact isStr_ok (by simpa using h2)
        | false => exact isSlice_ok (by simpa using h2)
      · simp at h2
    · simp at h
  · simp only [Bool.and_eq_true] at h
    obtain ⟨hd, h⟩ := h
    split at h
    · rename_i ho
      exact still_iad ho hfit
    · simp at h
  · simp only [Bool.and_eq_true] at h
    obtain ⟨hd, h⟩ := h
    split at h
    · rename_i ho
      exact still_iad ho hfit
    · simp at h
  · simp only [Bool.and_eq_true] at h
    obtain ⟨hd, h⟩ := h
    split at h
    · rename_i ho
      exact still_ld ho hfit
    · simp at h
  · simp only [Bool.and_eq_true] at h
    obtain ⟨hd, h⟩ := h
    split at h
    · rename_i ho
      simp only [Bool.and_eq_true] at h
      exact still_cvi ho (Option.isSome_iff_exists.1 h.1.1) (isInt_ok h.1.2) h.2
    · simp at h
  · simp only [Bool.and_eq_true] at h
    obtain ⟨hd, h⟩ := h
    split at h
    · rename_i ho
      exact still_ext ho hfit
    · simp at h
  · simp only [Bool.and_eq_true] at h
    obtain ⟨hd, h⟩ := h
    split at h
    · rename_i ho
      exact still_nck ho h
    · simp at h

end Go.VS
