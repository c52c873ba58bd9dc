/- The check of regions, code, functions. -/
import Derived.Test.YtpebcbnkalkikaaVsChk
set_option linter.unusedVariables false
namespace Go.VS

def chkGOp (P : Program) (slots : List Nat) (n : Nat) (ops : Array Oper) (o : Oper) : AOp → Bool
  | .g (.t tg) want ds op => (match o.guard with
      | some (g, w) => w == want && (match ops[g]? with | some og => og.dst == some tg | none => false)
      | none => false) && !slots.contains tg && chkSkip slots n o.dst ds && chkOp P slots n o op
  | op => o.guard.isNone && chkOp P slots n o op

def quietG : AOp → Bool
  | .g _ _ _ op => quietOp op
  | op => quietOp op

def chkL (P : Program) (slots : List Nat) (n : Nat) (ops : Array Oper) : List Oper → List AOp → Bool
  | [], [] => true
  | o :: os, a :: as => chkGOp P slots n ops o a && chkL P slots n ops os as
  | _, _ => false

section
variable {P : Program} {slots : List Nat} {n : Nat} {ops : Array Oper} {CS : CallSem} {RP : FuncId → Option (List AV → Option AV)}

theorem chkGOp_cases {o : Oper} {op : AOp} (h : chkGOp P slots n ops o op = true) :
    (∃ tg want ds op' g og, op = .g (.t tg) want ds op' ∧ o.guard = some (g, want) ∧ ops[g]? = some og ∧ og.dst = some tg ∧ tg ∉ slots ∧ chkSkip slots n o.dst ds = true ∧ chkOp P slots n o op' = true) ∨
    (o.guard = none ∧ chkOp P slots n o op = true ∧ quietG op = quietOp op) := by
  unfold chkGOp at h
  split at h
  · rename_i tg want ds op'
    simp only [Bool.and_eq_true, Bool.not_eq_true', List.contains_eq_mem, decide_eq_false_iff_not] at h
    obtain ⟨⟨⟨h1, h2⟩, h3⟩, h4⟩ := h
    split at h1
    · rename_i g w hg
      simp only [Bool.and_eq_true, beq_iff_eq] at h1
      obtain ⟨h1, h5⟩ := h1
      subst h1
      split at h5
      · rename_i og hog
        exact .inl ⟨tg, w, ds, op', g, og, rfl, hg, hog, by simpa using h5, h2, h3, h4⟩
      · simp at h5
    · simp at h1
  · rename_i hne
    simp only [Bool.and_eq_true, Option.isNone_iff_eq_none] at h
    refine .inr ⟨h.1, h.2, ?_⟩
    cases op with
    | g x want ds op' => simp [chkOp] at h
    | _ => rfl

theorem chkGOp_fits {o : Oper} {op : AOp} (h : chkGOp P slots n ops o op = true) (hf : ∀ f, FnOk P CS f) : OpFitsG P CS RP slots n ops o op := by
  rcases chkGOp_cases h with ⟨tg, want, ds, op', g, og, rfl, h1, h2, h3, h4, h5, h6⟩ | ⟨h1, h2, _⟩
  · exact fitsG_some h1 h2 h3 h4 h5 (chkOp_sound h6 hf)
  · exact fitsG_none h1 (chkOp_sound h2 hf)

theorem chkGOp_still {o : Oper} {op : AOp} (h : chkGOp P slots n ops o op = true) (hq : quietG op = true) (hf : ∀ f, FnOk P CS f) : OpStillG P CS RP slots n ops o op := by
  rcases chkGOp_cases h with ⟨tg, want, ds, op', g, og, rfl, h1, h2, h3, h4, h5, h6⟩ | ⟨h1, h2, h3⟩
  · exact stillG_some h1 h2 h3 h4 (quiet_sound h6 hq hf)
  · rw [h3] at hq
    exact stillG_none h1 (quiet_sound h2 hq hf)

theorem chkL_get : ∀ {os : List Oper} {as : List AOp}, chkL P slots n ops os as = true → as.length = os.length ∧ ∀ (i : Nat) (o : Oper) (op : AOp), os[i]? = some o → as[i]? = some op → chkGOp P slots n ops o op = true
  | [], [], _ => ⟨rfl, by simp⟩
  | o :: os, a :: as, h => by
    simp only [chkL, Bool.and_eq_true] at h
    obtain ⟨e1, e2⟩ := chkL_get h.2
    refine ⟨by simp [e1], fun i o' op' h1 h2 => ?_⟩
    cases i with
    | zero =>
      simp only [List.getElem?_cons_zero, Option.some.injEq] at h1 h2
      subst h1 h2
      exact h.1
    | succ i => exact e2 i o' op' (by simpa using h1) (by simpa using h2)
  | [], _ :: _, h => by simp [chkL] at h
  | _ :: _, [], h => by simp [chkL] at h
end

/-! ### orders -/
def directs (o : Oper) : List Nat := (o.after.toList.filter fun e => Region.binds .any e).map (·.on)

def predsGo : List Oper → List (List Nat) → List (List Nat)
  | [], acc => acc
  | o :: os, acc => predsGo os (acc ++ [(directs o).flatMap fun x => x :: acc.getD x []])

def cutB (N : Nat) (pl : List (List Nat)) (m : Nat) : Bool :=
  (List.range N).all fun j => j < m || (List.range m).all fun i => (pl.getD j []).contains i

def groupOk (ops : Array Oper) (al : List AOp) (k m : Nat) : Bool :=
  (List.range m).all fun i => i < k || ((match al[i]? with | some op => quietG op | none => false) && (Region.ready .any ops (upto ops.size i)).contains i && Region.free .any ops (upto ops.size i) i)

def groupsB (ops : Array Oper) (al : List AOp) (pl : List (List Nat)) : Nat → Nat → Bool
  | 0, k => k == ops.size
  | fuel + 1, k => if k == ops.size then true else
      if k < ops.size && Region.ready .any ops (upto ops.size k) == [k] then groupsB ops al pl fuel (k + 1) else
      match (List.range (ops.size + 1)).find? fun m => decide (k < m) && cutB ops.size pl m with
      | some m => groupOk ops al k m && groupsB ops al pl fuel m
      | none => false

section
variable {P : Program} {slots : List Nat} {n : Nat} {ops : Array Oper} {CS : CallSem} {RP : FuncId → Option (List AV → Option AV)}

def PInv (ops : Array Oper) (acc : List (List Nat)) : Prop :=
  ∀ j o, ops[j]? = some o → ∀ i ∈ acc.getD j [], ∀ listed, Closed ops listed → (∀ x ∈ directs o, listed.getD x false = true) → listed.getD i false = true

theorem predsGo_inv : ∀ (os : List Oper) (acc : List (List Nat)), (∀ i o, os[i]? = some o → ops[acc.length + i]? = some o) → PInv ops acc → PInv ops (predsGo os acc)
  | [], acc, _, h => h
  | o :: os, acc, hos, h => by
    refine predsGo_inv os _ (fun i o' hi => ?_) ?_
    · have := hos (i + 1) o' (by simpa using hi)
      simpa [Nat.add_assoc, Nat.add_comm 1 i] using this
    · intro j oj hj i hi listed hcl hd
      rcases Nat.lt_trichotomy j acc.length with hlt | heq | hgt
      · rw [List.getD_eq_getElem?_getD, List.getElem?_append_left hlt, ← List.getD_eq_getElem?_getD] at hi
        exact h j oj hj i hi listed hcl hd
      · subst heq
        have : oj = o := by
          have := hos 0 o rfl
          rw [Nat.add_zero, hj] at this
          simpa using this
        subst this
        simp only [List.getD_eq_getElem?_getD, List.getElem?_append_right (Nat.le_refl _), Nat.sub_self, List.getElem?_cons_zero, Option.getD_some, List.mem_flatMap, List.mem_cons] at hi
        obtain ⟨x, hx, hi⟩ := hi
        rcases hi with rfl | hi
        · exact hd i hx
        · cases hox : ops[x]? with
          | none =>
            have hxs := Array.getElem?_eq_none_iff.1 hox
            have hacc : acc.length ≤ ops.size := by
              have := hos 0 oj rfl
              have := (Array.getElem?_eq_some_iff.1 this).1
              omega
            rw [List.getElem?_eq_none (by omega)] at hi
            simp at hi
          | some ox =>
            refine h x ox hox i (by rw [List.getD_eq_getElem?_getD]; exact hi) listed hcl fun y hy => ?_
            simp only [directs, List.mem_map, List.mem_filter, Array.mem_toList_iff] at hy
            obtain ⟨e, ⟨h1, h2⟩, rfl⟩ := hy
            exact hcl x ox hox (hd x hx) e h1 h2
      · rw [List.getD_eq_getElem?_getD, List.getElem?_eq_none (by simp; omega)] at hi
        simp at hi

theorem cutB_ok {m : Nat} {pl : List (List Nat)} (hpl : PInv ops pl) (h : cutB ops.size pl m = true) : Cut ops m := by
  intro listed hcl hal j hj
  obtain ⟨_, oj, hoj, hall⟩ := mem_ready.1 hj
  have hjn : j < ops.size := (Array.getElem?_eq_some_iff.1 hoj).1
  rcases Nat.lt_or_ge j m with hlt | hge
  · exact hlt
  · exfalso
    rw [allL, List.all_eq_false] at hal
    obtain ⟨i, hi, hni⟩ := hal
    simp only [cutB, List.all_eq_true, List.mem_range, Bool.or_eq_true, decide_eq_true_eq] at h
    have := (h j hjn).resolve_left (by omega) i (List.mem_range.1 hi)
    refine hni (hpl j oj hoj i (by simpa using this) listed hcl fun x hx => ?_)
    simp only [directs, List.mem_map, List.mem_filter, Array.mem_toList_iff] at hx
    obtain ⟨e, ⟨h1, h2⟩, rfl⟩ := hx
    exact hall e h1 h2

theorem groupsB_ok {al : List AOp} {pl : List (List Nat)} (hpl : PInv ops pl) (hal : ∀ (i : Nat) (o : Oper) (op : AOp), ops[i]? = some o → al[i]? = some op → chkGOp P slots n ops o op = true) (hf : ∀ f, FnOk P CS f) :
    ∀ (fuel k : Nat), groupsB ops al pl fuel k = true → GroupsOk P CS RP slots n ops al k
  | 0, k, h => by
    simp only [groupsB, beq_iff_eq] at h
    subst h
    exact .done
  | fuel + 1, k, h => by
    simp only [groupsB] at h
    split at h
    · rename_i hk
      have := beq_iff_eq.1 hk
      subst this
      exact .done
    · split at h
      · rename_i h1
        simp only [Bool.and_eq_true, decide_eq_true_eq, beq_iff_eq] at h1
        exact .one k h1.1 h1.2 (groupsB_ok hpl hal hf fuel (k + 1) h)
      · split at h
        · rename_i m hm
          have h1 := List.find?_some hm
          have h2 := List.mem_of_find?_eq_some hm
          simp only [Bool.and_eq_true, decide_eq_true_eq] at h1 h
          have hmn : m ≤ ops.size := by have := List.mem_range.1 h2; omega
          have hg : ∀ i, k ≤ i → i < m → _ := fun i hki him => by
            have := h.1
            simp only [groupOk, List.all_eq_true, List.mem_range, Bool.or_eq_true, decide_eq_true_eq] at this
            exact (this i him).resolve_left (by omega)
          refine .many k m (by omega) hmn (cutB_ok hpl h1.2) (fun i o op hki him ho hop => ?_) (fun i hki him => ?_) (groupsB_ok hpl hal hf fuel m h.2)
          · have := hg i hki him
            rw [hop] at this
            simp only [Bool.and_eq_true] at this
            exact chkGOp_still (hal i o op ho hop) this.1.1 hf
          · have := hg i hki him
            simp only [Bool.and_eq_true, List.contains_eq_mem, decide_eq_true_eq] at this
            exact ⟨this.1.2, this.2⟩
        · simp at h

/-- A region. -/
def chkReg (P : Program) (slots : List Nat) (n : Nat) (ops : Array Oper) (draw : Bool) (al : List AOp) : Bool :=
  chkL P slots n ops ops.toList al && (!draw || (P.follows .mixedOrders && Region.noSelect ops && groupsB ops al (predsGo ops.toList []) ops.size 0))

theorem chkReg_ok {draw : Bool} {al : List AOp} (h : chkReg P slots n ops draw al = true) : RegT P slots n ops draw al := by
  intro CS RP hf
  simp only [chkReg, Bool.and_eq_true, Bool.or_eq_true, Bool.not_eq_true'] at h
  obtain ⟨h1, h2⟩ := h
  obtain ⟨e1, e2⟩ := chkL_get h1
  have hal : ∀ (i : Nat) (o : Oper) (op : AOp), ops[i]? = some o → al[i]? = some op → chkGOp P slots n ops o op = true := fun i o op ho hop => e2 i o op (by simpa using ho) hop
  refine ⟨⟨by simpa using e1, fun i o op ho hop => chkGOp_fits (hal i o op ho hop) hf⟩, fun hd => ?_⟩
  subst hd
  simp only [reduceCtorEq, false_or] at h2
  refine ⟨h2.1.1, h2.1.2, groupsB_ok (predsGo_inv ops.toList [] (fun i o hi => by simpa using hi) ?_) hal hf _ 0 h2.2⟩
  intro j o hj i hi
  simp at hi

def chkC (P : Program) (slots : List Nat) (n : Nat) : AC → Code → Bool
  | .frz _ c, code => chkC P slots n c code
  | .skip, .skip => true
  | .ops _ al, .region _ ops draw => chkReg P slots n ops draw al
  | .ite r a b, .cond x ca cb => chkRef slots x r && chkC P slots n a ca && chkC P slots n b cb
  | .seq a b, .seq ca cb => chkC P slots n a ca && chkC P slots n b cb
  | .block id c, .block id' code => id == id' && chkC P slots n c code
  | .loop _ c, .loop code => chkC P slots n c code
  | .sc _ c, .scope code => chkC P slots n c code
  | .label l, .label l' => l == l'
  | .goto l, .goto l' => l == l'
  | .exit id, .exit id' => id == id'
  | .ret, .ret => true
  | _, _ => false

theorem chkC_ok : ∀ {c : AC} {code : Code}, chkC P slots n c code = true → CodeT P slots n c code := by
  intro c
  induction c with
  | frz i c ih => intro code h; simp only [chkC] at h; exact .frz (ih h)
  | skip => intro code h; cases code <;> simp [chkC] at h; exact .skip
  | ops dr al => intro code h; cases code <;> simp [chkC] at h; exact .ops (chkReg_ok h)
  | ite r a b iha ihb =>
    intro code h
    cases code <;> simp [chkC] at h
    exact .ite h.1.1 (iha h.1.2) (ihb h.2)
  | seq a b iha ihb =>
    intro code h
    cases code <;> simp [chkC] at h
    exact .seq (iha h.1) (ihb h.2)
  | block id c ih =>
    intro code h
    cases code <;> simp [chkC] at h
    obtain ⟨rfl, h⟩ := h
    exact .block (ih h)
  | loop ks c ih => intro code h; cases code <;> simp [chkC] at h; exact .loop (ih h)
  | sc ks c ih => intro code h; cases code <;> simp [chkC] at h; exact .scope (ih h)
  | scope ks c cur _ _ => intro code h; cases code <;> simp [chkC] at h
  | label l => intro code h; cases code <;> simp [chkC] at h; subst h; exact .label
  | goto l => intro code h; cases code <;> simp [chkC] at h; subst h; exact .goto
  | exit id => intro code h; cases code <;> simp [chkC] at h; subst h; exact .exit
  | ret => intro code h; cases code <;> simp [chkC] at h; exact .ret

def chkRes (P : Program) (slots : List Nat) : List ResultVar → List ARes → Bool
  | [], [] => true
  | .tmp t :: rs, .v i :: as => slots[i]? == some t && chkRes P slots rs as
  | .cell t T :: rs, .cell i sz :: as => slots[i]? == some t && chkKind P T sz && chkRes P slots rs as
  | _, _ => false

theorem chkRes_ok : ∀ {rs : List ResultVar} {as : List ARes}, chkRes P slots rs as = true → rs.length = as.length ∧ ∀ (j : Nat) (rv : ResultVar) (ar : ARes), rs[j]? = some rv → as[j]? = some ar → ResT P slots rv ar
  | [], [], _ => ⟨rfl, by simp⟩
  | .tmp t :: rs, .v i :: as, h => by
    simp only [chkRes, Bool.and_eq_true, beq_iff_eq] at h
    obtain ⟨e1, e2⟩ := chkRes_ok h.2
    refine ⟨by simp [e1], fun j rv ar h1 h2 => ?_⟩
    cases j with
    | zero =>
      simp only [List.getElem?_cons_zero, Option.some.injEq] at h1 h2
      subst h1 h2
      exact h.1
    | succ j => exact e2 j rv ar (by simpa using h1) (by simpa using h2)
  | .cell t T :: rs, .cell i sz :: as, h => by
    simp only [chkRes, Bool.and_eq_true, beq_iff_eq] at h
    obtain ⟨e1, e2⟩ := chkRes_ok h.2
    refine ⟨by simp [e1], fun j rv ar h1 h2 => ?_⟩
    cases j with
    | zero =>
      simp only [List.getElem?_cons_zero, Option.some.injEq] at h1 h2
      subst h1 h2
      exact ⟨h.1.1, chkKind_ok h.1.2⟩
    | succ j => exact e2 j rv ar (by simpa using h1) (by simpa using h2)
  | [], _ :: _, h => by simp [chkRes] at h
  | .tmp _ :: _, [], h => by simp [chkRes] at h
  | .cell _ _ :: _, [], h => by simp [chkRes] at h
  | .tmp _ :: _, .cell _ _ :: _, h => by simp [chkRes] at h
  | .cell _ _ :: _, .v _ :: _, h => by simp [chkRes] at h

end

def nodupB : List Nat → Bool
  | [] => true
  | x :: xs => !xs.contains x && nodupB xs

theorem nodupB_ok : ∀ {l : List Nat}, nodupB l = true → l.Nodup
  | [], _ => List.nodup_nil
  | x :: xs, h => by
    simp only [nodupB, Bool.and_eq_true, Bool.not_eq_true', List.contains_eq_mem, decide_eq_false_iff_not] at h
    exact List.nodup_cons.2 ⟨h.1, nodupB_ok h.2⟩

/-- A function of the program. -/
def chkFn (P : Program) (f : FuncId) (fn : AFunc) : Bool :=
  match P.funcs[f]? with
  | some func => match func.body with
    | some code => !(func.name == "runtime.NumGoroutine") && func.ntmps == fn.n && chkC P fn.slots fn.n fn.body code && chkRes P fn.slots func.results.toList fn.res && nodupB fn.slots && fn.slots.all (fun x => decide (x < fn.n))
    | none => false
  | none => false

theorem chkFn_ok {P : Program} {f : FuncId} {fn : AFunc} (h : chkFn P f fn = true) : FnT P f fn := by
  unfold chkFn at h
  split at h
  · rename_i func hfunc
    split at h
    · rename_i code hcode
      simp only [Bool.and_eq_true, Bool.not_eq_true', beq_iff_eq, List.all_eq_true, decide_eq_true_eq] at h
      obtain ⟨⟨⟨⟨⟨h1, h2⟩, h3⟩, h4⟩, h5⟩, h6⟩ := h
      obtain ⟨e1, e2⟩ := chkRes_ok h4
      exact ⟨⟨func, code, hfunc, hcode, h1, h2, chkC_ok h3, by simpa using e1, fun j rv ar a b => e2 j rv ar (by simpa using a) b⟩, nodupB_ok h5, h6⟩
    · simp at h
  · simp at h

end Go.VS
