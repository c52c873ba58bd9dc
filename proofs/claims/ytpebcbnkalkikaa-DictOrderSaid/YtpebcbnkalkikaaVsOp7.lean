/- Operations: boxes, stores, structs, new slices, bytes and strings. -/
import Derived.Test.YtpebcbnkalkikaaVsOp6
import Derived.Laws.IdiomStrings
set_option linter.unusedVariables false
namespace Go.VS

/-- A type's zero value, cell by cell. -/
def zeroOk : List AV → List Value → Bool
  | [], [] => true
  | x :: xs, v :: vs => constOk v x && zeroOk xs vs
  | _, _ => false

theorem constOk_cells {v : Value} {x : AV} (h : constOk v x = true) : v.cells = #[v] ∧ oneCell x = true ∧ x ≠ .undef := by
  unfold constOk at h
  split at h <;> simp_all [Value.cells, oneCell]

theorem zeroOk_reps {S : Cells} {G : Lay} {w : World} : ∀ {xs : List AV} {vs : List Value}, zeroOk xs vs = true → Reps S G w xs vs
  | [], [], _ => by simp [Reps]
  | x :: xs, v :: vs, h => by
    simp only [zeroOk, Bool.and_eq_true] at h
    have hc := constOk_cells h.1
    have hr := constOk_rep (S := S) (G := G) (w := w) h.1
    simp only [Reps]
    exact ⟨v, vs, rfl, hc.1, hc.2.1, rep_of hc.2.1 hr.2 hr.1, zeroOk_reps h.2⟩
  | [], _ :: _, h => by simp [zeroOk] at h
  | _ :: _, [], h => by simp [zeroOk] at h

def ZeroIs (P : Program) (t : TypeId) (zero : List AV) : Prop := ∃ i z, P.info? t = some i ∧ i.zero = some z ∧ zeroOk zero z.cells.toList = true

section
variable {P : Program} {CS : CallSem} {RP : FuncId → Option (List AV → Option AV)} {slots : List Nat} {n : Nat} {M : Mem} {st : St} {a : Act}

theorem run_zeroValue' {t : TypeId} {i : TypeInfo} {z : Value} (h : P.info? t = some i) (hz : i.zero = some z) (w : World) : (zeroValue t).run P w = .ok z w := by
  unfold zeroValue
  rw [Sem.run_bind, run_typeInfo' h]
  simp [hz]

theorem noR_alloc (h : NoR M) {w' : World} {b : Nat} {k : Key} (hk : ∀ j, k ≠ .r j) : NoR (M.alloc w' b k) := by
  intro x j
  simp only [Mem.alloc]
  split
  · intro e; exact hk j (Option.some.inj e)
  · exact h x j

theorem fits_alo {o : Oper} {T y : Nat} (ho : o.op = .alloc T) {i : Nat} {zero : List AV} (hz : ZeroIs P T zero) (hdst : o.dst = some y) (hi : slots[i]? = some y) :
    OpFits P CS RP slots n o (.alo i zero) := by
  intro M st a st' h hn hr next Q K
  simp only [runOp, Option.some.injEq] at hr
  subst hr
  obtain ⟨ti, z, h1, h2, h3⟩ := hz
  have hrun : (execOp a.eval o).run P M.w = .ok (.value (.pointer (some ⟨M.w.heap.size, 0, none⟩))) (M.w.alloc (.cells z.cells T)) := by
    simp only [execOp, ho, Instr.alloc, newVar, newRow, Sem.run_bind, run_zeroValue' h1 h2, Result.andThen_ok, run_newObj, Sem.run_pure]
    rfl
  rw [hrun, Oper.upon_value, hdst]
  have hp : Plus M.w (M.w.alloc (.cells z.cells T)) (.cells z.cells T (0, 0)) := Plus.alloc _ _
  have hreps := zeroOk_reps (S := M.S) (G := M.G) (w := M.w) h3
  refine K (M.alloc (M.w.alloc (.cells z.cells T)) M.w.heap.size (.lb i)) _ (newBox h hp hi (by have := hreps.length; simpa using this) (by simp) (fun k x hk => ?_)) (noR_alloc hn (by simp)) (alloc_evo h.wf hp _)
  obtain ⟨v, e1, e2, e3⟩ := into_cells i 0 hreps k x hk
  exact ⟨v, by simpa using e1, e2, by simpa using e3⟩

theorem cells_reps {x : AV} {v : Value} (hp : plain x = true) (h : RepV M.S M.G M.w x v) : Reps M.S M.G M.w (cellsOf x) v.cells.toList := by
  by_cases h1 : oneCell x = true
  · have hu : x ≠ .undef := by intro e; subst e; simp [plain] at hp
    have hr := rep_of h1 hp h
    obtain ⟨u, e1, e2, _⟩ := rep_one h1 hu hr
    simp only [List.cons.injEq, and_true] at e1
    subst e1
    have : cellsOf x = [x] := by cases x <;> simp_all [oneCell, cellsOf]
    rw [this, e2]
    simp only [Reps]
    exact ⟨v, [], rfl, e2, h1, hr, rfl⟩
  · cases x with
    | agg cs =>
      obtain ⟨vs, rfl, hr⟩ := h
      exact hr
    | _ => simp [oneCell] at h1

/-- A temporary's own array becomes one that only grows; its place is its place still. -/
theorem tmp_settle (h : FR M slots n st a) {y : Nat} (hy : y ∉ slots) {m : Bool} {s : Nat} {xs : List AV} (hl : look y st.tmps = .sl (.own m) s xs) :
    ∃ M', M'.w = M.w ∧ Evo M M' ∧ FR M' slots n (kill st y .undef) a ∧ OwnArr M' (.r 0) false s xs (a.tmps.getD y undef) := by
  have h1 := tmp_free h hy
  have h2 := tmp_own h hy hl
  cases m with
  | false => exact ⟨M.ren (Key.free y), rfl, M.ren_evo _, h1, h2⟩
  | true =>
    obtain ⟨M', e1, e2, e3, e4, e5, e6, e7⟩ := h2.settle h1.wf
    refine ⟨M', e1, (M.ren_evo _).trans e4, h1.evolve e4.grow e5 (fun id b hb => by rw [← e3]; exact hb) (fun b k hb hk => ⟨by rw [e2], by rw [e1], fun j hj => e7 b (by rw [hb]; intro e; exact hk 0 (Option.some.inj e)) j hj⟩), e6⟩

theorem box_run {o : Oper} {T : Nat} {x : Operand} (ho : o.op = .box T x) (ρ : Operand → Value) (w : World) :
    (execOp ρ o).run P w = .ok (.value (.pointer (some ⟨w.heap.size, 0, none⟩))) (w.alloc (.cells (ρ x).cells T)) := by
  simp only [execOp, ho, Instr.box, newVar, newRow, Sem.run_bind, Result.andThen_ok, run_newObj, Sem.run_pure]
  rfl

theorem fits_box {o : Oper} {T y : Nat} {x : Operand} (ho : o.op = .box T x) {i : Nat} {rx : Ref} (hx : chkRef slots x rx = true) (hdst : o.dst = some y) (hi : slots[i]? = some y) :
    OpFits P CS RP slots n o (.box i rx) := by
  intro M st a st' h hn hr next Q K
  rw [box_run ho, Oper.upon_value, hdst]
  have plainCase : ∀ {M' : Mem} {st1 : St} {v : AV}, Handed M slots n st1 a M' → RepV M'.S M'.G M'.w v (a.eval x) → plain v = true → setV st1 i (.lbox ((cellsOf v).map intoCell)) = st' →
      next (a.put (some y) (.pointer (some ⟨M.w.heap.size, 0, none⟩))) (M.w.alloc (.cells (a.eval x).cells T)) := by
    intro M' st1 v hk hR hpl he
    subst he
    have hp : Plus M'.w (M.w.alloc (.cells (a.eval x).cells T)) (.cells (a.eval x).cells T (0, 0)) := by rw [hk.w]; exact Plus.alloc _ _
    have hreps := cells_reps hpl hR
    have := newBox hk.fr hp hi (cs := (cellsOf v).map intoCell) (by have := hreps.length; simpa using this) (by simp) (fun k x' hk' => by
      obtain ⟨u, e1, e2, e3⟩ := into_cells i 0 hreps k x' hk'
      exact ⟨u, by simpa using e1, e2, by simpa using e3⟩)
    rw [hk.w] at this
    have hev := alloc_evo hk.fr.wf hp (.lb i)
    rw [hk.w] at hev
    exact K _ _ this (noR_alloc (hk.noR hn) (by simp)) (hk.evo.trans hev)
  cases rx with
  | t t =>
    obtain ⟨rfl, hns⟩ := chkRef_t hx
    simp only [runOp] at hr
    split at hr
    · rename_i m s xs hl
      simp only [Option.some.injEq] at hr
      subst hr
      obtain ⟨M1, w1, e1, f1, A1⟩ := tmp_settle h hns hl
      let M2 := M1.rekey fun _ => Key.v i 1
      have f2 : FR M2 slots n (kill st t .undef) a := f1.evolve (M1.rekey_evo _).grow (f1.wf.rekey _) (fun _ _ h => h) (fun b k hb hk => Mem.rekey_pres hb hk)
      have A2 : OwnArr M2 (.v i 1) false s xs (a.tmps.getD t undef) := OwnArr.rekey (f := fun _ => Key.v i 1) A1
      have hsl : ∃ q : Value, a.tmps.getD t undef = q ∧ q.cells = #[q] := by
        refine ⟨_, rfl, ?_⟩
        rcases A2 with ⟨_, e | ⟨b, p, e⟩⟩ | ⟨_, b, p, c, e, _⟩ <;> rw [e] <;> rfl
      obtain ⟨q, hq, hqc⟩ := hsl
      have hp : Plus M2.w (M.w.alloc (.cells (a.eval (.tmp t)).cells T)) (.cells (a.eval (.tmp t)).cells T (0, 0)) := by
        show Plus M1.w _ _
        rw [w1]; exact Plus.alloc _ _
      have hcl : (a.eval (.tmp t)).cells = #[q] := by show (a.tmps.getD t undef).cells = _; rw [hq, hqc]
      have := newBox f2 hp hi (cs := [.sl (.own false) s xs]) (by rw [hcl]; rfl) (by simp) (fun k x' hk' => by
        cases k with
        | zero =>
          simp only [List.getElem?_cons_zero, Option.some.injEq] at hk'
          subst hk'
          exact ⟨q, by rw [hcl]; rfl, hqc, hq ▸ A2⟩
        | succ k => simp at hk')
      have hw2 : M2.w = M.w := w1
      rw [hw2] at this
      have hev := alloc_evo f2.wf hp (.lb i)
      rw [hw2] at hev
      exact K _ _ this (noR_alloc (Mem.rekey_noR (by simp)) (by simp)) ((e1.trans (M1.rekey_evo _)).trans hev)
    · split at hr
      · rename_i v st1 hpers
        simp only [Option.some.injEq] at hr
        obtain ⟨M1, k1, r1, p1, _⟩ := pers_sound h hx hpers
        exact plainCase k1 r1 p1 hr
      · simp at hr
  | v j =>
    simp only [runOp] at hr
    split at hr
    · rename_i v st1 hpers
      simp only [Option.some.injEq] at hr
      obtain ⟨M1, k1, r1, p1, _⟩ := pers_sound h hx hpers
      exact plainCase k1 r1 p1 hr
    · simp at hr
  | c av =>
    simp only [runOp] at hr
    split at hr
    · rename_i v st1 hpers
      simp only [Option.some.injEq] at hr
      obtain ⟨M1, k1, r1, p1, _⟩ := pers_sound h hx hpers
      exact plainCase k1 r1 p1 hr
    · simp at hr

theorem fits_mkf {o : Oper} {f : FuncId} {cs : Array Operand} (ho : o.op = .makeFunc (.func f) #[] cs) {d : Dst} {rs : List Ref} (hd : chkDstO slots n o.dst d = true) (hx : chkRefs slots cs.toList rs = true) :
    OpFits P CS RP slots n o (.mkf d f rs) := by
  intro M st a st' h hn hr next Q K
  simp only [runOp] at hr
  split at hr
  · rename_i vs st1 hp
    split at hr
    · rename_i h1c
      obtain ⟨M1, k1, r1, p1, _⟩ := persL_sound h hx hp
      have hrun : (execOp a.eval o).run P M.w = .ok (.value (.func (.func f) #[] (cs.map a.eval))) M.w := by
        simp [execOp, ho, Instr.makeFunc]
      rw [hrun]
      refine value_ok (av := .func f vs) k1.fr k1.evo hd (rep_trep rfl ?_) hr k1.w.symm K
      simp only [RepV, Rep]
      refine ⟨_, rfl, ?_⟩
      have key : ∀ {xs : List AV} {us : List Value}, RepVs M1 xs us → (∀ x ∈ xs, plain x = true) → xs.all oneCell = true → Reps M1.S M1.G M1.w xs us := by
        intro xs
        induction xs with
        | nil => intro us h _ _; simpa [RepVs, Reps] using h
        | cons x xs ih =>
          intro us h hp h1
          obtain ⟨v, r, rfl, e1, e2⟩ := h
          simp only [List.all_cons, Bool.and_eq_true] at h1
          have hpx := hp x (by simp)
          have hr := rep_of h1.1 hpx e1
          obtain ⟨u, q1, q2, _⟩ := rep_one h1.1 (by intro e; subst e; simp [plain] at hpx) hr
          simp only [List.cons.injEq, and_true] at q1
          subst q1
          simp only [Reps]
          exact ⟨v, r, rfl, q2, h1.1, hr, ih e2 (fun y hy => hp y (by simp [hy])) h1.2⟩
      simpa using key r1 p1 h1c
    · simp at hr
  · simp at hr

end
end Go.VS
