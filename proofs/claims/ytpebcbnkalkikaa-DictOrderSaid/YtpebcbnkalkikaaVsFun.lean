/- Functions: what they are entered with, what they answer. -/
import Derived.Test.YtpebcbnkalkikaaVsCode
set_option linter.unusedVariables false
namespace Go.VS

section
variable {P : Program} {CS : CallSem} {RP : FuncId → Option (List AV → Option AV)} {slots : List Nat} {n : Nat} {M : Mem} {st : St} {a : Act}

/-- How a result is told. -/
def ResT (P : Program) (slots : List Nat) : ResultVar → ARes → Prop
  | .tmp t, .v i => slots[i]? = some t
  | .cell t T, .cell i sz => slots[i]? = some t ∧ KindIs P T sz
  | _, _ => False

def readRes (tmps : Array Value) : ResultVar → Sem Value
  | .tmp t => pure (tmps.getD t undef)
  | .cell a t => do loadVar t (← asAddr (tmps.getD a undef))

theorem outV_has {M : Mem} {key key' : Key} {x r : AV} {v : Value} (h : Has M key x v) (ho : outV x = some r) {f : Key → Key} (hf : f key = key') : Has (M.ren f) key' r v := by
  subst hf
  unfold outV at ho
  split at ho
  · simp only [Option.some.injEq] at ho
    subst ho
    exact full_own (show RepV M.S M.G M.w (.sl .full _ []) v from h)
  · simp only [Option.some.injEq] at ho
    subst ho
    exact h.ren
  · split at ho
    · rename_i hp
      simp only [Option.some.injEq] at ho
      subst ho
      exact h.ren
    · simp at ho

theorem outV_good {x r : AV} (ho : outV x = some r) : Good r := by
  unfold outV at ho
  split at ho
  · simp only [Option.some.injEq] at ho; subst ho; exact .inr ⟨_, _, _, rfl⟩
  · simp only [Option.some.injEq] at ho; subst ho; exact .inr ⟨_, _, _, rfl⟩
  · split at ho
    · rename_i hp; simp only [Option.some.injEq] at ho; subst ho; exact .inl hp
    · simp at ho

theorem good_res {x : AV} {v : Value} (hg : Good x) {k : Nat} (h : Has M (.r k) x v) (hk : k = 0) : ResRep M x v := by
  subst hk
  rcases hg with hp | ⟨m, s, xs, rfl⟩
  · refine rep_trep hp ?_
    unfold Has at h
    split at h
    · simp [plain] at hp
    · exact h
  · exact h

theorem vrep_has {i : Nat} {x r : AV} {v : Value} (h : VRep M i x v) (ho : outV x = some r) : Has M (.v i 0) x v := by
  unfold VRep at h
  split at h
  · simp [outV, plain] at ho
  · exact h

theorem res_sound (h : FR M slots n st a) {rv : ResultVar} {ar : ARes} (hT : ResT P slots rv ar) (k : Nat) {x : AV} {st1 : St} (hr : resOf st ar = some (x, st1)) :
    ∃ v M1, (readRes a.tmps rv).run P M.w = .ok v M.w ∧ M1.w = M.w ∧ Evo M M1 ∧ FR M1 slots n st1 a ∧ Has M1 (.r k) x v ∧ st1.store = st.store ∧ Good x ∧ ∀ j y u, Has M (.r j) y u → Has M1 (.r j) y u := by
  have renCase : ∀ (i kk : Nat) (x0 : AV) (v : Value), Has M (.v i kk) x0 v → outV x0 = some x → i < slots.length → (readRes a.tmps rv).run P M.w = .ok v M.w → st1 = setV st i .undef →
      ∃ v M1, (readRes a.tmps rv).run P M.w = .ok v M.w ∧ M1.w = M.w ∧ Evo M M1 ∧ FR M1 slots n st1 a ∧ Has M1 (.r k) x v ∧ st1.store = st.store ∧ Good x ∧ ∀ j y u, Has M (.r j) y u → Has M1 (.r j) y u := by
    intro i kk x0 v hx ho hl hrun hst
    subst hst
    let f : Key → Key := fun q => if q = .v i kk then .r k else q
    have hf : ∀ q, q ≠ .v i kk → f q = q := fun q hq => if_neg hq
    refine ⟨v, M.ren f, hrun, rfl, M.ren_evo f, ?_, outV_has hx ho (if_pos rfl), rfl, outV_good ho, fun j y u hj => ?_⟩
    · exact h.setVar (M.ren_evo f).grow (h.wf.ren (by intro q hq; exact hf q (by intro e; subst e; simp [Key.isG] at hq))) (fun _ _ h => h) (List.getElem?_eq_getElem hl)
        (fun b q hb hq _ => Mem.ren_pres hb (hf q (by intro e; subst e; exact hq rfl))) (v := a.tmps.getD slots[i] undef) (by simp [VRep, Has, RepV]) h.size h.defers rfl (fun _ _ => rfl)
    · have := hj.ren (f := f)
      rwa [hf _ (by simp)] at this
  cases ar with
  | v i =>
    cases rv with
    | cell t T => exact hT.elim
    | tmp t =>
      have hi : slots[i]? = some t := hT
      have hl := (List.getElem?_eq_some_iff.1 hi).1
      simp only [resOf] at hr
      split at hr
      · rename_i av hav
        split at hr
        · rename_i r ho
          simp only [Option.some.injEq, Prod.mk.injEq] at hr
          obtain ⟨rfl, rfl⟩ := hr
          exact renCase i 0 av _ (vrep_has (h.vars i t av hi hav) ho) ho hl (by simp [readRes]) rfl
        · simp at hr
      · simp at hr
  | cell i sz =>
    cases rv with
    | tmp t => exact hT.elim
    | cell t T =>
      obtain ⟨hi, hk⟩ := hT
      have hl := (List.getElem?_eq_some_iff.1 hi).1
      simp only [resOf] at hr
      split at hr
      · rename_i cs hav
        have hv := h.vars i t _ hi hav
        simp only [VRep, LBox] at hv
        obtain ⟨b, e1, e2, e3, c, et, fr, e4, e5, e6, e7⟩ := hv
        have hcell : ∀ k v, c[k]? = some v → cellAt M.w b k = some v := by
          intro k v hkv
          simp [cellAt, World.cell?, e4, hkv]
        have hread : ∀ {v : Value}, (loadVar T ⟨b, 0, none⟩).run P M.w = .ok v M.w → (readRes a.tmps (.cell t T)).run P M.w = .ok v M.w := by
          intro v hlv
          simp only [readRes, e1, asAddr, Sem.run_bind, Sem.run_pure, Result.andThen_ok, hlv]
        split at hr
        · split at hr
          · rename_i cv
            split at hr
            · rename_i r ho
              simp only [Option.some.injEq, Prod.mk.injEq] at hr
              obtain ⟨rfl, rfl⟩ := hr
              obtain ⟨v, h1, h2, h3⟩ := e7 0 cv rfl
              exact renCase i 1 cv v h3 ho hl (hread (loadVar_one hk (hcell _ _ h1))) rfl
            · simp at hr
          · simp at hr
        · rename_i m
          split at hr
          · rename_i hlen
            split at hr
            · rename_i l hw
              simp only [Option.some.injEq, Prod.mk.injEq] at hr
              obtain ⟨rfl, rfl⟩ := hr
              have hR := wholes_rep (M := M) (ck := fun k => .v i (k + 1)) (i := 0) (c := c.toList) hw (fun k x hx => by
                obtain ⟨v, h1, h2, h3⟩ := e7 k x hx
                exact ⟨v, by simpa using h1, h2, by simpa using h3⟩) (by simpa using e5)
              have hA : At M.w b 0 c.toList := at_of_block e4 _ _ (fun j v hj => by simpa using hj)
              refine ⟨.agg c, M, hread ?_, rfl, .refl M, h, ?_, rfl, .inl rfl, fun _ _ _ h => h⟩
              · have := loadVar_agg (P := P) (t := T) hk (vs := c.toList) (by simp; omega) hA
                simpa using this
              · exact ⟨c, rfl, hR⟩
            · simp at hr
          · simp at hr
      · simp at hr

theorem resL_sound : ∀ {rvs : List ResultVar} {ars : List ARes} {M : Mem} {st : St}, FR M slots n st a → rvs.length = ars.length → (∀ (j : Nat) rv ar, rvs[j]? = some rv → ars[j]? = some ar → ResT P slots rv ar) → ∀ (k : Nat) {l : List AV}, resL st ars = some l →
    ∃ vs M1, (rvs.mapM (readRes a.tmps)).run P M.w = .ok vs M.w ∧ M1.w = M.w ∧ Evo M M1 ∧ M1.Wf ∧ StoreRep M1 st.store ∧ vs.length = l.length ∧ l.length = ars.length ∧ (∀ j x, l[j]? = some x → Good x ∧ ∃ v, vs[j]? = some v ∧ Has M1 (.r (k + j)) x v) ∧ ∀ j y u, Has M (.r j) y u → Has M1 (.r j) y u
  | [], [], M, st, h, _, _, k, l, hr => by
    simp only [resL, Option.some.injEq] at hr
    subst hr
    exact ⟨[], M, by simp, rfl, .refl M, h.wf, h.store, rfl, rfl, by simp, fun _ _ _ h => h⟩
  | rv :: rvs, ar :: ars, M, st, h, hl, hT, k, l, hr => by
    simp only [resL] at hr
    split at hr
    · rename_i x st1 h1
      split at hr
      · rename_i l' h2
        simp only [Option.some.injEq] at hr
        subst hr
        obtain ⟨v, M1, r1, r2, r3, r4, r5, r6, r8, r7⟩ := res_sound h (hT 0 rv ar rfl rfl) k h1
        obtain ⟨vs, M2, q1, q2, q3, q4, q5, q6, q7, q8, q9⟩ := resL_sound r4 (by simpa using hl) (fun j rv ar h1 h2 => hT (j + 1) rv ar (by simpa using h1) (by simpa using h2)) (k + 1) h2
        refine ⟨v :: vs, M2, ?_, q2.trans r2, r3.trans q3, q4, by rw [← r6]; exact q5, by simp [q6], by simp [q7], fun j x hj => ?_, fun j y u hu => q9 j y u (r7 j y u hu)⟩
        · rw [r2] at q1
          simp only [List.mapM_cons, Sem.run_bind, r1, Result.andThen_ok, q1, Sem.run_pure]
        · cases j with
          | zero =>
            simp only [List.getElem?_cons_zero, Option.some.injEq] at hj
            subst hj
            exact ⟨r8, v, rfl, q9 _ _ _ r5⟩
          | succ j =>
            obtain ⟨gg, u, hu, hh⟩ := q8 j x (by simpa using hj)
            exact ⟨gg, u, by simpa using hu, by rw [show k + (j + 1) = k + 1 + j by omega]; exact hh⟩
      · simp at hr
    · simp at hr
  | [], _ :: _, _, _, _, hl, _, _, _, _ => by simp at hl
  | _ :: _, [], _, _, _, hl, _, _, _, _ => by simp at hl

/-- What was given is nobody's. -/
def Mem.ungive (M : Mem) : Mem := { M with own := fun b => match M.own b with | some k => if k.isG then some k else none | none => none }

theorem ungive_g {M : Mem} {b : Nat} {k : Key} (h : M.own b = some k) (hk : k.isG = true) : M.ungive.own b = some k := by simp [Mem.ungive, h, hk]

theorem ungive_is {M : Mem} {b : Nat} {k : Key} (h : M.ungive.own b = some k) : M.own b = some k ∧ k.isG = true := by
  simp only [Mem.ungive] at h
  split at h
  · split at h
    · rename_i hq hk
      simp only [Option.some.injEq] at h
      subst h
      exact ⟨hq, hk⟩
    · simp at h
  · simp at h

theorem ungive_noR {M : Mem} : NoR M.ungive := fun b k hb => by have := (ungive_is hb).2; simp [Key.isG] at this

theorem ungive_wf {M : Mem} (h : M.Wf) : M.ungive.Wf where
  sdom := h.sdom
  odom b k hk := h.odom b k (ungive_is hk).1
  gown id b hb := by
    rcases h.gown id b hb with e | e
    · exact .inl (ungive_g e rfl)
    · exact .inr (ungive_g e rfl)

theorem ungive_store {M : Mem} {store : List Obj} (h : StoreRep M store) : StoreRep M.ungive store :=
  StoreRep.pres (M := M) (M' := M.ungive) (Grow.refl M.S M.G M.w) (fun _ _ h => h) (fun b k hb hk => ⟨(ungive_g hb hk).trans hb.symm, rfl, fun _ h => h⟩) h

theorem ungive_none {M : Mem} {b : Nat} (h : M.own b = none) : M.ungive.own b = none := by simp [Mem.ungive, h]

theorem ungive_evo {M M' : Mem} (e : Evo M.ungive M') : Evo M M' where
  grow := e.grow
  size := e.size
  os := e.os
  tape := e.tape
  output := e.output
  same b hb ho := e.same b hb (ungive_none ho)
  acq b hb ho := e.acq b hb (ungive_none ho)
  snew b j hs := by
    rcases e.snew b j hs with h | h | h
    · exact .inl h
    · exact .inr (.inl h)
    · exact .inr (.inr fun ho => h (ungive_none ho))

theorem args_repvs {M : Mem} : ∀ {vs : List AV} {args : List Value}, ArgsRep M vs args → (∀ x ∈ vs, plain x = true) → RepVs M vs args := by
  have key : ∀ {vs : List AV} {args : List Value} (k : Nat), (args.length = vs.length ∧ ∀ (j : Nat) (x : AV), vs[j]? = some x → ∃ v, args[j]? = some v ∧ Has M (.r (k + j)) x v) → (∀ x ∈ vs, plain x = true) → RepVs M vs args := by
    intro vs
    induction vs with
    | nil => intro args k h _; exact List.length_eq_zero_iff.1 h.1
    | cons y ys ih =>
      intro args k h hp
      cases args with
      | nil => simp at h
      | cons v r =>
        obtain ⟨v', h1, h2⟩ := h.2 0 y rfl
        simp only [List.getElem?_cons_zero, Option.some.injEq] at h1
        subst h1
        have hpy := hp y (by simp)
        refine ⟨v, r, rfl, ?_, ih (k + 1) ⟨by simpa using h.1, fun j x hj => ?_⟩ fun x hx => hp x (by simp [hx])⟩
        · unfold Has at h2
          split at h2
          · simp [plain] at hpy
          · exact h2
        · obtain ⟨u, h3, h4⟩ := h.2 (j + 1) x (by simpa using hj)
          exact ⟨u, by simpa using h3, by rw [show k + 1 + j = k + (j + 1) by omega]; exact h4⟩
  intro vs args h hp
  exact key 0 ⟨h.1, fun j x hj => by obtain ⟨_, v, h1, h2⟩ := h.2 j x hj; exact ⟨v, h1, by simpa using h2⟩⟩ hp

/-- A function of the table and the function of the program. -/
structure FnT (P : Program) (f : FuncId) (fn : AFunc) : Prop where
  ex : ∃ func code, P.funcs[f]? = some func ∧ func.body = some code ∧ (func.name == "runtime.NumGoroutine") = false ∧ func.ntmps = fn.n ∧ CodeT P fn.slots fn.n fn.body code ∧
    func.results.size = fn.res.length ∧ ∀ (j : Nat) (rv : ResultVar) (ar : ARes), func.results[j]? = some rv → fn.res[j]? = some ar → ResT P fn.slots rv ar
  nodup : fn.slots.Nodup
  lt : ∀ x ∈ fn.slots, x < fn.n

theorem enter_fr {fn : AFunc} {f : FuncId} (hT : FnT P f fn) (wf : M.Wf) {vs : List AV} {args : List Value} (hR : RepVs M vs args) (hp : ∀ x ∈ vs, plain x = true) {store : List Obj} (hs : StoreRep M store) (hl : vs.length ≤ fn.n) :
    FR M fn.slots fn.n (enter fn vs store) { tmps := args.toArray ++ Array.replicate (fn.n - args.toArray.size) undef, defers := [] } := by
  have len : ∀ {vs : List AV} {args : List Value}, RepVs M vs args → args.length = vs.length := by
    intro vs
    induction vs with
    | nil => intro args h; simp only [RepVs] at h; subst h; rfl
    | cons x xs ih => intro args h; obtain ⟨v, r, rfl, _, h⟩ := h; simp [ih h]
  have get : ∀ {vs : List AV} {args : List Value}, RepVs M vs args → ∀ {k : Nat} {x : AV}, vs[k]? = some x → ∃ v, args[k]? = some v ∧ RepV M.S M.G M.w x v := by
    intro vs
    induction vs with
    | nil => intro args h k x hx; simp at hx
    | cons y xs ih =>
      intro args h k x hx
      obtain ⟨v, r, rfl, h1, h2⟩ := h
      cases k with
      | zero => simp only [List.getElem?_cons_zero, Option.some.injEq] at hx; subst hx; exact ⟨v, rfl, h1⟩
      | succ k => exact ih h2 (by simpa using hx)
  have hlen := len hR
  refine { wf := wf, size := by simp; omega, defers := rfl, len := by simp [enter], nodup := hT.nodup, lt := hT.lt, vars := ?_, tmps := fun x hx => by simp [enter, look, TRep, Has, RepV], store := hs }
  · intro i x av hx hav
    simp only [enter, List.getElem?_map, hx, Option.map_some, Option.some.injEq] at hav
    subst hav
    rw [List.getD_eq_getElem?_getD]
    cases hv : vs[x]? with
    | none => simp [VRep, Has, RepV]
    | some y =>
      obtain ⟨v, h1, h2⟩ := get hR hv
      have hxl : x < args.length := (List.getElem?_eq_some_iff.1 h1).1
      have : (args.toArray ++ Array.replicate (fn.n - args.toArray.size) undef).getD x undef = v := by
        rw [Array.getD_eq_getD_getElem?, Array.getElem?_append_left (by simpa using hxl)]
        simp [h1]
      rw [this]
      exact plain_vrep (hp y (List.mem_of_getElem? hv)) h2

theorem results_eq (func : Func) (tmps : Array Value) : results func tmps = (do
    let vs ← func.results.mapM (readRes tmps)
    pure (if h : vs.size = 1 then vs[0] else .tuple vs)) := by
  unfold results
  congr 1

theorem fn_sound {AP : FuncId → Option AFn} {C : CodeSem} (hC : CSound P C) (hT : ∀ f fn, AP f = some (.code fn) → FnT P f fn) (hP : ∀ f p, AP f = some (.prim p) → FnOk P (fun _ vs store => p vs store) f) :
    ∀ f, FnOk P (runF AP C) f := by
  intro f M1 vs args store r store' wf ho hA hs hr
  simp only [runF] at hr
  split at hr
  · rename_i fn hfn
    split at hr
    · rename_i hle
      simp only [Bool.and_eq_true, decide_eq_true_eq, List.all_eq_true] at hle
      obtain ⟨hle, hp⟩ := hle
      let M : Mem := M1.ungive
      have hR : RepVs M vs args := RepVs.mono (M := M1) (M' := M) (Grow.refl M1.S M1.G M1.w) (args_repvs hA hp)
      have wf := ungive_wf wf
      have hs := ungive_store hs
      have hft := hT f fn hfn
      obtain ⟨func, code, q1, q2, q3, q4, q5, q6, q7⟩ := hft.ex
      refine ⟨⟨func, q1, by rw [q2]; rfl, q3⟩, ?_⟩
      have hfr := enter_fr hft wf hR hp hs hle
      have hnr : NoR M := ungive_noR
      suffices hcalls : Calls P f args.toArray M.w fun e w' => ∃ v M', e = .returned v ∧ w' = M'.w ∧ Evo M M' ∧ M'.Wf ∧ ResRep M' r v ∧ StoreRep M' store' from
        hcalls.mono fun e w' ⟨v, M', e1, e2, e3, e4⟩ => ⟨v, M', e1, e2, ungive_evo e3, e4⟩
      have fin : ∀ {st : St} {a' : Act} {M' : Mem}, leave fn st = some (r, store') → FR M' fn.slots fn.n st a' → Evo M M' → a'.defers = [] ∧ ∃ v, (results func a'.tmps).run P M'.w = .ok v M'.w ∧
          (∃ v' M'', Ending.returned v = .returned v' ∧ M'.w = M''.w ∧ Evo M M'' ∧ M''.Wf ∧ ResRep M'' r v' ∧ StoreRep M'' store') := by
        intro st a' M' hlv hf' he'
        refine ⟨hf'.defers, ?_⟩
        rw [results_eq]
        have hmap : ∀ (w : World) vs, (func.results.toList.mapM (readRes a'.tmps)).run P w = .ok vs w → (func.results.mapM (readRes a'.tmps)).run P w = .ok vs.toArray w := by
          intro w vs h
          rw [Array.mapM_eq_mapM_toList]
          show (List.toArray <$> _ : Sem _).run P w = _
          rw [← bind_pure_comp, Sem.run_bind, h]
          simp
        have base : ∀ k, ∀ {l}, resL st fn.res = some l → _ := fun k l hl => resL_sound (P := P) (rvs := func.results.toList) hf' (by simpa using q6) (fun j rv ar h1 h2 => q7 j rv ar (by simpa using h1) h2) k hl
        unfold leave at hlv
        split at hlv
        · rename_i x hl
          simp only [Option.some.injEq, Prod.mk.injEq] at hlv
          obtain ⟨rfl, rfl⟩ := hlv
          obtain ⟨us, M2, r1, r2, r3, r4, r5, r6, r7, r8, _⟩ := base 0 hl
          obtain ⟨gg, v, hv, hh⟩ := r8 0 x rfl
          have hu : us = [v] := by
            cases us with
            | nil => simp at hv
            | cons u us =>
              simp only [List.length_cons, List.length_nil] at r6
              have : us = [] := List.length_eq_zero_iff.1 (by omega)
              subst this
              simpa using hv
          subst hu
          refine ⟨v, ?_, v, M2, rfl, r2.symm, he'.trans r3, r4, ?_, r5⟩
          · rw [Sem.run_bind, hmap _ _ r1]
            simp
          · exact good_res gg hh rfl
        · rename_i l hne hl
          simp only [Option.some.injEq, Prod.mk.injEq] at hlv
          obtain ⟨rfl, rfl⟩ := hlv
          obtain ⟨us, M2, r1, r2, r3, r4, r5, r6, r7, r8, _⟩ := base 1 hl
          refine ⟨.tuple us.toArray, ?_, .tuple us.toArray, M2, rfl, r2.symm, he'.trans r3, r4, ?_, r5⟩
          · rw [Sem.run_bind, hmap _ _ r1]
            have : us.length ≠ 1 := by
              intro e
              rw [r6] at e
              cases l with
              | nil => simp at e
              | cons x l =>
                have : l = [] := List.length_eq_zero_iff.1 (by simpa using e)
                subst this
                exact hne _ rfl
            simp [this]
          · refine ⟨us.toArray, rfl, by simpa using r6, fun k x hk => ?_⟩
            obtain ⟨_, v, h1, h2⟩ := r8 k x hk
            exact ⟨v, by simpa using h1, by show Has M2 (.r (k + 1)) x v; rw [Nat.add_comm k 1]; exact h2⟩
        · simp at hlv
      have go : ∀ {out : Out} {st : St}, C fn.body (enter fn vs store) = some (out, st) → (out = .norm ∨ out = .ret) → leave fn st = some (r, store') → Calls P f args.toArray M.w fun e w' => ∃ v M', e = .returned v ∧ w' = M'.w ∧ Evo M M' ∧ M'.Wf ∧ ResRep M' r v ∧ StoreRep M' store' := by
        intro out st hbody hout hlv
        refine calls_of_wp q1 q2 ?_
        rw [q4]
        refine wp_mono ((hC fn.slots fn.n fn.body _ out st hbody M _ hfr hnr).code code q5) ?_
        rintro e a' w' ⟨rfl, M', rfl, f', n', e'⟩
        have := fin hlv f' e'
        rcases hout with rfl | rfl <;> exact this
      split at hr
      · rename_i st hbody
        exact go hbody (.inl rfl) hr
      · rename_i st hbody
        exact go hbody (.inr rfl) hr
      · simp at hr
    · simp at hr
  · rename_i p hp'
    exact hP f p hp' M1 vs args store r store' wf ho hA hs hr
  · simp at hr

theorem eval_sound {AP : FuncId → Option AFn} (hT : ∀ f fn, AP f = some (.code fn) → FnT P f fn) (hP : ∀ f p, AP f = some (.prim p) → FnOk P (fun _ vs store => p vs store) f) :
    ∀ N, CSound P (evalC AP RP N)
  | 0 => fun slots n ac st out st' h => by simp [evalC] at h
  | N + 1 => by
    rw [evalC]
    exact stepC_sound (eval_sound hT hP N) (fn_sound (eval_sound hT hP N) hT hP)

theorem evalF_sound {AP : FuncId → Option AFn} (hT : ∀ f fn, AP f = some (.code fn) → FnT P f fn) (hP : ∀ f p, AP f = some (.prim p) → FnOk P (fun _ vs store => p vs store) f) (N : Nat) (f : FuncId) :
    FnOk P (evalF AP RP N) f := fn_sound (eval_sound hT hP N) hT hP f

end
end Go.VS
