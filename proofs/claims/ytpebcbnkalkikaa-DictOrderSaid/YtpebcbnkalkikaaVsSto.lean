/- Operations: stores. -/
import Derived.Test.YtpebcbnkalkikaaVsOp8
set_option linter.unusedVariables false
namespace Go.VS

theorem setCell_at {w : World} {b q : Nat} {v : Value} {c : Array Value} {e : TypeId} {fr : Nat × Nat} (h : w.heap[b]? = some (.cells c e fr)) :
    (w.setCell ⟨b, q, none⟩ v).heap[b]? = some (.cells (c.setIfInBounds q v) e fr) := by
  have hbl : b < w.heap.size := by
    rcases Nat.lt_or_ge b w.heap.size with hb | hb
    · exact hb
    · rw [Array.getElem?_eq_none hb] at h; simp at h
  simp only [World.setCell, Array.getElem?_modify, h]
  simp

theorem setCells_at {b : Nat} {e : TypeId} {fr : Nat × Nat} : ∀ (vs : List Value) (q : Nat) (w : World) (c : Array Value), w.heap[b]? = some (.cells c e fr) →
    ∃ c', (w.setCells b q vs).heap[b]? = some (.cells c' e fr) ∧ c'.size = c.size ∧ (∀ j, j < q ∨ q + vs.length ≤ j → c'[j]? = c[j]?) ∧ (∀ j v, vs[j]? = some v → q + j < c.size → c'[q + j]? = some v) ∧
      (∀ b', b' ≠ b → (w.setCells b q vs).heap[b']? = w.heap[b']?) ∧ (w.setCells b q vs).heap.size = w.heap.size ∧ (w.setCells b q vs).os = w.os ∧ (w.setCells b q vs).tape = w.tape ∧ (w.setCells b q vs).output = w.output
  | [], q, w, c, h => ⟨c, h, rfl, fun _ _ => rfl, by simp, fun _ _ => rfl, rfl, rfl, rfl, rfl⟩
  | v :: vs, q, w, c, h => by
    obtain ⟨c', k1, k2, k3, k4, k5, k6, k7, k8, k9⟩ := setCells_at vs (q + 1) (w.setCell ⟨b, q, none⟩ v) _ (setCell_at h)
    refine ⟨c', k1, by simpa using k2, fun j hj => ?_, fun j u hu hlt => ?_, fun b' hb' => (k5 b' hb').trans ?_, ?_, k7, k8, k9⟩
    · rw [k3 j (by simp at hj; omega)]
      simp at hj
      rw [Array.getElem?_setIfInBounds_ne (by omega)]
    · cases j with
      | zero =>
        simp only [List.getElem?_cons_zero, Option.some.injEq] at hu
        subst hu
        rw [Nat.add_zero, k3 q (by omega)]
        simp at hlt
        simp [hlt]
      | succ j =>
        have := k4 j u (by simpa using hu) (by simp; omega)
        rwa [show q + 1 + j = q + (j + 1) by omega] at this
    · simp only [World.setCell, Array.getElem?_modify]
      rw [if_neg (Ne.symm hb')]
    · show ((w.setCell ⟨b, q, none⟩ v).setCells b (q + 1) vs).heap.size = _
      rw [k6]; simp [World.setCell]

theorem setCells_len : ∀ (l : List AV) (cs : List AV) (off : Nat), (setCells cs off l).length = cs.length
  | [], _, _ => rfl
  | v :: l, cs, off => by simp [setCells, setCells_len l]

theorem setCells_get : ∀ (l : List AV) (cs : List AV) (off k : Nat), off + l.length ≤ cs.length →
    (setCells cs off l)[k]? = if off ≤ k ∧ k < off + l.length then (l[k - off]?).map intoCell else cs[k]?
  | [], cs, off, k, h => by simp [setCells]; intro h1 h2; omega
  | v :: l, cs, off, k, h => by
    simp only [setCells]
    rw [setCells_get l _ _ k (by simp at h ⊢; omega)]
    simp only [List.length_cons] at h ⊢
    by_cases h1 : off + 1 ≤ k ∧ k < off + 1 + l.length
    · rw [if_pos h1, if_pos (by omega)]
      rw [show k - off = (k - (off + 1)) + 1 by omega, List.getElem?_cons_succ]
    · rw [if_neg h1]
      by_cases h2 : k = off
      · subst h2
        rw [if_pos (by omega), List.getElem?_set_self (by omega)]
        simp
      · rw [if_neg (by omega), List.getElem?_set_ne (Ne.symm h2)]

section
variable {P : Program} {CS : CallSem} {RP : FuncId → Option (List AV → Option AV)} {slots : List Nat} {n : Nat} {M : Mem} {st : St} {a : Act}

theorem storeVar_run {T k : Nat} (hs : SizeIs P T k) {b q : Nat} {v : Value} (hv : v.cells.size = k) {c : Array Value} {e : TypeId} {fr : Nat × Nat} {w : World} (hb : w.heap[b]? = some (.cells c e fr))
    (hle : q + k ≤ c.size) (hf : ∀ j, j < c.size → (decide (fr.1 ≤ j) && decide (j < fr.2)) = false) (h1 : ∀ u ∈ v.cells.toList, u.oneCell' = true) :
    (storeVar T ⟨b, q, none⟩ v).run P w = .ok () (w.setCells b q v.cells.toList) := by
  unfold storeVar
  rw [Sem.run_bind, run_sizeOf' hs]
  simp only [Result.andThen_ok, hv, ne_eq, not_true, if_false]
  have hlen : v.cells.toList.length = k := by simpa using hv
  have := run_storeCells_cells (P := P) b q v.cells.toList 0 w (fun j hj => by
      have : q + j < c.size := by omega
      simp [World.cell?, hb, this]) (fun j hj => by
      have := hf (q + j) (by omega)
      simp only [World.frozen?, hb, Nat.add_zero]
      exact this) h1
  simpa using this

theorem KindIs.size {T : Nat} {sz : Option Nat} (h : KindIs P T sz) : SizeIs P T (sz.getD 1) := by
  cases sz with
  | none => exact h.2
  | some k => exact h.2

/-- Cells of a variable's box are written. -/
theorem box_store (h : FR M slots n st a) {i b off : Nat} {cs : List AV} (hi : st.vars[i]? = some (.lbox cs)) (hb : vvOf slots n a i = .pointer (some ⟨b, 0, none⟩)) {vs : List Value} {l : List AV}
    (hl : vs.length = l.length) (hle : off + l.length ≤ cs.length) (hx : ∀ k x, l[k]? = some x → ∃ v, vs[k]? = some v ∧ v.cells = #[v] ∧ Has M (.v i (off + k + 1)) x v)
    {cs' : List AV} (hcl : cs'.length = cs.length) (hcs : ∀ k, cs'[k]? = if off ≤ k ∧ k < off + l.length then l[k - off]? else cs[k]?) :
    ∃ c e fr, M.w.heap[b]? = some (.cells c e fr) ∧ c.size = cs.length ∧ (∀ j, j < c.size → (decide (fr.1 ≤ j) && decide (j < fr.2)) = false) ∧
      ∃ M' : Mem, M'.w = M.w.setCells b off vs ∧ M'.own = M.own ∧ Evo M M' ∧ FR M' slots n (setV st i (.lbox cs')) a := by
  have hil : i < slots.length := by
    have := (List.getElem?_eq_some_iff.1 hi).1; rw [h.len] at this; exact this
  have hv : vvOf slots n a i = a.tmps.getD slots[i] undef := by simp [vvOf, List.getD_eq_getElem?_getD, hil]
  have hr := h.vars i slots[i] _ (List.getElem?_eq_getElem hil) hi
  simp only [VRep, LBox] at hr
  obtain ⟨b', e1, e2, e3, c, et, fr, e4, e5, e6, e7⟩ := hr
  have hbb : b' = b := by rw [hv, e1] at hb; simpa using hb
  subst hbb
  refine ⟨c, et, fr, e4, e5, e6, ?_⟩
  obtain ⟨c', k1, k2, k3, k4, k5, k6, k7, k8, k9⟩ := setCells_at vs off M.w c e4
  let M' : Mem := { M with w := M.w.setCells b' off vs }
  have hgrow : Grow M.S M.G M.w M'.S M'.G M'.w := ⟨fun _ _ h => h, fun _ _ h => h, fun b0 j hs => by
    by_cases hb0 : b0 = b'
    · subst hb0; exact absurd hs (e3 j)
    · exact cellAt_of_heap (k5 b0 hb0) j⟩
  have hev : Evo M M' := ⟨hgrow, by show _ ≤ (M.w.setCells b' off vs).heap.size; rw [k6]; exact Nat.le_refl _, k7, k8, k9,
    fun b0 _ ho0 => k5 b0 (fun e0 => by subst e0; rw [e2] at ho0; simp at ho0), fun _ _ h => h, fun _ _ h => .inl h⟩
  have hwf : M'.Wf := ⟨fun b0 j hs => by rw [hgrow.keep b0 j hs]; exact h.wf.sdom b0 j hs, fun b0 k hk => by show b0 < (M.w.setCells b' off vs).heap.size; rw [k6]; exact h.wf.odom b0 k hk, h.wf.gown⟩
  have hpres : ∀ b0 k, M.own b0 = some k → k ≠ .lb i → Pres M M' b0 := fun b0 k hk hne =>
    ⟨rfl, k5 b0 (fun e0 => by subst e0; rw [e2] at hk; exact hne (Option.some.inj hk).symm), fun _ h => h⟩
  refine ⟨M', rfl, rfl, hev, ?_⟩
  refine h.setVar hgrow hwf (fun _ _ h => h) (List.getElem?_eq_getElem hil) (fun b0 k hk hko _ => hpres b0 k hk (by intro e; subst e; exact hko rfl)) (v := a.tmps.getD slots[i] undef) ?_ h.size h.defers rfl (fun _ _ => rfl)
  simp only [VRep, LBox]
  refine ⟨b', e1, e2, e3, c', et, fr, k1, by rw [k2, e5, hcl], by rw [k2]; exact e6, fun k x hk => ?_⟩
  rw [hcs k] at hk
  have has : ∀ {x : AV} {v : Value}, Has M (.v i (k + 1)) x v → Has M' (.v i (k + 1)) x v := fun hh => hh.pres hgrow (fun b0 hb0 => hpres b0 _ hb0 (by simp))
  split at hk
  · rename_i hin
    obtain ⟨v, v1, v2, v3⟩ := hx _ _ hk
    refine ⟨v, ?_, v2, has ?_⟩
    · have := k4 _ _ v1 (by omega)
      rwa [show off + (k - off) = k by omega] at this
    · rwa [show off + (k - off) + 1 = k + 1 by omega] at v3
  · rename_i hout
    obtain ⟨v, v1, v2, v3⟩ := e7 k x hk
    exact ⟨v, by rw [k3 k (by omega)]; exact v1, v2, has v3⟩

theorem Els_iff {S : Cells} {G : Lay} {w : World} {b s : Nat} : ∀ {xs : List AV} {o : Nat}, Els S G w b s o xs ↔ ∀ k x, xs[k]? = some x → ∃ vs, vs.length = s ∧ At w b (o + k * s) vs ∧ Rep S G w x vs
  | [], o => by simp [Els]
  | x :: xs, o => by
    simp only [Els]
    rw [Els_iff (xs := xs)]
    constructor
    · rintro ⟨h1, h2⟩ k y hk
      cases k with
      | zero => simp at hk; subst hk; simpa using h1
      | succ k =>
        have := h2 k y (by simpa using hk)
        rwa [show o + s + k * s = o + (k + 1) * s by rw [Nat.add_mul]; omega] at this
    · intro h
      refine ⟨by simpa using h 0 x (by simp), fun k y hk => ?_⟩
      have := h (k + 1) y (by simpa using hk)
      rwa [show o + s + k * s = o + (k + 1) * s by rw [Nat.add_mul]; omega]

theorem At_iff {w : World} {b : Nat} : ∀ {vs : List Value} {o : Nat}, At w b o vs ↔ ∀ k v, vs[k]? = some v → cellAt w b (o + k) = some v
  | [], o => by simp [At]
  | v :: vs, o => by
    simp only [At]
    rw [At_iff (vs := vs)]
    constructor
    · rintro ⟨h1, h2⟩ k u hk
      cases k with
      | zero => simp at hk; subst hk; simpa using h1
      | succ k =>
        have := h2 k u (by simpa using hk)
        rwa [show o + 1 + k = o + (k + 1) by omega] at this
    · intro h
      refine ⟨by simpa using h 0 v (by simp), fun k u hk => ?_⟩
      have := h (k + 1) u (by simpa using hk)
      rwa [show o + 1 + k = o + (k + 1) by omega]

theorem Reps.set {S : Cells} {G : Lay} {w : World} : ∀ {cs : List AV} {vs : List Value}, Reps S G w cs vs → ∀ (k : Nat) {c : AV} {v : Value}, v.cells = #[v] → oneCell c = true → Rep S G w c [v] → Reps S G w (cs.set k c) (vs.set k v)
  | [], _, h, k, _, _, _, _, _ => by simp only [Reps] at h; subst h; simp [Reps]
  | c :: cs, _, h, 0, c', v', h1, h2, h3 => by
    simp only [Reps] at h
    obtain ⟨v, r, rfl, _, _, _, h4⟩ := h
    simp only [List.set_cons_zero, Reps]
    exact ⟨v', r, rfl, h1, h2, h3, h4⟩
  | c :: cs, _, h, k + 1, c', v', h1, h2, h3 => by
    simp only [Reps] at h
    obtain ⟨v, r, rfl, e1, e2, e3, h4⟩ := h
    simp only [List.set_cons_succ, Reps]
    exact ⟨v, _, rfl, e1, e2, e3, h4.set k h1 h2 h3⟩

theorem store_op {o : Oper} {T : Nat} {x y : Operand} (ho : o.op = .store T x y) (ρ : Operand → Value) {b q : Nat} (hx : ρ x = .pointer (some ⟨b, q, none⟩)) {w w' : World} (hs : (storeVar T ⟨b, q, none⟩ (ρ y)).run P w = .ok () w') :
    (execOp ρ o).run P w = .ok .skip w' := by
  simp only [execOp, ho, hx, Sem.run_bind, Instr.storeAt, Instr.sureAddr, Sem.run_pure, Result.andThen_ok, hs]

theorem has_into {v : Value} {c : AV} {key : Key} (h0 : oneCell c = true) (hp : plain c = true) (h : RepV M.S M.G M.w c v) : Has M key (intoCell c) v := by
  unfold intoCell
  split
  · exact full_own h
  · cases c with
    | sl ow s xs => cases ow <;> first | (simp [plain] at hp; done) | exact h
    | _ => exact h

theorem pers_vars {r : Ref} {x : AV} {st' : St} (h : pers st r = some (x, st')) : st'.vars = st.vars := by
  unfold pers at h
  repeat' split at h
  all_goals first
    | (simp only [Option.some.injEq, Prod.mk.injEq] at h; obtain ⟨_, rfl⟩ := h; rfl)
    | simp at h

theorem plain_cell {v : Value} {c : AV} (h0 : oneCell c = true) (hp : plain c = true) (h : RepV M.S M.G M.w c v) : v.cells = #[v] ∧ v.oneCell' = true := by
  have hr1 := rep_of h0 hp h
  obtain ⟨u, q1, q2, _⟩ := rep_one h0 (by intro e; subst e; simp [plain] at hp) hr1
  simp only [List.cons.injEq, and_true] at q1
  subst q1
  exact ⟨q2, Rep.ones c _ hr1 _ (by simp)⟩

theorem own_cell {v : Value} {key : Key} {m : Bool} {s : Nat} {xs : List AV} (h : OwnArr M key m s xs v) : v.cells = #[v] ∧ v.oneCell' = true := by
  rcases h with ⟨_, e | ⟨b, p, e⟩⟩ | ⟨_, b, p, c, e, _⟩ <;> rw [e] <;> exact ⟨rfl, rfl⟩

theorem stoCell_sound (h : FR M slots n st a) (hn : NoR M) {T : Nat} (hk : KindIs P T none) {i off b : Nat} {cs : List AV} (h1 : st.vars[i]? = some (.lbox cs)) (h2 : vvOf slots n a i = .pointer (some ⟨b, 0, none⟩)) {c : AV} {v : Value}
    (hv : v.cells = #[v]) (hv1 : v.oneCell' = true) (hh : Has M (.v i (off + 1)) c v) {st' : St} (hs : stoCell st i off c = some st') :
    ∃ M', (storeVar T ⟨b, off, none⟩ v).run P M.w = .ok () M'.w ∧ Evo M M' ∧ NoR M' ∧ FR M' slots n st' a := by
  unfold stoCell at hs
  rw [h1] at hs
  simp only at hs
  split at hs
  · rename_i hlt
    split at hs
    · simp only [Option.some.injEq] at hs
      subst hs
      obtain ⟨cc, et, fr, g1, g2, g3, M2, g4, g5, g6, g7⟩ := box_store h h1 h2 (vs := [v]) (l := [c]) (off := off) rfl (by simp; omega) (fun k x hk => by
        cases k with
        | zero => simp at hk; subst hk; exact ⟨_, rfl, hv, hh⟩
        | succ k => simp at hk) (cs' := cs.set off c) (by simp) (fun k => by
        by_cases hk0 : k = off
        · subst hk0; simp [hlt]
        · rw [if_neg (by simp; omega), List.getElem?_set_ne (Ne.symm hk0)])
      have hrun := storeVar_run (P := P) hk.2 (b := b) (q := off) (v := v) (by rw [hv]; rfl) g1 (by omega) g3 (by rw [hv]; intro u hu; simp at hu; subst hu; exact hv1)
      rw [hv] at hrun
      exact ⟨M2, by rw [hrun, g4], g6, fun b k => by rw [g5]; exact hn b k, g7⟩
    · simp at hs
  · simp at hs

theorem fits_sto {o : Oper} {T : Nat} {x y : Operand} (ho : o.op = .store T x y) {sz : Option Nat} (hk : KindIs P T sz) {rx ry : Ref} (hdst : o.dst = none) (hx : chkRef slots x rx = true) (hy : chkRef slots y ry = true) :
    OpFits P CS RP slots n o (.sto sz rx ry) := by
  intro M st a st' h hn hr next Q K
  simp only [runOp, runSto] at hr
  obtain ⟨kx, tx⟩ := rd_trep h hx
  have done : ∀ {M' : Mem} {w' : World}, (execOp a.eval o).run P M.w = .ok .skip w' → M'.w = w' → Evo M M' → NoR M' → FR M' slots n st' a → o.upon P a next Q ((execOp a.eval o).run P M.w) := by
    intro M' w' h1 h2 h3 h4 h5
    rw [h1, Oper.upon_skip, hdst, ← h2]
    exact K M' a h5 h4 h3
  -- what the handing on leaves of a box
  have boxStays : ∀ {M1 : Mem} {st1 : St} {i : Nat} {cs : List AV}, st1.vars = st.vars → st.vars[i]? = some (.lbox cs) → st1.vars[i]? = some (.lbox cs) := fun e h => by rw [e]; exact h
  split at hr
  · rename_i i off hl
    rw [hl] at tx
    simp only [TRep] at tx
    obtain ⟨b, cs, h1, h2, h3⟩ := tx
    have one : ∀ {st1 : St} {c : AV}, sz = none → pers st ry = some (c, st1) → stoCell st1 i off (intoCell c) = some st' → o.upon P a next Q ((execOp a.eval o).run P M.w) := by
      intro st1 c hsz hp he
      subst hsz
      obtain ⟨M1, k1, r1, p1, _⟩ := pers_sound h hy hp
      have h0 : oneCell c = true := by
        by_cases h0 : oneCell c = true
        · exact h0
        · cases c with
          | agg l =>
            unfold stoCell at he
            split at he
            · split at he
              · simp [intoCell, oneCell] at he
              · simp at he
            · simp at he
          | _ => simp [oneCell] at h0
      have hv1 : st1.vars[i]? = some (.lbox cs) := by
        have : st1.vars = st.vars := pers_vars hp
        rw [this]; exact h1
      obtain ⟨c1, c2⟩ := plain_cell h0 p1 r1
      obtain ⟨M2, g1, g2, g3, g4⟩ := stoCell_sound (P := P) k1.fr (k1.noR hn) hk hv1 h2 c1 c2 (has_into h0 p1 r1) he
      rw [k1.w] at g1
      exact done (store_op ho a.eval h3 g1) rfl (k1.evo.trans g2) g3 g4
    split at hr
    · split at hr
      · rename_i t
        obtain ⟨rfl, hns⟩ := chkRef_t hy
        split at hr
        · rename_i m s xs hlt
          obtain ⟨M1, w1, e1, f1, A1⟩ := tmp_settle h hns hlt
          let M2 := M1.rekey fun _ => Key.v i (off + 1)
          have f2 : FR M2 slots n (kill st t .undef) a := f1.evolve (M1.rekey_evo _).grow (f1.wf.rekey _) (fun _ _ h => h) (fun b k hb hk => Mem.rekey_pres hb hk)
          have A2 : OwnArr M2 (.v i (off + 1)) false s xs (a.tmps.getD t undef) := OwnArr.rekey (f := fun _ => Key.v i (off + 1)) A1
          obtain ⟨c1, c2⟩ := own_cell A2
          obtain ⟨M3, g1, g2, g3, g4⟩ := stoCell_sound (P := P) f2 (Mem.rekey_noR (by simp)) hk (st := kill st t .undef) h1 h2 c1 c2 (c := .sl (.own false) s xs) A2 hr
          have hw2 : M2.w = M.w := w1
          rw [hw2] at g1
          exact done (store_op ho a.eval h3 g1) rfl ((e1.trans (M1.rekey_evo _)).trans g2) g3 g4
        · split at hr
          · rename_i c st1 hp
            exact one rfl hp hr
          · simp at hr
      · split at hr
        · rename_i c st1 hp
          exact one rfl hp hr
        · simp at hr
    · rename_i m
      split at hr
      · rename_i l st1 hp
        split at hr
        · rename_i cs' hcs'
          have hv1 : st1.vars[i]? = some (.lbox cs) := by
            have : st1.vars = st.vars := pers_vars hp
            rw [this]; exact h1
          rw [hv1] at hcs'
          simp only [Option.some.injEq, AV.lbox.injEq] at hcs'
          subst hcs'
          split at hr
          · rename_i hlen
            split at hr
            · rename_i hle
              simp only [Option.some.injEq] at hr
              subst hr
              obtain ⟨M1, k1, r1, p1, _⟩ := pers_sound h hy hp
              obtain ⟨vs, hvs, hreps⟩ := r1
              have hl' := hreps.length
              obtain ⟨cc, et, fr, g1, g2, g3, M2, g4, g5, g6, g7⟩ := box_store k1.fr hv1 h2 (vs := vs.toList) (l := l.map intoCell) (off := off) (by simpa using hl') (by simp; omega) (fun k x hkx => by
                have := into_cells i off hreps k x hkx
                exact this) (cs' := setCells cs off l) (setCells_len _ _ _) (fun k => by
                rw [setCells_get l cs off k (by omega)]; simp)
              have hsz : (Value.agg vs).cells.size = m := by simp [Value.cells] at hl' ⊢; omega
              have hrun := storeVar_run (P := P) hk.size (b := b) (q := off) (v := .agg vs) hsz g1 (by rw [g2]; exact hle) g3 (Reps.ones l _ hreps)
              rw [k1.w] at hrun g4
              exact done (store_op ho a.eval h3 (by rw [hvs]; exact hrun)) (by rw [g4]; rfl) (k1.evo.trans g6) (fun b k => by rw [g5]; exact k1.noR hn b k) g7
            · simp at hr
          · simp at hr
        · simp at hr
      · simp at hr
  · rename_i i vo s xs0 j off hl
    rw [hl] at tx
    simp only [TRep] at tx
    obtain ⟨ys, b, p, C, hO, t2, t3, t4, t5⟩ := tx
    split at hr
    · rename_i c st1 hp
      split at hr
      · rename_i s' ys' hvi
        split at hr
        · rename_i hss
          subst hss
          split at hr
          · rename_i h0
            split at hr
            · rename_i e he
              split at hr
              · rename_i e' hset
                simp only [Option.some.injEq] at hr
                subst hr
                obtain ⟨M1, k1, r1, p1, _⟩ := pers_sound h hy hp
                have hvars : st1.vars = st.vars := pers_vars hp
                rcases hO with ⟨_, o1, o2⟩ | ⟨_, _, _, o0, _⟩
                · rw [hvars, o1] at hvi
                  simp only [Option.some.injEq, AV.sl.injEq, true_and] at hvi
                  subst hvi
                  have hil : i < slots.length := by
                    have := (List.getElem?_eq_some_iff.1 o1).1; rw [h.len] at this; exact this
                  have hvv : vvOf slots n a i = a.tmps.getD slots[i] undef := by simp [vvOf, List.getD_eq_getElem?_getD, hil]
                  have hA : OwnArr M1 (.v i 0) true s' ys (.slice (some ⟨b, p, none⟩) ys.length C) := by
                    have := k1.fr.vars i slots[i] _ (List.getElem?_eq_getElem hil) (by rw [hvars]; exact o1)
                    rw [← hvv, ← o2] at this
                    exact this
                  rcases hA with ⟨z1, z2⟩ | ⟨hne, b', p', C', z1, hown, hcap, hE, ⟨cc, et, fr, g1, g2, g3⟩, hmt, _⟩
                  · subst z1; simp at he
                  · simp only [Value.slice.injEq, Option.some.injEq, Addr.mk.injEq, and_true, true_and] at z1
                    obtain ⟨⟨rfl, rfl⟩, rfl⟩ := z1
                    obtain ⟨c1, c2⟩ := plain_cell h0 p1 r1
                    obtain ⟨us, u1, u2, u3⟩ := (Els_iff.1 hE) _ _ he
                    have hkl : vo + j < ys.length := (List.getElem?_eq_some_iff.1 he).1
                    -- the element as it will be
                    have hoff : off < s' ∧ Rep M1.S M1.G M1.w e' (us.set off (a.eval y)) := by
                      have hrc := rep_of h0 p1 r1
                      unfold setElem at hset
                      split at hset
                      · simp at hset
                      · rename_i l
                        split at hset
                        · rename_i hlt
                          simp only [Option.some.injEq] at hset
                          subst hset
                          simp only [Rep] at u3 ⊢
                          exact ⟨by have := u3.length; omega, u3.set off c1 h0 hrc⟩
                        · simp at hset
                      · rename_i hne1 hne2
                        split at hset
                        · rename_i hz
                          simp only [Option.some.injEq] at hset
                          subst hset hz
                          have he1 : oneCell e = true := by cases e <;> first | rfl | exact absurd rfl (hne2 _)
                          obtain ⟨u, q1, _, _⟩ := rep_one he1 hne1 u3
                          subst q1
                          simp only [List.length_cons, List.length_nil] at u1
                          exact ⟨by omega, by simpa using hrc⟩
                        · simp at hset
                    obtain ⟨hoff, hrep'⟩ := hoff
                    let q := p + (vo + j) * s' + off
                    have hbound : (vo + j) * s' + s' ≤ C * s' := by
                      rw [← Nat.succ_mul]; exact Nat.mul_le_mul_right s' (by omega)
                    obtain ⟨c', k1', k2', k3', k4', k5', k6', k7', k8', k9'⟩ := setCells_at [a.eval y] q M1.w cc g1
                    have hrun := storeVar_run (P := P) hk.size (b := b) (q := q) (v := a.eval y) (by rw [c1]; rfl) g1 (by show p + (vo + j) * s' + off + 1 ≤ _; omega) g3 (by rw [c1]; intro u hu; simp at hu; subst hu; exact c2)
                    rw [c1] at hrun
                    let M2 : Mem := { M1 with w := M1.w.setCells b q [a.eval y] }
                    have hgrow : Grow M1.S M1.G M1.w M2.S M2.G M2.w := ⟨fun _ _ h => h, fun _ _ h => h, fun b0 j0 hs => by
                      by_cases hb0 : b0 = b
                      · subst hb0; exact absurd hs (hmt rfl j0)
                      · exact cellAt_of_heap (k5' b0 hb0) j0⟩
                    have hev : Evo M1 M2 := ⟨hgrow, by show _ ≤ (M1.w.setCells b q [a.eval y]).heap.size; rw [k6']; exact Nat.le_refl _, k7', k8', k9',
                      fun b0 _ ho0 => k5' b0 (fun e0 => by subst e0; rw [hown] at ho0; simp at ho0), fun _ _ h => h, fun _ _ h => .inl h⟩
                    have hwf : M2.Wf := ⟨fun b0 j0 hs => by rw [hgrow.keep b0 j0 hs]; exact k1.fr.wf.sdom b0 j0 hs, fun b0 k hkk => by show b0 < (M1.w.setCells b q [a.eval y]).heap.size; rw [k6']; exact k1.fr.wf.odom b0 k hkk, k1.fr.wf.gown⟩
                    have hcellout : ∀ j0, j0 ≠ q → cellAt M2.w b j0 = cellAt M1.w b j0 := by
                      intro j0 hj0
                      have := k3' j0 (by simp; omega)
                      show cellAt (M1.w.setCells b q [a.eval y]) b j0 = _
                      simp [cellAt, World.cell?, k1', g1, this]
                    have hcellin : cellAt M2.w b q = some (a.eval y) := by
                      have := k4' 0 (a.eval y) rfl (by show p + (vo + j) * s' + off + 0 < _; omega)
                      show cellAt (M1.w.setCells b q [a.eval y]) b q = _
                      simp only [Nat.add_zero] at this
                      simp [cellAt, World.cell?, k1', this]
                    have hfr : FR M2 slots n (setV st1 i (.sl (.own true) s' (ys.set (vo + j) e'))) a := by
                      refine k1.fr.setVar hgrow hwf (fun _ _ h => h) (List.getElem?_eq_getElem hil) (fun b0 k hkk hko _ => ⟨rfl, k5' b0 (fun e0 => by subst e0; rw [hown] at hkk; simp only [Option.some.injEq] at hkk; subst hkk; exact hko rfl), fun _ h => h⟩)
                        (v := a.tmps.getD slots[i] undef) ?_ h.size h.defers rfl (fun _ _ => rfl)
                      rw [← hvv, ← o2]
                      refine .inr ⟨by intro e0; have := congrArg List.length e0; simp only [List.length_set, List.length_nil] at this; omega, b, p, C, by simp, hown, by simpa using hcap, ?_, ⟨c', et, fr, k1', by rw [k2']; exact g2, by rw [k2']; exact g3⟩, fun hm j0 hs => hmt hm j0 hs, fun hm => by simp at hm⟩
                      rw [Els_iff]
                      intro k x hkx
                      by_cases hkk : k = vo + j
                      · subst hkk
                        have : x = e' := by simpa [List.getElem?_set, hkl] using hkx.symm
                        subst this
                        refine ⟨us.set off (a.eval y), by simpa using u1, ?_, Rep.mono hgrow x _ hrep'⟩
                        rw [At_iff]
                        intro k0 v0 hk0
                        by_cases hk1 : k0 = off
                        · subst hk1
                          have : v0 = a.eval y := by
                            have hlt : k0 < us.length := by omega
                            simpa [List.getElem?_set, hlt] using hk0.symm
                          subst this
                          exact hcellin
                        · rw [List.getElem?_set_ne (Ne.symm hk1)] at hk0
                          rw [hcellout _ (by show _ ≠ p + (vo + j) * s' + off; omega)]
                          exact (At_iff.1 u2) k0 v0 hk0
                      · rw [List.getElem?_set_ne (Ne.symm hkk)] at hkx
                        obtain ⟨us', w1, w2, w3⟩ := (Els_iff.1 hE) _ _ hkx
                        refine ⟨us', w1, ?_, Rep.mono hgrow x _ w3⟩
                        rw [At_iff] at w2 ⊢
                        intro k0 v0 hk0
                        have hk0l : k0 < s' := by have := (List.getElem?_eq_some_iff.1 hk0).1; omega
                        rw [hcellout _ (by
                          show _ ≠ p + (vo + j) * s' + off
                          rcases Nat.lt_or_gt_of_ne hkk with hlt | hgt
                          · have : k * s' + s' ≤ (vo + j) * s' := by rw [← Nat.succ_mul]; exact Nat.mul_le_mul_right s' (by omega)
                            omega
                          · have : (vo + j) * s' + s' ≤ k * s' := by rw [← Nat.succ_mul]; exact Nat.mul_le_mul_right s' (by omega)
                            omega)]
                        exact w2 k0 v0 hk0
                    rw [k1.w] at hrun
                    exact done (M' := M2) (store_op ho a.eval t5 hrun) (by show M1.w.setCells b q [a.eval y] = _; rw [k1.w]) (k1.evo.trans hev) (k1.noR hn) hfr
                · omega
              · simp at hr
            · simp at hr
          · simp at hr
        · simp at hr
      · simp at hr
    · simp at hr
  · simp at hr

end
end Go.VS
