/- Operations: append, taking over, boxes, stores, new values of every kind. -/
import Derived.Test.YtpebcbnkalkikaaVsApp
set_option linter.unusedVariables false
namespace Go.VS

section
variable {P : Program} {CS : CallSem} {RP : FuncId → Option (List AV → Option AV)} {slots : List Nat} {n : Nat} {M : Mem} {st : St} {a : Act}

/-- What variable i's place off owned is free to go on. -/
def Key.freeV (i off : Nat) : Key → Key
  | .v j k => if j = i ∧ k = off then .r 0 else .v j k
  | k => k

theorem Key.freeV_same {i off : Nat} {k : Key} (h : k ≠ .v i off) : Key.freeV i off k = k := by
  cases k <;> simp_all [Key.freeV]

theorem freeV_wf (h : M.Wf) {i off : Nat} : (M.ren (Key.freeV i off)).Wf := h.ren (by intro k hk; cases k <;> simp_all [Key.isG, Key.freeV])

theorem disown_sound (h : FR M slots n st a) {i off : Nat} {m : Bool} {s : Nat} {ys : List AV} {v0 : Value} (ho : Owner M st.vars (vvOf slots n a) i off m s ys v0) {st' : St}
    (hd : disown st i off m s ys = some st') : FR (M.ren (Key.freeV i off)) slots n st' a ∧ OwnArr (M.ren (Key.freeV i off)) (.r 0) m s ys v0 ∧ st'.store = st.store := by
  have hA := h.owner_arr ho
  have hA' : OwnArr (M.ren (Key.freeV i off)) (.r 0) m s ys v0 := by
    have := hA.ren (f := Key.freeV i off)
    simpa [Key.freeV] using this
  have hpres : ∀ b k, M.own b = some k → ¬ k.ofVar i → (∀ j, k ≠ .r j) → Pres M (M.ren (Key.freeV i off)) b :=
    fun b k hb hk _ => Mem.ren_pres hb (Key.freeV_same (by intro e; subst e; exact hk rfl))
  have hnew : ∀ {m' : Bool}, m' = m → RepV M.S M.G M.w (if m' then AV.undef else .sl .none s ys) v0 := by
    intro m' e
    subst e
    cases m' with
    | true => simp [RepV]
    | false => exact own_none hA
  refine ⟨?_, hA', ?_⟩
  · rcases ho with ⟨rfl, h1, h2⟩ | ⟨k, cs, b, rfl, h1, h2, h3, h4⟩
    · simp only [disown, Option.some.injEq] at hd
      subst hd
      have hil : i < slots.length := by
        have := (List.getElem?_eq_some_iff.1 h1).1; rw [h.len] at this; exact this
      have hv : vvOf slots n a i = a.tmps.getD slots[i] undef := by simp [vvOf, List.getD_eq_getElem?_getD, hil]
      refine h.setVar (M.ren_evo _).grow (freeV_wf h.wf) (fun _ _ h => h) (List.getElem?_eq_getElem hil) hpres (v := a.tmps.getD slots[i] undef) ?_ h.size h.defers rfl (fun _ _ => rfl)
      rw [← hv, ← h2]
      cases m with
      | true => simp [VRep, Has, RepV]
      | false => exact hnew rfl
    · simp only [disown, h1, Option.some.injEq] at hd
      subst hd
      have hil : i < slots.length := by
        have := (List.getElem?_eq_some_iff.1 h1).1; rw [h.len] at this; exact this
      have hv : vvOf slots n a i = a.tmps.getD slots[i] undef := by simp [vvOf, List.getD_eq_getElem?_getD, hil]
      have hr := h.vars i slots[i] _ (List.getElem?_eq_getElem hil) h1
      simp only [VRep, LBox] at hr
      obtain ⟨b', e1, e2, e3, c, et, fr, e4, e5, e6, e7⟩ := hr
      have hbb : b' = b := by rw [hv, e1] at h3; simpa using h3
      subst hbb
      refine h.setVar (M.ren_evo _).grow (freeV_wf h.wf) (fun _ _ h => h) (List.getElem?_eq_getElem hil) hpres (v := a.tmps.getD slots[i] undef) ?_ h.size h.defers rfl (fun _ _ => rfl)
      simp only [VRep, LBox]
      refine ⟨b', e1, ?_, e3, c, et, fr, e4, by simpa using e5, e6, fun j x hj => ?_⟩
      · have := Mem.ren_own (f := Key.freeV i (k + 1)) e2
        simpa [Key.freeV] using this
      · by_cases hjk : j = k
        · subst hjk
          obtain ⟨u, hu, hu1, hu2⟩ := e7 j _ h2
          have hlt : j < cs.length := (List.getElem?_eq_some_iff.1 h2).1
          have hx : x = (if m then AV.undef else .sl .none s ys) := by simpa [List.getElem?_set, hlt] using hj.symm
          have huv : u = v0 := by
            simp only [cellAt, World.cell?, e4] at h4
            simp at h4
            rw [hu] at h4
            simpa using h4
          subst hx huv
          refine ⟨u, hu, hu1, ?_⟩
          cases m with
          | true => simp [Has, RepV]
          | false => exact hnew rfl
        · have hj' : cs[j]? = some x := by simpa [List.getElem?_set, Ne.symm hjk] using hj
          obtain ⟨u, hu, hu1, hu2⟩ := e7 j x hj'
          refine ⟨u, hu, hu1, ?_⟩
          have := hu2.ren (f := Key.freeV i (k + 1))
          rwa [Key.freeV_same (by simp; omega)] at this
  · rcases ho with ⟨rfl, _⟩ | ⟨k, cs, b, rfl, h1, _⟩
    · simp only [disown, Option.some.injEq] at hd; subst hd; rfl
    · simp only [disown, h1, Option.some.injEq] at hd; subst hd; rfl

theorem ownerLen_of {vv : Nat → Value} {i off : Nat} {m : Bool} {s : Nat} {ys : List AV} {v0 : Value} (ho : Owner M st.vars vv i off m s ys v0) : ownerLen st i off = ys.length := by
  rcases ho with ⟨rfl, h1, _⟩ | ⟨k, cs, b, rfl, h1, h2, _⟩
  · simp [ownerLen, h1]
  · simp [ownerLen, h1, h2]

/-- A view that is as long as what it is of is the whole. -/
theorem View.whole {key : Key} {m : Bool} {s : Nat} {ys xs : List AV} {v0 v : Value} (hA : OwnArr M key m s ys v0) (hw : View s ys v0 0 xs v) (hl : xs.length = ys.length) :
    xs = ys ∧ OwnArr M key m s ys v := by
  rcases hw with ⟨_, h1, h2⟩ | ⟨h1, h2⟩ | ⟨b, o, C, cap, h1, h2, h3, h4, h5, h6⟩
  · subst h1 h2; exact ⟨rfl, hA⟩
  · subst h1
    have : ys = [] := List.length_eq_zero_iff.1 hl.symm
    subst this
    refine ⟨rfl, .inl ⟨rfl, ?_⟩⟩
    rcases h2 with h2 | ⟨b, o, cap, h2, h3⟩
    · exact .inl h2
    · rw [h3 rfl] at h2; exact .inr ⟨b, o, h2⟩
  · have hxy : xs = ys := by rw [h3, hl]; simp
    subst hxy
    refine ⟨rfl, ?_⟩
    rcases hA with ⟨e1, e2⟩ | ⟨hne, b', o', cap', hv, hb, hc, hE, hR, ht, hf⟩
    · subst e1
      rcases e2 with e2 | ⟨b', o', e2⟩
      · rw [h1] at e2; simp at e2
      · rw [h1] at e2
        simp only [Value.slice.injEq] at e2
        have : cap = 0 := by omega
        subst this
        exact .inl ⟨rfl, .inr ⟨b, o + 0 * s, by rw [h4]; rfl⟩⟩
    · rw [hv] at h1
      simp only [Value.slice.injEq, Option.some.injEq, Addr.mk.injEq, and_true, true_and] at h1
      obtain ⟨⟨rfl, rfl⟩, rfl⟩ := h1
      simp only [Nat.zero_mul, Nat.add_zero] at h4
      obtain ⟨c, et, fr, k1, k2, k3⟩ := hR
      have : cap * s ≤ cap' * s := Nat.mul_le_mul_right s h6
      exact .inr ⟨hne, b', o', cap, h4, hb, h5, hE, ⟨c, et, fr, k1, by omega, k3⟩, ht, hf⟩

theorem append_op {o : Oper} {x y : Operand} {ts : Array TypeId} (ho : o.op = .call { callee := .builtin .append, args := #[x, y], argTypes := ts }) (ρ : Operand → Value) (w : World) :
    (execOp ρ o).run P w = ((Builtin.append_ ts o.type #[ρ x, ρ y]).run P w).andThen fun v w' => .ok (.value v) w' := by
  simp only [execOp, ho, Sem.run_bind, run_resolve_builtin, Result.andThen_ok, invoke, builtin]
  rw [show (#[x, y].map ρ) = #[ρ x, ρ y] by simp]
  rfl

theorem fits_app {o : Oper} {x y : Operand} {t tx e s eb : Nat} {z : Value} (ho : o.op = .call { callee := .builtin .append, args := #[x, y], argTypes := #[t, tx] })
    (ht : P.underlying t = some (.slice e)) (he : ElemIs P e s eb z) (hk : (∃ e', P.underlying tx = some (.slice e')) ∨ P.underlying tx = some .string) {d : Dst} {rx ry : Ref}
    (hd : chkDstO slots n o.dst d = true) (hx : chkRef slots x rx = true) (hy : chkRef slots y ry = true) : OpFits P CS RP slots n o (.app d s eb rx ry) := by
  intro M st a st' h hn hr next Q K
  simp only [runOp, runApp] at hr
  split at hr
  · simp at hr
  · rename_i ys hys
    obtain ⟨news, hsrc, hF⟩ := src_of h hy hys hk
    obtain ⟨kx, tx'⟩ := rd_trep h hx
    split at hr
    · rename_i heb
      have fin : ∀ {M1 : Mem} {st1 : St} {m : Bool} {xs : List AV}, FR M1 slots n st1 a → Evo M M1 → M1.w = M.w → OwnArr M1 (.r 0) m s xs (a.eval x) → xs.length + ys.length ≤ lim →
          put st1 d (.sl (.own m) s (xs ++ ys)) = some st' → o.upon P a next Q ((execOp a.eval o).run P M.w) := by
        intro M1 st1 m xs h1 e1 w1 hA hl hp
        have hs1 : Src P s tx (a.eval y) ys.length news M1.w := by rw [w1]; exact hsrc
        obtain ⟨M2, v', k1, k2, k3, k4⟩ := append_new (ty := o.type) ht he heb h1 hA hs1 (hF.mono e1.grow) hl
        rw [append_op ho, ← w1, k1]
        exact value_ok (av := .sl (.own m) s (xs ++ ys)) k3 (e1.trans k2) hd k4 hp rfl K
      split at hr
      · rename_i s' hl
        split at hr
        · rename_i hss
          subst hss
          split at hr
          · rename_i hlim
            rw [hl] at tx'
            have hA : OwnArr M (.r 0) true s' [] (a.eval x) := full_own (by simpa [TRep, Has] using tx')
            exact fin h (.refl M) rfl hA (by simpa using hlim) (by simpa using hr)
          · simp at hr
        · simp at hr
      · rename_i m s' xs t' hl
        obtain ⟨rfl, hns⟩ := chkRef_t hx
        split at hr
        · rename_i hss
          subst hss
          split at hr
          · rename_i hlim
            exact fin (tmp_free h hns) (M.ren_evo _) rfl (tmp_own h hns hl) hlim hr
          · simp at hr
        · simp at hr
      · rename_i i off vo m s' xs hl
        split at hr
        · rename_i hss
          subst hss
          split at hr
          · rename_i hvo
            subst hvo
            split at hr
            · rename_i hlen
              split at hr
              · rename_i hlim
                split at hr
                · rename_i st1 hdis
                  rw [hl] at tx'
                  simp only [TRep] at tx'
                  obtain ⟨ys0, v0, hO, hw⟩ := tx'
                  rw [ownerLen_of hO] at hlen
                  obtain ⟨rfl, hA0⟩ := hw.whole (h.owner_arr hO) hlen
                  obtain ⟨hfr, _, _⟩ := disown_sound h hO hdis
                  have hA : OwnArr (M.ren (Key.freeV i off)) (.r 0) m s' xs (a.eval x) := by
                    have := hA0.ren (f := Key.freeV i off)
                    simpa [Key.freeV] using this
                  exact fin hfr (M.ren_evo _) rfl hA hlim hr
                · simp at hr
              · simp at hr
            · simp at hr
          · simp at hr
        · simp at hr
      · simp at hr
    · simp at hr

theorem fits_take {o : Oper} {x y : Nat} (ho : o.op = .move (.tmp x) ∨ o.op = .assign (.tmp x)) {i : Nat} {m : Bool} (hdst : o.dst = some y) (hi : slots[i]? = some y) (hx : x ∉ slots) :
    OpFits P CS RP slots n o (.take i m x) := by
  intro M st a st' h hn hr next Q K
  have hrun : (execOp a.eval o).run P M.w = .ok (.value (a.tmps.getD x undef)) M.w := by
    rcases ho with ho | ho <;> simp [execOp, ho, Act.eval]
  rw [hrun]
  have hd : chkDstO slots n o.dst (.v i m) = true := by rw [hdst]; simp [chkDstO, chkDst, hi]
  have hc : chkRef slots (.tmp x) (.t x) = true := by simp [chkRef, hx]
  have ht := h.tmps x hx
  simp only [runOp] at hr
  split at hr
  · rename_i j m' s xs hl
    rw [hl] at ht
    simp only [TRep] at ht
    obtain ⟨ys, v0, hO, hw⟩ := ht
    split at hr
    · rename_i hlen
      split at hr
      · rename_i st1 hdis
        rw [ownerLen_of hO] at hlen
        obtain ⟨rfl, hA0⟩ := hw.whole (h.owner_arr hO) hlen
        obtain ⟨hfr, _, _⟩ := disown_sound h hO hdis
        have hA : OwnArr (M.ren (Key.freeV j 0)) (.r 0) m' s xs (a.tmps.getD x undef) := by
          have := hA0.ren (f := Key.freeV j 0)
          simpa [Key.freeV] using this
        exact value_ok (av := .sl (.own m') s xs) hfr (M.ren_evo _) hd hA hr rfl K
      · simp at hr
    · simp at hr
  · rename_i m' s xs hl
    exact value_ok (av := .sl (.own m') s xs) (tmp_free h hx) (M.ren_evo _) hd (tmp_own h hx hl) hr rfl K
  · simp at hr
  · rename_i h1 h2 h3
    have hnew := rd_new h hc (by simpa [rd] using h2) (by simpa [rd] using h3) Key.r
    exact value_pure h hd hnew hr rfl K

/-- A new block for variable i. -/
theorem newBox (h : FR M slots n st a) {w' : World} {c : Array Value} {e : TypeId} {fr : Nat × Nat} (hp : Plus M.w w' (.cells c e fr)) {i y : Nat} (hi : slots[i]? = some y) {cs : List AV}
    (hl : c.size = cs.length) (hf : ∀ j, j < c.size → (decide (fr.1 ≤ j) && decide (j < fr.2)) = false)
    (hx : ∀ k x, cs[k]? = some x → ∃ v, c[k]? = some v ∧ v.cells = #[v] ∧ Has M (.v i (k + 1)) x v) :
    FR (M.alloc w' M.w.heap.size (.lb i)) slots n (setV st i (.lbox cs)) (a.put (some y) (.pointer (some ⟨M.w.heap.size, 0, none⟩))) := by
  have hev := alloc_evo h.wf hp (.lb i)
  refine h.setVar hev.grow (alloc_wf h.wf hp) (fun _ _ h => h) hi (fun b k hb _ _ => alloc_pres h.wf hp hb) (v := .pointer (some ⟨M.w.heap.size, 0, none⟩)) ?_ (by rw [size_put, h.size]) (by rw [defers_put, h.defers])
    (getD_put _ _ _ _ (by rw [h.size]; exact h.lt y (List.mem_of_getElem? hi))) (fun z hz => getD_put_ne _ _ _ (Ne.symm hz))
  simp only [VRep, LBox]
  refine ⟨M.w.heap.size, rfl, alloc_own, fun j hs => absurd (h.wf.slt hs) (by simp), c, e, fr, hp.new, hl, hf, fun k x hk => ?_⟩
  obtain ⟨v, h1, h2, h3⟩ := hx k x hk
  exact ⟨v, h1, h2, h3.pres hev.grow (fun b hb => alloc_pres h.wf hp hb)⟩

/-- A value's cells, as a box has them. -/
theorem into_cells (i : Nat) : ∀ {cs : List AV} {vs : List Value} (k : Nat), Reps M.S M.G M.w cs vs → ∀ j x, (cs.map intoCell)[j]? = some x →
    ∃ v, vs[j]? = some v ∧ v.cells = #[v] ∧ Has M (.v i (k + j + 1)) x v
  | [], _, k, _, j, x, hj => by simp at hj
  | c :: cs, _, k, h, 0, x, hj => by
    simp only [Reps] at h
    obtain ⟨v, r, rfl, h1, h0, h2, h3⟩ := h
    simp only [List.map_cons, List.getElem?_cons_zero, Option.some.injEq] at hj
    subst hj
    refine ⟨v, by simp, h1, ?_⟩
    unfold intoCell
    split
    · exact full_own (show RepV M.S M.G M.w _ v from h2)
    · have hr : RepV M.S M.G M.w c v := repV_of h0 h2
      cases c with
      | sl ow s xs => cases ow <;> first | (simp [Rep] at h2; done) | exact hr
      | _ => exact hr
  | c :: cs, _, k, h, j + 1, x, hj => by
    simp only [Reps] at h
    obtain ⟨v, r, rfl, h1, h0, h2, h3⟩ := h
    obtain ⟨u, e1, e2, e3⟩ := into_cells i (k + 1) h3 j x (by simpa using hj)
    exact ⟨u, by simpa using e1, e2, by rwa [show k + (j + 1) + 1 = k + 1 + j + 1 by omega]⟩

end
end Go.VS
