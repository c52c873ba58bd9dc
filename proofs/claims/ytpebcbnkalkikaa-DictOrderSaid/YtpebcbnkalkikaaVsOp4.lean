/- Operations: loads; pieces of strings and slices. -/
import Derived.Test.YtpebcbnkalkikaaVsOp3
set_option linter.unusedVariables false
namespace Go.VS

def isAggD : TypeDesc → Bool
  | .struct _ | .array _ _ => true
  | _ => false

/-- What a load or a store of a type is of: one cell; so many of a struct's or an array's. -/
def KindIs (P : Program) (t : TypeId) : Option Nat → Prop
  | none => (∃ d, P.underlying t = some d ∧ isAggD d = false) ∧ SizeIs P t 1
  | some k => (∃ d, P.underlying t = some d ∧ isAggD d = true) ∧ SizeIs P t k

section
variable {P : Program} {CS : CallSem} {RP : FuncId → Option (List AV → Option AV)} {slots : List Nat} {n : Nat} {M : Mem} {st : St} {a : Act}

theorem run_isAgg' {t : TypeId} {d : TypeDesc} (h : P.underlying t = some d) (w : World) : (isAgg t).run P w = .ok (isAggD d) w := by
  unfold isAgg
  rw [Sem.run_bind, run_underlying h]
  cases d <;> rfl

theorem loadVar_one {t : TypeId} (h : KindIs P t none) {w : World} {b o : Nat} {v : Value} (hv : cellAt w b o = some v) : (loadVar t ⟨b, o, none⟩).run P w = .ok v w := by
  obtain ⟨⟨d, hd, ha⟩, _⟩ := h
  unfold loadVar
  rw [Sem.run_bind, run_isAgg' hd, ha]
  have hc : w.cell? ⟨b, o, none⟩ = some v := hv
  simp [hc]

theorem loadVar_agg {t k : Nat} (h : KindIs P t (some k)) {w : World} {b o : Nat} {vs : List Value} (hl : vs.length = k) (hA : At w b o vs) : (loadVar t ⟨b, o, none⟩).run P w = .ok (.agg vs.toArray) w := by
  obtain ⟨⟨d, hd, ha⟩, hs⟩ := h
  unfold loadVar
  rw [Sem.run_bind, run_isAgg' hd, ha]
  simp only [Result.andThen_ok, if_true, Sem.run_bind, run_sizeOf' hs]
  subst hl
  rw [run_loadCells_list w ⟨b, o, none⟩ vs (fun j v hj => by rw [addr_add]; exact hA.get hj)]
  rfl

theorem At.sub {w : World} {b : Nat} : ∀ {vs : List Value} {o : Nat}, At w b o vs → ∀ i k, At w b (o + i) ((vs.drop i).take k)
  | vs, o, h, 0, 0 => trivial
  | [], o, h, 0, k + 1 => trivial
  | v :: vs, o, h, 0, k + 1 => by
    refine ⟨h.1, ?_⟩
    have := At.sub h.2 0 k
    simpa using this
  | [], o, h, i + 1, k => by simp [At]
  | v :: vs, o, h, i + 1, k => by
    have := At.sub h.2 i k
    rw [show o + (i + 1) = o + 1 + i by omega]
    simpa using this

theorem Reps.length {S : Cells} {G : Lay} {w : World} : ∀ {cs : List AV} {vs : List Value}, Reps S G w cs vs → vs.length = cs.length
  | [], _, h => by simp only [Reps] at h; subst h; rfl
  | c :: cs, _, h => by
    simp only [Reps] at h
    obtain ⟨v, r, rfl, _, _, _, hr⟩ := h
    simp [hr.length]

theorem Reps.get {S : Cells} {G : Lay} {w : World} : ∀ {cs : List AV} {vs : List Value}, Reps S G w cs vs → ∀ {k : Nat} {c : AV}, cs[k]? = some c → ∃ v, vs[k]? = some v ∧ v.cells = #[v] ∧ oneCell c = true ∧ Rep S G w c [v]
  | [], _, _, _, _, h => by simp at h
  | c :: cs, _, h, 0, c', hk => by
    simp only [Reps] at h
    obtain ⟨v, r, rfl, h1, h0, h2, _⟩ := h
    simp at hk
    subst hk
    exact ⟨v, rfl, h1, h0, h2⟩
  | c :: cs, _, h, k + 1, c', hk => by
    simp only [Reps] at h
    obtain ⟨v, r, rfl, _, _, _, hr⟩ := h
    simpa using hr.get (by simpa using hk)

theorem Reps.sub {S : Cells} {G : Lay} {w : World} : ∀ {cs : List AV} {vs : List Value}, Reps S G w cs vs → ∀ i k, Reps S G w ((cs.drop i).take k) ((vs.drop i).take k)
  | cs, vs, h, 0, 0 => by simp [Reps]
  | [], _, h, i, k => by simp only [Reps] at h; subst h; simp [Reps]
  | c :: cs, _, h, 0, k + 1 => by
    simp only [Reps] at h
    obtain ⟨v, r, rfl, h1, h0, h2, hr⟩ := h
    have := hr.sub 0 k
    simp only [List.drop_zero, List.take_succ_cons, Reps] at this ⊢
    exact ⟨v, _, rfl, h1, h0, h2, this⟩
  | c :: cs, _, h, i + 1, k => by
    simp only [Reps] at h
    obtain ⟨v, r, rfl, _, _, _, hr⟩ := h
    simpa using hr.sub i k

/-- A value of one cell, by its cells. -/
theorem rep_one {S : Cells} {G : Lay} {w : World} {x : AV} {vs : List Value} (h1 : oneCell x = true) (hu : x ≠ .undef) (h : Rep S G w x vs) : ∃ v, vs = [v] ∧ v.cells = #[v] ∧ RepV S G w x v := by
  cases x with
  | undef => exact absurd rfl hu
  | agg cs => simp [oneCell] at h1
  | lptr _ _ => simp [Rep] at h
  | lbox _ => simp [Rep] at h
  | tup _ => simp [Rep] at h
  | bool b => simp only [Rep] at h; exact ⟨_, h, rfl, by simp [RepV, Rep]⟩
  | int k i => simp only [Rep] at h; exact ⟨_, h, rfl, by simp [RepV, Rep]⟩
  | flt k i => simp only [Rep] at h; exact ⟨_, h, rfl, by simp [RepV, Rep]⟩
  | cpx k i j => simp only [Rep] at h; exact ⟨_, h, rfl, by simp [RepV, Rep]⟩
  | str l => simp only [Rep] at h; exact ⟨_, h, rfl, by simp [RepV, Rep]⟩
  | nilptr => simp only [Rep] at h; exact ⟨_, h, rfl, by simp [RepV, Rep]⟩
  | ptr id off =>
    have h' := h
    simp only [Rep] at h
    obtain ⟨b, _, rfl⟩ := h
    exact ⟨_, rfl, rfl, h'⟩
  | eptr ow s xs i off =>
    have h' := h
    cases ow <;> simp only [Rep] at h
    obtain ⟨b, o, rfl, _⟩ := h
    exact ⟨_, rfl, rfl, h'⟩
  | sl ow s xs =>
    have h' := h
    cases ow <;> simp only [Rep] at h
    · rcases h with ⟨rfl, _⟩ | ⟨b, o, cap, rfl, _⟩
      · exact ⟨_, rfl, rfl, h'⟩
      · exact ⟨_, rfl, rfl, h'⟩
    · rcases h with ⟨rfl, _⟩ | ⟨b, o, rfl, _⟩
      · exact ⟨_, rfl, rfl, h'⟩
      · exact ⟨_, rfl, rfl, h'⟩
  | map id =>
    have h' := h
    cases id <;> simp only [Rep] at h
    · subst h; exact ⟨_, rfl, rfl, h'⟩
    · obtain ⟨b, _, rfl⟩ := h; exact ⟨_, rfl, rfl, h'⟩
  | func f caps =>
    have h' := h
    simp only [Rep] at h
    obtain ⟨c, rfl, _⟩ := h
    exact ⟨_, rfl, rfl, h'⟩
  | nilfunc => simp only [Rep] at h; exact ⟨_, h, rfl, by simp [RepV, Rep]⟩
  | seq f s xs =>
    have h' := h
    simp only [Rep] at h
    obtain ⟨b, sv, rfl, _⟩ := h
    exact ⟨_, rfl, rfl, h'⟩
  | iface t x =>
    have h' := h
    simp only [Rep] at h
    obtain ⟨v, rfl, _⟩ := h
    exact ⟨_, rfl, rfl, h'⟩
  | nilif => simp only [Rep] at h; exact ⟨_, h, rfl, by simp [RepV, Rep]⟩

theorem repV_of {S : Cells} {G : Lay} {w : World} {x : AV} {v : Value} (h1 : oneCell x = true) (h : Rep S G w x [v]) : RepV S G w x v := by
  cases x <;> simp_all [oneCell, RepV]

theorem rep_of {S : Cells} {G : Lay} {w : World} {x : AV} {v : Value} (h1 : oneCell x = true) (h2 : plain x = true) (h : RepV S G w x v) : Rep S G w x [v] := by
  cases x <;> simp_all [oneCell, RepV, plain]

/-- An element's part is read. -/
theorem part_load {T : TypeId} {sz : Option Nat} (hk : KindIs P T sz) {S : Cells} {G : Lay} {w : World} {b o off : Nat} {e x : AV} {vs : List Value} (hA : At w b o vs) (hR : Rep S G w e vs)
    (hp : partOf e off sz = some x) : ∃ v, (loadVar T ⟨b, o + off, none⟩).run P w = .ok v w ∧ RepV S G w x v ∧ (plain x = true ∨ x = .undef) := by
  by_cases hu : e = .undef
  · subst hu; simp [partOf] at hp
  have hcells : Reps S G w (cellsOf e) vs := by
    by_cases h1 : oneCell e = true
    · obtain ⟨v, rfl, hc, hr⟩ := rep_one h1 hu hR
      have : cellsOf e = [e] := by cases e <;> simp_all [oneCell, cellsOf]
      rw [this]
      simp only [Reps]
      exact ⟨v, [], rfl, hc, h1, hR, rfl⟩
    · cases e <;> simp_all [oneCell, cellsOf, Rep]
  cases sz with
  | none =>
    have hp' : (match (cellsOf e)[off]? with | some c => if oneCell c then some c else none | none => none) = some x := by
      cases e <;> first | exact absurd rfl hu | exact hp
    split at hp'
    · rename_i c hc
      split at hp'
      · rename_i h1
        simp only [Option.some.injEq] at hp'
        subst hp'
        obtain ⟨v, hv, hcell, _, hr⟩ := hcells.get hc
        refine ⟨v, loadVar_one hk (hA.get hv), repV_of h1 hr, ?_⟩
        cases c with
        | sl ow s xs => cases ow <;> first | (simp [Rep] at hr; done) | simp [plain]
        | eptr ow s xs i off' => cases ow <;> first | (simp [Rep] at hr; done) | simp [plain]
        | undef => exact .inr rfl
        | _ => first | (simp [Rep] at hr; done) | simp [plain]
      · simp at hp'
    · simp at hp'
  | some k =>
    have hp' : (if off + k ≤ (cellsOf e).length then some (AV.agg (((cellsOf e).drop off).take k)) else none) = some x := by
      cases e <;> first | exact absurd rfl hu | exact hp
    split at hp'
    · rename_i hle
      simp only [Option.some.injEq] at hp'
      subst hp'
      have hl := hcells.length
      refine ⟨.agg ((vs.drop off).take k).toArray, loadVar_agg hk (by simp; omega) (hA.sub off k), ?_, .inl rfl⟩
      exact ⟨_, rfl, by simpa using hcells.sub off k⟩
    · simp at hp'

theorem put_undef_plain {x : AV} (h : plain x = true ∨ x = .undef) {vars : List AV} {store : List Obj} {vv : Nat → Value} {kt : Nat → Key} {v : Value} (hr : RepV M.S M.G M.w x v) : TRep M vars store vv kt x v := by
  rcases h with h | h
  · exact rep_trep h hr
  · subst h; simp [TRep, Has, RepV]

theorem wholes_rep {ck : Nat → Key} : ∀ {cs l : List AV} {c : List Value} {i : Nat}, wholes cs = some l → (∀ k x, cs[k]? = some x → ∃ v, c[k]? = some v ∧ v.cells = #[v] ∧ Has M (ck (i + k)) x v) → c.length = cs.length →
    Reps M.S M.G M.w l c
  | [], l, c, i, h, hx, hl => by
    simp only [wholes, Option.some.injEq] at h
    subst h
    have : c = [] := List.length_eq_zero_iff.1 hl
    subst this
    simp [Reps]
  | x :: cs, l, [], i, h, hx, hl => by simp at hl
  | x :: cs, l, v :: c, i, h, hx, hl => by
    simp only [wholes] at h
    split at h
    · rename_i y r h1 h2
      simp only [Option.some.injEq] at h
      subst h
      obtain ⟨u, hu, hc, hh⟩ := hx 0 x (by simp)
      simp at hu
      subst hu
      have hrest := wholes_rep (i := i + 1) h2 (fun k y hk => by
        have := hx (k + 1) y (by simpa using hk)
        rw [show i + 1 + k = i + (k + 1) by omega]
        simpa using this) (by simpa using hl)
      simp only [Reps]
      refine ⟨v, c, rfl, hc, ?_, ?_, hrest⟩
      · unfold cellWhole at h1
        split at h1
        · split at h1
          · simp at h1
          · simp only [Option.some.injEq] at h1; subst h1; rfl
        · split at h1
          · rename_i hp
            simp only [Option.some.injEq] at h1; subst h1
            simp only [Bool.and_eq_true] at hp; exact hp.2
          · simp at h1
      unfold cellWhole at h1
      split at h1
      · rename_i m s xs
        cases m with
        | true => simp at h1
        | false =>
          simp only [Bool.false_eq_true, if_false, Option.some.injEq] at h1
          subst h1
          exact own_none (show OwnArr M (ck (i + 0)) false s xs v from hh)
      · split at h1
        · rename_i hne hp
          simp only [Option.some.injEq] at h1
          subst h1
          simp only [Bool.and_eq_true] at hp
          have hr : RepV M.S M.G M.w x v := by
            unfold Has at hh
            split at hh
            · exact absurd rfl (hne _ _ _)
            · exact hh
          exact rep_of hp.2 hp.1 hr
        · simp at h1
    · simp at h

theorem fits_ld {o : Oper} {x : Operand} {T : TypeId} {sz : Option Nat} (ho : o.op = .load T x) (hk : KindIs P T sz) {d : Dst} {rx : Ref} (hd : chkDstO slots n o.dst d = true)
    (hx : chkRef slots x rx = true) : OpFits P CS RP slots n o (.ld d sz rx) := by
  intro M st a st' h hn hr next Q K
  simp only [runOp, runLd] at hr
  obtain ⟨kx, tx⟩ := rd_trep h hx
  have hrun : ∀ {b p : Nat} {v : Value}, a.eval x = .pointer (some ⟨b, p, none⟩) → (loadVar T ⟨b, p, none⟩).run P M.w = .ok v M.w → (execOp a.eval o).run P M.w = .ok (.value v) M.w := by
    intro b p v hv hl
    simp only [execOp, ho, hv, Sem.run_bind, Instr.loadAt, Instr.sureAddr, Sem.run_pure, Result.andThen_ok, hl]
  split at hr
  · rename_i ow s xs i off hl
    rw [hl] at tx
    split at hr
    · rename_i e he
      split at hr
      · rename_i y hy
        have elem : ∀ {b p : Nat}, Els M.S M.G M.w b s p xs → a.eval x = .pointer (some ⟨b, p + i * s + off, none⟩) → o.upon P a next Q ((execOp a.eval o).run P M.w) := by
          intro b p hE hv
          obtain ⟨vs, _, hA, hR⟩ := hE.get he
          obtain ⟨v, h1, h2, h3⟩ := part_load hk hA hR hy
          rw [hrun hv h1]
          exact value_pure h hd (put_undef_plain h3 h2) hr rfl K
        cases ow with
        | none =>
          simp only [TRep, Has, RepV, Rep, List.cons.injEq, and_true] at tx
          obtain ⟨b, p, h1, h2, h3, h4⟩ := tx
          exact elem h4 h1
        | of j off' vo m =>
          simp only [TRep] at tx
          obtain ⟨ys, b, p, C, h1, h2, h3, h4, h5⟩ := tx
          rcases (h.owner_arr h1).content with ⟨_, e⟩ | ⟨b', p', C', e, _, hE⟩
          · simp at e
          · simp only [Value.slice.injEq, Option.some.injEq, Addr.mk.injEq, and_true, true_and] at e
            obtain ⟨⟨rfl, rfl⟩, rfl⟩ := e
            refine elem (b := b) (p := p + vo * s) ?_ (by rw [h5]; simp [Nat.add_mul, Nat.add_assoc])
            rw [h3]
            exact hE.sub vo xs.length
        | ofg j off' vo m =>
          simp only [TRep] at tx
          obtain ⟨ys, b, p, C, h1, h2, h3, h4, h5⟩ := tx
          rcases (h.gowner_arr h1).content with ⟨_, e⟩ | ⟨b', p', C', e, _, hE⟩
          · simp at e
          · simp only [Value.slice.injEq, Option.some.injEq, Addr.mk.injEq, and_true, true_and] at e
            obtain ⟨⟨rfl, rfl⟩, rfl⟩ := e
            refine elem (b := b) (p := p + vo * s) ?_ (by rw [h5]; simp [Nat.add_mul, Nat.add_assoc])
            rw [h3]
            exact hE.sub vo xs.length
        | full => simp [TRep, Has, RepV, Rep] at tx
        | own m => simp [TRep, Has, RepV, Rep] at tx
      · simp at hr
    · simp at hr
  · rename_i i off hl
    rw [hl] at tx
    simp only [TRep] at tx
    obtain ⟨b, cs, h1, h2, h3⟩ := tx
    rw [h1] at hr
    simp only at hr
    have hil : i < slots.length := by
      have := (List.getElem?_eq_some_iff.1 h1).1; rw [h.len] at this; exact this
    have hv := h.vars i slots[i] _ (List.getElem?_eq_getElem hil) h1
    simp only [VRep, LBox] at hv
    obtain ⟨b', e1, e2, e3, c, et, fr, e4, e5, e6, e7⟩ := hv
    have : b' = b := by
      have : vvOf slots n a i = a.tmps.getD slots[i] undef := by simp [vvOf, List.getD_eq_getElem?_getD, hil]
      rw [this, e1] at h2
      simpa using h2
    subst this
    have hcell : ∀ k v, c[k]? = some v → cellAt M.w b' k = some v := by
      intro k v hkv
      simp [cellAt, World.cell?, e4, hkv]
    split at hr
    · split at hr
      · rename_i cv hcv
        obtain ⟨v, hv1, hv2, hv3⟩ := e7 off cv hcv
        rw [hrun h3 (loadVar_one hk (hcell _ _ hv1))]
        refine value_pure h hd ?_ hr rfl K
        unfold cellView
        split
        · rename_i m s xs
          simp only [TRep]
          exact ⟨xs, v, .inr ⟨off, cs, b', rfl, h1, hcv, h2, hcell _ _ hv1⟩, .inl ⟨rfl, rfl, rfl⟩⟩
        · rename_i hne
          have hr' : RepV M.S M.G M.w cv v := by
            unfold Has at hv3
            split at hv3
            · exact absurd rfl (hne _ _ _)
            · exact hv3
          have : ∀ ow s xs, cv = .sl ow s xs → ow = .none ∨ ow = .full := by
            intro ow s xs e
            subst e
            cases ow <;> simp_all [RepV, Rep]
          unfold TRep Has
          split
          · simp [RepV, Rep] at hr'
          · rcases this _ _ _ rfl with e | e <;> simp at e
          · rcases this _ _ _ rfl with e | e <;> simp at e
          · simp [RepV, Rep] at hr'
          · simp [RepV, Rep] at hr'
          · simp [RepV, Rep] at hr'
          · split
            · exact absurd rfl (hne _ _ _)
            · exact hr'
      · simp at hr
    · rename_i k
      split at hr
      · rename_i hle
        split at hr
        · rename_i l hl'
          have hA : At M.w b' off ((c.toList.drop off).take k) := by
            have key : ∀ (vs : List Value) (p : Nat), (∀ j v, vs[j]? = some v → cellAt M.w b' (p + j) = some v) → At M.w b' p vs := by
              intro vs
              induction vs with
              | nil => intro p _; trivial
              | cons v vs ih =>
                intro p hj
                refine ⟨by simpa using hj 0 v (by simp), ih (p + 1) (fun j u hu => ?_)⟩
                have := hj (j + 1) u (by simpa using hu)
                rwa [show p + 1 + j = p + (j + 1) by omega]
            refine key _ _ (fun j v hj => hcell _ _ ?_)
            rw [List.getElem?_take] at hj
            split at hj
            · rw [List.getElem?_drop] at hj
              simpa using hj
            · simp at hj
          have hlen : ((c.toList.drop off).take k).length = k := by simp; omega
          rw [hrun h3 (loadVar_agg hk hlen hA)]
          refine value_pure h hd (rep_trep (av := .agg l) rfl ⟨_, rfl, ?_⟩) hr rfl K
          refine wholes_rep (ck := fun q => .v i (q + 1)) (i := off) hl' (fun q x hq => ?_) (by simp; omega)
          rw [List.getElem?_take] at hq
          split at hq
          · rename_i hqk
            rw [List.getElem?_drop] at hq
            obtain ⟨v, hv1, hv2, hv3⟩ := e7 _ _ hq
            refine ⟨v, ?_, hv2, hv3⟩
            rw [List.getElem?_take, if_pos hqk, List.getElem?_drop]
            simpa using hv1
          · simp at hq
        · simp at hr
      · simp at hr
  · simp at hr

end
end Go.VS
