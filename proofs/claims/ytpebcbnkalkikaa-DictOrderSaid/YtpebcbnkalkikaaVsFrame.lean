/- How a frame's relation is carried along: from one memory to the next; as a variable, a temporary is set. -/
import Derived.Test.YtpebcbnkalkikaaVsSem
set_option linter.unusedVariables false
namespace Go.VS

def refV : AV → Nat → Prop
  | .sl (.of i _ _ _) _ _, j => i = j
  | .eptr (.of i _ _ _) _ _ _ _, j => i = j
  | .lptr i _, j => i = j
  | _, _ => False

def refG : AV → Nat → Prop
  | .sl (.ofg i _ _ _) _ _, j => i = j
  | .eptr (.ofg i _ _ _) _ _ _ _, j => i = j
  | _, _ => False

theorem Owner.move {M M' : Mem} {vars vars' : List AV} {vv vv' : Nat → Value} {i off : Nat} {m : Bool} {s : Nat} {ys : List AV} {v : Value}
    (hv : vars'[i]? = vars[i]?) (hvv : vv' i = vv i) (hc : ∀ b, vv i = .pointer (some ⟨b, 0, none⟩) → off ≠ 0 → ∀ j, cellAt M'.w b j = cellAt M.w b j)
    (h : Owner M vars vv i off m s ys v) : Owner M' vars' vv' i off m s ys v := by
  rcases h with ⟨h0, h1, h2⟩ | ⟨k, cs, b, h0, h1, h2, h3, h4⟩
  · exact .inl ⟨h0, hv.trans h1, by rw [hvv]; exact h2⟩
  · exact .inr ⟨k, cs, b, h0, hv.trans h1, h2, by rw [hvv]; exact h3, by rw [hc b h3 (by omega)]; exact h4⟩

theorem GOwner.move {M M' : Mem} {store store' : List Obj} {id off : Nat} {m : Bool} {s : Nat} {ys : List AV} {v : Value}
    (g : ∀ i b, M.G i = some b → M'.G i = some b) (hs : store'[id]? = store[id]?) (hc : ∀ b, M.G id = some b → ∀ j, cellAt M'.w b j = cellAt M.w b j)
    (h : GOwner M store id off m s ys v) : GOwner M' store' id off m s ys v := by
  obtain ⟨cs, b, h1, h2, h3, h4⟩ := h
  exact ⟨cs, b, hs.trans h1, h2, g _ _ h3, by rw [hc b h3]; exact h4⟩

theorem TRep.move {M M' : Mem} {vars vars' : List AV} {store store' : List Obj} {vv vv' : Nat → Value} {kt : Nat → Key} {av : AV} {v : Value}
    (g : Grow M.S M.G M.w M'.S M'.G M'.w) (hx : ∀ b k, M.own b = some (kt k) → Pres M M' b)
    (hv : ∀ j, refV av j → vars'[j]? = vars[j]? ∧ vv' j = vv j ∧ ∀ b, vv j = .pointer (some ⟨b, 0, none⟩) → (∃ cs, vars[j]? = some (.lbox cs)) → ∀ o, cellAt M'.w b o = cellAt M.w b o)
    (hs : ∀ id, refG av id → store'[id]? = store[id]? ∧ ∀ b, M.G id = some b → (∃ cs, store[id]? = some (.cells cs)) → ∀ o, cellAt M'.w b o = cellAt M.w b o)
    (h : TRep M vars store vv kt av v) : TRep M' vars' store' vv' kt av v := by
  unfold TRep at *
  split at h
  · exact h.pres g (fun k b hb => hx b _ hb)
  · obtain ⟨ys, v0, ho, hw⟩ := h
    have r := hv _ rfl
    refine ⟨ys, v0, ho.move r.1 r.2.1 (fun b hb hne => ?_), hw⟩
    rcases ho with ⟨h0, _, _⟩ | ⟨k, cs, b', h0, h1, _⟩
    · exact absurd h0 hne
    · exact r.2.2 b hb ⟨cs, h1⟩
  · obtain ⟨ys, v0, ho, hw⟩ := h
    have r := hs _ rfl
    refine ⟨ys, v0, ho.move g.lay r.1 (fun b hb => ?_), hw⟩
    obtain ⟨cs, _, h1, _⟩ := ho
    exact r.2 b hb ⟨cs, h1⟩
  · obtain ⟨ys, b, p, C, ho, hw⟩ := h
    have r := hv _ rfl
    refine ⟨ys, b, p, C, ho.move r.1 r.2.1 (fun b hb hne => ?_), hw⟩
    rcases ho with ⟨h0, _, _⟩ | ⟨k, cs, b', h0, h1, _⟩
    · exact absurd h0 hne
    · exact r.2.2 b hb ⟨cs, h1⟩
  · obtain ⟨ys, b, p, C, ho, hw⟩ := h
    have r := hs _ rfl
    refine ⟨ys, b, p, C, ho.move g.lay r.1 (fun b hb => ?_), hw⟩
    obtain ⟨cs, _, h1, _⟩ := ho
    exact r.2 b hb ⟨cs, h1⟩
  · obtain ⟨b, cs, h1, h2, h3⟩ := h
    have r := hv _ rfl
    exact ⟨b, cs, r.1.trans h1, r.2.1.trans h2, h3⟩
  · exact h.pres g (fun b hb => hx b _ hb)

abbrev vvOf (slots : List Nat) (n : Nat) (a : Act) : Nat → Value := fun i => a.tmps.getD (slots.getD i n) undef

theorem StoreRep.pres {M M' : Mem} {store : List Obj} (g : Grow M.S M.G M.w M'.S M'.G M'.w) (hG : ∀ id b, M'.G id = some b → M.G id = some b)
    (hp : ∀ b k, M.own b = some k → k.isG = true → Pres M M' b) (h : StoreRep M store) : StoreRep M' store :=
  ⟨fun id o ho => (h.1 id o ho).pres g (fun b k hb hk => hp b k hb (by cases k <;> simp_all [Key.ofObj, Key.isG])), fun id b hb => h.2 id b (hG id b hb)⟩

theorem FR.boxCell {M : Mem} {slots : List Nat} {n : Nat} {st : St} {a : Act} (h : FR M slots n st a) {M' : Mem} {j : Nat} {cs : List AV}
    (hj : st.vars[j]? = some (.lbox cs)) (hp : ∀ b, M.own b = some (.lb j) → Pres M M' b) {b : Nat} (hb : vvOf slots n a j = .pointer (some ⟨b, 0, none⟩)) (o : Nat) :
    cellAt M'.w b o = cellAt M.w b o := by
  have hl : j < slots.length := by
    have := (List.getElem?_eq_some_iff.1 hj).1; rw [h.len] at this; exact this
  have hr := h.vars j slots[j] _ (List.getElem?_eq_getElem hl) hj
  simp only [VRep, LBox] at hr
  obtain ⟨b', hv, ho, _, _⟩ := hr
  have : b = b' := by
    simp only [vvOf, List.getD_eq_getElem?_getD, List.getElem?_eq_getElem hl, Option.getD_some] at hb
    rw [hb] at hv
    simpa using hv
  subst this
  exact cellAt_of_heap (hp b ho).heap o

theorem FR.objCell {M : Mem} {slots : List Nat} {n : Nat} {st : St} {a : Act} (h : FR M slots n st a) {M' : Mem} {id : Nat} {cs : List AV}
    (hj : st.store[id]? = some (.cells cs)) (hp : ∀ b, M.own b = some (.gb id) → Pres M M' b) {b : Nat} (hb : M.G id = some b) (o : Nat) :
    cellAt M'.w b o = cellAt M.w b o := by
  have hr := h.store.1 id _ hj
  simp only [ObjRep] at hr
  obtain ⟨b', hG, ho, _, _⟩ := hr
  have : b = b' := by rw [hb] at hG; simpa using hG
  subst this
  exact cellAt_of_heap (hp b ho).heap o

/-- Nothing that a slot reads has changed. -/
theorem FR.evolve {M M' : Mem} {slots : List Nat} {n : Nat} {st : St} {a : Act} (h : FR M slots n st a) (g : Grow M.S M.G M.w M'.S M'.G M'.w) (wf : M'.Wf)
    (hG : ∀ id b, M'.G id = some b → M.G id = some b)
    (hp : ∀ b k, M.own b = some k → (∀ j, k ≠ .r j) → Pres M M' b) : FR M' slots n st a where
  wf := wf
  size := h.size
  defers := h.defers
  len := h.len
  nodup := h.nodup
  lt := h.lt
  vars i x av hx hv := (h.vars i x av hx hv).pres g (fun b k hb hk => hp b k hb (by cases k <;> simp_all [Key.ofVar]))
  tmps x hx := (h.tmps x hx).move g (fun b k hb => hp b _ hb (by simp))
    (fun j _ => ⟨rfl, rfl, fun b hb ⟨cs, hc⟩ o => h.boxCell hc (fun b hb => hp b _ hb (by simp)) hb o⟩)
    (fun id _ => ⟨rfl, fun b hb ⟨cs, hc⟩ o => h.objCell hc (fun b hb => hp b _ hb (by simp)) hb o⟩)
  store := h.store.pres g hG (fun b k hb hk => hp b k hb (by cases k <;> simp_all [Key.isG]))

theorem look_unref (i x : Nat) : ∀ l : List (Nat × AV), look x (unref i l) = unr i (look x l)
  | [] => rfl
  | (y, v) :: r => by
    simp only [unref, look]
    split
    · rfl
    · exact look_unref i x r

theorem getD_put (a : Act) (x : Nat) (v d : Value) (h : x < a.tmps.size) : (a.put (some x) v).tmps.getD x d = v := by
  simp [Act.put, Array.getD, h]

theorem getD_put_ne (a : Act) {x y : Nat} (v d : Value) (h : x ≠ y) : (a.put (some x) v).tmps.getD y d = a.tmps.getD y d := by
  simp only [Act.put, Array.getD_eq_getD_getElem?, Array.getElem?_setIfInBounds_ne h]

theorem size_put (a : Act) (x : Option Nat) (v : Value) : (a.put x v).tmps.size = a.tmps.size := by
  cases x <;> simp [Act.put]

theorem defers_put (a : Act) (x : Option Nat) (v : Value) : (a.put x v).defers = a.defers := by
  cases x <;> rfl

theorem slots_inj {slots : List Nat} (hn : slots.Nodup) {i j x : Nat} (hi : slots[i]? = some x) (hj : slots[j]? = some x) : i = j := by
  obtain ⟨h1, h2⟩ := List.getElem?_eq_some_iff.1 hi
  obtain ⟨h3, h4⟩ := List.getElem?_eq_some_iff.1 hj
  exact (List.getElem_inj hn).1 (h2.trans h4.symm)

/-- What is read of variable i's array is plain, once it is not written any more. -/
theorem unr_rep {M : Mem} {vars : List AV} {store : List Obj} {vv : Nat → Value} {i : Nat} {kt : Nat → Key} {av : AV} {v : Value}
    (hO : ∀ off m s ys v0, Owner M vars vv i off m s ys v0 → ∃ key, OwnArr M key m s ys v0) (hr : refV av i) (h : TRep M vars store vv kt av v) (kt' : Nat → Key)
    (vars' : List AV) (store' : List Obj) (vv' : Nat → Value) : TRep M vars' store' vv' kt' (unr i av) v := by
  unfold TRep at h
  split at h
  · simp [refV] at hr
  · rename_i u j off vo m s xs
    obtain ⟨ys, v0, ho, hw⟩ := h
    have : j = i := hr
    subst this
    simp only [unr, if_true]
    cases m with
    | true => simp [TRep, Has, RepV]
    | false =>
      obtain ⟨key, hA⟩ := hO _ _ _ _ _ ho
      simp only [Bool.false_eq_true, if_false]
      show RepV M.S M.G M.w (.sl .none s xs) v
      simp only [RepV, Rep]
      rcases hw with ⟨h0, h1, h2⟩ | ⟨h1, h2⟩ | ⟨b, o, C, cap, h1, h2, h3, h4, h5, _⟩
      · subst h1 h2
        rcases hA with ⟨e1, e2⟩ | ⟨hne, b, o, cap, hv, hb, hc, hE, hR, ht, hf⟩
        · rcases e2 with e2 | ⟨b, o, e2⟩
          · exact .inl ⟨by rw [e2], e1⟩
          · subst e1; exact .inr ⟨b, o, 0, by rw [e2]; rfl, by simp, by simp, by simp [Els]⟩
        · exact .inr ⟨b, o, cap, by rw [hv], hc, (hf rfl).1, hE⟩
      · subst h1
        rcases h2 with h2 | ⟨b, o, cap, h2, _⟩
        · exact .inl ⟨by rw [h2], rfl⟩
        · exact .inr ⟨b, o, cap, by rw [h2]; rfl, by simp, by simp, by simp [Els]⟩
      · rcases hA with ⟨e1, e2⟩ | ⟨hne, b', o', cap', hv, hb, hc, hE, hR, ht, hf⟩
        · subst e1
          have hx : xs = [] := by rw [h3]; simp
          subst hx
          exact .inr ⟨b, o + vo * s, cap, by rw [h4], h5, by simp, by simp [Els]⟩
        · rw [hv] at h1
          simp only [Value.slice.injEq, Option.some.injEq, Addr.mk.injEq, and_true, true_and] at h1
          obtain ⟨⟨rfl, rfl⟩, rfl⟩ := h1
          refine .inr ⟨b', o' + vo * s, cap, by rw [h4], h5, fun j hj => ?_, ?_⟩
          · have := (hf rfl).1 (vo * s + j) (by
              have h6 : (vo + xs.length) * s ≤ ys.length * s := Nat.mul_le_mul_right s h2
              rw [Nat.add_mul] at h6; omega)
            rwa [← Nat.add_assoc] at this
          · rw [h3]
            exact Els.sub hE vo xs.length
  · simp [refV] at hr
  · rename_i u j off vo m s xs k o
    obtain ⟨ys, b, p, C, ho, h2, h3, h4, h5⟩ := h
    have : j = i := hr
    subst this
    simp only [unr, if_true]
    cases m with
    | true => simp [TRep, Has, RepV]
    | false =>
      obtain ⟨key, hA⟩ := hO _ _ _ _ _ ho
      simp only [Bool.false_eq_true, if_false]
      show RepV M.S M.G M.w (.eptr .none s xs k o) v
      simp only [RepV, Rep]
      rcases hA with ⟨e1, e2⟩ | ⟨hne, b', o', cap', hv, hb, hc, hE, hR, ht, hf⟩
      · subst e1
        have hx : xs = [] := by rw [h3]; simp
        subst hx
        simp at h4
      · simp only [Value.slice.injEq, Option.some.injEq, Addr.mk.injEq, and_true, true_and] at hv
        obtain ⟨⟨rfl, rfl⟩, rfl⟩ := hv
        refine ⟨b, p + vo * s, by rw [h5]; simp [Nat.add_mul, Nat.add_assoc], h4, fun j hj => ?_, ?_⟩
        · have := (hf rfl).1 (vo * s + j) (by
            have h6 : (vo + xs.length) * s ≤ ys.length * s := Nat.mul_le_mul_right s h2
            rw [Nat.add_mul] at h6; omega)
          rwa [← Nat.add_assoc] at this
        · rw [h3]
          exact Els.sub hE vo xs.length
  · simp [refV] at hr
  · rename_i u j off
    have : j = i := hr
    subst this
    simp [unr, TRep, Has, RepV]
  · exfalso
    rename_i h1 h2 h3 h4 h5 h6
    unfold refV at hr
    split at hr
    · exact h2 _ _ _ _ _ _ rfl
    · exact h4 _ _ _ _ _ _ _ _ rfl
    · exact h6 _ _ rfl
    · exact hr

theorem refV_unr {i j : Nat} {av : AV} (h : refV (unr i av) j) : refV av j ∧ j ≠ i := by
  unfold unr at h
  split at h
  · split at h
    · split at h <;> simp [refV] at h
    · rename_i hne; simp only [refV] at h ⊢; exact ⟨h, by omega⟩
  · split at h
    · split at h <;> simp [refV] at h
    · rename_i hne; simp only [refV] at h ⊢; exact ⟨h, by omega⟩
  · split at h
    · simp [refV] at h
    · rename_i hne; simp only [refV] at h ⊢; exact ⟨h, by omega⟩
  · rename_i h1 h2 h3
    unfold refV at h
    split at h
    · exact absurd rfl (h1 _ _ _ _ _ _)
    · exact absurd rfl (h2 _ _ _ _ _ _ _ _)
    · exact absurd rfl (h3 _ _)
    · exact h.elim

theorem unr_same {i : Nat} {av : AV} (h : ¬ refV av i) : unr i av = av := by
  unfold unr
  split
  · rename_i hx; simp only [refV] at h; rw [if_neg h]
  · simp only [refV] at h; rw [if_neg h]
  · simp only [refV] at h; rw [if_neg h]
  · rfl

theorem FR.owner_arr {M : Mem} {slots : List Nat} {n : Nat} {st : St} {a : Act} (h : FR M slots n st a) {i off : Nat} {m : Bool} {s : Nat} {ys : List AV} {v0 : Value}
    (ho : Owner M st.vars (vvOf slots n a) i off m s ys v0) : OwnArr M (.v i off) m s ys v0 := by
  rcases ho with ⟨h0, h1, h2⟩ | ⟨k, cs, b, h0, h1, h2, h3, h4⟩
  · have hl : i < slots.length := by
      have := (List.getElem?_eq_some_iff.1 h1).1; rw [h.len] at this; exact this
    have hr := h.vars i slots[i] _ (List.getElem?_eq_getElem hl) h1
    simp only [VRep, Has] at hr
    subst h0 h2
    simpa [vvOf, List.getD_eq_getElem?_getD, List.getElem?_eq_getElem hl] using hr
  · have hl : i < slots.length := by
      have := (List.getElem?_eq_some_iff.1 h1).1; rw [h.len] at this; exact this
    have hr := h.vars i slots[i] _ (List.getElem?_eq_getElem hl) h1
    simp only [VRep, LBox] at hr
    obtain ⟨b', hv, hb, hS, c, e, fr, hc, hlen, hf, hx⟩ := hr
    have : b = b' := by
      simp only [vvOf, List.getD_eq_getElem?_getD, List.getElem?_eq_getElem hl, Option.getD_some] at h3
      rw [h3] at hv
      simpa using hv
    subst this h0
    obtain ⟨u, hu, h5, h6⟩ := hx k _ h2
    have : u = v0 := by
      simp only [cellAt, World.cell?, hc] at h4
      simp at h4
      rw [hu] at h4
      simpa using h4
    subst this
    exact h6

/-- Variable i is set: what it owned may be disturbed, nothing else. -/
theorem FR.setVar {M M' : Mem} {slots : List Nat} {n : Nat} {st : St} {a a' : Act} (h : FR M slots n st a) (g : Grow M.S M.G M.w M'.S M'.G M'.w) (wf : M'.Wf)
    (hG : ∀ id b, M'.G id = some b → M.G id = some b) {i x : Nat} (hi : slots[i]? = some x)
    (hp : ∀ b k, M.own b = some k → ¬ k.ofVar i → (∀ j, k ≠ .r j) → Pres M M' b) {av : AV} {v : Value} (hv : VRep M' i av v)
    (hs : a'.tmps.size = n) (hd : a'.defers = []) (hx : a'.tmps.getD x undef = v) (hy : ∀ y, y ≠ x → a'.tmps.getD y undef = a.tmps.getD y undef) :
    FR M' slots n (setV st i av) a' := by
  have hil : i < slots.length := (List.getElem?_eq_some_iff.1 hi).1
  have hxn : x < n := h.lt x (List.mem_of_getElem? hi)
  have hvv : ∀ j, j ≠ i → vvOf slots n a' j = vvOf slots n a j := by
    intro j hj
    simp only [vvOf]
    apply hy
    intro e
    rcases Nat.lt_or_ge j slots.length with hl | hl
    · rw [List.getD_eq_getElem?_getD, List.getElem?_eq_getElem hl, Option.getD_some] at e
      exact hj (slots_inj h.nodup (List.getElem?_eq_getElem hl ▸ congrArg some e) hi)
    · rw [List.getD_eq_getElem?_getD, List.getElem?_eq_none hl] at e
      simp at e; omega
  refine { wf := wf, size := hs, defers := hd, len := by simp [setV, h.len], nodup := h.nodup, lt := h.lt, vars := ?_, tmps := ?_, store := ?_ }
  · intro j y av' hj hav
    by_cases e : j = i
    · subst e
      have : y = x := by rw [hi] at hj; simpa using hj.symm
      subst this
      have hlv : j < st.vars.length := by rw [h.len]; exact hil
      have : av' = av := by simpa [setV, List.getElem?_set, hlv] using hav.symm
      subst this
      rw [hx]; exact hv
    · have hav' : st.vars[j]? = some av' := by simpa [setV, List.getElem?_set, Ne.symm e] using hav
      have hyx : y ≠ x := fun e' => e (slots_inj h.nodup (e' ▸ hj) hi)
      rw [hy y hyx]
      refine (h.vars j y av' hj hav').pres g (fun b k hb hk => hp b k hb ?_ ?_)
      all_goals cases k <;> simp_all [Key.ofVar]
  · intro y hyn
    have hyx : y ≠ x := fun e => hyn (e ▸ List.mem_of_getElem? hi)
    simp only [setV, look_unref]
    rw [hy y hyx]
    have ht := h.tmps y hyn
    have hu : TRep M st.vars st.store (vvOf slots n a) (Key.t y) (unr i (look y st.tmps)) (a.tmps.getD y undef) := by
      by_cases hr : refV (look y st.tmps) i
      · exact unr_rep (fun off m s ys v0 ho => ⟨_, h.owner_arr ho⟩) hr ht _ _ _ _
      · rw [unr_same hr]; exact ht
    refine hu.move g (fun b k hb => hp b _ hb (by simp [Key.ofVar]) (by simp)) (fun j hj => ?_) (fun id hid => ?_)
    · have := (refV_unr hj).2
      refine ⟨by simp [Ne.symm this], hvv j this, fun b hb ⟨cs, hc⟩ o => h.boxCell hc (fun b hb => hp b _ hb ?_ (by simp)) hb o⟩
      simp only [Key.ofVar]; exact this
    · exact ⟨rfl, fun b hb ⟨cs, hc⟩ o => h.objCell hc (fun b hb => hp b _ hb (by simp [Key.ofVar]) (by simp)) hb o⟩
  · exact h.store.pres g hG (fun b k hb hk => hp b k hb (by cases k <;> simp_all [Key.ofVar, Key.isG]) (by cases k <;> simp_all [Key.isG]))

/-- A temporary is set, in the same memory or one that differs in what the temporary owned. -/
theorem FR.setTmp {M M' : Mem} {slots : List Nat} {n : Nat} {st : St} {a a' : Act} (h : FR M slots n st a) (g : Grow M.S M.G M.w M'.S M'.G M'.w) (wf : M'.Wf)
    (hG : ∀ id b, M'.G id = some b → M.G id = some b) {x : Nat} (hxs : x ∉ slots) (hxn : x < n ∨ a'.tmps = a.tmps)
    (hp : ∀ b k, M.own b = some k → ¬ k.ofTmp x → (∀ j, k ≠ .r j) → Pres M M' b) {av : AV} {v : Value} (hv : TRep M' st.vars st.store (vvOf slots n a) (Key.t x) av v)
    (hs : a'.tmps.size = n) (hd : a'.defers = []) (hx : a'.tmps.getD x undef = v) (hy : ∀ y, y ≠ x → a'.tmps.getD y undef = a.tmps.getD y undef) :
    FR M' slots n { st with tmps := (x, av) :: st.tmps } a' := by
  have hvv : vvOf slots n a' = vvOf slots n a := by
    funext j
    simp only [vvOf]
    rcases hxn with hxn | he
    · apply hy
      intro e
      rcases Nat.lt_or_ge j slots.length with hl | hl
      · rw [List.getD_eq_getElem?_getD, List.getElem?_eq_getElem hl, Option.getD_some] at e
        exact hxs (e ▸ List.getElem_mem hl)
      · rw [List.getD_eq_getElem?_getD, List.getElem?_eq_none hl] at e
        simp at e; omega
    · rw [he]
  refine { wf := wf, size := hs, defers := hd, len := h.len, nodup := h.nodup, lt := h.lt, vars := ?_, tmps := ?_, store := ?_ }
  · intro j y av' hj hav
    have hyx : y ≠ x := fun e => hxs (e ▸ List.mem_of_getElem? hj)
    rw [hy y hyx]
    exact (h.vars j y av' hj hav).pres g (fun b k hb hk => hp b k hb (by cases k <;> simp_all [Key.ofVar, Key.ofTmp]) (by cases k <;> simp_all [Key.ofVar]))
  · intro y hyn
    rw [show (fun i => a'.tmps.getD (slots.getD i n) undef) = vvOf slots n a from hvv]
    by_cases e : y = x
    · subst e
      simp only [look, if_true]
      rw [hx]; exact hv
    · simp only [look, if_neg e]
      rw [hy y e]
      refine (h.tmps y hyn).move g (fun b k hb => hp b _ hb (by simp [Key.ofTmp]; exact e) (by simp)) (fun j hj => ?_) (fun id hid => ?_)
      · exact ⟨rfl, rfl, fun b hb ⟨cs, hc⟩ o => h.boxCell hc (fun b hb => hp b _ hb (by simp [Key.ofTmp]) (by simp)) hb o⟩
      · exact ⟨rfl, fun b hb ⟨cs, hc⟩ o => h.objCell hc (fun b hb => hp b _ hb (by simp [Key.ofTmp]) (by simp)) hb o⟩
  · exact h.store.pres g hG (fun b k hb hk => hp b k hb (by cases k <;> simp_all [Key.ofTmp, Key.isG]) (by cases k <;> simp_all [Key.isG]))

end Go.VS
