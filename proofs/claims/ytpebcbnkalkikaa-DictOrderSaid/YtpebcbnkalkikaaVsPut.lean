/- A new value is put where it goes. -/
import Derived.Test.YtpebcbnkalkikaaVsFrame
set_option linter.unusedVariables false
namespace Go.VS

def NoR (M : Mem) : Prop := ∀ b k, M.own b ≠ some (.r k)

/-- What is new goes to a place. -/
def Mem.rekey (M : Mem) (f : Nat → Key) : Mem :=
  { M with own := fun b => match M.own b with | some (.r k) => some (f k) | o => o }

theorem Mem.rekey_r {M : Mem} {f : Nat → Key} {b k : Nat} (h : M.own b = some (.r k)) : (M.rekey f).own b = some (f k) := by
  simp [Mem.rekey, h]

theorem Mem.rekey_ne {M : Mem} {f : Nat → Key} {b : Nat} (h : ∀ k, M.own b ≠ some (.r k)) : (M.rekey f).own b = M.own b := by
  show (match M.own b with | some (.r k) => some (f k) | o => o) = M.own b
  split
  · rename_i k hk; exact absurd hk (h k)
  · rfl

theorem Mem.rekey_none {M : Mem} {f : Nat → Key} {b : Nat} (h : M.own b = none) : (M.rekey f).own b = none := by
  simp [Mem.rekey, h]

theorem Mem.rekey_noR {M : Mem} {f : Nat → Key} (hf : ∀ k j, f k ≠ .r j) : NoR (M.rekey f) := by
  intro b k
  simp only [Mem.rekey]
  split
  · simpa using hf _ _
  · rename_i h; exact fun e => h k e

theorem Mem.Wf.rekey {M : Mem} (h : M.Wf) (f : Nat → Key) : (M.rekey f).Wf where
  sdom := h.sdom
  odom b k hk := by
    simp only [Mem.rekey] at hk
    split at hk
    · rename_i j hj; exact h.odom b _ hj
    · exact h.odom b k hk
  gown id b hb := by
    rw [Mem.rekey_ne]
    · exact h.gown id b hb
    · intro k hk
      rcases h.gown id b hb with e | e <;> simp [e] at hk

theorem Evo.ghost {M M' : Mem} (hw : M'.w = M.w) (hS : ∀ b j, M.S b j → M'.S b j) (hG : ∀ id b, M.G id = some b → M'.G id = some b)
    (acq : ∀ b, M.own b = none → M'.own b = none) (snew : ∀ b j, M'.S b j → M.S b j ∨ M.own b ≠ none) : Evo M M' where
  grow := ⟨hS, hG, fun b j _ => by rw [hw]⟩
  size := by rw [hw]; exact Nat.le_refl _
  os := by rw [hw]
  tape := by rw [hw]
  output := by rw [hw]
  same b _ _ := by rw [hw]
  acq b _ h := acq b h
  snew b j h := (snew b j h).elim .inl fun h => .inr (.inr h)

theorem Mem.rekey_evo (M : Mem) (f : Nat → Key) : Evo M (M.rekey f) :=
  .ghost rfl (fun _ _ h => h) (fun _ _ h => h) (fun _ h => Mem.rekey_none h) (fun _ _ h => .inl h)

theorem Mem.rekey_pres {M : Mem} {f : Nat → Key} {b : Nat} {k : Key} (hb : M.own b = some k) (hk : ∀ j, k ≠ .r j) : Pres M (M.rekey f) b :=
  ⟨Mem.rekey_ne (by rw [hb]; intro j e; exact hk j (Option.some.inj e)), rfl, fun _ h => h⟩

theorem OwnArr.rekey {M : Mem} {f : Nat → Key} {k : Nat} {m : Bool} {s : Nat} {xs : List AV} {v : Value} (h : OwnArr M (.r k) m s xs v) : OwnArr (M.rekey f) (f k) m s xs v := by
  rcases h with h | ⟨hne, b, o, cap, hv, ho, h⟩
  · exact .inl h
  · exact .inr ⟨hne, b, o, cap, hv, Mem.rekey_r ho, h⟩

theorem Has.rekey {M : Mem} {f : Nat → Key} {k : Nat} {x : AV} {v : Value} (h : Has M (.r k) x v) : Has (M.rekey f) (f k) x v := by
  unfold Has at *
  split at h
  · exact OwnArr.rekey h
  · exact h

theorem TupRep.rekey {M : Mem} {f : Nat → Key} {vs : List AV} {v : Value} (h : TupRep M (fun k => .r (k + 1)) vs v) : TupRep (M.rekey f) (fun k => f (k + 1)) vs v := by
  obtain ⟨a, hv, hl, hx⟩ := h
  refine ⟨a, hv, hl, fun k x hk => ?_⟩
  obtain ⟨u, hu, hh⟩ := hx k x hk
  exact ⟨u, hu, hh.rekey⟩

theorem TRep.rekey {M : Mem} {vars : List AV} {store : List Obj} {vv : Nat → Value} {f : Nat → Key} {av : AV} {v : Value}
    (h : TRep M vars store vv Key.r av v) : TRep (M.rekey f) vars store vv f av v := by
  unfold TRep at *
  split at h
  · exact h.rekey
  · exact h
  · exact h
  · exact h
  · exact h
  · exact h
  · exact h.rekey

/-- More cells stay from now on. -/
def Mem.stay (M : Mem) (T : Cells) : Mem := { M with S := fun b j => M.S b j ∨ T b j }

theorem Mem.stay_evo {M : Mem} {T : Cells} (h : ∀ b j, T b j → M.own b ≠ none) : Evo M (M.stay T) :=
  .ghost rfl (fun _ _ h => .inl h) (fun _ _ h => h) (fun _ h => h) (fun b j hs => hs.elim .inl fun ht => .inr (h b j ht))

theorem Mem.Wf.stay {M : Mem} (h : M.Wf) {T : Cells} (ht : ∀ b j, T b j → (cellAt M.w b j).isSome = true) : (M.stay T).Wf :=
  ⟨fun b j hs => hs.elim (h.sdom b j) (ht b j), h.odom, h.gown⟩

theorem Room.cell {w : World} {b n j : Nat} (h : Room w b n) (hj : j < n) : (cellAt w b j).isSome = true := by
  obtain ⟨c, e, fr, hc, hn, _⟩ := h
  have : j < c.size := by omega
  simp [cellAt, World.cell?, hc, this]

/-- An array that only its place sees: from now on its elements stay. -/
theorem OwnArr.settle {M : Mem} {key : Key} {s : Nat} {xs : List AV} {v : Value} (wf : M.Wf) (h : OwnArr M key true s xs v) :
    ∃ M', M'.w = M.w ∧ M'.own = M.own ∧ M'.G = M.G ∧ Evo M M' ∧ M'.Wf ∧ OwnArr M' key false s xs v ∧ ∀ b, M.own b ≠ some key → ∀ j, M'.S b j → M.S b j := by
  rcases h with h | ⟨hne, b, o, cap, hv, ho, hc, hE, hR, ht, hf⟩
  · exact ⟨M, rfl, rfl, rfl, .refl M, wf, .inl h, fun _ _ _ h => h⟩
  · have hT : ∀ b' j, (b' = b ∧ o ≤ j ∧ j < o + xs.length * s) → M.own b' ≠ none := by rintro b' j ⟨rfl, _⟩; simp [ho]
    refine ⟨M.stay fun b' j => b' = b ∧ o ≤ j ∧ j < o + xs.length * s, rfl, rfl, rfl, Mem.stay_evo hT, wf.stay ?_, .inr ?_, ?_⟩
    · rintro b' j ⟨rfl, h1, h2⟩
      exact hR.cell (by have := Nat.mul_le_mul_right s hc; omega)
    · refine ⟨hne, b, o, cap, hv, ho, hc, Els.mono (Mem.stay_evo hT).grow xs o (fun _ _ => rfl) hE, hR, fun h => by simp at h, fun _ => ⟨fun j hj => .inr ⟨rfl, by omega, by omega⟩, fun j hj => ?_⟩⟩
      rintro (hs | ⟨_, _, h2⟩)
      · exact ht rfl j hs
      · omega
    · intro b' hb' j hs
      rcases hs with hs | ⟨rfl, _⟩
      · exact hs
      · exact absurd ho hb'

def chkDst (slots : List Nat) (n x : Nat) : Dst → Bool
  | .v i _ => slots[i]? == some x
  | .t y => y == x && !slots.contains x && decide (x < n)
  | .n => false

/-- A view that is no writer's is plain. -/
theorem TRep.of_plain {M : Mem} {slots : List Nat} {n : Nat} {st : St} {a : Act} (h : FR M slots n st a) {kt : Nat → Key} {i off vo s : Nat} {xs : List AV} {v : Value}
    (ht : TRep M st.vars st.store (vvOf slots n a) kt (.sl (.of i off vo false) s xs) v) : RepV M.S M.G M.w (.sl .none s xs) v := by
  have := unr_rep (i := i) (fun off m s ys v0 ho => ⟨_, h.owner_arr ho⟩) (by simp [refV]) ht kt st.vars st.store (vvOf slots n a)
  simpa [unr, TRep, Has] using this

theorem FR.gowner_arr {M : Mem} {slots : List Nat} {n : Nat} {st : St} {a : Act} (h : FR M slots n st a) {id off : Nat} {m : Bool} {s : Nat} {ys : List AV} {v0 : Value}
    (ho : GOwner M st.store id off m s ys v0) : OwnArr M (.g id off) m s ys v0 := by
  obtain ⟨cs, b, h1, h2, h3, h4⟩ := ho
  have hr := h.store.1 id _ h1
  simp only [ObjRep] at hr
  obtain ⟨b', hG, hb, hS, c, e, fr, hc, hlen, hf, hx⟩ := hr
  have : b = b' := by rw [h3] at hG; simpa using hG
  subst this
  obtain ⟨u, hu, h5, h6⟩ := hx off _ h2
  have : u = v0 := by
    simp only [cellAt, World.cell?, hc] at h4
    simp at h4
    rw [hu] at h4
    simpa using h4
  subst this
  exact h6

theorem view_plain {M : Mem} {key : Key} {s : Nat} {ys xs : List AV} {v0 v : Value} {vo : Nat} (hA : OwnArr M key false s ys v0) (hw : View s ys v0 vo xs v) :
    RepV M.S M.G M.w (.sl .none s xs) v := by
  simp only [RepV, Rep]
  rcases hw with ⟨h0, h1, h2⟩ | ⟨h1, h2⟩ | ⟨b, o, C, cap, h1, h2, h3, h4, h5, _⟩
  · subst h1 h2
    rcases hA with ⟨e1, e2⟩ | ⟨hne, b, o, cap, hv, hb, hc, hE, hR, ht, hf⟩
    · rcases e2 with e2 | ⟨b, o, e2⟩
      · exact .inl ⟨by rw [e2], e1⟩
      · subst e1; exact .inr ⟨b, o, 0, by rw [e2]; rfl, by simp, by simp, by simp [Els]⟩
    · exact .inr ⟨b, o, cap, by rw [hv], hc, (hf rfl).1, hE⟩
  · subst h1
    rcases h2 with h2 | ⟨b, o, cap, h2, _⟩
    · exact .inl ⟨by rw [h2], rfl⟩
    · exact .inr ⟨b, o, cap, by rw [h2]; rfl, by simp, by simp, by simp [Els]⟩
  · rcases hA with ⟨e1, e2⟩ | ⟨hne, b', o', cap', hv, hb, hc, hE, hR, ht, hf⟩
    · subst e1
      have hx : xs = [] := by rw [h3]; simp
      subst hx
      exact .inr ⟨b, o + vo * s, cap, by rw [h4], h5, by simp, by simp [Els]⟩
    · rw [hv] at h1
      simp only [Value.slice.injEq, Option.some.injEq, Addr.mk.injEq, and_true, true_and] at h1
      obtain ⟨⟨rfl, rfl⟩, rfl⟩ := h1
      refine .inr ⟨b', o' + vo * s, cap, by rw [h4], h5, fun j hj => ?_, ?_⟩
      · have := (hf rfl).1 (vo * s + j) (by
          have h6 : (vo + xs.length) * s ≤ ys.length * s := Nat.mul_le_mul_right s h2
          rw [Nat.add_mul] at h6; omega)
        rwa [← Nat.add_assoc] at this
      · rw [h3]
        exact Els.sub hE vo xs.length

theorem plain_trep {M : Mem} {vars : List AV} {store : List Obj} {vv : Nat → Value} {kt : Nat → Key} {av : AV} {v : Value} (hp : plain av = true)
    (h : TRep M vars store vv kt av v) : RepV M.S M.G M.w av v := by
  unfold plain at hp
  unfold TRep Has at h
  (repeat' split at h) <;> first
    | exact h
    | simp at hp

theorem rep_trep {M : Mem} {vars : List AV} {store : List Obj} {vv : Nat → Value} {kt : Nat → Key} {av : AV} {v : Value} (hp : plain av = true)
    (h : RepV M.S M.G M.w av v) : TRep M vars store vv kt av v := by
  unfold plain at hp
  unfold TRep Has
  (repeat' split) <;> first
    | exact h
    | simp at hp

theorem plain_vrep {M : Mem} {i : Nat} {av : AV} {v : Value} (hp : plain av = true) (h : RepV M.S M.G M.w av v) : VRep M i av v := by
  unfold plain at hp
  unfold VRep Has
  (repeat' split) <;> first
    | exact h
    | simp at hp

theorem full_own {M : Mem} {key : Key} {m : Bool} {s : Nat} {v : Value} (h : RepV M.S M.G M.w (.sl .full s []) v) : OwnArr M key m s [] v := by
  simp only [RepV, Rep] at h
  rcases h with ⟨h, _⟩ | ⟨b, o, h, _⟩
  · exact .inl ⟨rfl, .inl (by simpa using h)⟩
  · exact .inl ⟨rfl, .inr ⟨b, o, by simpa using h⟩⟩

/-- A variable is set to a value that is there already, in the memory as it is but for what is new. -/
theorem FR.setNew {M M' : Mem} {slots : List Nat} {n : Nat} {st : St} {a : Act} (h : FR M slots n st a) (e : Evo M M') (wf : M'.Wf) (hG : M'.G = M.G)
    {i x : Nat} (hi : slots[i]? = some x) (hw : M'.w = M.w)
    (hp : ∀ b k, M.own b = some k → (∀ j, k ≠ .r j) → M'.own b = M.own b ∧ ∀ j, M'.S b j → M.S b j) {av : AV} {v : Value} (hv : VRep M' i av v) :
    FR M' slots n (setV st i av) (a.put (some x) v) :=
  h.setVar e.grow wf (fun id b hb => by rw [← hG]; exact hb) hi (fun b k hb _ hk => ⟨(hp b k hb hk).1, by rw [hw], (hp b k hb hk).2⟩) hv
    (by rw [size_put, h.size]) (by rw [defers_put, h.defers]) (getD_put _ _ _ _ (by rw [h.size]; exact h.lt x (List.mem_of_getElem? hi)))
    (fun y hy => getD_put_ne _ _ _ (Ne.symm hy))

theorem put_sound {M : Mem} {slots : List Nat} {n : Nat} {st st' : St} {a : Act} (h : FR M slots n st a) {x : Nat} {d : Dst} (hd : chkDst slots n x d = true)
    {av : AV} {v : Value} (hv : TRep M st.vars st.store (vvOf slots n a) Key.r av v) (hp : put st d av = some st') :
    ∃ M', M'.w = M.w ∧ Evo M M' ∧ NoR M' ∧ FR M' slots n st' (a.put (some x) v) := by
  cases d with
  | n => simp [chkDst] at hd
  | t y =>
    simp only [chkDst, Bool.and_eq_true, beq_iff_eq, decide_eq_true_eq, Bool.not_eq_true', List.contains_eq_mem, decide_eq_false_iff_not] at hd
    obtain ⟨⟨rfl, hns⟩, hlt⟩ := hd
    simp only [put, Option.some.injEq] at hp
    subst hp
    refine ⟨M.rekey (Key.t y), rfl, M.rekey_evo _, Mem.rekey_noR (by simp), ?_⟩
    exact h.setTmp (M.rekey_evo _).grow (h.wf.rekey _) (fun _ _ h => h) hns (.inl hlt) (fun b k hb _ hk => Mem.rekey_pres hb hk) hv.rekey
      (by rw [size_put, h.size]) (by rw [defers_put, h.defers]) (getD_put _ _ _ _ (by rw [h.size]; exact hlt)) (fun z hz => getD_put_ne _ _ _ (Ne.symm hz))
  | v i m =>
    simp only [chkDst, beq_iff_eq] at hd
    have hK : ∀ b k, M.own b = some k → (∀ j, k ≠ .r j) → (M.rekey fun k => .v i k).own b = M.own b ∧ ∀ j, (M.rekey fun k => .v i k).S b j → M.S b j :=
      fun b k hb hk => ⟨(Mem.rekey_pres hb hk).own, fun _ h => h⟩
    have plainCase : ∀ {av' : AV} {st'' : St}, RepV M.S M.G M.w av' v → plain av' = true → setV st i av' = st'' →
        ∃ M', M'.w = M.w ∧ Evo M M' ∧ NoR M' ∧ FR M' slots n st'' (a.put (some x) v) := by
      intro av' st'' hr hpl he
      subst he
      exact ⟨M.rekey fun k => .v i k, rfl, M.rekey_evo _, Mem.rekey_noR (by simp), h.setNew (M.rekey_evo _) (h.wf.rekey _) rfl hd rfl hK (plain_vrep hpl hr)⟩
    unfold put at hp
    split at hp
    · rename_i heq; simp at heq
    · rename_i heq; simp at heq
    · rename_i j mj m' s xs heq
      simp only [Dst.v.injEq] at heq
      obtain ⟨rfl, rfl⟩ := heq
      simp only [Option.some.injEq] at hp
      subst hp
      have hA : OwnArr M (.r 0) m' s xs v := by simpa [TRep, Has] using hv
      have hA' := OwnArr.rekey (f := fun k => .v i k) hA
      cases m' with
      | false =>
        refine ⟨M.rekey fun k => .v i k, rfl, M.rekey_evo _, Mem.rekey_noR (by simp), h.setNew (M.rekey_evo _) (h.wf.rekey _) rfl hd rfl hK ?_⟩
        simpa [VRep, Has] using hA'
      | true =>
        cases m with
        | true =>
          refine ⟨M.rekey fun k => .v i k, rfl, M.rekey_evo _, Mem.rekey_noR (by simp), h.setNew (M.rekey_evo _) (h.wf.rekey _) rfl hd rfl hK ?_⟩
          simpa [VRep, Has] using hA'
        | false =>
          have hw1 : (M.rekey fun k => .r k).Wf := h.wf.rekey _
          obtain ⟨M2, e1, e2, e3, e4, e5, e6, e7⟩ := OwnArr.settle (h.wf) hA
          refine ⟨M2.rekey fun k => .v i k, e1, e4.trans (M2.rekey_evo _), Mem.rekey_noR (by simp), ?_⟩
          refine h.setNew (e4.trans (M2.rekey_evo _)) (e5.rekey _) e3 hd e1 (fun b k hb hk => ⟨?_, fun j hj => ?_⟩) ?_
          · rw [Mem.rekey_ne (by rw [e2, hb]; intro j e; exact hk j (Option.some.inj e)), e2]
          · exact e7 b (by rw [hb]; intro e; exact hk 0 (Option.some.inj e)) j hj
          · simpa [VRep, Has] using OwnArr.rekey (f := fun k => .v i k) e6
    · rename_i j mj oj off vo m' s xs heq
      simp only [Dst.v.injEq] at heq
      obtain ⟨rfl, rfl⟩ := heq
      cases m' with
      | true => simp at hp
      | false =>
        simp only [Bool.false_eq_true, if_false, Option.some.injEq] at hp
        exact plainCase (hv.of_plain h) rfl hp
    · rename_i j mj oj off vo m' s xs heq
      simp only [Dst.v.injEq] at heq
      obtain ⟨rfl, rfl⟩ := heq
      cases m' with
      | true => simp at hp
      | false =>
        simp only [Bool.false_eq_true, if_false, Option.some.injEq] at hp
        simp only [TRep] at hv
        obtain ⟨ys, v0, ho, hw⟩ := hv
        exact plainCase (view_plain (h.gowner_arr ho) hw) rfl hp
    · rename_i j mj s heq
      simp only [Dst.v.injEq] at heq
      obtain ⟨rfl, rfl⟩ := heq
      simp only [Option.some.injEq] at hp
      subst hp
      have hr : RepV M.S M.G M.w (.sl .full s []) v := by simpa [TRep, Has] using hv
      refine ⟨M.rekey fun k => .v i k, rfl, M.rekey_evo _, Mem.rekey_noR (by simp), h.setNew (M.rekey_evo _) (h.wf.rekey _) rfl hd rfl hK ?_⟩
      simp only [VRep, Has]
      exact full_own hr
    · rename_i j mj heq
      simp only [Dst.v.injEq] at heq
      obtain ⟨rfl, rfl⟩ := heq
      simp only [Option.some.injEq] at hp
      subst hp
      exact ⟨M.rekey fun k => .v i k, rfl, M.rekey_evo _, Mem.rekey_noR (by simp), h.setNew (M.rekey_evo _) (h.wf.rekey _) rfl hd rfl hK (by simp [VRep, Has, RepV])⟩
    · rename_i j mj heq h1 h2 h3 h4 h5
      simp only [Dst.v.injEq] at heq
      obtain ⟨rfl, rfl⟩ := heq
      split at hp
      · rename_i hpl
        simp only [Option.some.injEq] at hp
        exact plainCase (plain_trep hpl hv) hpl hp
      · simp at hp

end Go.VS
