/- Operands are read; handed on. -/
import Derived.Test.YtpebcbnkalkikaaVsPut
set_option linter.unusedVariables false
namespace Go.VS

def constOk : Value → AV → Bool
  | .bool b, .bool c => b == c
  | .int k n, .int j m => k == j && n == m
  | .float k b, .flt j c => k == j && b == c
  | .complex k a b, .cpx j c d => k == j && a == c && b == d
  | .string s, .str l => s.data.toList == l
  | .pointer none, .nilptr => true
  | .slice none 0 0, .sl .full _ [] => true
  | .map none, .map none => true
  | .nilFunc, .nilfunc => true
  | .nilIface, .nilif => true
  | _, _ => false

theorem constOk_rep {S : Cells} {G : Lay} {w : World} {v : Value} {a : AV} (h : constOk v a = true) : RepV S G w a v ∧ plain a = true := by
  unfold constOk at h
  split at h <;> simp_all [RepV, Rep, plain]
  rename_i s l
  subst h
  rfl

def chkRef (slots : List Nat) : Operand → Ref → Bool
  | .tmp x, .v i => slots[i]? == some x
  | .tmp x, .t y => x == y && !slots.contains x
  | .const v, .c a => constOk v a
  | .func f, .c (.func g []) => f == g
  | _, _ => false

section
variable {M : Mem} {slots : List Nat} {n : Nat} {st : St} {a : Act}

theorem FR.var (h : FR M slots n st a) {i x : Nat} (hx : slots[i]? = some x) : ∃ av, st.vars[i]? = some av ∧ VRep M i av (a.tmps.getD x undef) ∧ vvOf slots n a i = a.tmps.getD x undef := by
  have hil : i < slots.length := (List.getElem?_eq_some_iff.1 hx).1
  have hiv : i < st.vars.length := by rw [h.len]; exact hil
  refine ⟨st.vars[i], List.getElem?_eq_getElem hiv, h.vars i x _ hx (List.getElem?_eq_getElem hiv), ?_⟩
  simp [vvOf, List.getD_eq_getElem?_getD, hx]

theorem view_trep (h : FR M slots n st a) {i x : Nat} (hx : slots[i]? = some x) {av : AV} (hav : st.vars[i]? = some av) (kt : Nat → Key) :
    TRep M st.vars st.store (vvOf slots n a) kt (view i av) (a.tmps.getD x undef) := by
  obtain ⟨av', h1, h2, h3⟩ := h.var hx
  rw [hav] at h1
  simp only [Option.some.injEq] at h1
  subst h1
  clear hx
  generalize a.tmps.getD x undef = v at *
  cases av with
  | sl o s xs =>
    cases o with
    | own m => exact ⟨xs, _, .inl ⟨rfl, hav, rfl⟩, .inl ⟨rfl, rfl, h3.symm⟩⟩
    | none => exact h2
    | full => exact h2
    | of i off vo m => exact absurd h2 (by simp [VRep, Has, RepV, Rep])
    | ofg i off vo m => exact absurd h2 (by simp [VRep, Has, RepV, Rep])
  | lbox cs =>
    simp only [VRep, LBox] at h2
    obtain ⟨b, hb, _⟩ := h2
    exact ⟨b, cs, hav, by rw [h3]; exact hb, hb⟩
  | eptr o s xs k off =>
    cases o with
    | none => exact h2
    | _ => exact absurd h2 (by simp [VRep, Has, RepV, Rep])
  | lptr i off => exact absurd h2 (by simp [VRep, Has, RepV, Rep])
  | tup vs => exact absurd h2 (by simp [VRep, Has, RepV, Rep])
  | _ => exact h2

theorem rd_trep (h : FR M slots n st a) {o : Operand} {r : Ref} (hc : chkRef slots o r = true) :
    ∃ kt, TRep M st.vars st.store (vvOf slots n a) kt (rd st r) (a.eval o) := by
  unfold chkRef at hc
  split at hc
  · rename_i x i
    simp only [beq_iff_eq] at hc
    obtain ⟨av, h1, _⟩ := h.var hc
    refine ⟨Key.r, ?_⟩
    simp only [rd, Act.eval, List.getD_eq_getElem?_getD, h1, Option.getD_some]
    exact view_trep h hc h1 _
  · rename_i x y
    simp only [Bool.and_eq_true, beq_iff_eq, Bool.not_eq_true', List.contains_eq_mem, decide_eq_false_iff_not] at hc
    obtain ⟨rfl, hns⟩ := hc
    exact ⟨Key.t x, h.tmps x hns⟩
  · have := constOk_rep (S := M.S) (G := M.G) (w := M.w) hc
    exact ⟨Key.r, rep_trep this.2 this.1⟩
  · rename_i f g
    simp only [beq_iff_eq] at hc
    subst hc
    refine ⟨Key.r, ?_⟩
    simp [rd, Act.eval, TRep, Has, RepV, Rep, Reps]
  · simp at hc

/-- What can be read of a slice, however it stands to its array. -/
def SlC (M : Mem) (s : Nat) (xs : List AV) (v : Value) : Prop :=
  (xs = [] ∧ v = .slice none 0 0) ∨ ∃ b o cap, v = .slice (some ⟨b, o, none⟩) xs.length cap ∧ xs.length ≤ cap ∧ Els M.S M.G M.w b s o xs

theorem OwnArr.content {key : Key} {m : Bool} {s : Nat} {xs : List AV} {v : Value} (h : OwnArr M key m s xs v) : SlC M s xs v := by
  rcases h with ⟨e1, e2⟩ | ⟨hne, b, o, cap, hv, hb, hc, hE, hR, ht, hf⟩
  · rcases e2 with e2 | ⟨b, o, e2⟩
    · exact .inl ⟨e1, e2⟩
    · subst e1; exact .inr ⟨b, o, 0, by rw [e2]; rfl, by simp, by simp [Els]⟩
  · exact .inr ⟨b, o, cap, hv, hc, hE⟩

theorem View.content {key : Key} {m : Bool} {s : Nat} {ys xs : List AV} {v0 v : Value} {vo : Nat} (hA : OwnArr M key m s ys v0) (hw : View s ys v0 vo xs v) : SlC M s xs v := by
  rcases hw with ⟨h0, h1, h2⟩ | ⟨h1, h2⟩ | ⟨b, o, C, cap, h1, h2, h3, h4, h5, _⟩
  · subst h1 h2; exact hA.content
  · subst h1
    rcases h2 with h2 | ⟨b, o, cap, h2, _⟩
    · exact .inl ⟨rfl, h2⟩
    · exact .inr ⟨b, o, cap, by rw [h2]; rfl, by simp, by simp [Els]⟩
  · rcases hA with ⟨e1, e2⟩ | ⟨hne, b', o', cap', hv, hb, hc, hE, hR, ht, hf⟩
    · subst e1
      have hx : xs = [] := by rw [h3]; simp
      subst hx
      exact .inr ⟨b, o + vo * s, cap, by rw [h4], h5, by simp [Els]⟩
    · rw [hv] at h1
      simp only [Value.slice.injEq, Option.some.injEq, Addr.mk.injEq, and_true, true_and] at h1
      obtain ⟨⟨rfl, rfl⟩, rfl⟩ := h1
      refine .inr ⟨b', o' + vo * s, cap, by rw [h4], h5, ?_⟩
      rw [h3]
      exact Els.sub hE vo xs.length

theorem rep_content {s : Nat} {xs : List AV} {v : Value} (h : RepV M.S M.G M.w (.sl .none s xs) v) : SlC M s xs v := by
  simp only [RepV, Rep, List.cons.injEq, and_true] at h
  rcases h with ⟨h1, h2⟩ | ⟨b, o, cap, h1, h2, h3, h4⟩
  · exact .inl ⟨h2, h1⟩
  · exact .inr ⟨b, o, cap, h1, h2, h4⟩

theorem rep_content_full {s : Nat} {xs : List AV} {v : Value} (h : RepV M.S M.G M.w (.sl .full s xs) v) : SlC M s xs v ∧ RepV M.S M.G M.w (.sl .none s xs) v := by
  simp only [RepV, Rep, List.cons.injEq, and_true] at h ⊢
  rcases h with ⟨h1, h2⟩ | ⟨b, o, h1, h3, h4⟩
  · exact ⟨.inl ⟨h2, h1⟩, .inl ⟨h1, h2⟩⟩
  · exact ⟨.inr ⟨b, o, _, h1, Nat.le_refl _, h4⟩, .inr ⟨b, o, _, h1, Nat.le_refl _, h3, h4⟩⟩

theorem sl_content (h : FR M slots n st a) {kt : Nat → Key} {ow : Own} {s : Nat} {xs : List AV} {v : Value}
    (ht : TRep M st.vars st.store (vvOf slots n a) kt (.sl ow s xs) v) : SlC M s xs v := by
  cases ow with
  | none => exact rep_content (by simpa [TRep, Has] using ht)
  | full => exact (rep_content_full (by simpa [TRep, Has] using ht)).1
  | own m => exact OwnArr.content (key := kt 0) (m := m) (by simpa [TRep, Has] using ht)
  | of i off vo m =>
    simp only [TRep] at ht
    obtain ⟨ys, v0, ho, hw⟩ := ht
    exact hw.content (h.owner_arr ho)
  | ofg id off vo m =>
    simp only [TRep] at ht
    obtain ⟨ys, v0, ho, hw⟩ := ht
    exact hw.content (h.gowner_arr ho)

/-- A temporary is told otherwise, in the same memory or one in which what it owned stands otherwise. -/
theorem FR.tell {M' : Mem} (h : FR M slots n st a) (g : Grow M.S M.G M.w M'.S M'.G M'.w) (wf : M'.Wf) (hG : ∀ id b, M'.G id = some b → M.G id = some b) {x : Nat}
    (hp : ∀ b k, M.own b = some k → ¬ k.ofTmp x → (∀ j, k ≠ .r j) → Pres M M' b) {av : AV}
    (hv : x ∉ slots → TRep M' st.vars st.store (vvOf slots n a) (Key.t x) av (a.tmps.getD x undef)) : FR M' slots n (kill st x av) a := by
  by_cases hxs : x ∈ slots
  · have hpx : ∀ b k, M.own b = some k → ¬ k.ofTmp x → (∀ j, k ≠ .r j) → Pres M M' b := hp
    refine { wf := wf, size := h.size, defers := h.defers, len := h.len, nodup := h.nodup, lt := h.lt, vars := ?_, tmps := ?_, store := ?_ }
    · intro j y av' hj hav
      exact (h.vars j y av' hj hav).pres g (fun b k hb hk => hp b k hb (by cases k <;> simp_all [Key.ofVar, Key.ofTmp]) (by cases k <;> simp_all [Key.ofVar]))
    · intro y hy
      have hyx : y ≠ x := fun e => hy (e ▸ hxs)
      simp only [kill, look, if_neg hyx]
      refine (h.tmps y hy).move g (fun b k hb => hp b _ hb (by simp [Key.ofTmp]; exact hyx) (by simp)) (fun j hj => ?_) (fun id hid => ?_)
      · exact ⟨rfl, rfl, fun b hb ⟨cs, hc⟩ o => h.boxCell hc (fun b hb => hp b _ hb (by simp [Key.ofTmp]) (by simp)) hb o⟩
      · exact ⟨rfl, fun b hb ⟨cs, hc⟩ o => h.objCell hc (fun b hb => hp b _ hb (by simp [Key.ofTmp]) (by simp)) hb o⟩
    · exact h.store.pres g hG (fun b k hb hk => hp b k hb (by cases k <;> simp_all [Key.ofTmp, Key.isG]) (by cases k <;> simp_all [Key.isG]))
  · exact h.setTmp g wf hG hxs (.inr rfl) hp (hv hxs) h.size h.defers rfl (fun y _ => rfl)

/-- What an operand's being handed on comes to. -/
structure Handed (M : Mem) (slots : List Nat) (n : Nat) (st' : St) (a : Act) (M' : Mem) : Prop where
  w : M'.w = M.w
  evo : Evo M M'
  noR : NoR M → NoR M'
  fr : FR M' slots n st' a
  own : ∀ b k, M.own b = some (.r k) → M'.own b = some (.r k)

theorem Handed.refl (h : FR M slots n st a) : Handed M slots n st a M := ⟨rfl, .refl M, id, h, fun _ _ h => h⟩

theorem own_none {key : Key} {s : Nat} {xs : List AV} {v : Value} (h : OwnArr M key false s xs v) : RepV M.S M.G M.w (.sl .none s xs) v :=
  view_plain h (.inl ⟨rfl, rfl, rfl⟩)

theorem pers_sound (h : FR M slots n st a) {o : Operand} {r : Ref} (hc : chkRef slots o r = true) {x : AV} {st' : St} (hp : pers st r = some (x, st')) :
    ∃ M', Handed M slots n st' a M' ∧ RepV M'.S M'.G M'.w x (a.eval o) ∧ plain x = true ∧ st'.store = st.store := by
  obtain ⟨kt, ht⟩ := rd_trep h hc
  have plainCase : ∀ {av : AV}, TRep M st.vars st.store (vvOf slots n a) kt av (a.eval o) → plain av = true → (av, st) = (x, st') →
      ∃ M', Handed M slots n st' a M' ∧ RepV M'.S M'.G M'.w x (a.eval o) ∧ plain x = true ∧ st'.store = st.store := by
    intro av hr hpl e
    simp only [Prod.mk.injEq] at e
    obtain ⟨rfl, rfl⟩ := e
    exact ⟨M, Handed.refl h, plain_trep hpl hr, hpl, rfl⟩
  have ofCase : ∀ {i off vo s : Nat} {xs : List AV} {m : Bool}, TRep M st.vars st.store (vvOf slots n a) kt (.sl (.of i off vo m) s xs) (a.eval o) →
      (if m = true then none else some (AV.sl .none s xs, st)) = some (x, st') →
      ∃ M', Handed M slots n st' a M' ∧ RepV M'.S M'.G M'.w x (a.eval o) ∧ plain x = true ∧ st'.store = st.store := by
    intro i off vo s xs m hr e
    cases m with
    | true => simp at e
    | false =>
      simp only [Bool.false_eq_true, if_false, Option.some.injEq, Prod.mk.injEq] at e
      obtain ⟨rfl, rfl⟩ := e
      exact ⟨M, Handed.refl h, hr.of_plain h, rfl, rfl⟩
  unfold pers at hp
  split at hp
  · rename_i t
    obtain ⟨x', hx'⟩ : ∃ x', o = .tmp x' ∧ x' = t := by
      unfold chkRef at hc
      split at hc <;> simp_all
    obtain ⟨rfl, rfl⟩ := hx'
    simp only [rd] at ht
    split at hp
    · rename_i m s xs hl
      rw [hl] at ht
      simp only [Option.some.injEq, Prod.mk.injEq] at hp
      obtain ⟨rfl, rfl⟩ := hp
      by_cases hns : x' ∈ slots
      · exfalso
        simp [chkRef] at hc
        exact hc hns
      · have hA : OwnArr M (.t x' 0) m s xs (a.eval (.tmp x')) := by
          have := h.tmps x' hns
          rw [hl] at this
          exact this
        have key : ∃ M', M'.w = M.w ∧ M'.own = M.own ∧ M'.G = M.G ∧ Evo M M' ∧ M'.Wf ∧ OwnArr M' (.t x' 0) false s xs (a.eval (.tmp x')) ∧ ∀ b, M.own b ≠ some (.t x' 0) → ∀ j, M'.S b j → M.S b j := by
          cases m with
          | true => exact hA.settle h.wf
          | false => exact ⟨M, rfl, rfl, rfl, .refl M, h.wf, hA, fun _ _ _ h => h⟩
        obtain ⟨M', e1, e2, e3, e4, e5, e6, e7⟩ := key
        refine ⟨M', ⟨e1, e4, fun hn b k => by rw [e2]; exact hn b k, ?_, fun b k hb => by rw [e2]; exact hb⟩, own_none e6, rfl, rfl⟩
        refine h.tell e4.grow e5 (fun id b hb => by rw [← e3]; exact hb) (fun b k hb hk _ => ⟨by rw [e2], by rw [e1], fun j hj => e7 b ?_ j hj⟩) (fun _ => ?_)
        · rw [hb]; intro e; simp only [Option.some.injEq] at e; subst e; exact hk rfl
        · exact rep_trep rfl (own_none e6)
    · rename_i i off vo m s xs hl
      rw [hl] at ht
      exact ofCase ht hp
    · rename_i id off vo m s xs hl
      rw [hl] at ht
      cases m with
      | true => simp at hp
      | false =>
        simp only [Bool.false_eq_true, if_false, Option.some.injEq, Prod.mk.injEq] at hp
        obtain ⟨rfl, rfl⟩ := hp
        simp only [TRep] at ht
        obtain ⟨ys, v0, ho, hw⟩ := ht
        exact ⟨M, Handed.refl h, view_plain (h.gowner_arr ho) hw, rfl, rfl⟩
    · split at hp
      · rename_i hpl
        simp only [Option.some.injEq] at hp
        exact plainCase ht hpl hp
      · simp at hp
  · split at hp
    · rename_i i off vo m s xs hl
      rw [hl] at ht
      exact ofCase ht hp
    · split at hp
      · rename_i hpl
        simp only [Option.some.injEq] at hp
        exact plainCase ht hpl hp
      · simp at hp

theorem Handed.trans {M' M'' : Mem} {st' st'' : St} (h : Handed M slots n st' a M') (k : Handed M' slots n st'' a M'') : Handed M slots n st'' a M'' :=
  ⟨k.w.trans h.w, h.evo.trans k.evo, fun x => k.noR (h.noR x), k.fr, fun b j hb => k.own b j (h.own b j hb)⟩

def chkRefs (slots : List Nat) : List Operand → List Ref → Bool
  | [], [] => true
  | o :: os, r :: rs => chkRef slots o r && chkRefs slots os rs
  | _, _ => false

/-- Values, one by one. -/
def RepVs (M : Mem) : List AV → List Value → Prop
  | [], vs => vs = []
  | x :: xs, vs => ∃ v r, vs = v :: r ∧ RepV M.S M.G M.w x v ∧ RepVs M xs r

theorem RepVs.mono {M' : Mem} (g : Grow M.S M.G M.w M'.S M'.G M'.w) : ∀ {xs : List AV} {vs : List Value}, RepVs M xs vs → RepVs M' xs vs
  | [], _, h => h
  | x :: xs, _, ⟨v, r, e, h, k⟩ => ⟨v, r, e, RepV.mono g h, k.mono g⟩

theorem persL_sound : ∀ {os : List Operand} {rs : List Ref} {M : Mem} {st : St}, FR M slots n st a → chkRefs slots os rs = true → ∀ {xs : List AV} {st' : St}, persL st rs = some (xs, st') →
    ∃ M', Handed M slots n st' a M' ∧ RepVs M' xs (os.map a.eval) ∧ (∀ x ∈ xs, plain x = true) ∧ st'.store = st.store
  | [], [], M, st, h, _, xs, st', hp => by
    simp only [persL, Option.some.injEq, Prod.mk.injEq] at hp
    obtain ⟨rfl, rfl⟩ := hp
    exact ⟨M, Handed.refl h, rfl, by simp, rfl⟩
  | o :: os, r :: rs, M, st, h, hc, xs, st', hp => by
    simp only [chkRefs, Bool.and_eq_true] at hc
    simp only [persL] at hp
    split at hp
    · rename_i x st1 h1
      split at hp
      · rename_i ys st2 h2
        simp only [Option.some.injEq, Prod.mk.injEq] at hp
        obtain ⟨rfl, rfl⟩ := hp
        obtain ⟨M1, k1, r1, p1, s1⟩ := pers_sound h hc.1 h1
        obtain ⟨M2, k2, r2, p2, s2⟩ := persL_sound k1.fr hc.2 h2
        exact ⟨M2, k1.trans k2, ⟨_, _, rfl, RepV.mono k2.evo.grow r1, r2⟩, by simpa using ⟨p1, p2⟩, s2.trans s1⟩
      · simp at hp
    · simp at hp
  | [], _ :: _, _, _, _, hc, _, _, _ => by simp [chkRefs] at hc
  | _ :: _, [], _, _, _, hc, _, _, _ => by simp [chkRefs] at hc
end

end Go.VS
