/- What holds of an abstract value stays, where nothing that it reads changes. -/
import Derived.Test.YtpebcbnkalkikaaVsBase
namespace Go.VS

structure Grow (S : Cells) (G : Lay) (w : World) (S' : Cells) (G' : Lay) (w' : World) : Prop where
  sub : ∀ b j, S b j → S' b j
  lay : ∀ id b, G id = some b → G' id = some b
  keep : ∀ b j, S b j → cellAt w' b j = cellAt w b j

theorem Grow.refl (S : Cells) (G : Lay) (w : World) : Grow S G w S G w := ⟨fun _ _ h => h, fun _ _ h => h, fun _ _ _ => rfl⟩

theorem Grow.trans {S G w S' G' w' S'' G'' w''} (h : Grow S G w S' G' w') (k : Grow S' G' w' S'' G'' w'') : Grow S G w S'' G'' w'' :=
  ⟨fun b j x => k.sub b j (h.sub b j x), fun i b x => k.lay i b (h.lay i b x), fun b j x => (k.keep b j (h.sub b j x)).trans (h.keep b j x)⟩

theorem At.mono {w w' : World} {b : Nat} : ∀ {vs : List Value} {o : Nat}, (∀ j, j < vs.length → cellAt w' b (o + j) = cellAt w b (o + j)) → At w b o vs → At w' b o vs
  | [], _, _, _ => trivial
  | v :: vs, o, h, hA => by
    refine ⟨?_, At.mono (vs := vs) (o := o + 1) (fun j hj => ?_) hA.2⟩
    · have := h 0 (by simp); simp only [Nat.add_zero] at this; rw [this]; exact hA.1
    · have := h (j + 1) (by simp; omega); rw [show o + 1 + j = o + (j + 1) by omega]; exact this

section
variable {S : Cells} {G : Lay} {w : World} {S' : Cells} {G' : Lay} {w' : World}
mutual
theorem Rep.mono (g : Grow S G w S' G' w') : ∀ (x : AV) (vs : List Value), Rep S G w x vs → Rep S' G' w' x vs
  | .undef, _, h => by simpa only [Rep] using h
  | .bool _, _, h => by simpa only [Rep] using h
  | .int _ _, _, h => by simpa only [Rep] using h
  | .flt _ _, _, h => by simpa only [Rep] using h
  | .cpx _ _ _, _, h => by simpa only [Rep] using h
  | .str _, _, h => by simpa only [Rep] using h
  | .nilptr, _, h => by simpa only [Rep] using h
  | .ptr id off, _, h => by
    simp only [Rep] at h ⊢
    obtain ⟨b, hb, hv⟩ := h
    exact ⟨b, g.lay _ _ hb, hv⟩
  | .lptr _ _, _, h => by simp only [Rep] at h
  | .eptr .none s xs i off, _, h => by
    simp only [Rep] at h ⊢
    obtain ⟨b, o, hv, hi, hS, hE⟩ := h
    exact ⟨b, o, hv, hi, fun j hj => g.sub _ _ (hS j hj), Els.mono g xs o (fun j hj => g.keep _ _ (hS j hj)) hE⟩
  | .eptr .full _ _ _ _, _, h => by simp only [Rep] at h
  | .eptr (.own _) _ _ _ _, _, h => by simp only [Rep] at h
  | .eptr (.of _ _ _ _) _ _ _ _, _, h => by simp only [Rep] at h
  | .eptr (.ofg _ _ _ _) _ _ _ _, _, h => by simp only [Rep] at h
  | .sl .none s xs, _, h => by
    simp only [Rep] at h ⊢
    rcases h with h | ⟨b, o, cap, hv, hc, hS, hE⟩
    · exact .inl h
    · exact .inr ⟨b, o, cap, hv, hc, fun j hj => g.sub _ _ (hS j hj), Els.mono g xs o (fun j hj => g.keep _ _ (hS j hj)) hE⟩
  | .sl .full s xs, _, h => by
    simp only [Rep] at h ⊢
    rcases h with h | ⟨b, o, hv, hS, hE⟩
    · exact .inl h
    · exact .inr ⟨b, o, hv, fun j hj => g.sub _ _ (hS j hj), Els.mono g xs o (fun j hj => g.keep _ _ (hS j hj)) hE⟩
  | .sl (.own _) _ _, _, h => by simp only [Rep] at h
  | .sl (.of _ _ _ _) _ _, _, h => by simp only [Rep] at h
  | .sl (.ofg _ _ _ _) _ _, _, h => by simp only [Rep] at h
  | .lbox _, _, h => by simp only [Rep] at h
  | .map none, _, h => by simpa only [Rep] using h
  | .map (some id), _, h => by
    simp only [Rep] at h ⊢
    obtain ⟨b, hb, hv⟩ := h
    exact ⟨b, g.lay _ _ hb, hv⟩
  | .func f caps, _, h => by
    simp only [Rep] at h ⊢
    obtain ⟨c, hv, hr⟩ := h
    exact ⟨c, hv, Reps.mono g caps _ hr⟩
  | .nilfunc, _, h => by simpa only [Rep] using h
  | .seq f s xs, _, h => by
    simp only [Rep] at h ⊢
    obtain ⟨b, sv, hv, hS, hc, hr⟩ := h
    refine ⟨b, sv, hv, g.sub _ _ hS, by rw [g.keep _ _ hS]; exact hc, ?_⟩
    rcases hr with hr | ⟨b', o, cap, hv', hcap, hS', hE⟩
    · exact .inl hr
    · exact .inr ⟨b', o, cap, hv', hcap, fun j hj => g.sub _ _ (hS' j hj), Els.mono g xs o (fun j hj => g.keep _ _ (hS' j hj)) hE⟩
  | .iface t x, _, h => by
    simp only [Rep] at h ⊢
    obtain ⟨v, hv, h1, hr⟩ := h
    exact ⟨v, hv, h1, Rep.mono g x _ hr⟩
  | .nilif, _, h => by simpa only [Rep] using h
  | .agg cs, _, h => by
    simp only [Rep] at h ⊢
    exact Reps.mono g cs _ h
  | .tup _, _, h => by simp only [Rep] at h
theorem Reps.mono (g : Grow S G w S' G' w') : ∀ (cs : List AV) (vs : List Value), Reps S G w cs vs → Reps S' G' w' cs vs
  | [], _, h => by simpa only [Reps] using h
  | c :: cs, _, h => by
    simp only [Reps] at h ⊢
    obtain ⟨v, r, hv, h1, h0, hr, hs⟩ := h
    exact ⟨v, r, hv, h1, h0, Rep.mono g c _ hr, Reps.mono g cs _ hs⟩
theorem Els.mono (g : Grow S G w S' G' w') {b s : Nat} : ∀ (xs : List AV) (o : Nat), (∀ j, j < xs.length * s → cellAt w' b (o + j) = cellAt w b (o + j)) → Els S G w b s o xs → Els S' G' w' b s o xs
  | [], _, _, _ => by simp only [Els]
  | x :: xs, o, hS, h => by
    simp only [Els] at h ⊢
    obtain ⟨⟨vs, hl, hA, hr⟩, hE⟩ := h
    have hm : (x :: xs).length * s = xs.length * s + s := by simp [Nat.add_mul]
    refine ⟨⟨vs, hl, hA.mono (fun j hj => hS j (by omega)), Rep.mono g x vs hr⟩, Els.mono g xs (o + s) (fun j hj => ?_) hE⟩
    have := hS (s + j) (by omega)
    rwa [← Nat.add_assoc] at this
end

theorem RepV.mono (g : Grow S G w S' G' w') {x : AV} {v : Value} (h : RepV S G w x v) : RepV S' G' w' x v := by
  cases x
  case undef => trivial
  case agg cs => obtain ⟨vs, hv, hr⟩ := h; exact ⟨vs, hv, Reps.mono g cs _ hr⟩
  all_goals exact Rep.mono g _ _ h
end

section
variable {S : Cells} {G : Lay} {w : World}
theorem Els.drop {b s : Nat} : ∀ {xs : List AV} {o : Nat}, Els S G w b s o xs → ∀ k, Els S G w b s (o + k * s) (xs.drop k)
  | xs, o, h, 0 => by simpa using h
  | [], o, h, k + 1 => by simp [Els]
  | x :: xs, o, h, k + 1 => by
    simp only [Els] at h
    have := Els.drop h.2 k
    rw [show o + (k + 1) * s = o + s + k * s by rw [Nat.add_mul]; omega]
    simpa using this
theorem Els.take {b s : Nat} : ∀ {xs : List AV} {o : Nat}, Els S G w b s o xs → ∀ k, Els S G w b s o (xs.take k)
  | xs, o, h, 0 => by simp [Els]
  | [], o, h, k + 1 => by simp [Els]
  | x :: xs, o, h, k + 1 => by
    simp only [Els, List.take_succ_cons] at h ⊢
    exact ⟨h.1, Els.take h.2 k⟩
theorem Els.sub {b s : Nat} {xs : List AV} {o : Nat} (h : Els S G w b s o xs) (k n : Nat) : Els S G w b s (o + k * s) ((xs.drop k).take n) :=
  (h.drop k).take n
theorem Els.append {b s : Nat} : ∀ {xs ys : List AV} {o : Nat}, Els S G w b s o xs → Els S G w b s (o + xs.length * s) ys → Els S G w b s o (xs ++ ys)
  | [], ys, o, _, h => by simpa using h
  | x :: xs, ys, o, h, k => by
    simp only [Els, List.cons_append] at h ⊢
    refine ⟨h.1, Els.append h.2 ?_⟩
    rw [show o + s + xs.length * s = o + (x :: xs).length * s by simp [Nat.add_mul]; omega]
    exact k
theorem Els.get {b s : Nat} {xs : List AV} {o : Nat} (h : Els S G w b s o xs) {k : Nat} {x : AV} (hk : xs[k]? = some x) :
    ∃ vs, vs.length = s ∧ At w b (o + k * s) vs ∧ Rep S G w x vs := by
  have := h.drop k
  obtain ⟨hl, he⟩ := List.getElem?_eq_some_iff.1 hk
  rw [List.drop_eq_getElem_cons hl, he] at this
  simp only [Els] at this
  exact this.1
theorem At.get {b : Nat} : ∀ {vs : List Value} {o : Nat}, At w b o vs → ∀ {k : Nat} {v : Value}, vs[k]? = some v → cellAt w b (o + k) = some v
  | [], _, _, _, _, h => by simp at h
  | u :: vs, o, h, 0, v, e => by simp at e; subst e; exact h.1
  | u :: vs, o, h, k + 1, v, e => by
    simp at e
    have := At.get h.2 e
    rwa [show o + 1 + k = o + (k + 1) by omega] at this
end

end Go.VS
