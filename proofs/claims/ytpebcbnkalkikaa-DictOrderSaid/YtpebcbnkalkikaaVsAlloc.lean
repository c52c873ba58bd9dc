/- New blocks. -/
import Derived.Test.YtpebcbnkalkikaaVsOp4
import Derived.Deep.AppendSrc
import Derived.Laws.MakeOwn
import Derived.Laws.Tables
set_option linter.unusedVariables false
namespace Go.VS

section
variable {S : Cells} {G : Lay} {w : World}
/-- The cells of elements of s cells each. -/
def Flat (S : Cells) (G : Lay) (w : World) (s : Nat) : List AV → List Value → Prop
  | [], vs => vs = []
  | x :: xs, vs => ∃ u r, vs = u ++ r ∧ u.length = s ∧ (∀ c ∈ u, c.oneCell' = true) ∧ Rep S G w x u ∧ Flat S G w s xs r

theorem Flat.length {s : Nat} : ∀ {xs : List AV} {vs : List Value}, Flat S G w s xs vs → vs.length = xs.length * s
  | [], _, h => by simp only [Flat] at h; subst h; simp
  | x :: xs, _, h => by
    obtain ⟨u, r, rfl, h1, _, _, hr⟩ := h
    simp [hr.length, h1, Nat.add_mul]
    omega

theorem Flat.one {s : Nat} : ∀ {xs : List AV} {vs : List Value}, Flat S G w s xs vs → ∀ c ∈ vs, c.oneCell' = true
  | [], _, h => by simp only [Flat] at h; subst h; simp
  | x :: xs, _, h => by
    obtain ⟨u, r, rfl, h1, h2, _, hr⟩ := h
    intro c hc
    rcases List.mem_append.1 hc with hc | hc
    · exact h2 c hc
    · exact hr.one c hc

theorem Flat.append {s : Nat} : ∀ {xs ys : List AV} {us vs : List Value}, Flat S G w s xs us → Flat S G w s ys vs → Flat S G w s (xs ++ ys) (us ++ vs)
  | [], ys, us, vs, h, k => by simp only [Flat] at h; subst h; simpa using k
  | x :: xs, ys, us, vs, h, k => by
    obtain ⟨u, r, rfl, h1, h2, h3, hr⟩ := h
    exact ⟨u, r ++ vs, by simp, h1, h2, h3, hr.append k⟩

theorem Flat.mono {S' : Cells} {G' : Lay} {w' : World} (g : Grow S G w S' G' w') {s : Nat} : ∀ {xs : List AV} {vs : List Value}, Flat S G w s xs vs → Flat S' G' w' s xs vs
  | [], _, h => h
  | x :: xs, _, ⟨u, r, e, h1, h2, h3, hr⟩ => ⟨u, r, e, h1, h2, Rep.mono g x u h3, hr.mono g⟩

theorem At.append {b : Nat} : ∀ {us vs : List Value} {o : Nat}, At w b o us → At w b (o + us.length) vs → At w b o (us ++ vs)
  | [], vs, o, _, h => by simpa using h
  | u :: us, vs, o, h, k => ⟨h.1, At.append h.2 (by simpa [Nat.add_assoc, Nat.add_comm 1] using k)⟩

theorem At.left {b : Nat} : ∀ {us vs : List Value} {o : Nat}, At w b o (us ++ vs) → At w b o us
  | [], _, _, _ => trivial
  | u :: us, vs, o, h => ⟨h.1, At.left h.2⟩

theorem At.right {b : Nat} : ∀ {us vs : List Value} {o : Nat}, At w b o (us ++ vs) → At w b (o + us.length) vs
  | [], _, _, h => by simpa using h
  | u :: us, vs, o, h => by
    have := At.right (us := us) h.2
    simpa [Nat.add_assoc, Nat.add_comm 1] using this

theorem Flat.els {s b : Nat} : ∀ {xs : List AV} {vs : List Value} {o : Nat}, Flat S G w s xs vs → At w b o vs → Els S G w b s o xs
  | [], _, _, _, _ => by simp [Els]
  | x :: xs, _, o, h, hA => by
    obtain ⟨u, r, rfl, h1, h2, h3, hr⟩ := h
    simp only [Els]
    refine ⟨⟨u, h1, hA.left, h3⟩, hr.els ?_⟩
    have := hA.right
    rwa [h1] at this

mutual
theorem Rep.ones : ∀ (x : AV) (u : List Value), Rep S G w x u → ∀ c ∈ u, c.oneCell' = true
  | .undef, _, h => by simpa only [Rep] using h
  | .bool _, _, h => by simp only [Rep] at h; subst h; simp [Value.oneCell']
  | .int _ _, _, h => by simp only [Rep] at h; subst h; simp [Value.oneCell']
  | .flt _ _, _, h => by simp only [Rep] at h; subst h; simp [Value.oneCell']
  | .cpx _ _ _, _, h => by simp only [Rep] at h; subst h; simp [Value.oneCell']
  | .str _, _, h => by simp only [Rep] at h; subst h; simp [Value.oneCell']
  | .nilptr, _, h => by simp only [Rep] at h; subst h; simp [Value.oneCell']
  | .ptr id off, _, h => by simp only [Rep] at h; obtain ⟨b, _, rfl⟩ := h; simp [Value.oneCell']
  | .lptr _ _, _, h => by simp only [Rep] at h
  | .eptr .none s xs i off, _, h => by simp only [Rep] at h; obtain ⟨b, o, rfl, _⟩ := h; simp [Value.oneCell']
  | .eptr .full _ _ _ _, _, h => by simp only [Rep] at h
  | .eptr (.own _) _ _ _ _, _, h => by simp only [Rep] at h
  | .eptr (.of _ _ _ _) _ _ _ _, _, h => by simp only [Rep] at h
  | .eptr (.ofg _ _ _ _) _ _ _ _, _, h => by simp only [Rep] at h
  | .sl .none s xs, _, h => by
    simp only [Rep] at h
    rcases h with ⟨rfl, _⟩ | ⟨b, o, cap, rfl, _⟩ <;> simp [Value.oneCell']
  | .sl .full s xs, _, h => by
    simp only [Rep] at h
    rcases h with ⟨rfl, _⟩ | ⟨b, o, rfl, _⟩ <;> simp [Value.oneCell']
  | .sl (.own _) _ _, _, h => by simp only [Rep] at h
  | .sl (.of _ _ _ _) _ _, _, h => by simp only [Rep] at h
  | .sl (.ofg _ _ _ _) _ _, _, h => by simp only [Rep] at h
  | .lbox _, _, h => by simp only [Rep] at h
  | .map none, _, h => by simp only [Rep] at h; subst h; simp [Value.oneCell']
  | .map (some id), _, h => by simp only [Rep] at h; obtain ⟨b, _, rfl⟩ := h; simp [Value.oneCell']
  | .func f caps, _, h => by simp only [Rep] at h; obtain ⟨c, rfl, _⟩ := h; simp [Value.oneCell']
  | .nilfunc, _, h => by simp only [Rep] at h; subst h; simp [Value.oneCell']
  | .seq f s xs, _, h => by simp only [Rep] at h; obtain ⟨b, sv, rfl, _⟩ := h; simp [Value.oneCell']
  | .iface t x, _, h => by simp only [Rep] at h; obtain ⟨v, rfl, _⟩ := h; simp [Value.oneCell']
  | .nilif, _, h => by simp only [Rep] at h; subst h; simp [Value.oneCell']
  | .agg cs, _, h => by simp only [Rep] at h; exact Reps.ones cs _ h
  | .tup _, _, h => by simp only [Rep] at h
theorem Reps.ones : ∀ (cs : List AV) (u : List Value), Reps S G w cs u → ∀ c ∈ u, c.oneCell' = true
  | [], _, h => by simp only [Reps] at h; subst h; simp
  | c :: cs, _, h => by
    simp only [Reps] at h
    obtain ⟨v, r, rfl, _, _, h2, h3⟩ := h
    intro d hd
    rcases List.mem_cons.1 hd with rfl | hd
    · exact Rep.ones c _ h2 _ (by simp)
    · exact Reps.ones cs _ h3 d hd
end

theorem Els.flat {b s : Nat} : ∀ {xs : List AV} {o : Nat}, Els S G w b s o xs → ∃ vs, Flat S G w s xs vs ∧ At w b o vs
  | [], o, _ => ⟨[], rfl, trivial⟩
  | x :: xs, o, h => by
    simp only [Els] at h
    obtain ⟨⟨u, h1, hA, h3⟩, hE⟩ := h
    obtain ⟨r, hr, hAr⟩ := Els.flat hE
    exact ⟨u ++ r, ⟨u, r, rfl, h1, Rep.ones x u h3, h3, hr⟩, hA.append (by rw [h1]; exact hAr)⟩

theorem at_of_block {b : Nat} {c : Array Value} {e : TypeId} {fr : Nat × Nat} (h : w.heap[b]? = some (.cells c e fr)) : ∀ (vs : List Value) (o : Nat), (∀ j v, vs[j]? = some v → c[o + j]? = some v) → At w b o vs
  | [], _, _ => trivial
  | v :: vs, o, hj => by
    refine ⟨?_, at_of_block h vs (o + 1) (fun j u hu => ?_)⟩
    · have := hj 0 v (by simp)
      simp [cellAt, World.cell?, h]
      simpa using this
    · have := hj (j + 1) u (by simpa using hu)
      rwa [show o + 1 + j = o + (j + 1) by omega]
end

/-- A new block of the call's own, as something new. -/
def Mem.alloc (M : Mem) (w' : World) (b : Nat) (k : Key) : Mem := { M with own := fun x => if x = b then some k else M.own x, w := w' }

section
variable {slots : List Nat} {n : Nat} {M : Mem} {st : St} {a : Act}

/-- A world that is as another was, with a block more. -/
structure Plus (w w' : World) (o : Go.Obj) : Prop where
  heap : w'.heap = w.heap.push o
  os : w'.os = w.os
  tape : w'.tape = w.tape
  output : w'.output = w.output

theorem Plus.alloc (w : World) (o : Go.Obj) : Plus w (w.alloc o) o := ⟨rfl, rfl, rfl, rfl⟩
theorem Plus.drewAlloc (w : World) (o : Go.Obj) : Plus w (w.drew.alloc o) o := ⟨rfl, rfl, rfl, rfl⟩

theorem Plus.old {w w' : World} {o : Go.Obj} (h : Plus w w' o) {b : Nat} (hb : b < w.heap.size) : w'.heap[b]? = w.heap[b]? := by
  rw [h.heap, Array.getElem?_push_lt hb, Array.getElem?_eq_getElem hb]

theorem Plus.new {w w' : World} {o : Go.Obj} (h : Plus w w' o) : w'.heap[w.heap.size]? = some o := by
  rw [h.heap, Array.getElem?_push_size]

theorem alloc_evo (wf : M.Wf) {w' : World} {o : Go.Obj} (h : Plus M.w w' o) (k : Key) : Evo M (M.alloc w' M.w.heap.size k) where
  grow := ⟨fun _ _ h => h, fun _ _ h => h, fun b j hs => cellAt_of_heap (h.old (wf.slt hs)) j⟩
  size := by show _ ≤ w'.heap.size; rw [h.heap]; simp
  os := h.os
  tape := h.tape
  output := h.output
  same b hb _ := h.old hb
  acq b hb ho := by show (if b = _ then _ else _) = _; rw [if_neg (by omega)]; exact ho
  snew b j hs := .inl hs

theorem alloc_wf (wf : M.Wf) {w' : World} {o : Go.Obj} (h : Plus M.w w' o) {k : Key} : (M.alloc w' M.w.heap.size k).Wf where
  sdom b j hs := by show (cellAt w' b j).isSome = true; rw [cellAt_of_heap (h.old (wf.slt hs))]; exact wf.sdom b j hs
  odom b q hq := by
    show b < w'.heap.size
    rw [h.heap, Array.size_push]
    simp only [Mem.alloc] at hq
    split at hq
    · omega
    · have := wf.odom b q hq; omega
  gown id b hb := by
    have hlt : b < M.w.heap.size := by rcases wf.gown id b hb with e | e <;> exact wf.odom b _ e
    show (if b = _ then _ else _) = _ ∨ (if b = _ then _ else _) = _
    rw [if_neg (by omega)]
    exact wf.gown id b hb

theorem alloc_pres (wf : M.Wf) {w' : World} {o : Go.Obj} (h : Plus M.w w' o) {k : Key} {b : Nat} {q : Key} (hq : M.own b = some q) : Pres M (M.alloc w' M.w.heap.size k) b :=
  have hlt := wf.odom b q hq
  ⟨by show (if b = _ then _ else _) = _; rw [if_neg (by omega)], h.old hlt, fun _ h => h⟩

theorem alloc_fr (h : FR M slots n st a) {w' : World} {o : Go.Obj} (hp : Plus M.w w' o) (k : Key) : FR (M.alloc w' M.w.heap.size k) slots n st a :=
  h.evolve (alloc_evo h.wf hp k).grow (alloc_wf h.wf hp) (fun _ _ h => h) (fun b q hb _ => alloc_pres h.wf hp hb)

theorem alloc_own {w' : World} {k : Key} {b : Nat} : (M.alloc w' b k).own b = some k := by simp [Mem.alloc]

/-- A new array: its first elements are xs. -/
theorem new_arr (wf : M.Wf) {w' : World} {c : Array Value} {e : TypeId} {fr : Nat × Nat} (hp : Plus M.w w' (.cells c e fr)) {key : Key} {s cap : Nat} {xs : List AV} {vs : List Value}
    (hF : Flat M.S M.G M.w s xs vs) (hc : ∀ (j : Nat) (v : Value), vs[j]? = some v → c[j]? = some v) (hcap : xs.length ≤ cap) (hsz : cap * s ≤ c.size) (hfr : ∀ j, j < c.size → (decide (fr.1 ≤ j) && decide (j < fr.2)) = false)
    (h0 : xs = [] → cap = 0) : OwnArr (M.alloc w' M.w.heap.size key) key true s xs (.slice (some ⟨M.w.heap.size, 0, none⟩) xs.length cap) := by
  by_cases hx : xs = []
  · subst hx
    rw [h0 rfl]
    exact .inl ⟨rfl, .inr ⟨_, _, rfl⟩⟩
  · refine .inr ⟨hx, M.w.heap.size, 0, cap, rfl, alloc_own, hcap, ?_, ?_, fun _ j hs => ?_, fun hm => by simp at hm⟩
    · refine (hF.mono (alloc_evo wf hp key).grow).els ?_
      exact at_of_block (show w'.heap[M.w.heap.size]? = _ from hp.new) vs 0 (by simpa using hc)
    · exact ⟨c, e, fr, hp.new, by simpa using hsz, hfr⟩
    · exact absurd (wf.slt hs) (by simp)

theorem alloc_new_r (hn : NoR M) {w' : World} {b k j : Nat} (h : (M.alloc w' b (.r k)).own j = some (.r k)) : j = b := by
  simp only [Mem.alloc] at h
  split at h
  · assumption
  · exact absurd h (hn _ _)
end
end Go.VS
